/- Texts in a row: the walk's rules and contracts, as each says. Conditions: as each says. -/
import Derived.Test.YtebikhhoppiapaaGreatDoorM09790199
import Derived.Test.YtebikhhoppiapaaGreatDoorMee5ec741
import Derived.Test.YtebikhhoppiapaaGreatDoorMa22cf9b8
import Derived.Test.YtebikhhoppiapaaGreatDoorM3585969a
import Derived.Test.YtebikhhoppiapaaGreatDoorCards
import Derived.Test.YtebikhhoppiapaaGreatDoorTie
import Derived.WalkKit
import Derived.ProofKit
import Derived.OpenShut
import Derived.Deep.DeepHandedRow
import Derived.Lib.LaidTab
import Derived.Test.YtebikhhoppiapaaGreatDoorMa22cf9b8
set_option linter.unusedSimpArgs false
set_option linter.defProp false
set_option linter.unusedVariables false
set_option maxRecDepth 100000
set_option maxHeartbeats 8000000
open List renaming mem_cons_self -> aA, length_append -> aB, cons_append -> aC, nil_append -> aD, getElem?_eq_getElem -> aE, length_cons -> aH, length_singleton -> aI, mem_cons_of_mem -> aK, append_nil -> aL, append_assoc -> aN, flatten_cons -> aO, length_nil -> aQ, getD_eq_getElem?_getD -> aS, not_mem_nil -> aT, replicate -> aU, length_drop -> aV, length_take -> aX, mem_cons -> aY, length_replicate -> aZ, length_map -> iA, map_cons -> iB, range -> iC, getElem?_cons_succ -> iD, mem_append_left -> iG, drop_eq_getElem_cons -> iH, getElem?_cons_zero -> iJ, take_length -> iK, flatten_append -> iL, getElem?_toArray -> iP, flatten_nil -> iS, flatMap_cons -> iU, getElem?_append_right -> lD, take_of_length_le -> lE, getElem?_map -> lF, take_add_one -> lG, perm_append_comm -> lH, flatMap_append -> lI, map_append -> lL, getElem?_append_left -> lP, dropWhile_cons -> lQ, take_append_drop -> lR, getElem_mem -> lT, getElem?_take_of_lt -> lY, length -> mA, getD -> mB, length_set -> mC, drop_eq_nil_of_le -> mE, getElem?_modify -> mF, toList_toArray -> mG, mem_map_of_mem -> mH, mem_singleton -> mJ, all_cons -> mK, drop_drop -> mQ, drop_length -> mR, map_nil -> mV
open And renaming intro -> aF
open UInt8 renaming ofNat -> aG, toNat_ofNat' -> iO
open Nat renaming reduceBEq -> aJ, reduceEqDiff -> aP, le_refl -> aR, reduceSub -> iF, sub_zero -> iI, reduceLT -> iN, reduceAdd -> iQ, zero_add -> iT, mul_le_mul_right -> lM, add_mul -> lO, mod_eq_of_lt -> lV, zero_le -> lW, shiftLeft_eq -> mL, le_trans -> mN, add_sub_cancel -> mO, add_zero -> mT
open Bool renaming and_eq_true -> aM, not_eq_true' -> mI, true_and -> mM, or_eq_true -> mP, false_or -> mS
open Int renaming toNat_natCast -> aW, reduceToNat -> iM, reduceBEq -> iV, reduceBNe -> iW, reduceAdd -> iX, reduceSub -> iY, reduceMul -> iZ, reduceDiv -> lA, reduceMod -> lB, reducePow -> lC, reduceLT -> lJ, reduceLE -> lK
open BitVec renaming ofInt -> iE, toNat_ofNat -> lU, ofNat -> lZ
open Option renaming getD_some -> iR, map_some -> lX
open Array renaming getElem?_setIfInBounds_ne -> lN, ext' -> lS, getElem?_eq_getElem -> mD
namespace Go.Proofs.YtebikhhoppiapaaGreatDoor
open Go Go.Ost Go.Sha _root_.Go.Proofs.Tryz
instance tpAns : xi prog 126 [(0,1),(1,1),(2,1),(3,1),(4,1),(5,1),(6,1),(7,1)] := ⟨kM⟩
theorem wt (a : An) (pa : OA) (pk : Nat) : ∀ v ∈ encA a pa pk,Value.cell1 v := by
 intro v hv;simp only [encA,aY,aT,or_false] at hv
 rcases hv with rfl | rfl | rfl | rfl | rfl | rfl | rfl | rfl <;> simp [Value.cell1,b32]
theorem got_le {l : List Par} {B : Nat} (h : ∀ p ∈ l,p.v.length <= B) (n : L8) : (gotP l n).v.length <= B := by
 unfold gotP
 cases hf : l.find? fun p => p.n == n with
 | none => show (0 : Nat) <= _;omega
 | some p => exact h p (List.mem_of_find?_eq_some hf)
theorem ZA (s : L8) (hs : s.length <= 100000) : zh prog 41 [sT s] []
  fun v A => ∃ P pa pk,v = .tuple #[.agg (encA (paE s).1 pa pk).toArray,.int .i64 (paE s).2] /\ Own8 5 P pa (paE s).1.pf.length pk (paE s).1.pf /\ A = [P] := by
 obtain ⟨hpl,hpb⟩ := YY s;unfold paE;refine eN func41 ntmps41 results41 fun F => ?_
 refine zU ?_;refine gg ?_;refine oAg (encA a0 none 0).toArray fun b2 => ?_
 refine cA (bQ s hs) ?_;rintro v A ⟨X,xa,xk,rfl,hX,rfl⟩;refine gA ?_
 by_cases h0 : (xC s).2 = 0
 ·rw [h0,if_neg dM];generalize (xC s).1 = l at *;have hvb : ∀ p ∈ l,p.v.length <= 100000 := fun p hp => by have := hpb p hp;omega
  have hl : l.length <= 100000 := oM;clear hpl hpb;refine gg ?_;refine oTg [(0,.slice xa l.length xk)] #[.slice xa l.length xk,.bool false,.bool false] ?_;refine oBg fun b6 => ?_
  refine cR (qz hX hl (false,false) xS true) ?_;refine cR (qz hX hl _ zA true) ?_;refine cR (qz hX hl _ zv true) ?_;refine cR (QO _ (gotP l zv).v) ?_;refine cR (qz hX hl _ nUri true) ?_;refine cR (qz hX hl _ zN true) ?_;refine cR (QO _ (gotP l zN).v) ?_;refine cR (gf hX hl _ zt [] true) ?_
  have hop : (if hasB l zt = true then (gotP l zt).v else []) = (gotP l zt).v := by
   split
   ·rfl
   ·rename_i h;rw [got_no (by simpa using h)];rfl
  rw [hop];refine oTg [(0,sT (gotP l xS).v),(1,sT (gotP l zA).v),(2,sT (gotP l zv).v),(3,sT (gotP l nUri).v),(4,sT (gotP l zN).v),(5,sT (gotP l zt).v)] (encA ⟨(gotP l xS).v,(gotP l zA).v,(gotP l zv).v,(gotP l nUri).v,(gotP l zN).v,(gotP l zt).v,0,[]⟩ none 0).toArray ?_;refine oA (encA a0 none 0).toArray fun b7 => ?_
  refine oSg (encA ⟨(gotP l xS).v,(gotP l zA).v,(gotP l zv).v,(gotP l nUri).v,(gotP l zN).v,(gotP l zt).v,0,[]⟩ none 0) rfl (wt _ _ _) ?_;refine cR (UM hX hl hvb _ false) ?_;refine cR (qz hX hl _ nNc false) ?_;refine cR (Uf (gotP l nNc).v (got_le hvb nNc)) ?_;refine gM ?_;refine cR (kE _ (numE (gotP l nNc).v).2) ?_;refine cR (qz hX hl _ zR true) ?_;refine cA (Qq (gotP l zR).v (got_le hvb zR)) ?_;rintro v A ⟨P,pa,pk,rfl,hP,rfl⟩;refine gA ?_;refine gM ?_;have hpa : paF l = wo (Zz l) (getF l zR true (wo (numE (gotP l nNc).v).2 (getF l nNc false (comF l false (mayF l zt true (wo (sizB (gotP l zN).v) (getF l zN true (getF l nUri true (wo (sizB (gotP l zv).v) (getF l zv true (getF l zA true (getF l xS true (false,false))))))))))))) := rfl;generalize (getF l zR true (wo (numE (gotP l nNc).v).2 (getF l nNc false (comF l false (mayF l zt true (wo (sizB (gotP l zN).v) (getF l zN true (getF l nUri true (wo (sizB (gotP l zv).v) (getF l zv true (getF l zA true (getF l xS true (false,false))))))))))))) = f9 at *;unfold paL
  by_cases hu : (uhE (gotP l zR).v).2 = 0
  ·have hpb : Zz l = decide (((uhE (gotP l zR).v).1.length : Int) = 32) := by unfold Zz;rw [dT hu,mM]
   rw [hu];refine gg ?_;refine cR (kE f9 (decide (((uhE (gotP l zR).v).1.length : Int) = 32))) ?_;rw [hpb] at hpa;refine gM ?_;rw [<- hpa];refine gg ?_;refine cR (QU (paF l)) ?_
   by_cases he : endF (paF l) = 0
   ·rw [he,if_neg dM];refine gg ?_;refine oL (encA ⟨(gotP l xS).v,(gotP l zA).v,(gotP l zv).v,(gotP l nUri).v,(gotP l zN).v,(gotP l zt).v,(numE (gotP l nNc).v).1,(uhE (gotP l zR).v).1⟩ pa pk) rfl ?_;refine oSg (encA ⟨(gotP l xS).v,(gotP l zA).v,(gotP l zv).v,(gotP l nUri).v,(gotP l zN).v,(gotP l zt).v,(numE (gotP l nNc).v).1,(uhE (gotP l zR).v).1⟩ pa pk) rfl (wt _ _ _) ?_;refine zf (vs := [.agg (encA ⟨(gotP l xS).v,(gotP l zA).v,(gotP l zv).v,(gotP l nUri).v,(gotP l zN).v,(gotP l zt).v,(numE (gotP l nNc).v).1,(uhE (gotP l zR).v).1⟩ pa pk).toArray,.int .i64 0]) [P] ⟨P,pa,pk,rfl,hP,rfl⟩ (hr := hrA)
   ·rw [if_pos he,bne_iff_ne.2 he];refine gg ?_;refine oTg [] (encA a0 none 0).toArray ?_;refine oSg (encA a0 none 0) rfl (wt _ _ _) ?_;refine zf (vs := [.agg (encA a0 none 0).toArray,.int .i64 (endF (paF l))]) [[]] ⟨[],none,0,rfl,zJ,rfl⟩ (hr := hrA)
  ·have hpb : Zz l = false := by unfold Zz;rw [dF hu,Bool.false_and]
   rw [beq_eq_false_iff_ne.2 hu];refine gg ?_;refine cR (kE f9 false) ?_;rw [hpb] at hpa;refine gM ?_;rw [<- hpa];refine gg ?_;refine cR (QU (paF l)) ?_
   by_cases he : endF (paF l) = 0
   ·rw [he,if_neg dM];refine gg ?_;refine oL (encA ⟨(gotP l xS).v,(gotP l zA).v,(gotP l zv).v,(gotP l nUri).v,(gotP l zN).v,(gotP l zt).v,(numE (gotP l nNc).v).1,(uhE (gotP l zR).v).1⟩ pa pk) rfl ?_;refine oSg (encA ⟨(gotP l xS).v,(gotP l zA).v,(gotP l zv).v,(gotP l nUri).v,(gotP l zN).v,(gotP l zt).v,(numE (gotP l nNc).v).1,(uhE (gotP l zR).v).1⟩ pa pk) rfl (wt _ _ _) ?_;refine zf (vs := [.agg (encA ⟨(gotP l xS).v,(gotP l zA).v,(gotP l zv).v,(gotP l nUri).v,(gotP l zN).v,(gotP l zt).v,(numE (gotP l nNc).v).1,(uhE (gotP l zR).v).1⟩ pa pk).toArray,.int .i64 0]) [P] ⟨P,pa,pk,rfl,hP,rfl⟩ (hr := hrA)
   ·rw [if_pos he,bne_iff_ne.2 he];refine gg ?_;refine oTg [] (encA a0 none 0).toArray ?_;refine oSg (encA a0 none 0) rfl (wt _ _ _) ?_;refine zf (vs := [.agg (encA a0 none 0).toArray,.int .i64 (endF (paF l))]) [[]] ⟨[],none,0,rfl,zJ,rfl⟩ (hr := hrA)
 ·rw [bne_iff_ne.2 h0,if_pos h0];refine gg ?_;refine oTg [] (encA a0 none 0).toArray ?_;refine oSg (encA a0 none 0) rfl (wt _ _ _) ?_;refine zf (vs := [.agg (encA a0 none 0).toArray,.int .i64 (xC s).2]) [[]] ⟨[],none,0,rfl,zJ,rfl⟩ (hr := hrA)
open Go.Nam Go.Tab
theorem Jw (A B : zd) (a b : OA) (ca cb : Nat) (xs ys : L8) (hx : xs.length <= 100000) (hy : ys.length <= 100000) (h1 : Rd 1 [A] a xs.length (xs.map b8)) (h2 : Rd 1 [B] b ys.length (ys.map b8)) :
  zh prog 43 [.slice a xs.length ca,.slice b ys.length cb] [A,B] fun v S => v = .bool (xs == ys) /\ S = [A,B] := by
 refine eNg func43 ntmps43 results43 fun F => ?_
 refine cR (VZ A B a b ca cb xs ys hx hy h1 h2) ?_;refine ze [A,B] ?_;exact ⟨rfl,rfl⟩
instance tpRes : xi prog 50 [(0,10),(10,1),(11,1)] := ⟨kM⟩
def ansE (x : BX) (n : NS) (sec : Sec) (m : L8) (a : An) (now : Int) : Int := if (qm x sec.ha m a).1 = a.pf then (useN n a.n a.nc.toNat now).1 else 13
def ansN (x : BX) (n : NS) (sec : Sec) (m : L8) (a : An) (now : Int) : NS := if (qm x sec.ha m a).1 = a.pf then (useN n a.n a.nc.toNat now).2 else n
theorem eJ {qk bx_ s q tb r1 r2 p : Nat} {iter ch last reads gen : Int} {C T M1 M2 G B : zd} {m : List (L8 × Value)} {x : BX} {ns : NS} (hg : jJ G) (hn : GNam G) (hC : vg C bx_ x) (hts : x.ts.length <= 800) (hns : NOk ns) (hT : xU T tb ns.room ns.es) (h1 : jg M1 r1 (tenM r2)) (h2 : jg M2 r2 m) (hr0 : 0 <= reads) (hr1 : reads < 1000000) (hch0 : 0 <= ch) (hch1 : ch < 1000000)
  (hd u n nn tgt cn o pf mt : L8) (nc : W) (hpa : paE hd = (⟨u,[116],nn,tgt,cn,o,nc,pf⟩,0)) (hdl : hd.length <= 100000) (hul : u.length <= 4096) (hnnl : nn.length <= 4096) (htl : tgt.length <= 4096) (hcl : cn.length <= 4096) (hpl : pf.length <= 4096) (hml : mt.length <= 1000)
  (hun : xg u 32 = (n,0)) (hst : xg n 32 = (n,0)) (hnl : n.length <= 32) (hm : mget m n = some (pT p)) {vs : LV} {sec : Sec} (hW : SecW B vs sec) (now : Int) (hn0 : 0 <= now) (hnow : now < 18446744073709551616) :
  zh prog 12 [pT qk,.agg #[sT mt,sT tgt,sT hd],.int .u64 now] [quB qk bx_ s q iter [116] ch,C,stB s r1 last reads,M1,M2,nB q tb ns,T,G,crB p n vs gen false,B]
  fun v A => ∃ (C' T' B' : zd) (vs' rv : LV),v = .tuple #[.agg rv.toArray,.int .i64 (ansE x ns sec mt ⟨u,[116],nn,tgt,cn,o,nc,pf⟩ now)] /\ (rv.length = 12 /\ ∀ u ∈ rv,Value.cell1 u) /\ ((ansE x ns sec mt ⟨u,[116],nn,tgt,cn,o,nc,pf⟩ now = 0 -> rv = kT n vs' gen false ++ [sT nn,b32 nc]) /\ (ansE x ns sec mt ⟨u,[116],nn,tgt,cn,o,nc,pf⟩ now ≠ 0 -> rv = zRes)) /\ vs'.length = 5 /\
   vg C' bx_ (qm x sec.ha mt ⟨u,[116],nn,tgt,cn,o,nc,pf⟩).2 /\ xU T' tb ns.room (ansN x ns sec mt ⟨u,[116],nn,tgt,cn,o,nc,pf⟩ now).es /\ A = [quB qk bx_ s q iter [116] (ch + 1),C',stB s r1 last (reads + 1),M1,M2,nB q tb (ansN x ns sec mt ⟨u,[116],nn,tgt,cn,o,nc,pf⟩ now),T',G,crB p n vs gen false,B',B] := by
 have hps := ZA hd hdl;rw [hpa] at hps;have hqf := bI (qk := qk) (bx_ := bx_) (q := q) (iter := iter) (ch := ch) (s := s) (last := last) (gen := gen) hn h1 h2 hr0 hr1 u n oM hun hst hnl hm hW;refine eNg func12 ntmps12 results12 fun F => ?_
 refine oBg fun b4 => ?_
 refine oAg zRes.toArray fun b6 => ?_
 refine cA (hps) ?_;rintro v A ⟨P,pa,pk,rfl,hP,rfl⟩;refine gA ?_;simp only at hP;refine oAg (encA a0 none 0).toArray fun b8 => ?_
 refine oSg (encA ⟨u,[116],nn,tgt,cn,o,nc,pf⟩ pa pk) rfl (wt _ _ _) ?_;refine cdLg [[0],[1],[2],[3],[4],[5],[6],[7],[8],[9],[10],[11],[12],[13],[14,0]] ?_;refine cA (hqf) ?_;rintro v A ⟨B',vs',rfl,hB',rfl⟩;refine gA ?_;obtain ⟨hvl,hvc⟩ := qB hB';have hW2 := hB';obtain ⟨e0,e1,e2,e3,f0,f1,f2,f3,rfl,_,g1,g2,g3,_,_,_,hHA⟩ := hW2
 have hc1 : ∀ u ∈ ([sT [116],sT n,.slice e0 1 f0,.int .i64 1,.slice e1 sec.st.length f1,.slice e2 sec.sv.length f2,.slice e3 sec.ha.length f3,.int .u64 gen,nS,.bool false] : LV),Value.cell1 u := by
  intro u hu;simp only [aY,aT,or_false] at hu
  rcases hu with rfl | rfl | rfl | rfl | rfl | rfl | rfl | rfl | rfl | rfl <;> simp [Value.cell1]
 refine oAg zCr.toArray fun b10 => ?_
 refine oSg [sT [116],sT n,.slice e0 1 f0,.int .i64 1,.slice e1 sec.st.length f1,.slice e2 sec.sv.length f2,.slice e3 sec.ha.length f3,.int .u64 gen,nS,.bool false] rfl hc1 ?_;refine gM ?_;refine cdLg [[0],[1],[2],[3],[4],[5],[6],[7],[8],[9],[10],[12],[13],[11,0,13],[14,0],[15,0]] ?_;refine qF ?_;refine zz (vs := encA ⟨u,[116],nn,tgt,cn,o,nc,pf⟩ pa pk) lkA rfl ?_;refine gg ?_;have rl := ye x sec.ha mt ⟨u,[116],nn,tgt,cn,o,nc,pf⟩;refine dA (Jt hg hC oM sec.ha mt oM hml hHA ⟨u,[116],nn,tgt,cn,o,nc,pf⟩ hnnl htl hcl pa pk) ?_;rintro v A ⟨O,C',oa,oc,rfl,hO,hC',rfl⟩;refine pC ?_;unfold ansE ansN;generalize qm x sec.ha mt ⟨u,[116],nn,tgt,cn,o,nc,pf⟩ = r at *;refine dR (Jw O P oa pa oc pk r.1 pf oM oM (hO.rd (aA ..)) (hP.rd (aA ..))) ?_
 (try (try refine dS ?_))
 (try refine gg ?_)
 have hz1 : ∀ u ∈ zRes,Value.cell1 u := by
  intro u hu;simp only [aY,aT,or_false] at hu
  rcases hu with rfl | rfl | rfl | rfl | rfl | rfl | rfl | rfl | rfl | rfl | rfl | rfl <;> simp [Value.cell1]
 cases hq : (r.1 == pf) with
 | false =>
  have hne : ¬ r.1 = pf := by simpa using hq
  rw [if_neg hne,if_neg hne];refine gg ?_;refine oTg [] zRes.toArray ?_;refine oSg zRes rfl hz1 ?_;refine zf (vs := [.agg zRes.toArray,.int .i64 13]) [quB qk bx_ s q iter [116] (ch + 1),C',stB s r1 last (reads + 1),M1,M2,nB q tb ns,T,G,crB p n vs gen false,B',B] ?_ (hr := hrA);exact ⟨C',T,B',_,_,rfl,⟨rfl,hz1⟩,⟨fun h => absurd h (dM : ¬ (13 : Int) = 0),fun _ => rfl⟩,hvl,hC',hT,rfl⟩
 | true =>
  have heq : r.1 = pf := by simpa using hq
  rw [if_pos heq,if_pos heq];refine gg ?_;have hu := eY (q := q) (b := tb) hns hT nn (nc.toNat : Int) now oM hnow;rw [show Value.int .u32 (nc.toNat : Int) = b32 nc from rfl] at hu;refine cdLg [[0],[1],[2],[3],[4],[5],[6],[7],[8],[9],[10,0],[11,0]] ?_;refine dA (hu) ?_;rintro v A ⟨rfl,T',hT',rfl⟩;refine pC ?_
  (try (try refine dS ?_))
  (try refine gg ?_)
  generalize useN ns nn (nc.toNat : Int) now = w at *
  by_cases h0 : w.1 = 0
  ·rw [h0];refine gg ?_;refine oLg [sT [116],sT n,.slice e0 1 f0,.int .i64 1,.slice e1 sec.st.length f1,.slice e2 sec.sv.length f2,.slice e3 sec.ha.length f3,.int .u64 gen,nS,.bool false] rfl ?_;refine oTg [(0,.agg ([sT [116],sT n,.slice e0 1 f0,.int .i64 1,.slice e1 sec.st.length f1,.slice e2 sec.sv.length f2,.slice e3 sec.ha.length f3,.int .u64 gen,nS,.bool false] : LV).toArray),(1,sT nn),(2,b32 nc)] ([sT [116],sT n,.slice e0 1 f0,.int .i64 1,.slice e1 sec.st.length f1,.slice e2 sec.sv.length f2,.slice e3 sec.ha.length f3,.int .u64 gen,nS,.bool false,sT nn,b32 nc] : LV).toArray ?_
   have hz2 : ∀ u ∈ ([sT [116],sT n,.slice e0 1 f0,.int .i64 1,.slice e1 sec.st.length f1,.slice e2 sec.sv.length f2,.slice e3 sec.ha.length f3,.int .u64 gen,nS,.bool false,sT nn,b32 nc] : LV),Value.cell1 u := by
    intro u hu;simp only [aY,aT,or_false] at hu
    rcases hu with rfl | rfl | rfl | rfl | rfl | rfl | rfl | rfl | rfl | rfl | rfl | rfl <;> simp [Value.cell1,b32]
   refine oSg [sT [116],sT n,.slice e0 1 f0,.int .i64 1,.slice e1 sec.st.length f1,.slice e2 sec.sv.length f2,.slice e3 sec.ha.length f3,.int .u64 gen,nS,.bool false,sT nn,b32 nc] rfl hz2 ?_;refine zf (vs := [.agg ([sT [116],sT n,.slice e0 1 f0,.int .i64 1,.slice e1 sec.st.length f1,.slice e2 sec.sv.length f2,.slice e3 sec.ha.length f3,.int .u64 gen,nS,.bool false,sT nn,b32 nc] : LV).toArray,.int .i64 0]) [quB qk bx_ s q iter [116] (ch + 1),C',stB s r1 last (reads + 1),M1,M2,nB q tb w.2,T',G,crB p n vs gen false,B',B] ?_ (hr := hrA);exact ⟨C',T',B',_,_,rfl,⟨rfl,hz2⟩,⟨fun _ => rfl,fun h => absurd rfl h⟩,hvl,hC',hT',rfl⟩
  ·rw [bne_iff_ne.2 h0];refine gg ?_;refine oTg [] zRes.toArray ?_;refine oSg zRes rfl hz1 ?_;refine zf (vs := [.agg zRes.toArray,.int .i64 w.1]) [quB qk bx_ s q iter [116] (ch + 1),C',stB s r1 last (reads + 1),M1,M2,nB q tb w.2,T',G,crB p n vs gen false,B',B] ?_ (hr := hrA);exact ⟨C',T',B',_,_,rfl,⟨rfl,hz1⟩,⟨fun h => absurd h h0,fun _ => rfl⟩,hvl,hC',hT',rfl⟩
end Go.Proofs.YtebikhhoppiapaaGreatDoor
namespace Go.Proofs.YtebikhhoppiapaaGreatDoor
open Go Go.Ost Go.Tab Go.Sha _root_.Go.Proofs.Tryz
def encR (x : L8 × V) : LV := [sT x.2.non,sT x.2.draw,.int .u64 x.2.at_,.bool x.2.sp,.int .u32 x.2.cnt]
theorem yF (x : L8 × V) : (encR x).length = 5 := rfl
abbrev qK (C : zd) (a : OA) (c : Nat) (es : Es) : Prop := Ost.Own 5 173 C a es.length c (es.flatMap encR)
abbrev xN (r : Nat) (s : NS) (la : OA) (n lc : Nat) : zd := [(r,.cells #[.int .i64 s.room,.int .u64 s.win,.slice la n lc,.int .u64 s.ser,.int .u64 s.last,.int .u64 s.mark,.bool s.mrk] 105 (0,0))]
theorem wM (x : L8 × V) : ∀ u ∈ encR x,Value.cell1 u := by simp [encR,Value.cell1]
theorem IL : ∀ es : Es,∀ v ∈ es.flatMap encR,Value.cell1 v
 | [],v,h => by cases h
 | x :: es,v,h => by
  rw [iU,List.mem_append] at h
  rcases h with h | h
  ·exact wM x v h
  ·exact IL es v h
instance iKD_1 : xi prog 173 [(0,1),(1,1),(2,1),(3,1),(4,1)] := ⟨kM⟩
def fidx (es : Es) (k : L8) : Int := match vN es k 0 with | some p => p.1 | none => 0
theorem Wz {es : Es} {k : L8} {u : V} (h : mget es k = some u) :
  ∃ pre post,es = pre ++ (k,u) :: post /\ fidx es k = pre.length /\ (∀ w,mput es k w = pre ++ (k,w) :: post) /\ mdel es k = pre ++ post := by
 obtain ⟨pre,post,h1,h2,h3,h4⟩ := ki h;exact ⟨pre,post,h1,by unfold fidx;rw [h4],h2,h3⟩
def Wv (s : NS) (n : L8) (now : Int) : Int × Int := if (vX s n now).1 = 0 then (fidx s.es n,0) else (0,(vX s n now).1)
theorem VW {s : NS} {n : L8} {now : Int} {v : V} (e : vX s n now = (0,v)) : Wv s n now = (fidx s.es n,0) := by unfold Wv;rw [e];rfl
theorem yE {s : NS} {n : L8} {now E : Int} {v : V} (e : vX s n now = (E,v)) (hE : E ≠ 0) : Wv s n now = (0,E) := by unfold Wv;rw [e,if_neg hE]
theorem KL (n now : Value) : zh prog 64 [.pointer none,n,now] [] fun v A => v = .tuple #[.int .i64 0,.int .i64 6] /\ A = [] := by
 refine eNg func64 ntmps64 results64 fun F => ?_
 refine zf [] ?_;exact ⟨rfl,rfl⟩
theorem br (n now : Value) : zh prog 21 [.pointer none,n,now] [] fun v A => v = .int .i64 6 /\ A = [] := by
 refine eNg func21 ntmps21 results21 fun F => ?_
 refine cR (KL n now) ?_;refine ze [] ?_;exact ⟨rfl,rfl⟩
theorem ruse_nil (n c now : Value) : zh prog 70 [.pointer none,n,c,now] [] fun v A => v = .int .i64 6 /\ A = [] := by
 refine eNg func70 ntmps70 results70 fun F => ?_
 refine cR (KL n now) ?_;refine ze [] ?_;exact ⟨rfl,rfl⟩
theorem bz (d now : Value) : zh prog 36 [.pointer none,d,now] [] fun v A => v = .tuple #[sT [],.int .i64 6] /\ A = [] := by
 refine eNg func36 ntmps36 results36 fun F => ?_
 refine zf [] ?_;exact ⟨rfl,rfl⟩
section ref
variable {r : Nat} {s : NS} {la : OA} {lc : Nat} {es : Es} {Cl : zd}
theorem ew {n : Nat} (x : L8 × V) (hv : 0 <= x.2.at_) (now : Int) (hn : now < 18446744073709551616) :
  zh prog 152 [pT r,.agg (encR x).toArray,.int .u64 now] [xN r s la n lc] fun u A => u = .bool (oldB s now x) /\ A = [xN r s la n lc] := by
 obtain ⟨k,v⟩ := x;simp only at hv;have hB : oldB s now (k,v) = (decide (v.at_ < now) && decide (s.win < now - v.at_) || (s.mrk && decide (v.at_ <= s.mark))) := rfl;rw [hB];refine eNg func152 ntmps152 results152 fun F => ?_
 refine oB fun b4 => ?_
 simp only [encR];refine gg ?_;refine cdLg [[0],[1],[2],[3],[4],[5],[6],[7],[8],[9],[10],[11],[12],[13],[14],[15],[16],[17],[18],[19],[20],[21],[22],[23],[24],[25],[26],[27],[28],[29],[30,0]] ?_
 by_cases h1 : v.at_ < now
 ·rw [dT h1];refine gg ?_
  by_cases h2 : s.win < now - v.at_
  ·rw [dT h2];refine gg ?_;refine ze [xN r s la n lc] ?_;exact ⟨rfl,rfl⟩
  ·rw [dF h2];refine gg ?_
   cases hm : s.mrk with
   | true =>
    refine gg ?_;refine ze [xN r s la n lc] ?_;exact ⟨rfl,rfl⟩
   | false =>
    refine gg ?_;refine ze [xN r s la n lc] ?_;exact ⟨rfl,rfl⟩
 ·rw [dF h1];refine gg ?_
  cases hm : s.mrk with
  | true =>
   refine gg ?_;refine ze [xN r s la n lc] ?_;exact ⟨rfl,rfl⟩
  | false =>
   refine gg ?_;refine ze [xN r s la n lc] ?_;exact ⟨rfl,rfl⟩
theorem YA (hs : NOk s) (ho : qK Cl la lc s.es) (now : Int) (hn : now < 18446744073709551616) :
  zh prog 103 [pT r,.int .u64 now] [xN r s la s.es.length lc,Cl]
   fun v A => v = .int .i64 (qM s now).1 /\ ∃ la lc Cl,qK Cl la lc (qM s now).2.es /\ A = [xN r (qM s now).2 la (qM s now).2.es.length lc,Cl] := by
 have hl := yF;have hb : s.es.length <= 64 := by have := hs.fit;have := hs.r2;omega
 refine eNg func103 ntmps103 results103 fun F => ?_
 refine zU ?_
 refine zM (fun q D L S => ∃ (i : Nat) (X : zd) (xa : OA) (xc : Nat),i <= s.es.length /\ qK X xa xc ((s.es.take i).filter fun x => !oldB s now x) /\ q = s.es.length - i /\ D = [] /\
  L = [(16,.int .i64 i),(15,.int .i64 s.es.length),(14,.slice la s.es.length lc),(6,.int .i64 (((s.es.take i).filter (oldB s now)).length : Nat)),(5,.slice xa ((s.es.take i).filter fun x => !oldB s now x).length xc),(0,pT r),(1,.int .u64 now)] /\ S = [X,xN r s la s.es.length lc,Cl,F])
  ⟨0,[],none,0,oM,zJ,rfl,rfl,rfl,rfl⟩ ?_
 rintro q D L S ⟨i,X,xa,xc,hi,hX,rfl,rfl,rfl,rfl⟩;refine gg ?_;refine if_d (fun hc => ?_) (fun hc => ?_)
 ·have hil : i < s.es.length := oM;have hx : s.es[i]? = some s.es[i] := aE hil;have htk := List.take_succ_eq_append_getElem hil;have htil := (hs.en _ (lT hil)).at0;have hlen2 : ((s.es.take i).filter fun x => !oldB s now x).length <= 64 := mN (List.length_filter_le _ _) (by rw [aX];omega);have hlen3 : ((s.es.take i).filter (oldB s now)).length <= 64 := mN (List.length_filter_le _ _) (by rw [aX];omega);generalize s.es[i] = x at *;refine gg ?_;refine zF ?_;refine xh ho hl hx dM mmA ?_;refine zF ?_;refine zC fun b6 => ?_;(try simp only [Value.cells])
  refine gg ?_;refine oSg (encR x) rfl (wM x) ?_;refine oLg (encR x) rfl ?_;refine cR (ew (r := r) (s := s) (la := la) (n := s.es.length) (lc := lc) x htil now hn) ?_
  have eg : ((s.es.take (i + 1)).filter fun x => !oldB s now x) = ((s.es.take i).filter fun x => !oldB s now x) ++ (if oldB s now x = true then [] else [x]) := by
   rw [htk,List.filter_append];congr 1
   cases h : oldB s now x <;> simp [List.filter_cons,h]
  have ef : ((s.es.take (i + 1)).filter (oldB s now)).length = ((s.es.take i).filter (oldB s now)).length + (if oldB s now x = true then 1 else 0) := by
   rw [htk,List.filter_append,aB];congr 1
   cases h : oldB s now x <;> simp [List.filter_cons,h]
  cases hB : oldB s now x with
  | true =>
   rw [hB,if_pos rfl] at eg ef;rw [aL] at eg;rw [<- eg] at hX ⊢;refine gg ?_;exact zI ⟨i + 1,X,xa,xc,oM,hX,rfl,rfl,by rw [ef],rfl⟩
  | false =>
   rw [hB,if_neg sM] at eg ef;simp only [mT] at ef;refine gg ?_;refine oL (encR x) rfl ?_;refine zF ?_;refine xt (e := 173) (s := 5) (hs := inferInstance) (vs := encR x) (by rfl) dM dM rfl (fun b1 C1 ho1 => ?_);refine zF ?_;refine zu (e := 173) (s := 5) (hs := inferInstance) (by rfl) dM hX (.inr pkA) (ho1.rd mmA) (wM _) (by simp only [maxLen];omega) oM (fun C3 a3 cap3 ho3 => ?_);have e1 : ((s.es.take i).filter fun x => !oldB s now x).length + 1 = ((s.es.take (i + 1)).filter fun x => !oldB s now x).length := by rw [eg];simp
   have e2 : ((s.es.take i).filter fun x => !oldB s now x).flatMap encR ++ encR x = ((s.es.take (i + 1)).filter fun x => !oldB s now x).flatMap encR := by rw [eg,lI];simp
   rw [e1,e2] at ho3;rw [e1,<- ef];refine gg ?_;exact zI ⟨i + 1,C3,a3,cap3,oM,ho3,rfl,rfl,rfl,rfl⟩
 ·obtain rfl : i = s.es.length := oM;rw [iK] at *;refine gg ?_;refine ze [xN r s xa (s.es.filter fun x => !oldB s now x).length xc,X] ⟨rfl,xa,xc,X,hX,rfl⟩
theorem KG (ho : qK Cl la lc es) (hb : es.length <= 64) (i : Nat) (hi : i < es.length) (x : L8 × V) :
  zh prog 65 [pT r,.int .i64 i,.agg (encR x).toArray] [xN r s la es.length lc,Cl]
   fun v A => v = .tuple #[] /\ ∃ la lc Cl,qK Cl la lc (es.set i x) /\ A = [xN r s la (es.set i x).length lc,Cl] := by
 have hl := yF;have hr := ho.rd (S := [Cl]) sM;refine eNg func65 ntmps65 results65 fun F => ?_
 refine oBg fun b5 => ?_
 refine zF ?_;refine jD fun b0 C0 ho0 => ?_
 refine gg ?_;refine zF ?_;refine zu (e := 173) (s := 5) (hs := inferInstance) (by rfl) dM ho0 (.inr pkA) (hr.mem mmA) (IL _) (by simp only [maxLen];omega) oM (fun C2 a2 cap2 ho2 => ?_);rw [aD,iT] at ho2
 (try rw [iT])
 refine gg ?_;refine cdLg [[0],[1],[2],[3],[4],[5],[6],[7,0]] ?_;refine qF ?_;refine zz (vs := encR x) lkA rfl ?_;refine gg ?_;refine zG ?_;refine kL (x' := x) ho2 pkA hl hi dM (wM _) (fun C3 ho3 => ?_);(repeat (first | refine Jy ?_ | refine pend ?_ (zz (vs := encR x) lkA rfl rfl)));refine gg ?_;refine xm [xN r s a2 (es.set i x).length cap2,C3] ⟨rfl,a2,cap2,C3,?_,rfl⟩ (hs := ?_)
 ·unfold qK;rw [mC];exact ho3
 ·rw [mC];first | ((repeat (first | with_reducible exact zn.nil _ | with_reducible exact Pick.head _ _ | with_reducible apply Pick.tail | with_reducible apply zn.cons));done) | ((repeat (first | exact zn.nil _ | exact Pick.head _ _ | apply Pick.tail | apply zn.cons));done)
end ref
theorem cO {c : Int} (h : 0 <= c) : (c != 0) = decide (0 < c) := by
 by_cases h0 : 0 < c
 ·rw [dT h0,bne_iff_ne];omega
 ·rw [dF h0,bne_eq_false_iff_eq];omega
section ref
variable {r : Nat} {s : NS} {la : OA} {lc : Nat} {es : Es} {Cl : zd}
theorem Zw (hs : NOk s) (ho : qK Cl la lc s.es) (n : L8) (now : Int) (hn : now < 18446744073709551616) :
  zh prog 64 [pT r,sT n,.int .u64 now] [xN r s la s.es.length lc,Cl] fun v A => v = .tuple #[.int .i64 (Wv s n now).1,.int .i64 (Wv s n now).2] /\ A = [xN r s la s.es.length lc,Cl] := by
 have hl := yF;have hb : s.es.length <= 64 := by have := hs.fit;have := hs.r2;omega
 have hcs := qR s n now;refine eNg func64 ntmps64 results64 fun F => ?_
 refine zM (fun q D L S => ∃ i : Nat,i <= s.es.length /\ vN s.es n 0 = vN (s.es.drop i) n i /\ q = s.es.length - i /\ D = [] /\
  L = [(17,.int .i64 i),(16,.int .i64 s.es.length),(15,.slice la s.es.length lc),(0,pT r),(1,sT n),(2,.int .u64 now)] /\ S = [xN r s la s.es.length lc,Cl,F])
  ⟨0,oM,sM,rfl,rfl,rfl,rfl⟩ ?_
 rintro q D L S ⟨i,hi,hf,rfl,rfl,rfl,rfl⟩;refine gg ?_;refine if_d (fun hc => ?_) (fun hc => ?_)
 ·have hil : i < s.es.length := oM;have hx : s.es[i]? = some s.es[i] := aE hil;have hen := hs.en _ (lT hil);rw [iH hil] at hf;generalize s.es[i] = x at *;obtain ⟨xk,xv⟩ := x;obtain ⟨hkey,_,_,hat,_⟩ := hen;simp only [vN] at hf hkey hat;have key : yn s now xv = (!decide (xv.at_ <= now /\ now - xv.at_ <= s.win) || (s.mrk && decide (xv.at_ <= s.mark))) := rfl;refine gg ?_;refine zF ?_;refine xh ho hl hx dM mmA ?_;refine zF ?_;refine zC fun b6 => ?_;(try simp only [Value.cells])
  refine gg ?_;refine oS (encR (xk,xv)) rfl (wM (xk,xv)) ?_;simp only [encR];refine gg ?_
  by_cases hc : n = xk
  ·rw [if_pos hc] at hf;have hne : (xv.non != n) = false := by rw [bne_eq_false_iff_eq,<- hkey];exact hc.symm
   have hmg : mget s.es n = some xv := by
    obtain ⟨pre,post,_,_,g,_⟩ := kj s.es 0 hf;exact g
   have hfi : fidx s.es n = i := by unfold fidx;rw [hf]
   have e9 : yn s now xv = true -> Wv s n now = (0,9) := fun hB => by
    rcases hcs with ⟨_,hm⟩ | ⟨v,hm,⟨e,_⟩ | ⟨_,hB'⟩⟩
    ·rw [hmg] at hm;cases hm
    ·exact yE e dM
    ·rw [hmg] at hm;cases hm;rw [hB] at hB';cases hB'
   have e0 : yn s now xv = false -> Wv s n now = (((i : Nat) : Int),(0 : Int)) := fun hB => by
    rcases hcs with ⟨_,hm⟩ | ⟨v,hm,⟨_,hB'⟩ | ⟨e,_⟩⟩
    ·rw [hmg] at hm;cases hm
    ·rw [hmg] at hm;cases hm;rw [hB] at hB';cases hB'
    ·rw [VW e,hfi]
   rw [hne];refine gg ?_;refine cdLg [[0],[1],[2],[3],[4],[5],[6],[7],[8],[9],[10],[11],[12],[13],[14],[15],[16],[17],[18],[19],[20],[21],[22],[23],[24],[25],[26],[27],[28],[29]] ?_
   by_cases h1 : now < xv.at_
   ·have hB : yn s now xv = true := by rw [key,dF oM];rfl
    rw [dT h1];refine gg ?_;refine zf (vs := [.int .i64 0,.int .i64 9]) [xN r s la s.es.length lc,Cl] ⟨by rw [e9 hB];rfl,rfl⟩
   ·rw [dF h1];refine gg ?_
    by_cases h2 : s.win < now - xv.at_
    ·have hB : yn s now xv = true := by rw [key,dF oM];rfl
     rw [dT h2];refine gg ?_;refine zf (vs := [.int .i64 0,.int .i64 9]) [xN r s la s.es.length lc,Cl] ⟨by rw [e9 hB];rfl,rfl⟩
    ·rw [dT (oM : xv.at_ <= now /\ now - xv.at_ <= s.win)] at key;rw [dF h2];refine gg ?_
     cases hm2 : s.mrk with
     | true =>
      rw [hm2] at key;refine gg ?_
      by_cases h3 : xv.at_ <= s.mark
      ·rw [dT h3] at key ⊢;have hB : yn s now xv = true := key;refine gg ?_;refine zf (vs := [.int .i64 0,.int .i64 9]) [xN r s la s.es.length lc,Cl] ⟨by rw [e9 hB];rfl,rfl⟩
      ·rw [dF h3] at key ⊢;have hB : yn s now xv = false := key;refine gg ?_;refine zf (vs := [.int .i64 i,.int .i64 0]) [xN r s la s.es.length lc,Cl] ⟨by rw [e0 hB];rfl,rfl⟩
     | false =>
      rw [hm2] at key;have hB : yn s now xv = false := key;refine gg ?_;refine zf (vs := [.int .i64 i,.int .i64 0]) [xN r s la s.es.length lc,Cl] ⟨by rw [e0 hB];rfl,rfl⟩
  ·rw [if_neg hc] at hf;have hne : (xv.non != n) = true := by rw [bne_iff_ne,<- hkey];exact Ne.symm hc
   rw [hne];refine gg ?_;exact zI ⟨i + 1,oM,hf,rfl,rfl,rfl,rfl⟩
 ·obtain rfl : i = s.es.length := oM;rw [mR] at hf
  have e : vX s n now = (6,v0) := by
   rcases hcs with ⟨e,_⟩ | ⟨v,hm,_⟩
   ·exact e
   ·exfalso
    have := (km s.es 0 hf).1;rw [hm] at this;cases this
  rw [yE e dM];refine gg ?_;refine zf (vs := [.int .i64 0,.int .i64 6]) [xN r s la s.es.length lc,Cl] ⟨rfl,rfl⟩
theorem YB (hs : NOk s) (ho : qK Cl la lc s.es) (n : L8) (now : Int) (hn : now < 18446744073709551616) :
  zh prog 21 [pT r,sT n,.int .u64 now] [xN r s la s.es.length lc,Cl]
   fun v A => v = .int .i64 (jP s n now).1 /\ ∃ la lc Cl,qK Cl la lc (jP s n now).2.es /\ A = [xN r (jP s n now).2 la (jP s n now).2.es.length lc,Cl] := by
 have hl := yF;have hb : s.es.length <= 64 := by have := hs.fit;have := hs.r2;omega
 have hfd := Zw (r := r) hs ho n now hn;refine eNg func21 ntmps21 results21 fun F => ?_
 rcases qR s n now with ⟨e,hm⟩ | ⟨v,hm,⟨e,_⟩ | ⟨e,_⟩⟩
 ·rw [yE e dM] at hfd;rw [XG e dM];refine cR (hfd) ?_;refine ze [xN r s la s.es.length lc,Cl] ⟨rfl,la,lc,Cl,ho,rfl⟩
 ·rw [yE e dM] at hfd;rw [XG e dM];refine cR (hfd) ?_;refine ze [xN r s la s.es.length lc,Cl] ⟨rfl,la,lc,Cl,ho,rfl⟩
 ·have hc0 := (hs.en _ (qH hm)).c0;simp only at hc0;obtain ⟨pre,post,h1,h2,h3,_⟩ := Wz hm;have hx : s.es[pre.length]? = some (n,v) := by rw [h1];simp
  have hi : pre.length < s.es.length := by rw [h1];simp
  have hput : ∀ w,mput s.es n w = s.es.set pre.length (n,w) := fun w => by rw [h3,h1];simp
  rw [VW e,h2] at hfd;rw [Oz e];refine cR (hfd) ?_;refine zF ?_;refine xh ho hl hx dM mmA ?_;refine zF ?_;refine zC fun b9 => ?_;(try simp only [Value.cells])
  refine oS (encR (n,v)) rfl (wM (n,v)) ?_;simp only [encR];refine gg ?_
  cases hsp : v.sp with
  | true =>
   refine gg ?_;refine ze [xN r s la s.es.length lc,Cl] ⟨rfl,la,lc,Cl,ho,rfl⟩
  | false =>
   refine gg ?_;have hbo := cO hc0;rw [hbo]
   by_cases h0 : 0 < v.cnt
   ·rw [dT h0];refine gg ?_;refine ze [xN r s la s.es.length lc,Cl] ⟨rfl,la,lc,Cl,ho,rfl⟩
   ·rw [dF h0,Bool.or_false,if_neg sM];refine gg ?_;have hst := KG (r := r) (s := s) ho hb pre.length hi (n,{ v with sp := true });rw [<- hput] at hst;refine zF ?_;refine zz (vs := encR (n,{ v with sp := true })) (by simp only [encR];(repeat (first | with_reducible exact Lies.one | with_reducible apply Lies.next))) rfl ?_;refine cA (hst) ?_;rintro v A ⟨rfl,la',lc',Cl',ho',rfl⟩;refine gA ?_;refine ze [xN r s la' (mput s.es n { v with sp := true }).length lc',Cl'] ⟨rfl,la',lc',Cl',ho',rfl⟩
theorem dN (hs : NOk s) (ho : qK Cl la lc s.es) (n : L8) (c : Int) (now : Int) (hc : 0 <= c) (hn : now < 18446744073709551616) :
  zh prog 70 [pT r,sT n,.int .u32 c,.int .u64 now] [xN r s la s.es.length lc,Cl]
   fun v A => v = .int .i64 (useN s n c now).1 /\ ∃ la lc Cl,qK Cl la lc (useN s n c now).2.es /\ A = [xN r (useN s n c now).2 la (useN s n c now).2.es.length lc,Cl] := by
 have hl := yF;have hb : s.es.length <= 64 := by have := hs.fit;have := hs.r2;omega
 have hfd := Zw (r := r) hs ho n now hn;refine eNg func70 ntmps70 results70 fun F => ?_
 rcases qR s n now with ⟨e,hm⟩ | ⟨v,hm,⟨e,_⟩ | ⟨e,_⟩⟩
 ·rw [yE e dM] at hfd;rw [Of e dM];refine cR (hfd) ?_;refine ze [xN r s la s.es.length lc,Cl] ⟨rfl,la,lc,Cl,ho,rfl⟩
 ·rw [yE e dM] at hfd;rw [Of e dM];refine cR (hfd) ?_;refine ze [xN r s la s.es.length lc,Cl] ⟨rfl,la,lc,Cl,ho,rfl⟩
 ·have hc0 := (hs.en _ (qH hm)).c0;simp only at hc0;obtain ⟨pre,post,h1,h2,h3,_⟩ := Wz hm;have hx : s.es[pre.length]? = some (n,v) := by rw [h1];simp
  have hi : pre.length < s.es.length := by rw [h1];simp
  have hput : ∀ w,mput s.es n w = s.es.set pre.length (n,w) := fun w => by rw [h3,h1];simp
  rw [VW e,h2] at hfd;rw [use_of e];refine cR (hfd) ?_;refine if_b (fun hc => ?_) (fun hc => ?_)
  ·subst hc;rw [if_pos rfl];refine gg ?_;refine ze [xN r s la s.es.length lc,Cl] ⟨rfl,la,lc,Cl,ho,rfl⟩
  ·rw [if_neg hc];refine gg ?_;refine zF ?_;refine xh ho hl hx dM mmA ?_;refine zF ?_;refine zC fun b9 => ?_;(try simp only [Value.cells])
   refine oS (encR (n,v)) rfl (wM (n,v)) ?_;simp only [encR];refine gg ?_
   cases hsp : v.sp with
   | true =>
    refine gg ?_;refine ze [xN r s la s.es.length lc,Cl] ⟨rfl,la,lc,Cl,ho,rfl⟩
   | false =>
    refine gg ?_
    by_cases h0 : c <= v.cnt
    ·rw [dT h0];refine gg ?_;refine ze [xN r s la s.es.length lc,Cl] ⟨rfl,la,lc,Cl,ho,rfl⟩
    ·rw [dF h0,Bool.or_false,if_neg sM];refine gg ?_;have hst := KG (r := r) (s := s) ho hb pre.length hi (n,{ v with cnt := c });rw [<- hput] at hst;rw [hsp] at hst;refine oL [sT v.non,sT v.draw,.int .u64 v.at_,.bool false,.int .u32 c] rfl ?_;refine cA (hst) ?_;rintro v A ⟨rfl,la',lc',Cl',ho',rfl⟩;refine gA ?_;refine ze [xN r s la' (mput s.es n ⟨v.non,v.draw,v.at_,false,c⟩).length lc',Cl'] ⟨rfl,la',lc',Cl',ho',rfl⟩
end ref
section ref
variable {r : Nat} {s : NS} {la : OA} {lc : Nat} {Cl : zd}
theorem drop_of {s : NS} {x : L8 × V} {es : Es} (h : s.es = x :: es) : UC s = { s with es := es,mark := maxI s.mark x.2.at_,mrk := true } := by
 obtain ⟨room,win,es',ser,last,mark,mk⟩ := s;simp only at h;subst h
 rfl
theorem YJ (hs : NOk s) (hser : s.ser < 1000) (ho : qK Cl la lc s.es) (d : L8) (hd : d.length <= 1000) (now : Int) (hn : now < 18446744073709551616) :
  zh prog 36 [pT r,sT d,.int .u64 now] [xN r s la s.es.length lc,Cl]
   fun v A => v = .tuple #[sT (zT s d now).1.1,.int .i64 (zT s d now).1.2] /\ ∃ la lc Cl,qK Cl la lc (zT s d now).2.es /\ A = [xN r (zT s d now).2 la (zT s d now).2.es.length lc,Cl] := by
 have hl := yF;have hb : s.es.length <= 64 := by have := hs.fit;have := hs.r2;omega
 have hrn := YI d oM;have hrs := XJ s now;have hrr := Zv s now;have hrf := Vw hs now;have hro := Ue hs now;have hr2 := hs.r2;have hr1 := hs.r1;have hB : Xp d = (d.all nonB && (decide (1 <= d.length) && decide (d.length <= 40))) := rfl;unfold zT;refine eNg func36 ntmps36 results36 fun F => ?_
 refine cR (hrn) ?_
 cases hA : (d.all nonB && (decide (1 <= d.length) && decide (d.length <= 64))) with
 | false =>
  have hB0 : Xp d = false := by
   rw [hB]
   by_cases h : d.length <= 40
   ·rw [dT h];rw [dT (oM : d.length <= 64)] at hA;exact hA
   ·rw [dF h];simp
  rw [if_pos hB0];refine gg ?_;refine zf (vs := [sT [],.int .i64 4]) [xN r s la s.es.length lc,Cl] ⟨rfl,la,lc,Cl,ho,rfl⟩
 | true =>
  refine gg ?_
  by_cases h40 : (40 : Int) < d.length
  ·have hB0 : Xp d = false := by rw [hB,dF (oM : ¬ d.length <= 40)];simp
   rw [if_pos hB0,dT h40];refine gg ?_;refine zf (vs := [sT [],.int .i64 4]) [xN r s la s.es.length lc,Cl] ⟨rfl,la,lc,Cl,ho,rfl⟩
  ·have hB1 : Xp d = true := by
    rw [hB,dT (oM : d.length <= 40)];rw [dT (oM : d.length <= 64)] at hA;exact hA
   rw [if_neg (by rw [hB1];simp),dF h40];refine gg ?_
   by_cases hlt : now < s.last
   ·rw [dT hlt,if_pos hlt];refine gg ?_;refine zf (vs := [sT [],.int .i64 9]) [xN r s la s.es.length lc,Cl] ⟨rfl,la,lc,Cl,ho,rfl⟩
   rw [dF hlt,if_neg hlt];refine gg ?_
   refine zM (fun q D L S => ∃ i : Nat,i <= s.es.length /\ hasD d (s.es.take i) = false /\ q = s.es.length - i /\ D = [] /\
    L = [(33,.int .i64 i),(32,.int .i64 s.es.length),(31,.slice la s.es.length lc),(0,pT r),(1,sT d),(2,.int .u64 now)] /\ S = [xN r s la s.es.length lc,Cl,F])
    ⟨0,oM,rfl,rfl,rfl,rfl,rfl⟩ ?_
   rintro q D L S ⟨i,hi,hno,rfl,rfl,rfl,rfl⟩;refine gg ?_;refine if_d (fun hc => ?_) (fun hc => ?_)
   ·have hil : i < s.es.length := oM;have hx : s.es[i]? = some s.es[i] := aE hil;have hxm := lT hil;have htk := List.take_succ_eq_append_getElem hil;generalize s.es[i] = x at *;have hap := Iy d (s.es.take i) x;rw [hno,mS,<- htk] at hap;refine gg ?_;refine zF ?_;refine xh ho hl hx dM mmA ?_;refine zF ?_;refine zC fun b9 => ?_;(try simp only [Value.cells])
    refine gg ?_;refine oS (encR x) rfl (wM x) ?_;simp only [encR];refine gg ?_;refine if_b (fun hc => ?_) (fun hc => ?_)
    ·rw [if_pos (Iw hxm hc)];refine gg ?_;refine zf (vs := [sT [],.int .i64 7]) [xN r s la s.es.length lc,Cl] ⟨rfl,la,lc,Cl,ho,rfl⟩
    ·refine gg ?_;exact zI ⟨i + 1,oM,by rw [hap];exact dF hc,rfl,rfl,rfl,rfl⟩
   ·obtain rfl : i = s.es.length := oM;rw [iK] at hno;rw [hno,if_neg sM]
    (repeat (first | (with_reducible refine qL ?_) | (with_reducible refine wb ?_) | (with_reducible refine wd ?_) | (with_reducible refine vA ?_) | (with_reducible refine vy ?_) | (with_reducible refine vC ?_) | ((with_reducible refine xY ?_);refine vz ?_) | (with_reducible refine vo ?_) | (with_reducible refine vm ?_) | (with_reducible refine vp ?_) | (with_reducible refine zP ?_) | (with_reducible refine zZ ?_)))
    (with_reducible refine zS ?_);refine zO (fun D L S => ∃ la lc Cl,qK Cl la lc (wg s now).es /\ D = [] /\ L = [(0,pT r),(1,sT d),(2,.int .u64 now)] /\ S = [xN r (wg s now) la (wg s now).es.length lc,Cl,F]) ?_ ?_
    ·refine gg ?_;refine cdLg [[0],[1],[2],[3],[4],[5],[6],[7],[8],[9],[10],[11],[12],[13,0],[14],[15]] ?_
     by_cases hf : s.es.length = s.room
     ·rw [dT (oM : (s.room : Int) <= s.es.length)];refine gg ?_;have hsw := YA (r := r) hs ho now hn;unfold wg;rw [if_pos hf]
      by_cases h0 : 0 < (qM s now).1
      ·rw [if_pos h0];refine dA (hsw) ?_;rintro v A ⟨rfl,la',lc',Cl',ho',rfl⟩;refine pC ?_;rw [beq_eq_false_iff_ne.2 (oM : (qM s now).1 ≠ 0)];refine gg ?_;exact mid ⟨la',lc',Cl',ho',rfl,rfl,rfl⟩
      ·rw [if_neg h0]
       have hz : (qM s now).1 = 0 := by
        have : (0 : Int) <= (qM s now).1 := Int.natCast_nonneg _;omega
       have he : (qM s now).2 = s := by
        obtain ⟨room,win,es,ser,last,mark,mk⟩ := s
        show (NS.mk room win _ ser last mark mk) = _
        rw [Qv h0]
       rw [he,hz] at hsw;refine dA (hsw) ?_;rintro v A ⟨rfl,la',lc',Cl',ho',rfl⟩;refine pD ?_;have hmk := hs.mk0;have hen := hs.en;have hm0 := hs.mark0
       cases hes : s.es with
       | nil => rw [hes] at hf;simp only [aQ] at hf;omega
       | cons x es =>
        have hat := (hen x (by rw [hes];exact aA ..)).at0;rw [hes] at ho' hb;have hx : (x :: es)[0]? = some x := rfl;have hlc := ho'.1;have hlen1 : 1 <= (x :: es).length := sM;have hr := ho'.rd (S := [Cl']) sM;rw [aH] at hb
        have hr3 : Rd 5 [Cl'] (cutA 5 la' 1 lc') es.length (es.flatMap encR) := by
         have q := rd_cutF hl hr (l := 1) (h' := (x :: es).length) (m := lc') sM oM oM;rw [show (x :: es).length - 1 = es.length from sM,List.drop_one,List.tail_cons,iK] at q;exact q
        rw [drop_of hes];refine gg ?_;refine zF ?_;refine jD fun b0 C0 ho0 => ?_
        refine gg ?_;refine gM ?_;refine gg ?_;rw [show (x :: es).length - 1 = es.length from sM];refine zF ?_;refine zu (e := 173) (s := 5) (hs := inferInstance) (by rfl) dM ho0 (.inr pkA) (hr3.mem mmA) (IL _) (by simp only [maxLen];omega) oM (fun C2 a2 cap2 ho2 => ?_);rw [aD,iT] at ho2
        (try rw [iT])
        refine gg ?_
        cases hm : s.mrk with
        | false =>
         rw [show maxI s.mark x.2.at_ = x.2.at_ from by rw [hmk hm];unfold maxI;split <;> omega];refine gg ?_;exact mid ⟨a2,cap2,C2,ho2,rfl,rfl,rfl⟩
        | true =>
         refine gg ?_
         by_cases hg : s.mark < x.2.at_
         ·rw [dT hg,show maxI s.mark x.2.at_ = x.2.at_ from if_pos hg];refine gg ?_;exact mid ⟨a2,cap2,C2,ho2,rfl,rfl,rfl⟩
         ·rw [dF hg,show maxI s.mark x.2.at_ = s.mark from if_neg hg];refine gg ?_;exact mid ⟨a2,cap2,C2,ho2,rfl,rfl,rfl⟩
     ·rw [dF (show ¬ (s.room : Int) <= s.es.length by have := hs.fit;omega)];refine gg ?_;unfold wg;rw [if_neg hf];exact mid ⟨la,lc,Cl,ho,rfl,rfl,rfl⟩
    generalize wg s now = s1 at *;rintro D L S ⟨la1,lc1,Cl1,ho1,rfl,rfl,rfl⟩;have hr := ho1.rd (S := [Cl1]) sM;have hd40 : d.length <= 40 := oM;rw [<- hrs];refine gg ?_;refine zF ?_;rw [gB,zV (by simp;omega)];rw [show ((s1.ser : Int) + 1) = ((s1.ser + 1 : Nat) : Int) from oM];refine gg ?_;refine cA (jS (s1.ser + 1) 8 oM oM) ?_;rintro v A ⟨O,oa,oc,rfl,hO,rfl⟩;refine gA ?_;refine cR (vq O oa oc (be 8 (s1.ser + 1)) (by rw [qf];omega) (hO.rd sM)) ?_;refine zF ?_;rw [zV (by rw [jK,qf];simp;omega)];rw [show d ++ [46] ++ hex (be 8 (s1.ser + 1)) = nonN d (s1.ser + 1) from by simp [nonN,hx]];refine gg ?_;refine zF ?_;refine jD fun b0 C0 ho0 => ?_
    refine gg ?_;refine zF ?_;refine zu (e := 173) (s := 5) (hs := inferInstance) (by rfl) dM ho0 (.inr pkA) (hr.mem mmA) (IL _) (by simp only [maxLen];omega) oM (fun C2 a2 cap2 ho2 => ?_);refine gg ?_;refine oTg [(0,sT (nonN d (s1.ser + 1))),(1,sT d),(2,.int .u64 now)] (encR (nonN d (s1.ser + 1),⟨nonN d (s1.ser + 1),d,now,false,0⟩)).toArray ?_;refine zF ?_;refine xt (e := 173) (s := 5) (hs := inferInstance) (vs := encR (nonN d (s1.ser + 1),⟨nonN d (s1.ser + 1),d,now,false,0⟩)) (by rfl) dM dM rfl (fun b1 C1 hb1 => ?_);refine gg ?_;refine zF ?_;refine zu (e := 173) (s := 5) (hs := inferInstance) (by rfl) dM ho2 (.inr pkA) (hb1.rd mmA) (wM _) (by simp only [maxLen];omega) oM (fun C3 a3 cap3 ho3 => ?_);have e1 : 0 + s1.es.length + 1 = (s1.es ++ [(nonN d (s1.ser + 1),(⟨nonN d (s1.ser + 1),d,now,false,0⟩ : V))]).length := sM;have e2 : [] ++ s1.es.flatMap encR ++ encR (nonN d (s1.ser + 1),⟨nonN d (s1.ser + 1),d,now,false,0⟩) = (s1.es ++ [(nonN d (s1.ser + 1),(⟨nonN d (s1.ser + 1),d,now,false,0⟩ : V))]).flatMap encR := sM;rw [e1,e2] at ho3;rw [e1];refine gg ?_;refine zf (vs := [sT (nonN d (s1.ser + 1)),.int .i64 0]) [xN r (addN s1 d now) a3 (s1.es ++ [(nonN d (s1.ser + 1),(⟨nonN d (s1.ser + 1),d,now,false,0⟩ : V))]).length cap3,C3] ⟨rfl,a3,cap3,C3,ho3,rfl⟩
end ref
def ZW (sp : OA) (T : zd) : Option NS -> Prop
 | none => sp = none /\ T = []
 | some s => ∃ q b T1,NOk s /\ xU T1 b s.room s.es /\ sp = some ⟨q,0,none⟩ /\ T = nB q b s ++ T1
def yN (xp : OA) (U : zd) : Option NS -> Prop
 | none => xp = none /\ U = []
 | some s => ∃ r la lc Cl,NOk s /\ qK Cl la lc s.es /\ xp = some ⟨r,0,none⟩ /\ U = xN r s la s.es.length lc ++ Cl
def Wb (st : Option NS) (n : L8) (now : Int) : Int × Option NS := match st with
 | none => (6,none)
 | some s => ((jP s n now).1,some (jP s n now).2)
def oUse (st : Option NS) (n : L8) (c now : Int) : Int × Option NS := match st with
 | none => (6,none)
 | some s => ((useN s n c now).1,some (useN s n c now).2)
def Ib (st : Option NS) (d : L8) (now : Int) : (L8 × Int) × Option NS := match st with
 | none => (([],6),none)
 | some s => ((zT s d now).1,some (zT s d now).2)
def oSer (st : Option NS) : Nat := match st with
 | none => 0
 | some s => s.ser
theorem ci (s : NS) (d : L8) (now : Int) : (zT s d now).2.room = s.room := by
 unfold zT
 split
 ·rfl
 ·split
  ·rfl
  ·split
   ·rfl
   ·exact Zv s now
theorem bf (s : NS) (n : L8) (now : Int) : (jP s n now).2.room = s.room := by
 unfold jP;split
 ·split <;> rfl
 ·rfl
theorem use_room (s : NS) (n : L8) (c now : Int) : (useN s n c now).2.room = s.room := by
 unfold useN;split
 ·split
  ·rfl
  ·split <;> rfl
 ·rfl
theorem hSpend {sp : OA} {T : zd} {st : Option NS} (h : ZW sp T st) (n : L8) (now : Int) (hn : now < 18446744073709551616) :
  zh prog 20 [.pointer sp,sT n,.int .u64 now] [T] fun v A => v = .int .i64 (Wb st n now).1 /\ ∃ T',ZW sp T' (Wb st n now).2 /\ A = [T'] := by
 rcases st with _ | s
 ·obtain ⟨rfl,rfl⟩ := h;refine zh.conv [] (bW (sT n) (.int .u64 now)) rfl (.nil _) ?_;rintro v A ⟨rfl,rfl⟩;exact ⟨[[]],[],rfl,.nil _,rfl,[],⟨rfl,rfl⟩,rfl⟩
 ·obtain ⟨q,b,T1,hs,hT,rfl,rfl⟩ := h;refine zh.conv [nB q b s,T1] (Uh hs hT n now hn) flA tkA ?_;rintro v A ⟨rfl,T',hT',rfl⟩;exact ⟨[nB q b (jP s n now).2 ++ T'],[nB q b (jP s n now).2,T'],flA,amA,rfl,_,⟨q,b,T',OZ hs n now,by rw [bf];exact hT',rfl,rfl⟩,rfl⟩
theorem xSpend {xp : OA} {U : zd} {st : Option NS} (h : yN xp U st) (n : L8) (now : Int) (hn : now < 18446744073709551616) :
  zh prog 21 [.pointer xp,sT n,.int .u64 now] [U] fun v A => v = .int .i64 (Wb st n now).1 /\ ∃ U',yN xp U' (Wb st n now).2 /\ A = [U'] := by
 rcases st with _ | s
 ·obtain ⟨rfl,rfl⟩ := h;refine zh.conv [] (br (sT n) (.int .u64 now)) rfl (.nil _) ?_;rintro v A ⟨rfl,rfl⟩;exact ⟨[[]],[],rfl,.nil _,rfl,[],⟨rfl,rfl⟩,rfl⟩
 ·obtain ⟨r,la,lc,Cl,hs,ho,rfl,rfl⟩ := h;refine zh.conv [xN r s la s.es.length lc,Cl] (YB hs ho n now hn) flA tkA ?_;rintro v A ⟨rfl,la',lc',Cl',ho',rfl⟩;exact ⟨[xN r (jP s n now).2 la' (jP s n now).2.es.length lc' ++ Cl'],[xN r (jP s n now).2 la' (jP s n now).2.es.length lc',Cl'],flA,amA,rfl,_,⟨r,la',lc',Cl',OZ hs n now,ho',rfl,rfl⟩,rfl⟩
theorem xUse {xp : OA} {U : zd} {st : Option NS} (h : yN xp U st) (n : L8) (c now : Int) (hc : 0 <= c) (hn : now < 18446744073709551616) :
  zh prog 70 [.pointer xp,sT n,.int .u32 c,.int .u64 now] [U] fun v A => v = .int .i64 (oUse st n c now).1 /\ ∃ U',yN xp U' (oUse st n c now).2 /\ A = [U'] := by
 rcases st with _ | s
 ·obtain ⟨rfl,rfl⟩ := h;refine zh.conv [] (ruse_nil (sT n) (.int .u32 c) (.int .u64 now)) rfl (.nil _) ?_;rintro v A ⟨rfl,rfl⟩;exact ⟨[[]],[],rfl,.nil _,rfl,[],⟨rfl,rfl⟩,rfl⟩
 ·obtain ⟨r,la,lc,Cl,hs,ho,rfl,rfl⟩ := h;refine zh.conv [xN r s la s.es.length lc,Cl] (dN hs ho n c now hc hn) flA tkA ?_;rintro v A ⟨rfl,la',lc',Cl',ho',rfl⟩;exact ⟨[xN r (useN s n c now).2 la' (useN s n c now).2.es.length lc' ++ Cl'],[xN r (useN s n c now).2 la' (useN s n c now).2.es.length lc',Cl'],flA,amA,rfl,_,⟨r,la',lc',Cl',ok_use hs n c hc now,ho',rfl,rfl⟩,rfl⟩
theorem xIssue {xp : OA} {U : zd} {st : Option NS} (h : yN xp U st) (hser : oSer st < 1000) (d : L8) (hd : d.length <= 1000) (now : Int) (hn0 : 0 <= now) (hn : now < 18446744073709551616) :
  zh prog 36 [.pointer xp,sT d,.int .u64 now] [U] fun v A => v = .tuple #[sT (Ib st d now).1.1,.int .i64 (Ib st d now).1.2] /\ ∃ U',yN xp U' (Ib st d now).2 /\ A = [U'] := by
 rcases st with _ | s
 ·obtain ⟨rfl,rfl⟩ := h;refine zh.conv [] (bz (sT d) (.int .u64 now)) rfl (.nil _) ?_;rintro v A ⟨rfl,rfl⟩;exact ⟨[[]],[],rfl,.nil _,rfl,[],⟨rfl,rfl⟩,rfl⟩
 ·obtain ⟨r,la,lc,Cl,hs,ho,rfl,rfl⟩ := h;refine zh.conv [xN r s la s.es.length lc,Cl] (YJ hs hser ho d hd now hn) flA tkA ?_;rintro v A ⟨rfl,la',lc',Cl',ho',rfl⟩;exact ⟨[xN r (zT s d now).2 la' (zT s d now).2.es.length lc' ++ Cl'],[xN r (zT s d now).2 la' (zT s d now).2.es.length lc',Cl'],flA,amA,rfl,_,⟨r,la',lc',Cl',Ia hs hser d now hn0,ho',rfl,rfl⟩,rfl⟩
end Go.Proofs.YtebikhhoppiapaaGreatDoor
namespace Go.Proofs.YtebikhhoppiapaaGreatDoor
open Go Go.Ost _root_.Go.Proofs.Tryz
theorem print_no (l : List Par) (i : Nat) (h : i < l.length) (hg : qT (l.getD i p0) = false) : jB l = ([],4) := by
 unfold jB;rw [if_pos (by rw [Ob h hg];simp)]
theorem Wo {p : Par} (h : Wu p = false) : qT p = false := by unfold qT;rw [h];rfl
theorem good_tok {p : Par} (h : tokB p.n = false) : qT p = false := by unfold qT;rw [h];simp
theorem good_low {p : Par} (h : (lowL p.n == p.n) = false) : qT p = false := by unfold qT;rw [h];simp
theorem Jn {X : zd} {xa : OA} {xc : Nat} {l : List Par} (hX : OwnR X xa xc l) (hl : l.length <= 20) (hb : ∀ p ∈ l,p.n.length + p.v.length <= 5000) :
  zh prog 54 [.slice xa l.length xc] [X] fun v A => v = .tuple #[sT (jB l).1,.int .i64 (jB l).2] /\ A = [X] := by
 have hs := wK;have s7 : Value.string ⟨#[68,105,103,101,115,116,32]⟩ = sT hdr := rfl;have s2 : Value.string ⟨#[44,32]⟩ = sT [44,32] := rfl;have s1 : Value.string ⟨#[61]⟩ = sT [61] := rfl;refine eNg func54 ntmps54 results54 fun F => ?_
 have e0 : hdr = hdr ++ xV (l.take 0) := by simp [xV]
 rw [s7,show sT hdr = sT (hdr ++ xV (l.take 0)) from by rw [<- e0]]
 refine zM (fun q D L S => ∃ i : Nat,i <= l.length /\ (l.take i).all qT = true /\ q = l.length - i /\ D = [] /\
  L = [(13,.int .i64 i),(12,.int .i64 l.length),(11,.slice xa l.length xc),(4,sT (hdr ++ xV (l.take i))),(0,.slice xa l.length xc)] /\ S = [X,F])
  ⟨0,oM,sM,rfl,rfl,rfl,rfl⟩ ?_
 rintro q D L S ⟨i,hi,hall,rfl,rfl,rfl,rfl⟩;have hjl := Iq (l.take i) fun p hp => hb p (List.mem_of_mem_take hp)
 have htl : (l.take i).length <= 20 := by rw [aX];omega
 have hh7 : hdr.length = 7 := rfl;have hjl2 : (xV (l.take i)).length <= 240000 := mN hjl oM;have hol : (hdr ++ xV (l.take i)).length <= 240007 := by rw [aB];omega
 clear hjl;refine gg ?_;refine if_d (fun hc => ?_) (fun hc => ?_)
 ·have hil : i < l.length := oM;have hx := qX l i hil;have hjn := Wm l i hil;have han := gY (f := qT) l i hil;have hpb := hb _ (List.mem_of_getElem? hx);have hvl := Yb (l.getD i p0);have hpn := print_no l i hil;rw [hall,mM] at han;generalize l.getD i p0 = x at *;obtain ⟨n,v,qq⟩ := x;simp only at hpb hvl;refine gg ?_;refine zF ?_;refine xh hX hs hx dM mmA ?_;refine oAg (encP p0).toArray fun b6 => ?_
  refine oSg (encP ⟨n,v,qq⟩) rfl (xw _) ?_
  refine zO (fun D L S => Wu ⟨n,v,qq⟩ = true /\ D = [] /\ L = [(7,sT (valP ⟨n,v,qq⟩)),(6,pT b6),(5,.int .i64 i),(13,.int .i64 i),(12,.int .i64 l.length),(11,.slice xa l.length xc),(4,sT (hdr ++ xV (l.take i))),(0,.slice xa l.length xc)] /\
   S = [X,rpB b6 ⟨n,v,qq⟩,F]) ?_ ?_
  ·cases qq with
   | true =>
    refine gg ?_;refine cR (YE v oM) ?_
    cases hq : (quoE v).2 with
    | true =>
     refine gg ?_;exact mid ⟨hq,rfl,rfl,rfl⟩
    | false =>
     rw [hpn (Wo hq)];refine gg ?_;refine zf (vs := [sT [],.int .i64 4]) [X] ⟨rfl,rfl⟩
   | false =>
    refine gg ?_;refine cR (Jj v oM) ?_
    cases hq : tokB v with
    | true =>
     refine gg ?_;exact mid ⟨hq,rfl,rfl,rfl⟩
    | false =>
     rw [hpn (Wo hq)];refine gg ?_;refine zf (vs := [sT [],.int .i64 4]) [X] ⟨rfl,rfl⟩
  rintro D L S ⟨hfine,rfl,rfl,rfl⟩
  (with_reducible refine zS ?_);refine zO (fun D L S => qT ⟨n,v,qq⟩ = true /\ D = [] /\ L = [(7,sT (valP ⟨n,v,qq⟩)),(6,pT b6),(5,.int .i64 i),(13,.int .i64 i),(12,.int .i64 l.length),(11,.slice xa l.length xc),(4,sT (hdr ++ xV (l.take i))),(0,.slice xa l.length xc)] /\
   S = [X,rpB b6 ⟨n,v,qq⟩,F]) ?_ ?_
  ·(try (with_reducible refine zr ?_))
   (try (with_reducible refine zS ?_))
   refine cdLg [[0],[1],[2,0],[3],[4],[5],[6],[8],[9],[7,0,9],[10],[11]] ?_;refine dR (Jj n oM) ?_
   cases ht : tokB n with
   | false =>
    rw [hpn (good_tok ht)];refine gg ?_;refine zf (vs := [sT [],.int .i64 4]) [X] ⟨rfl,rfl⟩
   | true =>
    refine gg ?_;refine dR (yd n oM) ?_
    by_cases hlo : lowL n = n
    ·rw [bne_eq_false_iff_eq.2 hlo];refine gg ?_;exact mid ⟨by unfold qT;rw [hfine,ht,beq_iff_eq.2 hlo];rfl,rfl,rfl,rfl⟩
    ·rw [bne_iff_ne.2 hlo,hpn (good_low (beq_eq_false_iff_ne.2 hlo))];refine gg ?_;refine zf (vs := [sT [],.int .i64 4]) [X] ⟨rfl,rfl⟩
  rintro D L S ⟨hgood,rfl,rfl,rfl⟩;rw [hgood] at han
  (with_reducible refine zS ?_);refine zO (fun D L S => D = [] /\ L = [(4,sT (hdr ++ (xV (l.take i) ++ (if 0 < i then [44,32] else [])))),(7,sT (valP ⟨n,v,qq⟩)),(6,pT b6),(13,.int .i64 i),(12,.int .i64 l.length),(11,.slice xa l.length xc),(0,.slice xa l.length xc)] /\
   S = [X,rpB b6 ⟨n,v,qq⟩,F]) ?_ ?_
  ·refine gg ?_
   by_cases h0 : 0 < i
   ·rw [dT (oM : (0 : Int) < i),if_pos h0,<- aN];refine gg ?_;rw [s2];refine zF ?_;rw [zV (by rw [show ([44,32] : L8).length = 2 from rfl];omega)];refine gg ?_;exact mid ⟨rfl,rfl,rfl⟩
   ·rw [dF (oM : ¬ (0 : Int) < i),if_neg h0,aL];refine gg ?_;exact mid ⟨rfl,rfl,rfl⟩
  rintro D L S ⟨rfl,rfl,rfl⟩
  have hol2 : (hdr ++ (xV (l.take i) ++ (if 0 < i then [44,32] else []))).length <= 240009 := by
   rw [aB,aB];have : (if 0 < i then [44,32] else [] : L8).length <= 2 := by split <;> simp
   omega
  have hfin : hdr ++ (xV (l.take i) ++ (if 0 < i then [44,32] else [])) ++ (n ++ [61] ++ valP ⟨n,v,qq⟩) = hdr ++ xV (l.take (i + 1)) := by
   rw [hjn];simp [wU]
  generalize valP ⟨n,v,qq⟩ = w at *;have hnl : (n ++ [61] ++ w).length <= 20000 /\ 1 <= (n ++ [61] ++ w).length := by rw [aB,aB,aI];omega
  refine gg ?_;rw [s1];refine zF ?_;rw [zV (by rw [aI];omega)];refine gg ?_;refine zF ?_;rw [zV (by rw [aB,aI];omega)];refine gg ?_;refine zF ?_;rw [zV oM,hfin];refine gg ?_;exact zI ⟨i + 1,oM,han,rfl,rfl,rfl,rfl⟩
 ·obtain rfl : i = l.length := oM;rw [iK] at hall hol ⊢;unfold jB;refine gg ?_
  by_cases h1 : l.length = 0
  ·rw [beq_iff_eq.2 (oM : (l.length : Int) = 0),if_pos (by rw [dF oM];rfl)];refine gg ?_;refine zf (vs := [sT [],.int .i64 4]) [X] ⟨rfl,rfl⟩
  ·rw [beq_eq_false_iff_ne.2 (oM : (l.length : Int) ≠ 0),if_neg (by rw [hall,dT (oM : 0 < l.length)];simp)];refine gg ?_
   by_cases h2 : 4096 < (hdr ++ xV l).length
   ·rw [if_pos h2,dT (oM : (4096 : Int) < ((hdr ++ xV l).length : Nat))];refine gg ?_;refine zf (vs := [sT [],.int .i64 3]) [X] ⟨rfl,rfl⟩
   ·rw [if_neg h2,dF (oM : ¬ (4096 : Int) < ((hdr ++ xV l).length : Nat))];refine gg ?_;refine cR (Zy hX oM) ?_
    by_cases h3 : cntE l = 0
    ·rw [if_neg (by simp [h3]),h3];refine gg ?_;refine zf (vs := [sT (hdr ++ xV l),.int .i64 0]) [X] ⟨rfl,rfl⟩
    ·rw [if_pos h3,bne_iff_ne.2 h3];refine gg ?_;refine zf (vs := [sT [],.int .i64 (cntE l)]) [X] ⟨rfl,rfl⟩
instance tprChal : xi prog 70 [(0,1),(1,1),(2,1),(3,1)] := ⟨kM⟩
theorem rch_len (c : Ch) : (yp c).length <= 20 := by
 unfold yp opqP staP;simp only [aB,aH,aQ]
 split <;> split <;> simp
theorem eA {c : Ch} (h1 : c.r.length <= 4000) (h2 : c.n.length <= 4000) (h3 : c.o.length <= 4000) : ∀ p ∈ yp c,p.n.length + p.v.length <= 5000 := by
 intro p hp;unfold yp opqP staP at hp;simp only [List.mem_append,aY,aT,or_false] at hp
 rcases hp with (((hp | hp) | rfl) | hp) | rfl
 ·rcases hp with rfl | rfl
  ·show zA.length + c.r.length <= _;have : zA.length = 5 := rfl;omega
  ·show zv.length + c.n.length <= _;have : zv.length = 5 := rfl;omega
 ·split at hp
  ·cases hp
  ·simp only [aY,aT,or_false] at hp;subst hp
   show zt.length + c.o.length <= _;have : zt.length = 6 := rfl;omega
 ·decide
 ·split at hp
  ·simp only [aY,aT,or_false] at hp;subst hp;decide
  ·cases hp
 ·decide
theorem we (s : L8) : zh prog 50 [sT s] [] fun v A => v = .bool (sizB s) /\ A = [] := by
 have hb : sizB s = (decide ((1 : Int) <= s.length) && decide ((s.length : Int) <= 64)) := by
  unfold sizB
  congr 1
  cases s with
  | nil => rfl
  | cons a l => rw [aH,dT oM];rfl
 rw [hb];refine eNg func50 ntmps50 results50 fun F => ?_
 cases hb : decide ((1 : Int) <= s.length) with
 | false =>
  refine gg ?_;refine ze [] ?_;exact ⟨rfl,rfl⟩
 | true =>
  refine gg ?_;refine ze [] ?_;exact ⟨rfl,rfl⟩
theorem KO (c : Ch) (h1 : c.r.length <= 4000) (h2 : c.n.length <= 4000) (h3 : c.o.length <= 4000) : zh prog 37 [.agg (encC c).toArray] []
  fun v A => v = .tuple #[sT (qA c).1,.int .i64 (qA c).2] /\ A = [] := by
 have hcl := rch_len c;have hcb := eA h1 h2 h3;obtain ⟨cr,cn,co,cs⟩ := c;simp only at h1 h2 h3;have hct : qA ⟨cr,cn,co,cs⟩ = if sizB cn = false then ([],4) else jB (yp ⟨cr,cn,co,cs⟩) := rfl;have hcp : yp ⟨cr,cn,co,cs⟩ = [⟨zA,cr,true⟩,⟨zv,cn,true⟩] ++ opqP co ++ [⟨nAlg,nSum,false⟩] ++ staP cs ++ [⟨nQop,jb,true⟩] := rfl;rw [hct];refine eNg func37 ntmps37 results37 fun F => ?_
 refine oBg fun b1 => ?_
 refine oTg [(0,.string ⟨#[114,101,97,108,109]⟩),(1,(sT cr)),(2,.bool true)] (encP ⟨zA,cr,true⟩).toArray ?_;refine oTg [(0,.string ⟨#[110,111,110,99,101]⟩),(1,(sT cn)),(2,.bool true)] (encP ⟨zv,cn,true⟩).toArray ?_;refine zF ?_;refine ZR (n := 2) (e := 137) (s := 3) (hs := inferInstance) [encP ⟨zA,cr,true⟩,encP ⟨zv,cn,true⟩] (by rfl) rfl dM dM dM (by intro r hr;simp only [aY,aT,or_false] at hr;rcases hr with rfl | rfl <;> rfl) (fun b2 C2 ho2 => ?_);have hX2 : OwnR C2 (some ⟨b2,0,none⟩) 2 [⟨zA,cr,true⟩,⟨zv,cn,true⟩] := ho2;clear ho2;rw [show Value.slice (some ⟨b2,0,none⟩) 2 2 = .slice (some ⟨b2,0,none⟩) ([⟨zA,cr,true⟩,⟨zv,cn,true⟩] : List Par).length 2 from rfl];have hl0 : ([⟨zA,cr,true⟩,⟨zv,cn,true⟩] : List Par).length = 2 := rfl;generalize ([⟨zA,cr,true⟩,⟨zv,cn,true⟩] : List Par) = l0 at *;generalize (some ⟨b2,0,none⟩ : OA) = a2 at *;refine gg ?_;refine zO (fun D L S => ∃ (X3 : zd) (a3 : OA) (k3 : Nat),OwnR X3 a3 k3 (l0 ++ opqP co) /\ D = [] /\ L = [(4,.slice a3 (l0 ++ opqP co).length k3),(1,pT b1)] /\ S = [X3,[(b1,.cells (encC ⟨cr,cn,co,cs⟩).toArray 70 (0,0))],F]) ?_ ?_
 ·by_cases hs : co = []
  ·have ho : opqP co = [] := if_pos hs;rw [ho,aL,bne_eq_false_iff_eq.2 hs];refine gg ?_;exact mid ⟨C2,a2,2,hX2,rfl,rfl,rfl⟩
  ·have ho : opqP co = [⟨zt,co,true⟩] := if_neg hs;rw [ho,bne_iff_ne.2 hs];refine gg ?_;refine oT [(0,.string ⟨#[111,112,97,113,117,101]⟩),(1,(sT co)),(2,.bool true)] (encP ⟨zt,co,true⟩).toArray ?_;refine zF ?_;refine xt (e := 137) (s := 3) (hs := inferInstance) (vs := encP (⟨zt,co,true⟩ : Par)) (by rfl) dM dM rfl (fun b5 C5 ho5 => ?_);refine zF ?_;refine zu (e := 137) (s := 3) (hs := inferInstance) (by rfl) dM hX2 (.inr pkA) (ho5.rd mmA) (xw _) (by simp only [maxLen];omega) oM (fun X5 a5 k5 hX5 => ?_);have e1 : (l0).length + 1 = (l0 ++ [(⟨zt,co,true⟩ : Par)]).length := sM;have e2 : (l0).flatMap encP ++ encP (⟨zt,co,true⟩ : Par) = (l0 ++ [(⟨zt,co,true⟩ : Par)]).flatMap encP := sM;rw [e1,e2] at hX5;rw [e1];clear e1 e2;refine gg ?_;exact mid ⟨X5,a5,k5,hX5,rfl,rfl,rfl⟩
 rintro D L S ⟨X3,a3,k3,hX3,rfl,rfl,rfl⟩;have hl3 : (l0 ++ opqP co).length <= 3 := by rw [aB];unfold opqP;split <;> simp <;> omega
 generalize l0 ++ opqP co = l1 at *;refine gg ?_;refine oT [(0,.string ⟨#[97,108,103,111,114,105,116,104,109]⟩),(1,(.string ⟨#[83,72,65,45,50,53,54]⟩)),(2,.bool false)] (encP ⟨nAlg,nSum,false⟩).toArray ?_;refine zF ?_;refine xt (e := 137) (s := 3) (hs := inferInstance) (vs := encP (⟨nAlg,nSum,false⟩ : Par)) (by rfl) dM dM rfl (fun b6 C6 ho6 => ?_);refine zF ?_;refine zu (e := 137) (s := 3) (hs := inferInstance) (by rfl) dM hX3 (.inr pkA) (ho6.rd mmA) (xw _) (by simp only [maxLen];omega) oM (fun X6 a6 k6 hX6 => ?_);have e1 : (l1).length + 1 = (l1 ++ [(⟨nAlg,nSum,false⟩ : Par)]).length := sM;have e2 : (l1).flatMap encP ++ encP (⟨nAlg,nSum,false⟩ : Par) = (l1 ++ [(⟨nAlg,nSum,false⟩ : Par)]).flatMap encP := sM;rw [e1,e2] at hX6;rw [e1];clear e1 e2;have hl6 : (l1 ++ [(⟨nAlg,nSum,false⟩ : Par)]).length <= 4 := by rw [aB,aI];omega
 generalize l1 ++ [(⟨nAlg,nSum,false⟩ : Par)] = l2 at *;refine gg ?_;refine zO (fun D L S => ∃ (X7 : zd) (a7 : OA) (k7 : Nat),OwnR X7 a7 k7 (l2 ++ staP cs) /\ D = [] /\ L = [(4,.slice a7 (l2 ++ staP cs).length k7),(1,pT b1)] /\ S = [X7,[(b1,.cells (encC ⟨cr,cn,co,cs⟩).toArray 70 (0,0))],F]) ?_ ?_
 ·cases cs with
  | false =>
   rw [show staP false = [] from rfl,aL];refine gg ?_;exact mid ⟨X6,a6,k6,hX6,rfl,rfl,rfl⟩
  | true =>
   rw [show staP true = [⟨zH,qn,false⟩] from rfl];refine gg ?_;refine oT [(0,.string ⟨#[115,116,97,108,101]⟩),(1,(.string ⟨#[116,114,117,101]⟩)),(2,.bool false)] (encP ⟨zH,qn,false⟩).toArray ?_;refine zF ?_;refine xt (e := 137) (s := 3) (hs := inferInstance) (vs := encP (⟨zH,qn,false⟩ : Par)) (by rfl) dM dM rfl (fun b7 C7 ho7 => ?_);refine zF ?_;refine zu (e := 137) (s := 3) (hs := inferInstance) (by rfl) dM hX6 (.inr pkA) (ho7.rd mmA) (xw _) (by simp only [maxLen];omega) oM (fun X7 a7 k7 hX7 => ?_);have e1 : (l2).length + 1 = (l2 ++ [(⟨zH,qn,false⟩ : Par)]).length := sM;have e2 : (l2).flatMap encP ++ encP (⟨zH,qn,false⟩ : Par) = (l2 ++ [(⟨zH,qn,false⟩ : Par)]).flatMap encP := sM;rw [e1,e2] at hX7;rw [e1];clear e1 e2;refine gg ?_;exact mid ⟨X7,a7,k7,hX7,rfl,rfl,rfl⟩
 rintro D L S ⟨X7,a7,k7,hX7,rfl,rfl,rfl⟩;have hl7 : (l2 ++ staP cs).length <= 5 := by rw [aB];unfold staP;split <;> simp <;> omega
 generalize l2 ++ staP cs = l3 at *;refine gg ?_;refine cR (we cn) ?_
 cases hz : sizB cn with
 | false =>
  rw [if_pos rfl];refine gg ?_;refine zf (vs := [sT [],.int .i64 4]) [] ⟨rfl,rfl⟩
 | true =>
  rw [if_neg sM];refine gg ?_;refine oT [(0,.string ⟨#[113,111,112]⟩),(1,(.string ⟨#[97,117,116,104]⟩)),(2,.bool true)] (encP ⟨nQop,jb,true⟩).toArray ?_;refine zF ?_;refine xt (e := 137) (s := 3) (hs := inferInstance) (vs := encP (⟨nQop,jb,true⟩ : Par)) (by rfl) dM dM rfl (fun b8 C8 ho8 => ?_);refine zF ?_;refine zu (e := 137) (s := 3) (hs := inferInstance) (by rfl) dM hX7 (.inr pkA) (ho8.rd mmA) (xw _) (by simp only [maxLen];omega) oM (fun X8 a8 k8 hX8 => ?_);have e1 : (l3).length + 1 = (l3 ++ [(⟨nQop,jb,true⟩ : Par)]).length := sM;have e2 : (l3).flatMap encP ++ encP (⟨nQop,jb,true⟩ : Par) = (l3 ++ [(⟨nQop,jb,true⟩ : Par)]).flatMap encP := sM;rw [e1,e2] at hX8;rw [e1];clear e1 e2;rw [<- hcp] at hX8 ⊢;refine cR (Jn hX8 hcl hcb) ?_;refine zf (vs := [sT (jB (yp ⟨cr,cn,co,cs⟩)).1,.int .i64 (jB (yp ⟨cr,cn,co,cs⟩)).2]) [] ⟨rfl,rfl⟩
theorem eM {l : List Par} (h : (jB l).2 = 0) : (jB l).1.length <= 4096 := by
 unfold jB at h ⊢
 split
 ·simp
 rename_i h1
 rw [if_neg h1] at h
 split
 ·simp
 rename_i h2
 rw [if_neg h2] at h
 split
 ·simp
 ·show (hdr ++ xV l).length <= 4096;omega
instance teqRCh : TEq prog 70 [.s,.s,.s,.b] := ⟨kM⟩
end Go.Proofs.YtebikhhoppiapaaGreatDoor
namespace Go.Proofs.YtebikhhoppiapaaGreatDoor
open Go Go.Ost
open Go.Sha
def numN (p : L8) : Nat := p.foldl (fun n b => n * 256 + b.toNat) 0
theorem Wc (p : L8) (b : UInt8) : numN (p ++ [b]) = numN p * 256 + b.toNat := by unfold numN;rw [List.foldl_append];rfl
theorem fb (p : L8) (i : Nat) (h : i < p.length) : numN (p.take (i + 1)) = numN (p.take i) * 256 + (p.getD i 0).toNat := by
 rw [<- Wc,lG,aS,aE h];rfl
theorem fd : ∀ (k : Nat) (p : L8),p.length = k -> numN p < 256 ^ k
 | 0,p,h => by
  obtain rfl : p = [] := List.length_eq_zero_iff.1 h
  decide
 | k + 1,p,h => by
  have hne : p ≠ [] := fun e => by rw [e] at h;cases h
  have e := (List.dropLast_concat_getLast hne).symm;have hl : p.dropLast.length = k := by rw [List.length_dropLast];omega
  have ih := fd k p.dropLast hl;rw [e,Wc];have := (p.getLast hne).toNat_lt;rw [Nat.pow_succ];omega
theorem or_low (x : W) (b : UInt8) : (x <<< 8) ||| lZ 32 b.toNat = lZ 32 (x.toNat * 256 + b.toNat) := by
 have hb := b.toNat_lt
 apply BitVec.eq_of_toNat_eq
 rw [BitVec.toNat_or,BitVec.toNat_shiftLeft,lU,lU,lV (oM : b.toNat < 2 ^ 32)]
 have h1 : x.toNat <<< 8 % 2 ^ 32 = (x.toNat % 2 ^ 24) <<< 8 := by
  rw [mL,mL];omega
 rw [h1,<- Nat.shiftLeft_add_eq_or_of_lt (oM : b.toNat < 2 ^ 8),mL];omega
theorem Ic (p : L8) : lZ 32 (numN p) = numW p := by
 have key : ∀ (l : L8) (n : Nat) (w : W),lZ 32 n = w -> lZ 32 (l.foldl (fun (n : Nat) (b : UInt8) => n * 256 + b.toNat) n) = l.foldl (fun (n : W) (b : UInt8) => (n <<< 8) ||| lZ 32 b.toNat) w := by
  intro l
  induction l with
  | nil => intro n w h;exact h
  | cons b l ih =>
   intro n w h;rw [List.foldl_cons,List.foldl_cons];refine ih _ _ ?_;rw [or_low,<- h]
   apply BitVec.eq_of_toNat_eq
   rw [lU,lU,lU];omega
 exact key p 0 0 rfl
open _root_.Go.Proofs.Tryz
instance tpAnT : xi prog 126 [(0,1),(1,1),(2,1),(3,1),(4,1),(5,1),(6,1),(7,1)] := ⟨kM⟩
theorem dv_at : ∀ j < 16,dv (xB.getD j 0) = j := by decide +kernel
theorem dv_no {c : UInt8} (h : ∀ j < 16,xB.getD j 0 ≠ c) : dv c = -1 := by
 have key : ∀ l : L8,(∀ x ∈ l,x ≠ c) -> Lib.indexByte l c = -1 := by
  intro l
  induction l with
  | nil => intro _;rfl
  | cons b l ih =>
   intro h;have e : Lib.indexByte (b :: l) c = if (b == c) = true then (0 : Int) else if (Lib.indexByte l c == -1) = true then -1 else Lib.indexByte l c + 1 := rfl;rw [e,if_neg (by simpa using h b (aA ..)),ih fun x hx => h x (aK _ hx)];rfl
 refine key xB fun x hx => ?_
 obtain ⟨j,hj⟩ := List.mem_iff_getElem?.1 hx;have hlt := (List.getElem?_eq_some_iff.1 hj).1;have := h j hlt;rw [aS,hj] at this;exact this
theorem Og {a b : UInt8} (ha : 0 <= dv a) (hb : 0 <= dv b) : ∀ (k : Nat) (t l : L8),t.length <= k -> uhF t = some l -> uhF (t ++ [a,b]) = some (l ++ [aG (16 * (dv a).toNat + (dv b).toNat)])
 | _,[],l,_,h => by
  simp [uhF] at h;subst h
  show (if dv a < 0 ∨ dv b < 0 then none else _) = _
  rw [if_neg oM];rfl
 | _,[x],l,_,h => by simp [uhF] at h
 | 0,x :: y :: t,l,hk,h => by simp at hk
 | k + 1,x :: y :: t,l,hk,h => by
  simp only [uhF] at h
  show (if dv x < 0 ∨ dv y < 0 then none else _) = _
  split at h
  ·cases h
  ·rename_i hxy
   rw [if_neg hxy]
   cases hr : uhF t with
   | none => rw [hr] at h;cases h
   | some m =>
    rw [hr] at h;cases h
    have ih := Og ha hb k t m (by simp only [aH] at hk;omega) hr;rw [List.append_eq] at *;rw [ih];rfl
theorem uhF_no {c : UInt8} (hc : dv c < 0) : ∀ (k : Nat) (s : L8),s.length <= k -> c ∈ s -> uhF s = none
 | _,[],_,h => by cases h
 | _,[x],_,h => rfl
 | 0,x :: y :: t,hk,h => by simp at hk
 | k + 1,x :: y :: t,hk,h => by
  rw [uhF]
  rcases List.mem_cons.1 h with rfl | h
  ·rw [if_pos (.inl hc)]
  ·rcases List.mem_cons.1 h with rfl | h
   ·rw [if_pos (.inr hc)]
   ·rw [uhF_no hc k t (by simp only [aH] at hk;omega) h]
    split <;> rfl
theorem Jf (s : L8) (hs : s.length <= 100000) : zh prog 47 [sT s] []
  fun v A => ∃ X a k,v = .tuple #[.slice a (uhE s).1.length k,.int .i64 (uhE s).2] /\ Own8 5 X a (uhE s).1.length k (uhE s).1 /\ A = [X] := by
 have eD : Value.string ⟨#[48,49,50,51,52,53,54,55,56,57,97,98,99,100,101,102]⟩ = sT xB := rfl;have hdl : xB.length = 16 := rfl;refine eN func47 ntmps47 results47 fun F => ?_
 refine zU ?_;refine gg ?_
 by_cases h2 : s.length % 2 = 0
 ·rw [bne_eq_false_iff_eq.2 (oM : (s.length : Int) % 2 = 0)];refine gg ?_
  refine zM (fun q D L S => ∃ (i : Nat) (out : L8) (X : zd) (xa : OA) (xc : Nat),i <= s.length /\ out.length <= i /\
   ((i % 2 = 0 /\ uhF (s.take i) = some out) ∨ (i % 2 = 1 /\ ∃ o1,uhF (s.take (i - 1)) = some o1 /\ 0 <= dv (s.getD (i - 1) 0) /\ out = o1 ++ [aG (16 * (dv (s.getD (i - 1) 0)).toNat)])) /\
   Own8 5 X xa out.length xc out /\ q = s.length - i /\ D = [] /\ L = [(5,.int .i64 i),(4,.slice xa out.length xc),(0,sT s)] /\ S = [X,F])
   ⟨0,[],[],none,0,oM,sM,.inl ⟨rfl,rfl⟩,zJ,rfl,rfl,rfl,rfl⟩ ?_
  rintro q D L S ⟨i,out,X,xa,xc,hi,hol,hcase,hX,rfl,rfl,rfl,rfl⟩;refine gg ?_;refine if_d (fun hc => ?_) (fun hc => ?_)
  ·have hil : i < s.length := oM
   have hmem : s.getD i 0 ∈ s := by
    rw [aS,aE hil];exact lT hil
   have htk : s.take (i + 1) = s.take i ++ [s.getD i 0] := by
    rw [lG,aS,aE hil];rfl
   refine gg ?_
   refine zM (fun q D L S => ∃ (n : Nat) (w : Int),n <= 16 /\ ((w = -1 /\ ∀ j < n,xB.getD j 0 ≠ s.getD i 0) ∨ (w = dv (s.getD i 0) /\ 0 <= w)) /\ q = 16 - n /\ D = [] /\
    L = [(7,.int .i64 n),(6,.int .i64 w),(5,.int .i64 i),(4,.slice xa out.length xc),(0,sT s)] /\ S = [X,F])
    ⟨0,-1,oM,.inl ⟨rfl,fun j hj => absurd hj (Nat.not_lt_zero j)⟩,rfl,rfl,rfl,rfl⟩ ?_
   rintro q D L S ⟨n,w,hn,hw,rfl,rfl,rfl,rfl⟩;refine gg ?_;refine if_d (fun hc => ?_) (fun hc => ?_)
   ·have hnl : n < 16 := oM;have hdat := dv_at n hnl;refine gg ?_;refine cdLg [[0],[1],[2],[3],[4],[5]] ?_;refine qF ?_;rw [eD,sidx oM (by show (n : Int) < (16 : Nat);omega)]
    (try rw [show ((n : Int)).toNat = n from oM])
    refine gg ?_
    cases he : (xB.getD n 0 == s.getD i 0) with
    | true =>
     have heq := eq_of_beq he
     (try rw [he])
     (try rw [show (((xB.getD n 0).toNat : Int) == ((s.getD i 0).toNat : Int)) = true from by rw [heq];simp])
     refine gg ?_;exact zI ⟨n + 1,n,oM,.inr ⟨by rw [<- heq,hdat],oM⟩,rfl,rfl,rfl,rfl⟩
    | false =>
     have hne := beq_eq_false_iff_ne.1 he
     (try rw [he])
     refine gg ?_;refine zI ⟨n + 1,w,oM,?_,rfl,rfl,rfl,rfl⟩
     rcases hw with ⟨h1,h3⟩ | h1
     ·refine .inl ⟨h1,fun j hj => ?_⟩
      rcases Nat.lt_or_ge j n with h | h
      ·exact h3 j h
      ·obtain rfl : j = n := oM;exact hne
     ·exact .inr h1
   ·obtain rfl : n = 16 := oM
    have hwd : w = dv (s.getD i 0) := by
     rcases hw with ⟨h1,h3⟩ | ⟨h1,_⟩
     ·rw [h1,dv_no h3]
     ·exact h1
    have hdr := XS (s.getD i 0);clear hw;generalize hcc : s.getD i 0 = cc at *;refine gg ?_
    by_cases hw0 : 0 <= w
    ·rw [dF (oM : ¬ w < 0)];refine gg ?_
     by_cases hev : i % 2 = 0
     ·obtain ⟨_,hu⟩ | ⟨h,_⟩ := hcase
      ·rw [beq_iff_eq.2 (oM : (i : Int) % 2 = 0)];refine gg ?_
       have e1 : Value.int .u8 (16 * w) = b8 (aG (16 * (dv cc).toNat)) := by
        simp only [b8,iO]
        congr 1;omega
       rw [e1];refine zF ?_;refine xI ([aG (16 * (dv cc).toNat)]) dM rfl (rfl) (fun b7 C7 ho7 => ?_);refine gg ?_;refine zF ?_;refine app8 (hX) pkA ((ho7.rd (aA ..)).mem mmA) oM (fun C9 a9 cap9 ho9 => ?_);rw [show out.length + 1 = (out ++ [aG (16 * (dv cc).toNat)]).length from sM] at ho9 ⊢;refine gg ?_;exact zI ⟨i + 1,out ++ [aG (16 * (dv cc).toNat)],C9,a9,cap9,oM,by simp;omega,.inr ⟨oM,out,by rw [mO];exact hu,by rw [mO,hcc];omega,by rw [mO,hcc]⟩,ho9,rfl,rfl,rfl,rfl⟩
      ·omega
     ·obtain ⟨h,_⟩ | ⟨_,o1,hu,hv0,hout⟩ := hcase
      ·omega
      have hr1 := XS (s.getD (i - 1) 0)
      have htk2 : s.take (i + 1) = s.take (i - 1) ++ [s.getD (i - 1) 0,cc] := by
       have e1 : s.take i = s.take (i - 1) ++ [s.getD (i - 1) 0] := by
        have h1 : i - 1 < s.length := oM;have h3 : i = i - 1 + 1 := oM;rw [show s.take i = s.take (i - 1 + 1) from by rw [<- h3],lG,aS,aE h1];rfl
       rw [htk,e1];simp
      have hsn := Og (a := s.getD (i - 1) 0) (b := cc) hv0 oM _ _ _ (aR _) hu;rw [<- htk2] at hsn;generalize dv (s.getD (i - 1) 0) = v1 at *;have hol1 : out.length = o1.length + 1 := by rw [hout];simp
      have hgo : out.getD o1.length 0 = aG (16 * v1.toNat) := by rw [hout];simp
      have hset : out.set o1.length (aG (16 * v1.toNat + (dv cc).toNat)) = o1 ++ [aG (16 * v1.toNat + (dv cc).toNat)] := by rw [hout];simp
      rw [beq_eq_false_iff_ne.2 (oM : (i : Int) % 2 ≠ 0)];refine gg ?_
      (try rw [show ((out.length : Int) - 1).toNat = o1.length from oM])
      (try rw [hgo,show b8 (aG (16 * v1.toNat)) = .int .u8 (16 * v1) from by simp only [b8,iO];congr 1;omega])
      refine gg ?_
      (try rw [show ((out.length : Int) - 1).toNat = o1.length from oM])
      have e1 : Value.int .u8 (16 * v1 + w) = b8 (aG (16 * v1.toNat + (dv cc).toNat)) := by
       simp only [b8,iO]
       congr 1;omega
      refine zF ?_;rw [e1];refine vr hX pkA oM (fun X2 hX2 => ?_);rw [hset,show out.length = (o1 ++ [aG (16 * v1.toNat + (dv cc).toNat)]).length from by rw [hol1];simp] at hX2;rw [show Value.slice xa out.length xc = .slice xa (o1 ++ [aG (16 * v1.toNat + (dv cc).toNat)]).length xc from by rw [hol1];simp];refine gg ?_;exact zI ⟨i + 1,o1 ++ [aG (16 * v1.toNat + (dv cc).toNat)],X2,xa,xc,oM,by rw [aB,aI];omega,.inl ⟨oM,hsn⟩,hX2,rfl,rfl,rfl,rfl⟩
    ·have hno : uhE s = ([],5) := by
      unfold uhE;rw [if_neg oM,uhF_no (c := cc) oM _ s (aR _) hmem]
     rw [dT (oM : w < 0),hno];refine zU ?_;refine gg ?_;refine zf (vs := [nS,.int .i64 5]) [[]] ⟨[],none,0,rfl,zJ,rfl⟩
  ·obtain rfl : i = s.length := oM;rw [iK] at hcase
   have hfin : uhE s = (out,0) := by
    rcases hcase with ⟨_,h⟩ | ⟨h,_⟩
    ·unfold uhE;rw [if_neg oM,h]
    ·omega
   rw [hfin];refine gg ?_;refine zf (vs := [.slice xa out.length xc,.int .i64 0]) [X] ⟨X,xa,xc,rfl,hX,rfl⟩
 ·have hodd : uhE s = ([],2) := by unfold uhE;rw [if_pos h2]
  rw [hodd,bne_iff_ne.2 (oM : (s.length : Int) % 2 ≠ 0)];refine gg ?_;refine zf (vs := [nS,.int .i64 2]) [[]] ⟨[],none,0,rfl,zJ,rfl⟩
instance tprAnT : xi prog 56 [(0,1),(1,1),(2,1),(3,1),(4,1),(5,1),(6,1),(7,1)] := ⟨kM⟩
theorem KP (a : An) (h1 : a.u.length <= 4000) (h2 : a.r.length <= 4000) (h3 : a.n.length <= 4000) (h4 : a.uri.length <= 4000) (h5 : a.cn.length <= 4000) (h6 : a.o.length <= 4000) (h7 : a.pf.length <= 1000)
  {P : zd} {pa : OA} {pk : Nat} (hP : Rd 1 [P] pa a.pf.length (a.pf.map b8)) : zh prog 14 [.agg (encA a pa pk).toArray] [P]
  fun v A => v = .tuple #[sT (vZ a).1,.int .i64 (vZ a).2] /\ A = [P] := by
 have hcl := an_len a;have hcb := an_bound h1 h2 h3 h4 h5 h6 h7;obtain ⟨au,ar,an,ai,ak,ao,ac,ap⟩ := a;simp only at h1 h2 h3 h4 h5 h6 h7 hP;have hx64 := ac.isLt;have hct : vZ ⟨au,ar,an,ai,ak,ao,ac,ap⟩ = if (sizB an && (sizB ak && decide ((ap.length : Int) = 32))) = false then ([],4) else jB (wQ ⟨au,ar,an,ai,ak,ao,ac,ap⟩) := rfl;have hcp : wQ ⟨au,ar,an,ai,ak,ao,ac,ap⟩ = [(⟨xS,au,true⟩ : Par),⟨zA,ar,true⟩,⟨zv,an,true⟩,⟨nUri,ai,true⟩,⟨nQop,jb,false⟩,⟨nNc,hex (xH ac),false⟩,⟨zN,ak,true⟩,⟨zR,hex ap,true⟩] ++ opqP ao ++ [⟨nAlg,nSum,false⟩] := rfl;rw [hct];refine eNg func14 ntmps14 results14 fun F => ?_
 refine oBg fun b1 => ?_
 refine cR (we an) ?_
 cases hz1 : sizB an with
 | false =>
  rw [if_pos (by rfl)];refine gg ?_;refine zf (vs := [sT [],.int .i64 4]) [P] ⟨rfl,rfl⟩
 | true =>
  refine gg ?_;refine cR (we ak) ?_
  cases hz2 : sizB ak with
  | false =>
   rw [if_pos (by rfl)];refine gg ?_;refine zf (vs := [sT [],.int .i64 4]) [P] ⟨rfl,rfl⟩
  | true =>
   refine gg ?_
   by_cases hz3 : (ap.length : Int) = 32
   ·rw [bne_eq_false_iff_eq.2 hz3,if_neg (by rw [dT hz3];simp)];refine gg ?_;refine cdLg [[0],[1],[2],[3],[4],[5],[6],[7],[8],[9],[10],[11],[12],[13],[14],[15],[19],[20],[21],[22],[23],[16,0,1,4,7,10,20,23],[17,0,1,4,7,10,20,23],[18],[24,0,1,4,7,10,20],[25],[26,0],[27,0]] ?_;refine qF ?_;rw [zX (ps := [(0,.string ⟨#[117,115,101,114,110,97,109,101]⟩),(1,sT au),(2,.bool true)]) (cs := (encP ⟨xS,au,true⟩).toArray) rfl];refine gg ?_;refine qF ?_;rw [zX (ps := [(0,.string ⟨#[114,101,97,108,109]⟩),(1,sT ar),(2,.bool true)]) (cs := (encP ⟨zA,ar,true⟩).toArray) rfl];refine gg ?_;refine qF ?_;rw [zX (ps := [(0,.string ⟨#[110,111,110,99,101]⟩),(1,sT an),(2,.bool true)]) (cs := (encP ⟨zv,an,true⟩).toArray) rfl];refine gg ?_;refine qF ?_;rw [zX (ps := [(0,.string ⟨#[117,114,105]⟩),(1,sT ai),(2,.bool true)]) (cs := (encP ⟨nUri,ai,true⟩).toArray) rfl];refine gg ?_;refine qF ?_;rw [zX (ps := [(0,.string ⟨#[113,111,112]⟩),(1,.string ⟨#[97,117,116,104]⟩),(2,.bool false)]) (cs := (encP ⟨nQop,jb,false⟩).toArray) rfl];refine gg ?_;refine qF ?_;rw [zX (ps := [(0,.string ⟨#[99,110,111,110,99,101]⟩),(1,sT ak),(2,.bool true)]) (cs := (encP ⟨zN,ak,true⟩).toArray) rfl];refine gg ?_;have hbb := jS ac.toNat 4 oM dM;rw [ZQ] at hbb;refine dA (hbb) ?_;rintro v A ⟨B,ba,bk,rfl,hB,rfl⟩;refine pC ?_;refine dR (vq B ba bk (xH ac) (by rw [show (xH ac).length = 4 from rfl];decide) (hB.rd (aA ..))) ?_;refine qF ?_;rw [zX (ps := [(0,.string ⟨#[110,99]⟩),(1,sT (hex (xH ac))),(2,.bool false)]) (cs := (encP ⟨nNc,hex (xH ac),false⟩).toArray) rfl];refine gg ?_;refine dR (vq P pa pk ap oM hP) ?_;refine qF ?_;rw [zX (ps := [(0,.string ⟨#[114,101,115,112,111,110,115,101]⟩),(1,sT (hex ap)),(2,.bool true)]) (cs := (encP ⟨zR,hex ap,true⟩).toArray) rfl];refine gg ?_;refine zG ?_;refine ZR (n := 8) (e := 137) (s := 3) (hs := inferInstance) [encP ⟨xS,au,true⟩,encP ⟨zA,ar,true⟩,encP ⟨zv,an,true⟩,encP ⟨nUri,ai,true⟩,encP ⟨nQop,jb,false⟩,encP ⟨nNc,hex (xH ac),false⟩,encP ⟨zN,ak,true⟩,encP ⟨zR,hex ap,true⟩] (by rfl) rfl dM dM dM (by intro r hr;simp only [aY,aT,or_false] at hr;rcases hr with rfl | rfl | rfl | rfl | rfl | rfl | rfl | rfl <;> rfl) (fun b2 C2 ho2 => ?_);refine pD ?_
    have hX2 : OwnR C2 (some ⟨b2,0,none⟩) 8 [(⟨xS,au,true⟩ : Par),⟨zA,ar,true⟩,⟨zv,an,true⟩,⟨nUri,ai,true⟩,⟨nQop,jb,false⟩,⟨nNc,hex (xH ac),false⟩,⟨zN,ak,true⟩,⟨zR,hex ap,true⟩] := ho2;clear ho2;rw [show Value.slice (some ⟨b2,0,none⟩) 8 8 = .slice (some ⟨b2,0,none⟩) ([(⟨xS,au,true⟩ : Par),⟨zA,ar,true⟩,⟨zv,an,true⟩,⟨nUri,ai,true⟩,⟨nQop,jb,false⟩,⟨nNc,hex (xH ac),false⟩,⟨zN,ak,true⟩,⟨zR,hex ap,true⟩] : List Par).length 8 from rfl];have hl0 : ([(⟨xS,au,true⟩ : Par),⟨zA,ar,true⟩,⟨zv,an,true⟩,⟨nUri,ai,true⟩,⟨nQop,jb,false⟩,⟨nNc,hex (xH ac),false⟩,⟨zN,ak,true⟩,⟨zR,hex ap,true⟩] : List Par).length = 8 := rfl;generalize ([(⟨xS,au,true⟩ : Par),⟨zA,ar,true⟩,⟨zv,an,true⟩,⟨nUri,ai,true⟩,⟨nQop,jb,false⟩,⟨nNc,hex (xH ac),false⟩,⟨zN,ak,true⟩,⟨zR,hex ap,true⟩] : List Par) = l0 at *;generalize (some ⟨b2,0,none⟩ : OA) = a2 at *;refine gg ?_;refine zO (fun D L S => ∃ (X3 : zd) (a3 : OA) (k3 : Nat),OwnR X3 a3 k3 (l0 ++ opqP ao) /\ D = [] /\ L = [(4,.slice a3 (l0 ++ opqP ao).length k3),(1,pT b1)] /\ S = [X3,[(b1,.cells (encA ⟨au,ar,an,ai,ak,ao,ac,ap⟩ pa pk).toArray 56 (0,0))],F,P]) ?_ ?_
    ·by_cases hs : ao = []
     ·have ho : opqP ao = [] := if_pos hs;rw [ho,aL,bne_eq_false_iff_eq.2 hs];refine gg ?_;exact mid ⟨C2,a2,8,hX2,rfl,rfl,rfl⟩
     ·have ho : opqP ao = [⟨zt,ao,true⟩] := if_neg hs;rw [ho,bne_iff_ne.2 hs];refine gg ?_;refine oTg [(0,.string ⟨#[111,112,97,113,117,101]⟩),(1,(sT ao)),(2,.bool true)] (encP ⟨zt,ao,true⟩).toArray ?_;refine zF ?_;refine xt (e := 137) (s := 3) (hs := inferInstance) (vs := encP (⟨zt,ao,true⟩ : Par)) (by rfl) dM dM rfl (fun b5 C5 ho5 => ?_);refine zF ?_;refine zu (e := 137) (s := 3) (hs := inferInstance) (by rfl) dM hX2 (.inr pkA) (ho5.rd mmA) (xw _) (by simp only [maxLen];omega) oM (fun X5 a5 k5 hX5 => ?_);have e1 : (l0).length + 1 = (l0 ++ [(⟨zt,ao,true⟩ : Par)]).length := sM;have e2 : (l0).flatMap encP ++ encP (⟨zt,ao,true⟩ : Par) = (l0 ++ [(⟨zt,ao,true⟩ : Par)]).flatMap encP := sM;rw [e1,e2] at hX5;rw [e1];clear e1 e2;refine gg ?_;exact mid ⟨X5,a5,k5,hX5,rfl,rfl,rfl⟩
    rintro D L S ⟨X3,a3,k3,hX3,rfl,rfl,rfl⟩;have hl3 : (l0 ++ opqP ao).length <= 9 := by rw [aB];unfold opqP;split <;> simp <;> omega
    generalize l0 ++ opqP ao = l1 at *;refine gg ?_;refine oTg [(0,.string ⟨#[97,108,103,111,114,105,116,104,109]⟩),(1,(.string ⟨#[83,72,65,45,50,53,54]⟩)),(2,.bool false)] (encP ⟨nAlg,nSum,false⟩).toArray ?_;refine zF ?_;refine xt (e := 137) (s := 3) (hs := inferInstance) (vs := encP (⟨nAlg,nSum,false⟩ : Par)) (by rfl) dM dM rfl (fun b6 C6 ho6 => ?_);refine zF ?_;refine zu (e := 137) (s := 3) (hs := inferInstance) (by rfl) dM hX3 (.inr pkA) (ho6.rd mmA) (xw _) (by simp only [maxLen];omega) oM (fun X6 a6 k6 hX6 => ?_);have e1 : (l1).length + 1 = (l1 ++ [(⟨nAlg,nSum,false⟩ : Par)]).length := sM;have e2 : (l1).flatMap encP ++ encP (⟨nAlg,nSum,false⟩ : Par) = (l1 ++ [(⟨nAlg,nSum,false⟩ : Par)]).flatMap encP := sM;rw [e1,e2] at hX6;rw [e1];clear e1 e2;rw [<- hcp] at hX6 ⊢;refine cR (Jn hX6 hcl hcb) ?_;refine zf (vs := [sT (jB (wQ ⟨au,ar,an,ai,ak,ao,ac,ap⟩)).1,.int .i64 (jB (wQ ⟨au,ar,an,ai,ak,ao,ac,ap⟩)).2]) [P] ⟨rfl,rfl⟩
   ·rw [bne_iff_ne.2 hz3,if_pos (by rw [dF hz3];rfl)];refine gg ?_;refine zf (vs := [sT [],.int .i64 4]) [P] ⟨rfl,rfl⟩
end Go.Proofs.YtebikhhoppiapaaGreatDoor
namespace Go.Proofs.YtebikhhoppiapaaGreatDoor
open Go Go.Ost Go.Sha
theorem IH : ∀ k < 16,dv (xB.getD k 0) = k := by decide +kernel
theorem de : ∀ l : L8,uhF (hex l) = some l
 | [] => rfl
 | b :: l => by
  have hb := b.toNat_lt;have e : hex (b :: l) = xB.getD (b.toNat / 16) 0 :: xB.getD (b.toNat % 16) 0 :: hex l := rfl;rw [e,uhF,IH _ oM,IH _ oM,if_neg oM,de l]
  show some (aG _ :: l) = _
  congr 2
  rw [show 16 * ((b.toNat / 16 : Nat) : Int).toNat + ((b.toNat % 16 : Nat) : Int).toNat = b.toNat from oM]
  simp
theorem db (l : L8) : uhE (hex l) = (l,0) := by
 unfold uhE;rw [if_neg (by rw [jK];omega),de]
theorem num_hex (x : W) : numE (hex (xH x)) = (x,true) := by
 unfold numE;rw [db,jK]
 have hw : numW (xH x) = x := by
  have h := x.isLt;rw [<- Ic]
  apply BitVec.eq_of_toNat_eq
  rw [lU]
  show ((((0 * 256 + (aG (x.toNat / 16777216)).toNat) * 256 + (aG (x.toNat / 65536)).toNat) * 256 + (aG (x.toNat / 256)).toNat) * 256 + (aG x.toNat).toNat) % 2 ^ 32 = _
  simp only [iO];omega
 rw [hw];rfl
theorem pa_good (a : An) (hok : anOk a = true) : paL (wQ a) = (a,0) := by
 obtain ⟨u,r,n,uri,cn,o,nc,pf⟩ := a;unfold anOk at hok;simp only [aM] at hok;obtain ⟨hs1,hs2,hs3⟩ := hok;have hc : wQ ⟨u,r,n,uri,cn,o,nc,pf⟩ = [(⟨xS,u,true⟩ : Par),⟨zA,r,true⟩,⟨zv,n,true⟩,⟨nUri,uri,true⟩,⟨nQop,jb,false⟩,⟨nNc,hex (xH nc),false⟩,⟨zN,cn,true⟩,⟨zR,hex pf,true⟩] ++ opqP o ++ [⟨nAlg,nSum,false⟩] := rfl
 have key : ∀ l : List Par,hasB l xS = true -> gotP l xS = ⟨xS,u,true⟩ -> hasB l zA = true -> gotP l zA = ⟨zA,r,true⟩ -> hasB l zv = true -> gotP l zv = ⟨zv,n,true⟩ -> hasB l nUri = true -> gotP l nUri = ⟨nUri,uri,true⟩ -> hasB l nQop = true -> gotP l nQop = ⟨nQop,jb,false⟩ -> hasB l nNc = true -> gotP l nNc = ⟨nNc,hex (xH nc),false⟩ -> hasB l zN = true -> gotP l zN = ⟨zN,cn,true⟩ -> hasB l zR = true -> gotP l zR = ⟨zR,hex pf,true⟩ -> hasB l nAlg = true -> gotP l nAlg = ⟨nAlg,nSum,false⟩ -> (gotP l zt).v = o -> (hasB l zt = true -> (gotP l zt).q = true) -> paL l = (⟨u,r,n,uri,cn,o,nc,pf⟩,0) := by
  intro l a0 b0 a1 b1 a2 b2 a3 b3 a4 b4 a5 b5 a6 b6 a7 b7 a8 b8v o1 o2
  have hf : paF l = (false,false) := by
   unfold paF comF
   have g : ∀ (m v : L8) (q : Bool),hasB l m = true -> gotP l m = ⟨m,v,q⟩ -> getF l m q (false,false) = (false,false) := by
    intro m v q h1 h2;unfold getF;rw [h1,h2];simp
   have f : ∀ b : Bool,b = true -> wo b (false,false) = (false,false) := by
    intro b h;rw [h];rfl
   rw [g _ _ _ a0 b0,g _ _ _ a1 b1,g _ _ _ a2 b2,f _ (by rw [b2];exact hs1),g _ _ _ a3 b3,g _ _ _ a6 b6,f _ (by rw [b6];exact hs2)]
   have m1 : mayF l zt true (false,false) = (false,false) := by
    unfold mayF
    split
    ·rename_i h;unfold getF;rw [h,o2 h];rfl
    ·rfl
   rw [m1,g _ _ _ a4 b4,f _ (by rw [b4];exact beq_self_eq_true _),g _ _ _ a8 b8v,f _ (by rw [b8v];exact beq_self_eq_true _),g _ _ _ a5 b5,f _ (by rw [b5,num_hex]),g _ _ _ a7 b7];exact f _ (by unfold Zz;rw [b7,db];simpa using hs3)
  unfold paL anL;rw [hf,if_neg dM,b0,b1,b2,b3,b5,b6,b7,o1,num_hex,db]
 rw [hc]
 cases o with
 | nil => exact key _ kM kM kM kM kM kM kM kM kM kM kM kM kM kM kM kM kM kM kM (fun h => absurd h (dM : ¬ (false = true)))
 | cons a o =>
  have ho : opqP (a :: o) = [⟨zt,a :: o,true⟩] := if_neg sM;rw [ho];exact key _ kM kM kM kM kM kM kM kM kM kM kM kM kM kM kM kM kM kM kM (fun _ => kM)
theorem pa_back {a : An} (h : (vZ a).2 = 0) : paE (vZ a).1 = (a,0) /\ (vZ a).1.length <= 4096 := by
 unfold vZ at h ⊢
 cases hs : anOk a with
 | false => rw [if_pos hs] at h;cases h
 | true =>
  have hs' : ¬ anOk a = false := by rw [hs];simp
  rw [if_neg hs'] at h
  (first | rw [if_neg hs'] | rw [if_neg (dM : ¬ (true = false))])
  refine ⟨?_,eM h⟩;unfold paE;rw [YX h,if_neg sM];exact pa_good a hs
open Go.Nam Go.Tab _root_.Go.Proofs.Tryz
theorem st_split {K : zd} {s : Nat} {us us1 us2 : List PU} {u : PU} {last reads : Int} (h : IsSt K s us last reads) (hus : us = us1 ++ u :: us2) (hun : ∀ y ∈ us1,y.n ≠ u.n) :
  ∃ (r1 r2 p : Nat) (M1 M2 B U1 U2 : zd) (m : List (L8 × Value)) (vs : LV),jg M1 r1 (tenM r2) /\ jg M2 r2 m /\ mget m u.n = some (pT p) /\ SecW B vs u.sec /\
   K = stB s r1 last reads ++ (M1 ++ (M2 ++ (U1 ++ (crB p u.n vs u.gen u.rev ++ (B ++ U2))))) /\ ∀ reads',IsSt (stB s r1 last reads' ++ (M1 ++ (M2 ++ (U1 ++ (crB p u.n vs u.gen u.rev ++ (B ++ U2)))))) s us last reads' := by
 obtain ⟨r1,r2,M1,M2,cs,hc,h1,h2,hs,rfl⟩ := h;rw [hus] at hc;obtain ⟨c1,l,rfl,e1,e2⟩ := List.map_eq_append_iff.1 hc;obtain ⟨c,c2,rfl,rfl,e3⟩ := List.map_eq_cons_iff.1 e2;have hfl : (c1 ++ c :: c2).flatMap CU.C = c1.flatMap CU.C ++ (crB c.p c.u.n c.vs c.u.gen c.u.rev ++ (c.W ++ c2.flatMap CU.C)) := by simp [lI,CU.C]
 refine ⟨r1,r2,c.p,M1,M2,c.W,c1.flatMap CU.C,c2.flatMap CU.C,mU (c1 ++ c :: c2),c.vs,h1,h2,?_,hs c sM,by rw [hfl],fun r' => ⟨r1,r2,M1,M2,c1 ++ c :: c2,by rw [hus];exact hc,h1,h2,hs,by rw [hfl]⟩⟩;clear hc hs h2 hfl hus;subst e1
 induction c1 with
 | nil => simp [mU,mget]
 | cons d c1 ih =>
  have hd := hun d.u sM;have hi := ih (fun y hy => hun y (by simp only [iB,aY];exact .inr hy));simp only [mU,aC,iB,mget] at hi ⊢;rw [if_neg (fun e => hd e.symm)];exact hi
theorem qchal2 {NT : zd} {k b s q : Nat} {iter ch : Int} {n : NS} (h : ZW (some ⟨q,0,none⟩) NT (some n)) (hser : n.ser < 1000) (d : L8) (hd : d.length <= 1000) (st : Bool) (now : Int) (hn : now < 18446744073709551616) (hn0 : 0 <= now) (hln : (zT n d now).1.1.length <= 4000) :
  zh prog 8 [pT k,sT d,.bool st,.int .u64 now] [quB k b s q iter [116] ch,NT]
  fun v A => ∃ NT',v = (if (zT n d now).1.2 = 0 then .tuple #[sT (qA ⟨[116],(zT n d now).1.1,[],st⟩).1,.int .i64 (qA ⟨[116],(zT n d now).1.1,[],st⟩).2] else .tuple #[sT [],.int .i64 (zT n d now).1.2]) /\ ZW (some ⟨q,0,none⟩) NT' (some (zT n d now).2) /\ A = [quB k b s q iter [116] ch,NT'] := by
 obtain ⟨q',tb,T1,hs,hT,hq,rfl⟩ := h;simp only [Option.some.injEq,Addr.mk.injEq,and_true] at hq;subst hq;refine zh.conv [quB k b s q iter [116] ch,nB q tb n,T1] (bK hs hser hT d hd st now hn hn0 hln) flA tkA ?_;rintro v A ⟨T',rfl,hT',rfl⟩;exact ⟨[quB k b s q iter [116] ch,nB q tb (zT n d now).2 ++ T'],[quB k b s q iter [116] ch,nB q tb (zT n d now).2,T'],flA,amA,_,rfl,⟨q,tb,T',Ia hs hser d now hn0,by rw [ci];exact hT',rfl,rfl⟩,rfl⟩
theorem qans2 {qk bx_ s q : Nat} {iter ch last reads : Int} {C K NT G : zd} {us us1 us2 : List PU} {u : PU} {w : L8} {x : BX} {ns : NS} (hg : jJ G) (hn : GNam G) (hC : vg C bx_ x) (hts : x.ts.length <= 800) (hSt : IsSt K s us last reads) (hus : us = us1 ++ u :: us2) (hun : ∀ y ∈ us1,y.n ≠ u.n) (hrev : u.rev = false) (hsz : xg w 32 = (u.n,0)) (hwl : w.length <= 4096) (hNT : ZW (some ⟨q,0,none⟩) NT (some ns)) (hr0 : 0 <= reads) (hr1 : reads < 1000000) (hch0 : 0 <= ch) (hch1 : ch < 1000000)
  (hd nn tgt cn o pf mt : L8) (nc : W) (hpa : paE hd = (⟨w,[116],nn,tgt,cn,o,nc,pf⟩,0)) (hdl : hd.length <= 100000) (hnnl : nn.length <= 4096) (htl : tgt.length <= 4096) (hcl : cn.length <= 4096) (hpl : pf.length <= 4096) (hml : mt.length <= 1000) (now : Int) (hn0 : 0 <= now) (hnow : now < 18446744073709551616) :
  zh prog 12 [pT qk,.agg #[sT mt,sT tgt,sT hd],.int .u64 now] [quB qk bx_ s q iter [116] ch,C,K,NT,G]
  fun v A => ∃ (C' K' NT' : zd) (vs' rv : LV),v = .tuple #[.agg rv.toArray,.int .i64 (ansE x ns u.sec mt ⟨w,[116],nn,tgt,cn,o,nc,pf⟩ now)] /\ (rv.length = 12 /\ ∀ u ∈ rv,Value.cell1 u) /\ ((ansE x ns u.sec mt ⟨w,[116],nn,tgt,cn,o,nc,pf⟩ now = 0 -> rv = kT u.n vs' u.gen false ++ [sT nn,b32 nc]) /\ (ansE x ns u.sec mt ⟨w,[116],nn,tgt,cn,o,nc,pf⟩ now ≠ 0 -> rv = zRes)) /\ vs'.length = 5 /\
   vg C' bx_ (qm x u.sec.ha mt ⟨w,[116],nn,tgt,cn,o,nc,pf⟩).2 /\ IsSt K' s us last (reads + 1) /\ ZW (some ⟨q,0,none⟩) NT' (some (ansN x ns u.sec mt ⟨w,[116],nn,tgt,cn,o,nc,pf⟩ now)) /\ A = [quB qk bx_ s q iter [116] (ch + 1),C',K',NT',G] := by
 obtain ⟨r1,r2,p,M1,M2,B,U1,U2,m,vs,h1,h2,hm,hW,rfl,hback⟩ := st_split hSt hus hun;obtain ⟨q',tb,T1,hs,hT,hq,rfl⟩ := hNT;simp only [Option.some.injEq,Addr.mk.injEq,and_true] at hq;subst hq;obtain ⟨hst,hnl⟩ := yy hsz;have hq := eJ (qk := qk) (s := s) (q := q) (iter := iter) (ch := ch) (last := last) (gen := u.gen) hg hn hC hts hs hT h1 h2 hr0 hr1 hch0 hch1 hd w u.n nn tgt cn o pf mt nc hpa hdl hwl hnnl htl hcl hpl hml hsz hst hnl hm hW now hn0 hnow
 have hroom : (ansN x ns u.sec mt ⟨w,[116],nn,tgt,cn,o,nc,pf⟩ now).room = ns.room := by
  unfold ansN;split
  ·exact use_room _ _ _ _
  ·rfl
 have hok : NOk (ansN x ns u.sec mt ⟨w,[116],nn,tgt,cn,o,nc,pf⟩ now) := by
  unfold ansN;split
  ·exact ok_use hs _ _ oM _
  ·exact hs
 rw [hrev] at hback ⊢;refine zh.conv [quB qk bx_ s q iter [116] ch,C,stB s r1 last reads,M1,M2,U1,crB p u.n vs u.gen false,B,U2,nB q tb ns,T1,G] (hq) flA tkA ?_;rintro v A ⟨C',T',B',vs',rv,rfl,hrv,hres,hvl,hC',hT',rfl⟩;exact ⟨[quB qk bx_ s q iter [116] (ch + 1),C',stB s r1 last (reads + 1) ++ (M1 ++ (M2 ++ (U1 ++ (crB p u.n vs u.gen false ++ (B ++ U2))))),nB q tb (ansN x ns u.sec mt ⟨w,[116],nn,tgt,cn,o,nc,pf⟩ now) ++ T',G],[quB qk bx_ s q iter [116] (ch + 1),C',stB s r1 last (reads + 1),M1,M2,U1,crB p u.n vs u.gen false,B,U2,nB q tb (ansN x ns u.sec mt ⟨w,[116],nn,tgt,cn,o,nc,pf⟩ now),T',G],flA,amA,C',_,_,vs',rv,rfl,hrv,hres,hvl,hC',hback _,⟨q,tb,T',hok,by rw [hroom];exact hT',rfl,rfl⟩,rfl⟩
def getU (us : List PU) (n : L8) : Option PU := us.find? fun u => u.n == n
theorem wn {n : L8} {u : PU} : ∀ {us : List PU},getU us n = some u -> ∃ us1 us2,us = us1 ++ u :: us2 /\ (∀ y ∈ us1,y.n ≠ u.n) /\ u.n = n
 | [],h => by cases h
 | v :: us,h => by
  unfold getU at h;rw [List.find?_cons] at h
  split at h
  ·rename_i e
   cases h
   exact ⟨[],us,rfl,(fun _ h => nomatch h),by simpa using e⟩
  ·rename_i e
   obtain ⟨us1,us2,rfl,h1,h2⟩ := wn (us := us) h;refine ⟨v :: us1,us2,rfl,fun y hy => ?_,h2⟩
   rcases List.mem_cons.1 hy with rfl | hy
   ·intro e2;rw [h2] at e2
    simp [e2] at e
   ·exact h1 y hy
theorem ZL {n : L8} {us : List PU} (h : getU us n = none) : ∀ y ∈ us,y.n ≠ n := by
 intro y hy e;have := List.find?_eq_none.1 h y hy
 simp [e] at this
theorem Kz {K : zd} {s : Nat} {us1 us2 : List PU} {u : PU} {last reads : Int} (h : IsSt K s (us1 ++ u :: us2) last reads) (hun : ∀ y ∈ us1,y.n ≠ u.n) :
  ∃ (r1 r2 p : Nat) (M1 M2 B U1 U2 : zd) (m : List (L8 × Value)) (vs : LV),jg M1 r1 (tenM r2) /\ jg M2 r2 m /\ mget m u.n = some (pT p) /\ SecW B vs u.sec /\
   K = stB s r1 last reads ++ (M1 ++ (M2 ++ (U1 ++ (crB p u.n vs u.gen u.rev ++ (B ++ U2))))) /\ ∀ last' reads' g rv,IsSt (stB s r1 last' reads' ++ (M1 ++ (M2 ++ (U1 ++ (crB p u.n vs g rv ++ (B ++ U2)))))) s (us1 ++ ⟨u.n,u.sec,g,rv⟩ :: us2) last' reads' := by
 obtain ⟨r1,r2,M1,M2,cs,hc,h1,h2,hs,rfl⟩ := h;obtain ⟨c1,l,rfl,e1,e2⟩ := List.map_eq_append_iff.1 hc;obtain ⟨c,c2,rfl,rfl,e3⟩ := List.map_eq_cons_iff.1 e2;have hfl : ∀ d : CU,(c1 ++ d :: c2).flatMap CU.C = c1.flatMap CU.C ++ (crB d.p d.u.n d.vs d.u.gen d.u.rev ++ (d.W ++ c2.flatMap CU.C)) := fun d => by simp [lI,CU.C]
 refine ⟨r1,r2,c.p,M1,M2,c.W,c1.flatMap CU.C,c2.flatMap CU.C,mU (c1 ++ c :: c2),c.vs,h1,h2,?_,hs c sM,by rw [hfl],fun l' r' g rv => ⟨r1,r2,M1,M2,c1 ++ ⟨⟨c.u.n,c.u.sec,g,rv⟩,c.p,c.vs,c.W⟩ :: c2,by simp [e1,e3],h1,?_,?_,by rw [hfl]⟩⟩
 ·clear hc hs h2 hfl;subst e1
  induction c1 with
  | nil => simp [mU,mget]
  | cons d c1 ih =>
   have hd := hun d.u sM;have hi := ih (fun y hy => hun y (by simp only [iB,aY];exact .inr hy));simp only [mU,aC,iB,mget] at hi ⊢;rw [if_neg (fun e => hd e.symm)];exact hi
 ·simpa [mU] using h2
 ·intro d hd
  rcases List.mem_append.1 hd with hd | hd
  ·exact hs d (by simp [hd])
  ·rcases List.mem_cons.1 hd with rfl | hd
   ·exact hs c sM
   ·exact hs d (by simp [hd])
def revU (us : List PU) (u : L8) (on : Bool) (last : Int) : Int × List PU × Int :=
 if (xg u 32).2 = 0 then (match getU us (xg u 32).1 with
  | some p => (0,us.map (fun y => if y.n = p.n then ⟨y.n,y.sec,last + 1,on⟩ else y),last + 1)
  | none => (6,us,last)) else (6,us,last)
def Kn (us : List PU) : Prop := (us.map PU.n).Nodup
theorem fz {us1 us2 : List PU} {u : PU} {f : PU -> PU} (h : Kn (us1 ++ u :: us2)) : (us1 ++ u :: us2).map (fun y => if y.n = u.n then f y else y) = us1 ++ f u :: us2 := by
 unfold Kn at h;rw [lL,iB,List.nodup_append] at h;obtain ⟨_,h2,h3⟩ := h;rw [List.nodup_cons] at h2
 have e1 : us1.map (fun y => if y.n = u.n then f y else y) = us1 := by
  conv => rhs;rw [<- List.map_id us1]
  refine List.map_congr_left fun y hy => ?_
  rw [if_neg];rfl;intro e;exact h3 y.n (mH hy) u.n (aA ..) e
 have e2 : us2.map (fun y => if y.n = u.n then f y else y) = us2 := by
  conv => rhs;rw [<- List.map_id us2]
  refine List.map_congr_left fun y hy => ?_
  rw [if_neg];rfl;intro e;exact h2.1 (e ▸ mH hy)
 rw [lL,iB,e1,e2,if_pos rfl]
theorem UG {K : zd} {s : Nat} {us : List PU} {last reads : Int} (h : IsSt K s us last reads) : zh prog 24 [pT s] [K] fun v A => v = .int .u64 reads /\ A = [K] := by
 obtain ⟨r1,r2,M1,M2,cs,hc,h1,h2,hs,rfl⟩ := h
 have hh : zh prog 24 [pT s] [stB s r1 last reads] fun v A => v = .int .u64 reads /\ A = [stB s r1 last reads] := by
  refine eNg func24 ntmps24 results24 fun F => ?_
  refine ze [stB s r1 last reads] ?_;exact ⟨rfl,rfl⟩
 refine zh.conv [stB s r1 last reads,M1,M2,cs.flatMap CU.C] (hh) flA tkA ?_;rintro v A ⟨rfl,rfl⟩;exact ⟨[stB s r1 last reads ++ (M1 ++ (M2 ++ cs.flatMap CU.C))],[stB s r1 last reads,M1,M2,cs.flatMap CU.C],flA,amA,rfl,rfl⟩
theorem KT {k b s q : Nat} {iter ch : Int} (t : L8) : zh prog 16 [pT k] [quB k b s q iter t ch] fun v A => v = .int .u64 ch /\ A = [quB k b s q iter t ch] := by
 refine eNg func16 ntmps16 results16 fun F => ?_
 refine ze [quB k b s q iter t ch] ?_;exact ⟨rfl,rfl⟩
theorem WI {K G : zd} {s : Nat} {us : List PU} {last reads : Int} (hn : GNam G) (hSt : IsSt K s us last reads) (hd : Kn us) (hl0 : 0 <= last) (hl1 : last < 1000) (u : L8) (hu : u.length <= 100000) (on : Bool) :
  zh prog 18 [pT s,sT [116],sT u,.bool on] [K,G]
  fun v A => ∃ K',v = .int .i64 (revU us u on last).1 /\ IsSt K' s (revU us u on last).2.1 (revU us u on last).2.2 reads /\ A = [K',G] := by
 unfold revU
 by_cases h0 : (xg u 32).2 = 0
 ·rw [if_pos h0]
  cases hg : getU us (xg u 32).1 with
  | some p =>
   obtain ⟨us1,us2,rfl,hun,hpn⟩ := wn hg;obtain ⟨r1,r2,pp,M1,M2,B,U1,U2,m,vs,h1,h2,hm,hW,rfl,hback⟩ := Kz hSt hun;have hgt := ZK (s := s) (last := last) (reads := reads) hn h1 h2 u hu;rw [if_pos h0,<- hpn,hm,iR] at hgt;simp only;rw [fz hd]
   have hh : zh prog 18 [pT s,sT [116],sT u,.bool on] [stB s r1 last reads,M1,M2,G,crB pp p.n vs p.gen p.rev]
     fun v A => v = .int .i64 0 /\ A = [stB s r1 (last + 1) reads,M1,M2,G,crB pp p.n vs (last + 1) on] := by
    have hvl := (qB hW).1;obtain ⟨a0,a1,a2,a3,c0,c1,c2,c3,rfl,_⟩ := hW;have htc := Xu (s := s) (r1 := r1) (p := pp) (reads := reads) (gen := p.gen) (n := p.n) (rev := on) hvl hl0 oM;simp only [kT,crB,aC,aD] at htc ⊢;refine eNg func18 ntmps18 results18 fun F => ?_
    refine cR (hgt) ?_;rw [dF (oM : ¬ (9007199254740992 : Int) <= last)];refine gg ?_;refine gM ?_;refine cR (htc) ?_;refine ze [stB s r1 (last + 1) reads,M1,M2,G,[(pp,.cells ([sT [116],sT p.n,.slice a0 1 c0,.int .i64 1,.slice a1 p.sec.st.length c1,.slice a2 p.sec.sv.length c2,.slice a3 p.sec.ha.length c3,.int .u64 (last + 1),nS,.bool on] : LV).toArray 48 (0,0))]] ?_;exact ⟨rfl,rfl⟩
   refine zh.conv [stB s r1 last reads,M1,M2,U1,crB pp p.n vs p.gen p.rev,B,U2,G] (hh) flA tkA ?_;rintro v A ⟨rfl,rfl⟩;exact ⟨[stB s r1 (last + 1) reads ++ (M1 ++ (M2 ++ (U1 ++ (crB pp p.n vs (last + 1) on ++ (B ++ U2))))),G],[stB s r1 (last + 1) reads,M1,M2,U1,crB pp p.n vs (last + 1) on,B,U2,G],flA,amA,_,rfl,hback _ _ _ _,rfl⟩
  | none =>
   have hno := ZL hg;obtain ⟨r1,r2,M1,M2,cs,rfl,h1,h2,hs,rfl⟩ := hSt;have hgt := ZK (s := s) (last := last) (reads := reads) hn h1 h2 u hu;rw [if_pos h0,VO cs (fun c hc => hno c.u (mH hc)),Option.getD_none] at hgt
   have hh : zh prog 18 [pT s,sT [116],sT u,.bool on] [stB s r1 last reads,M1,M2,G]
     fun v A => v = .int .i64 6 /\ A = [stB s r1 last reads,M1,M2,G] := by
    refine eNg func18 ntmps18 results18 fun F => ?_
    refine cR (hgt) ?_;refine ze [stB s r1 last reads,M1,M2,G] ?_;exact ⟨rfl,rfl⟩
   refine zh.conv [stB s r1 last reads,M1,M2,cs.flatMap CU.C,G] (hh) flA tkA ?_;rintro v A ⟨rfl,rfl⟩;exact ⟨[stB s r1 last reads ++ (M1 ++ (M2 ++ cs.flatMap CU.C)),G],[stB s r1 last reads,M1,M2,cs.flatMap CU.C,G],flA,amA,_,rfl,⟨r1,r2,M1,M2,cs,rfl,h1,h2,hs,rfl⟩,rfl⟩
 ·rw [if_neg h0];obtain ⟨r1,r2,M1,M2,cs,rfl,h1,h2,hs,rfl⟩ := hSt;have hgt := ZK (s := s) (last := last) (reads := reads) hn h1 h2 u hu;rw [if_neg h0] at hgt
  have hh : zh prog 18 [pT s,sT [116],sT u,.bool on] [stB s r1 last reads,M1,M2,G]
    fun v A => v = .int .i64 6 /\ A = [stB s r1 last reads,M1,M2,G] := by
   refine eNg func18 ntmps18 results18 fun F => ?_
   refine cR (hgt) ?_;refine ze [stB s r1 last reads,M1,M2,G] ?_;exact ⟨rfl,rfl⟩
  refine zh.conv [stB s r1 last reads,M1,M2,cs.flatMap CU.C,G] (hh) flA tkA ?_;rintro v A ⟨rfl,rfl⟩;exact ⟨[stB s r1 last reads ++ (M1 ++ (M2 ++ cs.flatMap CU.C)),G],[stB s r1 last reads,M1,M2,cs.flatMap CU.C,G],flA,amA,_,rfl,⟨r1,r2,M1,M2,cs,rfl,h1,h2,hs,rfl⟩,rfl⟩
theorem bE {s : Nat} {ta la : OA} {tc lc : Nat} {last reads : Int} {CL : zd} {ds : List CD} (hds : ds.length <= 100) (hok : ∀ d ∈ ds,d.ok) (hL : OwnC CL la lc ds) (i : Nat) (hi : i < ds.length) (c : CD) (hc : c.ok) (hl0 : 0 <= last) (hl1 : last < 1000) :
  zh prog 61 [pT s,.int .i64 i,.agg c.v.toArray] [rsB s ta 1 tc la ds.length lc last reads,CL]
  fun v A => ∃ la' lc' CL',v = .int .i64 0 /\ OwnC CL' la' lc' (ds.set i ⟨c.n,c.v0,c.v1,c.v2,c.v3,c.v4,last + 1,c.rev⟩) /\ A = [rsB s ta 1 tc la' ds.length lc' (last + 1) reads,CL'] := by
 have hs := QZ;obtain ⟨cn,v0,v1,v2,v3,v4,cg,cr⟩ := c;simp only [CD.v] at *;refine eNg func61 ntmps61 results61 fun F => ?_
 refine oBg fun b5 => ?_
 rw [dF (oM : ¬ (9007199254740992 : Int) <= last)];refine gg ?_;refine gM ?_;refine zF ?_;refine jD fun b0 C0 ho0 => ?_
 refine gg ?_;have hr0 : Rd 10 [CL] la ds.length (ds.flatMap CD.v) := hL.rd (aA ..);refine zF ?_;refine zu (e := 84) (s := 10) (hs := inferInstance) (by rfl) dM ho0 (.inr pkA) (hr0.mem mmA) (VU hok) (by simp only [maxLen];omega) oM (fun C2 a2 c2 ho2 => ?_);rw [aD,iT] at ho2
 (try rw [iT])
 refine gg ?_;refine gM ?_
 have hcok : (⟨cn,v0,v1,v2,v3,v4,last + 1,cr⟩ : CD).ok := by
  intro v hv
  by_cases e : v = .int .u64 (last + 1)
  ·subst e;simp [Value.cell1]
  ·refine hc v ?_;simp only [CD.v,aY,aT,or_false] at hv ⊢
   rcases hv with h | h | h | h | h | h | h | h | h | h <;> first | exact absurd h e | simp [h]
 refine cdLg [[0],[1],[2],[3],[4],[5],[6],[7,0]] ?_;refine qF ?_;refine zz (vs := (⟨cn,v0,v1,v2,v3,v4,last + 1,cr⟩ : CD).v) lkA rfl ?_;refine gg ?_;refine zG ?_;refine kL (enc := CD.v) (x' := ⟨cn,v0,v1,v2,v3,v4,last + 1,cr⟩) ho2 pkA hs hi dM hcok (fun C3 ho3 => ?_);refine pC ?_;refine ze [rsB s ta 1 tc a2 ds.length c2 (last + 1) reads,C3] ?_;have e1 : ds.length = (ds.set i ⟨cn,v0,v1,v2,v3,v4,last + 1,cr⟩).length := sM;rw [e1] at ho3;exact ⟨a2,c2,C3,rfl,ho3,rfl⟩
theorem cix_at {ds1 ds2 : List RD} {d : RD} (h : ∀ x ∈ ds1,x.u.n ≠ d.u.n) : cix d.u.n ((ds1 ++ d :: ds2).map RD.cd) 0 = (ds1.length : Int) := by
 show cix d.cd.n _ 0 = _
 rw [Qa ((ds1 ++ d :: ds2).map RD.cd) 0 ds1.length ?_ ⟨d.cd,sM,rfl⟩,iT];intro j hj e he;rw [lF,lP hj] at he;obtain ⟨x,hx,rfl⟩ := Option.map_eq_some_iff.1 he;exact h x (List.mem_of_getElem? hx)
theorem OK {ds : List RD} {us1 us2 : List PU} {u : PU} (h : ds.map RD.u = us1 ++ u :: us2) (hun : ∀ y ∈ us1,y.n ≠ u.n) : ∃ ds1 d ds2,ds = ds1 ++ d :: ds2 /\ ds1.map RD.u = us1 /\ d.u = u /\ ds2.map RD.u = us2 /\ (∀ x ∈ ds1,x.u.n ≠ d.u.n) := by
 obtain ⟨ds1,l,rfl,e1,e2⟩ := List.map_eq_append_iff.1 h;obtain ⟨d,ds2,rfl,rfl,e3⟩ := List.map_eq_cons_iff.1 e2;exact ⟨ds1,d,ds2,rfl,e1,rfl,e3,fun x hx => hun x.u (e1 ▸ mH hx)⟩
theorem rd_ok {ds : List RD} (h : ∀ d ∈ ds,d.cd.ok) : ∀ d ∈ ds.map RD.cd,d.ok := by
 intro d hd;obtain ⟨x,hx,rfl⟩ := List.mem_map.1 hd;exact h x hx
theorem Ke {K : zd} {s : Nat} {us : List PU} {last reads : Int} (hK : IsRs K s us last reads) (hul : us.length <= 100) (hd : Kn us) (hl0 : 0 <= last) (hl1 : last < 1000) (u : L8) (hu : u.length <= 100000) (on : Bool) :
  zh prog 19 [pT s,sT [116],sT u,.bool on] [K]
  fun v A => ∃ K',v = .int .i64 (revU us u on last).1 /\ IsRs K' s (revU us u on last).2.1 (revU us u on last).2.2 reads /\ A = [K'] := by
 have hno : ∀ {ta la : OA} {tc lc : Nat} {T CL V : zd} {ds : List RD},OwnC CL la lc (ds.map RD.cd) -> ds.length <= 100 -> (∀ d ∈ ds,d.cd.ok) -> (if (xg u 32).2 = 0 then cix (xg u 32).1 (ds.map RD.cd) 0 else -1) = -1 ->
   zh prog 19 [pT s,sT [116],sT u,.bool on] [rsB s ta 1 tc la (ds.map RD.cd).length lc last reads,CL] fun v A => v = .int .i64 6 /\ A = [rsB s ta 1 tc la (ds.map RD.cd).length lc last reads,CL] := by
  intro ta la tc lc T CL V ds hL hds hok hx;have hf := wB (s := s) (ta := ta) (tn := 1) (tc := tc) (last := last) (reads := reads) (by rw [iA];exact hds) (rd_ok hok) hL u hu;rw [hx] at hf;refine eNg func19 ntmps19 results19 fun F => ?_
  refine cR (hf) ?_;refine ze [rsB s ta 1 tc la (ds.map RD.cd).length lc last reads,CL] ?_;exact ⟨rfl,rfl⟩
 obtain ⟨ta,la,tc,lc,T,CL,V,ds,rfl,hT,hL,hok,hs,rfl⟩ := hK;have hdl : ds.length <= 100 := by rwa [iA] at hul
 have hback0 : IsRs (rsB s ta 1 tc la (ds.map RD.cd).length lc last reads ++ (T ++ (CL ++ V))) s (ds.map RD.u) last reads := ⟨ta,la,tc,lc,T,CL,V,ds,rfl,hT,hL,hok,hs,rfl⟩;unfold revU
 by_cases h0 : (xg u 32).2 = 0
 ·rw [if_pos h0]
  cases hg : getU (ds.map RD.u) (xg u 32).1 with
  | some p =>
   obtain ⟨us1,us2,e,hun,hpn⟩ := wn hg;obtain ⟨ds1,d,ds2,rfl,e1,rfl,e2,hdn⟩ := OK e hun;simp only;rw [e] at hd ⊢;rw [fz hd];have hf := wB (s := s) (ta := ta) (tn := 1) (tc := tc) (last := last) (reads := reads) (by rw [iA];exact hdl) (rd_ok hok) hL u hu;rw [if_pos h0,<- hpn,cix_at hdn] at hf;have hx0 : ((ds1 ++ d :: ds2).map RD.cd)[ds1.length]? = some d.cd := sM;have hil : ds1.length < ((ds1 ++ d :: ds2).map RD.cd).length := sM;have hcs := QZ;have hdo : d.cd.ok := hok d sM
   have hdo2 : (⟨d.u.n,d.v0,d.v1,d.v2,d.v3,d.v4,d.u.gen,on⟩ : CD).ok := by
    intro v hv
    by_cases e : v = .bool on
    ·subst e;simp [Value.cell1]
    ·refine hdo v ?_;simp only [CD.v,RD.cd,aY,aT,or_false] at hv ⊢
     rcases hv with h | h | h | h | h | h | h | h | h | h <;> first | exact absurd h e | simp [h]
   have hst := bE (s := s) (ta := ta) (tc := tc) (last := last) (reads := reads) (by rw [iA];exact hdl) (rd_ok hok) hL ds1.length hil ⟨d.u.n,d.v0,d.v1,d.v2,d.v3,d.v4,d.u.gen,on⟩ hdo2 hl0 hl1
   have hh : zh prog 19 [pT s,sT [116],sT u,.bool on] [rsB s ta 1 tc la ((ds1 ++ d :: ds2).map RD.cd).length lc last reads,CL]
     fun v A => ∃ la' lc' CL',v = .int .i64 0 /\ OwnC CL' la' lc' (((ds1 ++ d :: ds2).map RD.cd).set ds1.length ⟨d.u.n,d.v0,d.v1,d.v2,d.v3,d.v4,last + 1,on⟩) /\ A = [rsB s ta 1 tc la' ((ds1 ++ d :: ds2).map RD.cd).length lc' (last + 1) reads,CL'] := by
    refine eNg func19 ntmps19 results19 fun F => ?_
    refine cR (hf) ?_;refine zF ?_;refine xh hL hcs hx0 dM mmA ?_;refine gg ?_;refine oAg zcd.toArray fun b10 => ?_
    refine oSg [sT [116],sT d.u.n,d.v0,d.v1,d.v2,d.v3,d.v4,.int .u64 d.u.gen,nS,.bool d.u.rev] rfl hdo ?_;refine gM ?_;refine oLg [sT [116],sT d.u.n,d.v0,d.v1,d.v2,d.v3,d.v4,.int .u64 d.u.gen,nS,.bool on] rfl ?_;refine cA (hst) ?_;rintro v A ⟨la',lc',CL',rfl,hL',rfl⟩;refine gA ?_;refine ze [rsB s ta 1 tc la' ((ds1 ++ d :: ds2).map RD.cd).length lc' (last + 1) reads,CL'] ?_;exact ⟨la',lc',CL',rfl,hL',rfl⟩
   refine zh.conv [rsB s ta 1 tc la ((ds1 ++ d :: ds2).map RD.cd).length lc last reads,T,CL,V] (hh) flA tkA ?_;rintro v A ⟨la',lc',CL',rfl,hL',rfl⟩
   have e3 : ((ds1 ++ d :: ds2).map RD.cd).set ds1.length ⟨d.u.n,d.v0,d.v1,d.v2,d.v3,d.v4,last + 1,on⟩ = (ds1 ++ ⟨⟨d.u.n,d.u.sec,last + 1,on⟩,d.v0,d.v1,d.v2,d.v3,d.v4⟩ :: ds2).map RD.cd := by
    simp [List.set_append,RD.cd]
   have e4 : ((ds1 ++ d :: ds2).map RD.cd).length = ((ds1 ++ ⟨⟨d.u.n,d.u.sec,last + 1,on⟩,d.v0,d.v1,d.v2,d.v3,d.v4⟩ :: ds2).map RD.cd).length := sM;rw [e3] at hL';rw [e4];refine ⟨[rsB s ta 1 tc la' ((ds1 ++ ⟨⟨d.u.n,d.u.sec,last + 1,on⟩,d.v0,d.v1,d.v2,d.v3,d.v4⟩ :: ds2).map RD.cd).length lc' (last + 1) reads ++ (T ++ (CL' ++ V))],[rsB s ta 1 tc la' ((ds1 ++ ⟨⟨d.u.n,d.u.sec,last + 1,on⟩,d.v0,d.v1,d.v2,d.v3,d.v4⟩ :: ds2).map RD.cd).length lc' (last + 1) reads,T,CL',V],flA,amA,_,rfl,⟨ta,la',tc,lc',T,CL',V,ds1 ++ ⟨⟨d.u.n,d.u.sec,last + 1,on⟩,d.v0,d.v1,d.v2,d.v3,d.v4⟩ :: ds2,by simp [e1,e2],hT,hL',?_,?_,rfl⟩,rfl⟩
   ·intro x hx
    rcases List.mem_append.1 hx with hx | hx
    ·exact hok x (by simp [hx])
    ·rcases List.mem_cons.1 hx with rfl | hx
     ·intro v hv
      by_cases e : v = .int .u64 (last + 1)
      ·subst e;simp [Value.cell1]
      ·refine hdo2 v ?_;simp only [CD.v,RD.cd,aY,aT,or_false] at hv ⊢
       rcases hv with h | h | h | h | h | h | h | h | h | h <;> first | exact absurd h e | simp [h]
     ·exact hok x (by simp [hx])
   ·intro x hx
    rcases List.mem_append.1 hx with hx | hx
    ·exact hs x (by simp [hx])
    ·rcases List.mem_cons.1 hx with rfl | hx
     ·exact hs d sM
     ·exact hs x (by simp [hx])
  | none =>
   have hno2 := ZL hg;have hx : cix (xg u 32).1 (ds.map RD.cd) 0 = -1 := Qb _ 0 (by intro d hd;obtain ⟨x,hx,rfl⟩ := List.mem_map.1 hd;exact hno2 x.u (mH hx));refine zh.conv [rsB s ta 1 tc la (ds.map RD.cd).length lc last reads,T,CL,V] (hno (T := T) (V := V) hL hdl hok (by rw [if_pos h0,hx])) flA tkA ?_;rintro v A ⟨rfl,rfl⟩;exact ⟨[rsB s ta 1 tc la (ds.map RD.cd).length lc last reads ++ (T ++ (CL ++ V))],[rsB s ta 1 tc la (ds.map RD.cd).length lc last reads,T,CL,V],flA,amA,_,rfl,hback0,rfl⟩
 ·rw [if_neg h0];refine zh.conv [rsB s ta 1 tc la (ds.map RD.cd).length lc last reads,T,CL,V] (hno (T := T) (V := V) hL hdl hok (by rw [if_neg h0])) flA tkA ?_;rintro v A ⟨rfl,rfl⟩;exact ⟨[rsB s ta 1 tc la (ds.map RD.cd).length lc last reads ++ (T ++ (CL ++ V))],[rsB s ta 1 tc la (ds.map RD.cd).length lc last reads,T,CL,V],flA,amA,_,rfl,hback0,rfl⟩
end Go.Proofs.YtebikhhoppiapaaGreatDoor
namespace Go.Proofs.YtebikhhoppiapaaGreatDoor
open Go Go.Ost Go.Sha Go.Nam _root_.Go.Proofs.Tryz
def dumT (w t u : L8) : L8 := w ++ [32] ++ t ++ [32] ++ u
theorem dumT_len (w t u : L8) : (dumT w t u).length = w.length + t.length + u.length + 2 := by unfold dumT;simp;omega
theorem ZO {G : zd} (hg : jJ G) (b5 b6 : Nat) (w t u : L8) (hw : w.length <= 1000) (ht : t.length <= 1000) (hu : u.length <= 10000) :
  zh prog 162 [sT w,pT b5,pT b6] [bx b5 (sT t) 9,bx b6 (sT u) 9,G]
  fun v A => ∃ (C : zd) (a : OA) (c : Nat),v = .slice a (xx (dumT w t u)).length c /\ Own8 5 C a (xx (dumT w t u)).length c (xx (dumT w t u)) /\ A = [C,bx b5 (sT t) 9,bx b6 (sT u) 9,G] := by
 have hl := dumT_len w t u;refine eNg func162 ntmps162 results162 fun F => ?_
 rw [show Value.string ⟨#[32]⟩ = sT [32] from rfl];refine zF ?_;rw [zV (by simp only [aB,aI,aH,aQ];omega)];refine gg ?_;refine zF ?_;rw [zV (by simp only [aB,aI,aH,aQ];omega)];refine gg ?_
 (try rw [show Value.string ⟨#[32]⟩ = sT [32] from rfl])
 refine zF ?_;rw [zV (by simp only [aB,aI,aH,aQ];omega)];refine gg ?_;refine zF ?_;rw [zV (by simp only [aB,aI,aH,aQ];omega)];refine gg ?_;rw [show w ++ [32] ++ t ++ [32] ++ u = dumT w t u from rfl];refine zF ?_;refine xb (by simp only [maxLen];omega) (fun Z za zc hZ => ?_);refine gg ?_;refine zF ?_;refine jE rfl [.slice za (dumT w t u).length zc] dM rfl rfl (by simp [Value.cell1]) (fun b13 C13 ho13 => ?_);refine gg ?_;have hp4 : vh C13 Z (some ⟨b13,0,none⟩) za zc (dumT w t u) := ⟨ho13.rd (aA ..),hZ.1,hZ.rd (aA ..),oM⟩;refine cA (sum1 hg C13 Z hp4) ?_;rintro v A ⟨O,oa,oc,rfl,hO,rfl⟩;refine gA ?_;refine ze [O,bx b5 (sT t) 9,bx b6 (sT u) 9,G] ?_;exact ⟨O,oa,oc,rfl,hO,rfl⟩
def dumH (u : L8) : L8 := xx (dumT [104,97,49] [116] u)
def DumW (W : zd) (vs : LV) (h : L8) : Prop := ∃ (v0 v1 v2 v3 : Value) (a : OA) (c : Nat),vs = [v0,v1,v2,v3,.slice a h.length c] /\ (∀ v ∈ vs,Value.cell1 v) /\ Rd 1 [W] a h.length (h.map b8)
theorem QV {G : zd} (hg : jJ G) (b : Nat) (u : L8) (hu : u.length <= 10000) (iter : Int) (h1 : 1 <= iter) (h2 : iter <= 64) :
  zh prog 117 [pT b,sT [116],sT u,.int .i64 iter] [G] fun v A => ∃ (W : zd) (vs : LV),v = .agg vs.toArray /\ DumW W vs (dumH u) /\ A = [W,G] := by
 refine eNg func117 ntmps117 results117 fun F => ?_
 refine oBg fun b5 => ?_
 refine oBg fun b6 => ?_
 refine oAg ([nS,.int .i64 0,nS,nS,nS] : LV).toArray fun b8 => ?_
 rw [dF (oM : ¬ iter < 1)];refine gg ?_;rw [dF (oM : ¬ (64 : Int) < iter)];refine gg ?_;refine cdLg [[0],[3],[4],[6],[8],[1,0],[2],[5,0],[7,0],[9,0],[10],[11,0]] ?_;refine dA (ZO hg b5 b6 [115,97,108,116] [116] u dM dM hu) ?_;rintro v A ⟨O0,oa0,oc0,rfl,hO0,rfl⟩;refine pC ?_;have hdl : (xx (dumT [115,97,108,116] [116] u)).length = 32 := qS _;have hc0 := hO0.1;refine gg ?_;refine dA (ZO hg b5 b6 [115,116,111,114,101,100] [116] u dM dM hu) ?_;rintro v A ⟨O1,oa1,oc1,rfl,hO1,rfl⟩;refine pC ?_;refine dA (ZO hg b5 b6 [115,101,114,118,101,114] [116] u dM dM hu) ?_;rintro v A ⟨O2,oa2,oc2,rfl,hO2,rfl⟩;refine pC ?_;refine dA (ZO hg b5 b6 [104,97,49] [116] u dM dM hu) ?_;rintro v A ⟨O3,oa3,oc3,rfl,hO3,rfl⟩;refine pC ?_;refine qF ?_;rw [zX (ps := [(0,.slice (cutA 1 oa0 0 16) 16 16),(1,.int .i64 iter),(2,.slice oa1 (xx (dumT [115,116,111,114,101,100] [116] u)).length oc1),(3,.slice oa2 (xx (dumT [115,101,114,118,101,114] [116] u)).length oc2),(4,.slice oa3 (xx (dumT [104,97,49] [116] u)).length oc3)]) (cs := ([.slice (cutA 1 oa0 0 16) 16 16,.int .i64 iter,.slice oa1 (xx (dumT [115,116,111,114,101,100] [116] u)).length oc1,.slice oa2 (xx (dumT [115,101,114,118,101,114] [116] u)).length oc2,.slice oa3 (xx (dumT [104,97,49] [116] u)).length oc3] : LV).toArray) kM];refine gg ?_;refine zG ?_;refine xo (vs := [.slice (cutA 1 oa0 0 16) 16 16,.int .i64 iter,.slice oa1 (xx (dumT [115,116,111,114,101,100] [116] u)).length oc1,.slice oa2 (xx (dumT [115,101,114,118,101,114] [116] u)).length oc2,.slice oa3 (xx (dumT [104,97,49] [116] u)).length oc3]) rfl (by simp [Value.cell1]) upA (by rfl) ?_;refine pC ?_;refine zf (vs := [.agg ([.slice (cutA 1 oa0 0 16) 16 16,.int .i64 iter,.slice oa1 (xx (dumT [115,116,111,114,101,100] [116] u)).length oc1,.slice oa2 (xx (dumT [115,101,114,118,101,114] [116] u)).length oc2,.slice oa3 (xx (dumT [104,97,49] [116] u)).length oc3] : LV).toArray]) [O3,G] ?_ (hr := hrA)
 exact ⟨O3,_,rfl,⟨_,_,_,_,oa3,oc3,rfl,by simp [Value.cell1],hO3.rd (aA ..)⟩,rfl⟩
def dumE (u : L8) : L8 := [32] ++ [116] ++ [32] ++ u
theorem dumE_eq (w u : L8) : w ++ dumE u = dumT w [116] u := by simp [dumT,dumE]
theorem dumE_len (u : L8) : (dumE u).length = u.length + 3 := by simp [dumE]
def convF (C : zd) (v : Value) (bs : L8) : Prop := ∃ (a : OA) (c : Nat),v = .slice a bs.length c /\ bs.length <= c /\ Rd 1 [C] a bs.length (bs.map b8)
def sumF (C : zd) (v : Value) (bs : L8) : Prop := ∃ (a : OA) (c : Nat),v = .slice a (xx bs).length c /\ (xx bs).length <= c /\ Rd 1 [C] a (xx bs).length ((xx bs).map b8)
def phi (u : L8) (iter : Int) (C : zd) (v : Value) : Nat -> Prop
 | 0 => v = sT (dumE u)
 | 1 => v = sT ([115,97,108,116] ++ dumE u)
 | 2 => convF C v ([115,97,108,116] ++ dumE u)
 | 3 => sumF C v ([115,97,108,116] ++ dumE u)
 | 4 => ∃ a c,v = .slice a 16 c
 | 5 => v = .int .i64 iter
 | 6 => v = sT (dumE u)
 | 7 => v = sT ([115,116,111,114,101,100] ++ dumE u)
 | 8 => convF C v ([115,116,111,114,101,100] ++ dumE u)
 | 9 => sumF C v ([115,116,111,114,101,100] ++ dumE u)
 | 10 => v = sT (dumE u)
 | 11 => v = sT ([115,101,114,118,101,114] ++ dumE u)
 | 12 => convF C v ([115,101,114,118,101,114] ++ dumE u)
 | 13 => sumF C v ([115,101,114,118,101,114] ++ dumE u)
 | 14 => v = sT (dumE u)
 | 15 => v = sT ([104,97,49] ++ dumE u)
 | 16 => convF C v ([104,97,49] ++ dumE u)
 | 17 => sumF C v ([104,97,49] ++ dumE u)
 | _ => False
def effD : List Nat := [2,3,8,9,12,13,16,17]
abbrev secZ : LV := [nS,.int .i64 0,nS,nS,nS]
abbrev seB (b : Nat) (vs : LV) : zd := [(b,.cells vs.toArray 82 (0,0))]
structure J0 (u : L8) (iter : Int) (b6 : Nat) (F G : zd) (d : List Nat) (L : Env) (S : zb) : Prop where
 e7 : lookT L 7 = some (sT (dumE u))
 e2 : lookT L 2 = some (.int .i64 iter)
 e6 : lookT L 6 = some (pT b6)
 fh : ∃ (f : Nat -> Value) (H : Nat -> zd),(∀ i ∈ d,lookT L (19 + i) = some (f i) /\ phi u iter (H i) (f i) i) /\ S.Perm (seB b6 secZ :: F :: G :: (d.filter (effD.contains ·)).map H)
structure J1 (u : L8) (b6 : Nat) (F G : zd) (d : List Nat) (L : Env) (S : zb) : Prop where
 all : ∀ i,i < 18 -> i ∈ d
 fh : ∃ (C : zd) (R : zb) (vs : LV),lookT L 37 = some (.agg vs.toArray) /\ lookT L 6 = some (pT b6) /\ DumW C vs (dumH u) /\ S.Perm (seB b6 secZ :: C :: F :: G :: R)
structure J2 (u : L8) (b6 : Nat) (F G : zd) (L : Env) (S : zb) : Prop where
 fh : ∃ (C : zd) (R : zb) (vs : LV),lookT L 6 = some (pT b6) /\ DumW C vs (dumH u) /\ S.Perm (seB b6 vs :: C :: F :: G :: R)
def JD (u : L8) (iter : Int) (b6 : Nat) (F G : zd) (d : List Nat) (L : Env) (S : zb) : Prop := (18 ∉ d /\ 19 ∉ d /\ J0 u iter b6 F G d L S) ∨ (18 ∈ d /\ 19 ∉ d /\ J1 u b6 F G d L S) ∨ (18 ∈ d /\ 19 ∈ d /\ (∀ i,i < 18 -> i ∈ d) /\ J2 u b6 F G L S)
theorem lookT_hd {L : Env} {t : Nat} {v : Value} : lookT ((t,v) :: L) t = some v := by simp [lookT]
theorem ZD {L : Env} {t s : Nat} {v : Value} (h : t ≠ s) : lookT ((t,v) :: L) s = lookT L s := by
 simp only [lookT];rw [if_neg (fun e => h e.symm)]
theorem J0.put {u : L8} {iter : Int} {b6 : Nat} {F G : zd} {d : List Nat} {L : Env} {S S' : zb} (h : J0 u iter b6 F G d L S) {i : Nat} (hi : i < 18) (hn : i ∉ d) (v : Value) (C : zd) (hφ : phi u iter C v i)
  (hS : S'.Perm (if effD.contains i then C :: S else S)) : J0 u iter b6 F G (i :: d) ((19 + i,v) :: L) S' := by
 obtain ⟨f,H,hf,hp⟩ := h.fh;refine ⟨by rw [ZD oM];exact h.e7,by rw [ZD oM];exact h.e2,by rw [ZD oM];exact h.e6,fun j => if j = i then v else f j,fun j => if j = i then C else H j,fun j hj => ?_,?_⟩
 ·by_cases e : j = i
  ·subst e;simp only [if_true];exact ⟨lookT_hd,hφ⟩
  ·simp only [if_neg e];obtain ⟨h1,h2⟩ := hf j ((List.mem_cons.1 hj).resolve_left e);exact ⟨by rw [ZD oM];exact h1,h2⟩
 ·clear hφ
  have hm : (d.filter (effD.contains ·)).map (fun j => if j = i then C else H j) = (d.filter (effD.contains ·)).map H := by
   refine List.map_congr_left fun j hj => ?_
   rw [if_neg];rintro rfl;exact hn ((List.mem_filter.1 hj).1)
  by_cases he : effD.contains i = true
  ·rw [if_pos he] at hS;refine hS.trans ?_;rw [List.filter_cons,if_pos he,iB,if_pos rfl,hm];refine (List.Perm.cons _ hp).trans ?_
   classical
   refine List.perm_iff_count.2 fun z => ?_
   simp only [List.count_cons];omega
  ·rw [if_neg he] at hS;rw [List.filter_cons,if_neg he,hm];exact hS.trans hp
theorem fx {C : zd} {S : zb} (h : C ∈ S) : ∃ R,S.Perm (C :: R) := by
 obtain ⟨a,b,rfl⟩ := List.append_of_mem h;exact ⟨a ++ b,List.perm_middle⟩
theorem J0.at {u : L8} {iter : Int} {b6 : Nat} {F G : zd} {d : List Nat} {L : Env} {S : zb} (h : J0 u iter b6 F G d L S) {i : Nat} (hi : i ∈ d) : ∃ v C,lookT L (19 + i) = some v /\ phi u iter C v i /\ (effD.contains i = true -> ∃ R,S.Perm (G :: C :: seB b6 secZ :: F :: R)) := by
 obtain ⟨f,H,hf,hp⟩ := h.fh;obtain ⟨h1,h2⟩ := hf i hi;refine ⟨f i,H i,h1,h2,fun he => ?_⟩;obtain ⟨M,hM⟩ := fx (C := H i) (S := (d.filter (effD.contains ·)).map H) (mH (List.mem_filter.2 ⟨hi,he⟩));refine ⟨M,hp.trans ?_⟩;refine (List.Perm.cons _ (List.Perm.cons _ (List.Perm.cons _ hM))).trans ?_
 classical
 refine List.perm_iff_count.2 fun z => ?_
 simp only [List.count_cons];omega
theorem JQ {S T : zb} (h : S.Perm T) : S.flatten.Perm T.flatten := by
 induction h with
 | nil => exact .refl _
 | cons x _ ih => exact List.Perm.append_left x ih
 | swap x y l =>
  simp only [aO,<- aN];exact List.Perm.append_right _ lH
 | trans _ _ ih1 ih2 => exact ih1.trans ih2
theorem str_lit (l : L8) : Value.string ⟨l.toArray⟩ = sT l := rfl
theorem YN {G : zd} (hg : vj G) (u : L8) (hu : u.length <= 10000) (iter : Int) (h1 : 1 <= iter) (h2 : iter <= 64) :
  zh prog 66 [sT [116],sT u,.int .i64 iter] [G] fun v A => ∃ (W : zd) (vs : LV),v = .agg vs.toArray /\ DumW W vs (dumH u) /\ A = [W,G] := by
 obtain ⟨gt,gm,hgw⟩ := hg.g2;have hel := dumE_len u;refine eNg func66 ntmps66 results66 fun F => ?_
 refine oAg secZ.toArray fun b6 => ?_
 rw [dF (oM : ¬ iter < 1)];refine gg ?_;rw [dF (oM : ¬ (64 : Int) < iter)];refine gg ?_;rw [show Value.string ⟨#[32]⟩ = sT [32] from rfl];refine zF ?_;rw [zV (by simp only [aB,aI,aH,aQ];omega)];refine gg ?_;refine zF ?_;rw [zV (by simp only [aB,aI,aH,aQ];omega)];refine gg ?_;refine zF ?_;rw [zV (by simp only [aB,aI,aH,aQ];omega)];refine gg ?_;rw [show (32 :: 116 :: 32 :: u) = dumE u from rfl];refine gJ (JD u iter b6 F G) (.inl ⟨sM,sM,⟨rfl,rfl,rfl,fun _ => .int .i64 0,fun _ => [],(fun _ h => nomatch h),sM⟩⟩) ?_ ?_
 ·intro d L S i hi hn hdep hcl hj;have hi : i < 20 := hi;have no18 : ∀ {i},i < 18 -> 18 ∉ d -> 18 ∉ i :: d := by intro i h1 h2 h3;exact (List.mem_cons.1 h3).elim (fun h => oM) h2
  have no19 : ∀ {i},i < 19 -> 19 ∉ d -> 19 ∉ i :: d := by intro i h1 h2 h3;exact (List.mem_cons.1 h3).elim (fun h => oM) h2
  have ph0 : i < 18 -> 18 ∉ d /\ 19 ∉ d /\ J0 u iter b6 F G d L S := by
   intro h
   rcases hj with h0 | ⟨_,_,h1⟩ | ⟨_,_,h2,_⟩
   ·exact h0
   ·exact absurd (h1.all i h) hn
   ·exact absurd (h2 i h) hn
  have hpv := hdep (i - 1)
  rcases (by omega : (i = 0 ∨ i = 6 ∨ i = 10 ∨ i = 14) ∨ (i = 1 ∨ i = 7 ∨ i = 11 ∨ i = 15) ∨ (i = 2 ∨ i = 8 ∨ i = 12 ∨ i = 16) ∨ (i = 3 ∨ i = 9 ∨ i = 13 ∨ i = 17) ∨ i = 4 ∨ i = 5 ∨ i = 18 ∨ i = 19) with h | h | h | h | rfl | rfl | rfl | rfl
  ·obtain ⟨n8,n9,hj⟩ := ph0 oM
   rcases h with rfl | rfl | rfl | rfl
   all_goals
    refine ⟨[(7,sT (dumE u))],S,⟨hj.e7,trivial⟩,List.Perm.refl _,?_⟩;refine opE ?_;exact .inl ⟨no18 dM n8,no19 dM n9,hj.put dM hn _ [] rfl (.refl _)⟩
  ·obtain ⟨n8,n9,hj⟩ := ph0 oM
   rcases h with rfl | rfl | rfl | rfl
   all_goals
    obtain ⟨v,C,hv,rfl,_⟩ := hj.at (hpv (by decide +kernel));simp only [iF,iQ] at hv;refine ⟨[(_,sT (dumE u))],S,⟨hv,trivial⟩,List.Perm.refl _,?_⟩;refine opE ?_;rw [str_lit,zV (by simp only [maxLen,aB,aH,aQ];omega)];exact .inl ⟨no18 dM n8,no19 dM n9,hj.put dM hn _ [] rfl (.refl _)⟩
  ·obtain ⟨n8,n9,hj⟩ := ph0 oM
   rcases h with rfl | rfl | rfl | rfl
   all_goals
    obtain ⟨v,C,hv,rfl,_⟩ := hj.at (hpv (by decide +kernel));simp only [iF,iQ] at hv;refine ⟨[(_,sT _)],S,⟨hv,trivial⟩,List.Perm.refl _,?_⟩;refine opE ?_;refine xb (by simp only [maxLen,aB,aH,aQ];omega) (fun Z za zc hZ => ?_);exact .inl ⟨no18 dM n8,no19 dM n9,hj.put dM hn _ Z ⟨za,zc,rfl,hZ.1,hZ.rd (aA ..)⟩ (.refl _)⟩
  ·obtain ⟨n8,n9,hj⟩ := ph0 oM
   rcases h with rfl | rfl | rfl | rfl
   all_goals
    obtain ⟨v,C,hv,⟨a,c,rfl,hac,hr⟩,hCR⟩ := hj.at (hpv (by decide +kernel));obtain ⟨R,hR⟩ := hCR dM;simp only [iF,iQ] at hv;refine ⟨[(_,.slice a _ c)],G :: C :: seB b6 secZ :: F :: R,⟨hv,trivial⟩,JQ hR,?_⟩;refine opE ?_;refine jq (Ju G C gm hgw a c _ (by simp only [maxLen,aB,aH,aQ];omega) hr) ?_;rintro v A ⟨O,oa,oc,rfl,hO,rfl⟩;exact .inl ⟨no18 dM n8,no19 dM n9,hj.put dM hn _ O ⟨oa,oc,rfl,hO.1,hO.rd (aA ..)⟩ (List.Perm.cons _ hR.symm)⟩
  ·obtain ⟨n8,n9,hj⟩ := ph0 dM;obtain ⟨v,C,hv,⟨a,c,rfl,hac,hr⟩,hCR⟩ := hj.at (hdep 3 (by decide +kernel));rw [qS] at hac hv;refine ⟨[(22,.slice a 32 c)],S,⟨hv,trivial⟩,List.Perm.refl _,?_⟩;refine opE ?_;exact .inl ⟨no18 dM n8,no19 dM n9,hj.put dM hn _ [] ⟨_,_,rfl⟩ (.refl _)⟩
  ·obtain ⟨n8,n9,hj⟩ := ph0 dM;refine ⟨[(2,.int .i64 iter)],S,⟨hj.e2,trivial⟩,List.Perm.refl _,?_⟩;refine opE ?_;exact .inl ⟨no18 dM n8,no19 dM n9,hj.put dM hn _ [] rfl (.refl _)⟩
  ·have n19 : 19 ∉ d := by
    intro h
    rcases hj with ⟨_,h2,_⟩ | ⟨_,h2,_⟩ | ⟨h2,_,_⟩
    ·exact h2 h
    ·exact h2 h
    ·exact hn h2
   have hj0 : J0 u iter b6 F G d L S := by
    rcases hj with ⟨_,_,h2⟩ | ⟨h2,_,_⟩ | ⟨h2,_,_⟩
    ·exact h2
    ·exact absurd h2 hn
    ·exact absurd h2 hn
   have m4 := hdep 4 (by decide +kernel);have m5 := hdep 5 (by decide +kernel);have m9 := hdep 9 (by decide +kernel);have m13 := hdep 13 (by decide +kernel);have m17 := hdep 17 (by decide +kernel);have m3 := hcl 4 m4 3 (by decide +kernel)
   have hch : ∀ a,a = 0 ∨ a = 6 ∨ a = 10 ∨ a = 14 -> a + 3 ∈ d -> a + 2 ∈ d /\ a + 1 ∈ d /\ a ∈ d := by
    intro a ha h;have h2 := hcl _ h (a + 2) (by rcases ha with rfl | rfl | rfl | rfl <;> decide +kernel);have h1 := hcl _ h2 (a + 1) (by rcases ha with rfl | rfl | rfl | rfl <;> decide +kernel);exact ⟨h2,h1,hcl _ h1 a (by rcases ha with rfl | rfl | rfl | rfl <;> decide +kernel)⟩
   have q0 := hch 0 dM m3;have q1 := hch 6 dM m9;have q2 := hch 10 dM m13;have q3 := hch 14 dM m17
   have hall : ∀ k,k < 18 -> k ∈ d := by
    intro k hk
    rcases (by omega : k = 0 ∨ k = 1 ∨ k = 2 ∨ k = 3 ∨ k = 4 ∨ k = 5 ∨ k = 6 ∨ k = 7 ∨ k = 8 ∨ k = 9 ∨ k = 10 ∨ k = 11 ∨ k = 12 ∨ k = 13 ∨ k = 14 ∨ k = 15 ∨ k = 16 ∨ k = 17) with rfl | rfl | rfl | rfl | rfl | rfl | rfl | rfl | rfl | rfl | rfl | rfl | rfl | rfl | rfl | rfl | rfl | rfl <;> simp [m3,m4,m5,m9,m13,m17,q0,q1,q2,q3]
   obtain ⟨a4,l4,c4,hv4⟩ : ∃ a l c,lookT L 23 = some (.slice a l c) := by
    obtain ⟨v4,C4,hv4,⟨a4,c4,rfl⟩,_⟩ := hj0.at m4;exact ⟨_,_,_,hv4⟩
   obtain ⟨v5,C5,hv5,rfl,_⟩ := hj0.at m5
   obtain ⟨a9,l9,c9,hv9⟩ : ∃ a l c,lookT L 28 = some (.slice a l c) := by
    obtain ⟨v9,C9,hv9,⟨a9,c9,rfl,_⟩,_⟩ := hj0.at m9;exact ⟨_,_,_,hv9⟩
   obtain ⟨a13,l13,c13,hv13⟩ : ∃ a l c,lookT L 32 = some (.slice a l c) := by
    obtain ⟨v13,C13,hv13,⟨a13,c13,rfl,_⟩,_⟩ := hj0.at m13;exact ⟨_,_,_,hv13⟩
   obtain ⟨v17,C17,hv17,⟨a17,c17,rfl,hc17,hr17⟩,hCR⟩ := hj0.at m17;obtain ⟨R,hR⟩ := hCR dM;rw [dumE_eq,show xx (dumT [104,97,49] [116] u) = dumH u from rfl] at hv17 hr17;refine ⟨[(23,.slice a4 l4 c4),(24,.int .i64 iter),(28,.slice a9 l9 c9),(32,.slice a13 l13 c13),(36,.slice a17 (dumH u).length c17)],S,⟨hv4,hv5,hv9,hv13,hv17,trivial⟩,List.Perm.refl _,?_⟩;refine opE ?_;rw [zX (ps := [(0,.slice a4 l4 c4),(1,.int .i64 iter),(2,.slice a9 l9 c9),(3,.slice a13 l13 c13),(4,.slice a17 (dumH u).length c17)]) (cs := ([.slice a4 l4 c4,.int .i64 iter,.slice a9 l9 c9,.slice a13 l13 c13,.slice a17 (dumH u).length c17] : LV).toArray) kM];refine .inr (.inl ⟨aA ..,no19 dM n19,⟨fun k hk => aK _ (hall k hk),C17,R,_,lookT_hd,?_,⟨_,_,_,_,a17,c17,rfl,by simp [Value.cell1],hr17⟩,hR.trans ?_⟩⟩)
   ·rw [ZD dM];exact hj0.e6
   ·classical
    refine List.perm_iff_count.2 fun z => ?_
    simp only [List.count_cons];omega
  ·have m18 := hdep 18 (by decide +kernel)
   have hj1 : J1 u b6 F G d L S := by
    rcases hj with ⟨h2,_,_⟩ | ⟨_,_,h2⟩ | ⟨_,h2,_⟩
    ·exact absurd m18 h2
    ·exact h2
    ·exact absurd h2 hn
   obtain ⟨C,R,vs,e37,e6,hD,hp⟩ := hj1.fh;have hD2 := hD;obtain ⟨w0,w1,w2,w3,a,c,hvs,hcell,hr⟩ := hD2;refine ⟨[(37,.agg vs.toArray),(6,pT b6)],seB b6 secZ :: C :: F :: G :: R,⟨e37,e6,trivial⟩,JQ hp,?_⟩;refine opE ?_;refine xo (vs := vs) (by rw [hvs];rfl) hcell upA (by rfl) ?_;exact .inr (.inr ⟨aK _ m18,aA ..,fun k hk => aK _ (hj1.all k hk),⟨C,R,vs,e6,hD,.refl _⟩⟩)
 ·intro d L S hall hj
  obtain ⟨C,R,vs,e6,hD,hp⟩ : ∃ (C : zd) (R : zb) (vs : LV),lookT L 6 = some (pT b6) /\ DumW C vs (dumH u) /\ S.Perm (seB b6 vs :: C :: F :: G :: R) := by
   rcases hj with ⟨h2,_,_⟩ | ⟨_,h2,_⟩ | ⟨_,_,_,h2⟩
   ·exact absurd (hall 18 dM) h2
   ·exact absurd (hall 19 dM) h2
   ·exact h2.fh
  refine qL ?_;refine jY (S' := seB b6 vs :: C :: F :: G :: R) (JQ hp) ?_;refine vR (L' := [(6,pT b6)]) (S' := [seB b6 vs,C,F,G]) ⟨e6,trivial⟩ amA ?_;refine gg ?_;obtain ⟨w0,w1,w2,w3,a,c,hvs,hcell,hr⟩ := id hD;refine zf (vs := [.agg vs.toArray]) [C,G] ?_ (hr := by (intro κ hκ;simp only [resW,zy,zj,zi,aJ];exact zz (vs := vs) lkA (by rw [hvs];rfl) hκ));exact ⟨C,vs,rfl,hD,rfl⟩
open Go.Tab
theorem dD {u : L8} (h : (xg u 32).2 ≠ 0) : (xg u 32).1 = [] := by
 unfold xg at h ⊢
 split
 ·rfl
 ·rename_i h1
  rw [if_neg h1] at h
  split
  ·rfl
  ·rename_i h2
   rw [if_neg h2] at h
   split
   ·rfl
   ·rename_i h3
    rw [if_neg h3] at h;exact absurd rfl h
theorem dC : (xg [] 32).2 ≠ 0 := by decide +kernel
theorem sized_le (u : L8) : (xg u 32).1.length <= 32 := by
 unfold xg
 split
 ·exact lW _
 ·split
  ·exact lW _
  ·split
   ·exact lW _
   ·show (prep u).1.length <= 32
    omega
theorem cfind_no {s r1 r2 : Nat} {last reads : Int} {M1 M2 G : zd} {m : List (L8 × Value)} (hn : GNam G) (h1 : jg M1 r1 (tenM r2)) (h2 : jg M2 r2 m) (hr0 : 0 <= reads) (hr1 : reads < 1000000) (u : L8) (hu : u.length <= 100000) (hno : (xg u 32).2 = 0 -> mget m (xg u 32).1 = none) :
  zh prog 116 [pT s,sT [116],sT u] [stB s r1 last reads,M1,M2,G]
  fun v A => v = .tuple #[.agg zCr.toArray,.bool false] /\ A = [stB s r1 last (reads + 1),M1,M2,G] := by
 have hg := ZK (s := s) (last := last) (reads := reads + 1) hn h1 h2 u hu
 have e : (if (xg u 32).2 = 0 then (mget m (xg u 32).1).getD (.pointer none) else .pointer none) = .pointer none := by
  split
  ·rename_i h;rw [hno h];rfl
  ·rfl
 rw [e] at hg;refine eNg func116 ntmps116 results116 fun F => ?_
 refine oAg zCr.toArray fun b6 => ?_
 refine cR (hg) ?_;refine oTg [] zCr.toArray ?_;refine oSg zCr rfl (by simp [Value.cell1]) ?_;refine zf (vs := [.agg zCr.toArray,.bool false]) [stB s r1 last (reads + 1),M1,M2,G] ?_ (hr := hrA);exact ⟨rfl,rfl⟩
abbrev noCr (vs : LV) : LV := .string ⟨#[]⟩ :: .string ⟨#[]⟩ :: (vs ++ [.int .u64 0,nS,.bool false])
theorem qfind_no {qk bx_ s q r1 r2 : Nat} {iter ch last reads : Int} {M1 M2 G : zd} {m : List (L8 × Value)} (hg : jJ G) (hn : GNam G) (h1 : jg M1 r1 (tenM r2)) (h2 : jg M2 r2 m) (hr0 : 0 <= reads) (hr1 : reads < 1000000) (hi1 : 1 <= iter) (hi2 : iter <= 64) (u : L8) (hu : u.length <= 10000) (hno : (xg u 32).2 = 0 -> mget m (xg u 32).1 = none) :
  zh prog 42 [pT qk,sT u] [quB qk bx_ s q iter [116] ch,stB s r1 last reads,M1,M2,G]
  fun v A => ∃ W vs,v = .tuple #[.agg (noCr vs).toArray,.bool false] /\ DumW W vs (dumH u) /\ A = [quB qk bx_ s q iter [116] ch,stB s r1 last (reads + 1),M1,M2,W,G] := by
 have hnm := wj hn u oM;have hle := sized_le u
 have hcf := cfind_no (s := s) (last := last) hn h1 h2 hr0 hr1 (xg u 32).1 oM (fun h => by
  by_cases h0 : (xg u 32).2 = 0
  ·have hst := (yy (u := u) (n := (xg u 32).1) (by rw [<- h0])).1;rw [hst];exact hno h0
  ·rw [dD h0] at h ⊢;exact absurd h dC)
 have hdm := QV hg bx_ u hu iter hi1 hi2;generalize hz : xg u 32 = z at *;refine eNg func42 ntmps42 results42 fun F => ?_
 refine oAg zCr.toArray fun b4 => ?_
 refine cR (hnm) ?_;refine zO (fun D L S => ∃ b8 : Nat,D = [] /\ L = [(9,.bool false),(8,pT b8),(7,.int .i64 z.2),(4,pT b4),(0,pT qk),(1,sT u)] /\ S = [[(b8,.cells zCr.toArray 48 (0,0))],[(b4,.cells zCr.toArray 48 (0,0))],quB qk bx_ s q iter [116] ch,stB s r1 last (reads + 1),M1,M2,F,G]) ?_ ?_
 ·refine yJ 10 14 [[],[0],[0,1],[0,1,2],[0,1,2,3],[],[5],[5,6],[5,6,7],[],[0,1,2,3,4,5,6,7,8,9],[0,1,2,3,4,5,6,7,8,9,10],[0,1,2,3,4,5,6,7,8,9,10,11],[0,1,2,3,4,5,6,7,8,9,10,11],[0,1,2,3,4,5,6,7,8,9,10],[0,1,2,3,4,5,6,7,8,9,10,11,12,14],[0,1,2,3,4,5,6,7,8,9,10,11,12,13,14,15]] [(0,false,[]),(1,false,[]),(2,false,[]),(3,false,[]),(4,false,[]),(5,false,[]),(6,false,[]),(7,false,[]),(8,false,[]),(9,false,[]),(10,true,[]),(11,false,[]),(12,false,[]),(13,false,[]),(14,true,[]),(15,true,[]),(16,true,[])] [[],[0],[0,1],[0,1,2],[0,1,2,3],[],[5],[5,6],[5,6,7],[],[0,1,2,3,4,5,6,7,8,9,14],[0,1,2,3,4,5,6,7,8,9,10,14],[0,1,2,3,4,5,6,7,8,9,10,11,14],[0,1,2,3,4,5,6,7,8,9,10,11,14],[],[0,1,2,3,4,5,6,7,8,9,10,11,12,14],[0,1,2,3,4,5,6,7,8,9,10,11,12,13,14,15]] [(0,false,[]),(1,false,[]),(2,false,[]),(3,false,[]),(4,false,[]),(5,false,[]),(6,false,[]),(7,false,[]),(8,false,[]),(9,false,[]),(14,true,[4,8]),(10,true,[]),(11,false,[]),(12,false,[]),(13,false,[]),(15,true,[]),(16,true,[])] ?_ ?_
  ·refine gg ?_;refine dR (hcf) ?_;refine zG ?_;refine qE zCr.toArray rfl fun b8 => ?_;refine pC ?_
   refine zG ?_;refine xo (vs := zCr) rfl (by simp [Value.cell1]) upA (by rfl) ?_;refine pD ?_
   (try refine gg ?_)
   (try (try refine dS ?_))
   (try refine gg ?_)
   exact mid ⟨b8,rfl,rfl,rfl⟩
  ·refine gg ?_;refine zG ?_;refine qE zCr.toArray rfl fun b8 => ?_;refine pC ?_
   refine dR (hcf) ?_;refine zG ?_;refine xo (vs := zCr) rfl (by simp [Value.cell1]) upA (by rfl) ?_;refine pD ?_
   (try refine gg ?_)
   (try (try refine dS ?_))
   (try refine gg ?_)
   exact mid ⟨b8,rfl,rfl,rfl⟩
 rintro D L S ⟨b8,rfl,rfl,rfl⟩;refine gg ?_
 cases hb : (z.2 != 0) with
 | true =>
  refine gg ?_;refine cdLg [[0],[1],[2],[3],[4],[5],[6],[7],[8],[9],[10],[11],[12],[13],[14],[15,0],[16],[17,0],[18,0]] ?_;refine dA (hdm) ?_;rintro v A ⟨W,vs,rfl,hW,rfl⟩;refine pC ?_;obtain ⟨w0,w1,w2,w3,wa,wc,hvs,hcell,hr⟩ := id hW;subst hvs;refine qF ?_;rw [zX (ps := [(2,.agg ([w0,w1,w2,w3,.slice wa (dumH u).length wc] : LV).toArray)]) (cs := ([.string ⟨#[]⟩,.string ⟨#[]⟩,w0,w1,w2,w3,.slice wa (dumH u).length wc,.int .u64 0,nS,.bool false] : LV).toArray) kM];refine gg ?_
  have hz1 : ∀ v ∈ ([.string ⟨#[]⟩,.string ⟨#[]⟩,w0,w1,w2,w3,.slice wa (dumH u).length wc,.int .u64 0,nS,.bool false] : LV),Value.cell1 v := by
   intro v hv;simp only [aY,aT,or_false] at hv
   rcases hv with rfl | rfl | rfl | rfl | rfl | rfl | rfl | rfl | rfl | rfl
   all_goals first | exact trivial | exact hcell _ sM
  refine zG ?_;refine xo (vs := [.string ⟨#[]⟩,.string ⟨#[]⟩,w0,w1,w2,w3,.slice wa (dumH u).length wc,.int .u64 0,nS,.bool false]) rfl hz1 upA (by rfl) ?_;refine pD ?_
  (try refine gg ?_)
  (try (try refine dS ?_))
  (try refine gg ?_)
  refine zf (vs := [.agg (noCr [w0,w1,w2,w3,.slice wa (dumH u).length wc]).toArray,.bool false]) [quB qk bx_ s q iter [116] ch,stB s r1 last (reads + 1),M1,M2,W,G] ?_ (hr := by (intro κ hκ;simp only [resW,zy,zj,zi,aJ];exact zz (vs := [.string ⟨#[]⟩,.string ⟨#[]⟩,w0,w1,w2,w3,.slice wa (dumH u).length wc,.int .u64 0,nS,.bool false]) lkA rfl hκ));exact ⟨W,_,rfl,hW,rfl⟩
 | false =>
  refine gg ?_;refine cdLg [[0],[1],[2],[3],[4],[5],[6],[7],[8],[9],[10],[11],[12],[13],[14],[15,0],[16],[17,0],[18,0]] ?_;refine dA (hdm) ?_;rintro v A ⟨W,vs,rfl,hW,rfl⟩;refine pC ?_;obtain ⟨w0,w1,w2,w3,wa,wc,hvs,hcell,hr⟩ := id hW;subst hvs;refine qF ?_;rw [zX (ps := [(2,.agg ([w0,w1,w2,w3,.slice wa (dumH u).length wc] : LV).toArray)]) (cs := ([.string ⟨#[]⟩,.string ⟨#[]⟩,w0,w1,w2,w3,.slice wa (dumH u).length wc,.int .u64 0,nS,.bool false] : LV).toArray) kM];refine gg ?_
  have hz1 : ∀ v ∈ ([.string ⟨#[]⟩,.string ⟨#[]⟩,w0,w1,w2,w3,.slice wa (dumH u).length wc,.int .u64 0,nS,.bool false] : LV),Value.cell1 v := by
   intro v hv;simp only [aY,aT,or_false] at hv
   rcases hv with rfl | rfl | rfl | rfl | rfl | rfl | rfl | rfl | rfl | rfl
   all_goals first | exact trivial | exact hcell _ sM
  refine zG ?_;refine xo (vs := [.string ⟨#[]⟩,.string ⟨#[]⟩,w0,w1,w2,w3,.slice wa (dumH u).length wc,.int .u64 0,nS,.bool false]) rfl hz1 upA (by rfl) ?_;refine pD ?_
  (try refine gg ?_)
  (try (try refine dS ?_))
  (try refine gg ?_)
  refine zf (vs := [.agg (noCr [w0,w1,w2,w3,.slice wa (dumH u).length wc]).toArray,.bool false]) [quB qk bx_ s q iter [116] ch,stB s r1 last (reads + 1),M1,M2,W,G] ?_ (hr := by (intro κ hκ;simp only [resW,zy,zj,zi,aJ];exact zz (vs := [.string ⟨#[]⟩,.string ⟨#[]⟩,w0,w1,w2,w3,.slice wa (dumH u).length wc,.int .u64 0,nS,.bool false]) lkA rfl hκ));exact ⟨W,_,rfl,hW,rfl⟩
theorem eI {qk bx_ s q r1 r2 p : Nat} {iter ch last reads gen : Int} {M1 M2 G B : zd} {m : List (L8 × Value)} (hg : jJ G) (hn : GNam G) (h1 : jg M1 r1 (tenM r2)) (h2 : jg M2 r2 m) (hr0 : 0 <= reads) (hr1 : reads < 1000000) (hi1 : 1 <= iter) (hi2 : iter <= 64) (u n : L8) (hu : u.length <= 10000) (hun : xg u 32 = (n,0)) (hm : mget m n = some (pT p)) {vs : LV} {sec : Sec} (hW : SecW B vs sec) :
  zh prog 42 [pT qk,sT u] [quB qk bx_ s q iter [116] ch,stB s r1 last reads,M1,M2,G,crB p n vs gen true,B]
  fun v A => ∃ W ws,v = .tuple #[.agg (noCr ws).toArray,.bool false] /\ DumW W ws (dumH u) /\ A = [quB qk bx_ s q iter [116] ch,stB s r1 last (reads + 1),M1,M2,W,G,crB p n vs gen true,B] := by
 have hnm := wj hn u oM;rw [hun] at hnm;obtain ⟨hst,hnl⟩ := yy hun;have hcf := QX (s := s) (last := last) (gen := gen) hn h1 h2 hr0 hr1 n n oM hst hm n (rev := true) hW;have hdm := QV hg bx_ u hu iter hi1 hi2;refine eNg func42 ntmps42 results42 fun F => ?_
 refine oAg zCr.toArray fun b4 => ?_
 refine cR (hnm) ?_;refine zO (fun D L S => ∃ (b8 : Nat) (e0 e1 e2 e3 : OA) (f0 f1 f2 f3 : Nat),D = [] /\ L = [(9,.bool true),(8,pT b8),(7,.int .i64 0),(4,pT b4),(0,pT qk),(1,sT u)] /\ S = [[(b8,.cells ([sT [116],sT n,.slice e0 1 f0,.int .i64 1,.slice e1 sec.st.length f1,.slice e2 sec.sv.length f2,.slice e3 sec.ha.length f3,.int .u64 gen,nS,.bool true] : LV).toArray 48 (0,0))],[(b4,.cells zCr.toArray 48 (0,0))],quB qk bx_ s q iter [116] ch,stB s r1 last (reads + 1),M1,M2,F,G,crB p n vs gen true,B]) ?_ ?_
 ·refine yJ 10 14 [[],[0],[0,1],[0,1,2],[0,1,2,3],[],[5],[5,6],[5,6,7],[],[0,1,2,3,4,5,6,7,8,9],[0,1,2,3,4,5,6,7,8,9,10],[0,1,2,3,4,5,6,7,8,9,10,11],[0,1,2,3,4,5,6,7,8,9,10,11],[0,1,2,3,4,5,6,7,8,9,10],[0,1,2,3,4,5,6,7,8,9,10,11,12,14],[0,1,2,3,4,5,6,7,8,9,10,11,12,13,14,15]] [(0,false,[]),(1,false,[]),(2,false,[]),(3,false,[]),(4,false,[]),(5,false,[]),(6,false,[]),(7,false,[]),(8,false,[]),(9,false,[]),(10,true,[]),(11,false,[]),(12,false,[]),(13,false,[]),(14,true,[]),(15,true,[]),(16,true,[])] [[],[0],[0,1],[0,1,2],[0,1,2,3],[],[5],[5,6],[5,6,7],[],[0,1,2,3,4,5,6,7,8,9,14],[0,1,2,3,4,5,6,7,8,9,10,14],[0,1,2,3,4,5,6,7,8,9,10,11,14],[0,1,2,3,4,5,6,7,8,9,10,11,14],[],[0,1,2,3,4,5,6,7,8,9,10,11,12,14],[0,1,2,3,4,5,6,7,8,9,10,11,12,13,14,15]] [(0,false,[]),(1,false,[]),(2,false,[]),(3,false,[]),(4,false,[]),(5,false,[]),(6,false,[]),(7,false,[]),(8,false,[]),(9,false,[]),(14,true,[4,8]),(10,true,[]),(11,false,[]),(12,false,[]),(13,false,[]),(15,true,[]),(16,true,[])] ?_ ?_
  ·refine gg ?_;refine dA (hcf) ?_;rintro v A ⟨B',vs',rfl,hB',rfl⟩;refine pC ?_;refine zG ?_;refine qE zCr.toArray rfl fun b8 => ?_;refine pC ?_
   obtain ⟨e0,e1,e2,e3,f0,f1,f2,f3,rfl,_⟩ := id hB';refine zG ?_;refine xo (vs := [sT [116],sT n,.slice e0 1 f0,.int .i64 1,.slice e1 sec.st.length f1,.slice e2 sec.sv.length f2,.slice e3 sec.ha.length f3,.int .u64 gen,nS,.bool true]) rfl (by simp [Value.cell1]) upA (by rfl) ?_;refine pD ?_
   (try refine gg ?_)
   (try (try refine dS ?_))
   (try refine gg ?_)
   exact mid ⟨b8,e0,e1,e2,e3,f0,f1,f2,f3,rfl,rfl,rfl⟩
  ·refine gg ?_;refine zG ?_;refine qE zCr.toArray rfl fun b8 => ?_;refine pC ?_
   refine dA (hcf) ?_;rintro v A ⟨B',vs',rfl,hB',rfl⟩;refine pC ?_;obtain ⟨e0,e1,e2,e3,f0,f1,f2,f3,rfl,_⟩ := id hB';refine zG ?_;refine xo (vs := [sT [116],sT n,.slice e0 1 f0,.int .i64 1,.slice e1 sec.st.length f1,.slice e2 sec.sv.length f2,.slice e3 sec.ha.length f3,.int .u64 gen,nS,.bool true]) rfl (by simp [Value.cell1]) upA (by rfl) ?_;refine pD ?_
   (try refine gg ?_)
   (try (try refine dS ?_))
   (try refine gg ?_)
   exact mid ⟨b8,e0,e1,e2,e3,f0,f1,f2,f3,rfl,rfl,rfl⟩
 rintro D L S ⟨b8,e0,e1,e2,e3,f0,f1,f2,f3,rfl,rfl,rfl⟩;refine gg ?_;refine cdLg [[0],[1],[2],[3],[4],[5],[6],[7],[8],[9],[10],[11],[12],[13],[14],[15,0],[16],[17,0],[18,0]] ?_;refine dA (hdm) ?_;rintro v A ⟨W,ws,rfl,hW2,rfl⟩;refine pC ?_;obtain ⟨w0,w1,w2,w3,wa,wc,hvs,hcell,hr⟩ := id hW2;subst hvs;refine qF ?_;rw [zX (ps := [(2,.agg ([w0,w1,w2,w3,.slice wa (dumH u).length wc] : LV).toArray)]) (cs := ([.string ⟨#[]⟩,.string ⟨#[]⟩,w0,w1,w2,w3,.slice wa (dumH u).length wc,.int .u64 0,nS,.bool false] : LV).toArray) kM];refine gg ?_
 have hz1 : ∀ v ∈ ([.string ⟨#[]⟩,.string ⟨#[]⟩,w0,w1,w2,w3,.slice wa (dumH u).length wc,.int .u64 0,nS,.bool false] : LV),Value.cell1 v := by
  intro v hv;simp only [aY,aT,or_false] at hv
  rcases hv with rfl | rfl | rfl | rfl | rfl | rfl | rfl | rfl | rfl | rfl
  all_goals first | exact trivial | exact hcell _ sM
 refine zG ?_;refine xo (vs := [.string ⟨#[]⟩,.string ⟨#[]⟩,w0,w1,w2,w3,.slice wa (dumH u).length wc,.int .u64 0,nS,.bool false]) rfl hz1 upA (by rfl) ?_;refine pD ?_
 (try refine gg ?_)
 (try (try refine dS ?_))
 (try refine gg ?_)
 refine zf (vs := [.agg (noCr [w0,w1,w2,w3,.slice wa (dumH u).length wc]).toArray,.bool false]) [quB qk bx_ s q iter [116] ch,stB s r1 last (reads + 1),M1,M2,W,G,crB p n vs gen true,B] ?_ (hr := by (intro κ hκ;simp only [resW,zy,zj,zi,aJ];exact zz (vs := [.string ⟨#[]⟩,.string ⟨#[]⟩,w0,w1,w2,w3,.slice wa (dumH u).length wc,.int .u64 0,nS,.bool false]) lkA rfl hκ));exact ⟨W,_,rfl,hW2,rfl⟩
def vQ (us : List PU) (u : L8) : Option PU := if (xg u 32).2 = 0 then (match getU us (xg u 32).1 with
 | some p => if p.rev = true then none else some p
 | none => none) else none
theorem IF (u : L8) : (dumH u).length = 32 := qS _
theorem bJ {qk bx_ s q : Nat} {iter ch last reads : Int} {K G : zd} {us : List PU} (hg : jJ G) (hn : GNam G) (hSt : IsSt K s us last reads) (hr0 : 0 <= reads) (hr1 : reads < 1000000) (hi1 : 1 <= iter) (hi2 : iter <= 64) (u : L8) (hu : u.length <= 10000) (hk : vQ us u = none) :
  zh prog 42 [pT qk,sT u] [quB qk bx_ s q iter [116] ch,K,G]
  fun v A => ∃ (W K' : zd) (ws : LV),v = .tuple #[.agg (noCr ws).toArray,.bool false] /\ DumW W ws (dumH u) /\ IsSt K' s us last (reads + 1) /\ A = [quB qk bx_ s q iter [116] ch,K',W,G] := by
 unfold vQ at hk
 have hno : (¬ ((xg u 32).2 = 0) ∨ getU us (xg u 32).1 = none) -> zh prog 42 [pT qk,sT u] [quB qk bx_ s q iter [116] ch,K,G]
   fun v A => ∃ (W K' : zd) (ws : LV),v = .tuple #[.agg (noCr ws).toArray,.bool false] /\ DumW W ws (dumH u) /\ IsSt K' s us last (reads + 1) /\ A = [quB qk bx_ s q iter [116] ch,K',W,G] := by
  intro hc;obtain ⟨r1,r2,M1,M2,cs,rfl,h1,h2,hs,rfl⟩ := hSt;have hh := qfind_no (qk := qk) (bx_ := bx_) (q := q) (iter := iter) (ch := ch) (s := s) (last := last) hg hn h1 h2 hr0 hr1 hi1 hi2 u hu (fun h0 => VO cs fun c hcc => ZL (hc.resolve_left (fun e => e h0)) c.u (mH hcc));refine zh.conv [quB qk bx_ s q iter [116] ch,stB s r1 last reads,M1,M2,cs.flatMap CU.C,G] (hh) flA tkA ?_;rintro v A ⟨W,ws,rfl,hW,rfl⟩;exact ⟨[quB qk bx_ s q iter [116] ch,stB s r1 last (reads + 1) ++ (M1 ++ (M2 ++ cs.flatMap CU.C)),W,G],[quB qk bx_ s q iter [116] ch,stB s r1 last (reads + 1),M1,M2,cs.flatMap CU.C,W,G],flA,amA,W,_,ws,rfl,hW,⟨r1,r2,M1,M2,cs,rfl,h1,h2,hs,rfl⟩,rfl⟩
 by_cases h0 : (xg u 32).2 = 0
 ·rw [if_pos h0] at hk
  cases hgu : getU us (xg u 32).1 with
  | none => exact hno (.inr hgu)
  | some p =>
   rw [hgu] at hk;simp only at hk
   have hrev : p.rev = true := by
    split at hk
    ·assumption
    ·cases hk
   obtain ⟨us1,us2,rfl,hun,hpn⟩ := wn hgu;obtain ⟨r1,r2,pp,M1,M2,B,U1,U2,m,vs,h1,h2,hm,hW,rfl,hback⟩ := Kz hSt hun;have hh := eI (qk := qk) (bx_ := bx_) (q := q) (iter := iter) (ch := ch) (s := s) (last := last) (gen := p.gen) hg hn h1 h2 hr0 hr1 hi1 hi2 u p.n hu (by rw [hpn,<- h0]) hm hW;have hb := hback last (reads + 1) p.gen true;have ep : (⟨p.n,p.sec,p.gen,true⟩ : PU) = p := by rw [<- hrev]
   rw [ep] at hb;rw [hrev];refine zh.conv [quB qk bx_ s q iter [116] ch,stB s r1 last reads,M1,M2,U1,crB pp p.n vs p.gen true,B,U2,G] (hh) flA tkA ?_;rintro v A ⟨W,ws,rfl,hW2,rfl⟩;exact ⟨[quB qk bx_ s q iter [116] ch,stB s r1 last (reads + 1) ++ (M1 ++ (M2 ++ (U1 ++ (crB pp p.n vs p.gen true ++ (B ++ U2))))),W,G],[quB qk bx_ s q iter [116] ch,stB s r1 last (reads + 1),M1,M2,U1,crB pp p.n vs p.gen true,B,U2,W,G],flA,amA,W,_,ws,rfl,hW2,hb,rfl⟩
 ·exact hno (.inl h0)
theorem qans_no {qk bx_ s q : Nat} {iter ch last reads : Int} {C K G : zd} {us : List PU} {x : BX} (hg : jJ G) (hn : GNam G) (hC : vg C bx_ x) (hts : x.ts.length <= 800) (hSt : IsSt K s us last reads) (hr0 : 0 <= reads) (hr1 : reads < 1000000) (hch0 : 0 <= ch) (hch1 : ch < 1000000) (hi1 : 1 <= iter) (hi2 : iter <= 64)
  (hd u nn tgt cn o pf mt : L8) (nc : W) (hpa : paE hd = (⟨u,[116],nn,tgt,cn,o,nc,pf⟩,0)) (hdl : hd.length <= 100000) (hul : u.length <= 4096) (hnnl : nn.length <= 4096) (htl : tgt.length <= 4096) (hcl : cn.length <= 4096) (hpl : pf.length <= 4096) (hml : mt.length <= 1000) (hk : vQ us u = none) (now : Int) :
  zh prog 12 [pT qk,.agg #[sT mt,sT tgt,sT hd],.int .u64 now] [quB qk bx_ s q iter [116] ch,C,K,G]
  fun v A => ∃ (C' K' : zd),v = .tuple #[.agg zRes.toArray,.int .i64 13] /\ vg C' bx_ (qm x (dumH u) mt ⟨u,[116],nn,tgt,cn,o,nc,pf⟩).2 /\ IsSt K' s us last (reads + 1) /\ A = [quB qk bx_ s q iter [116] (ch + 1),C',K',G] := by
 have hps := ZA hd hdl;rw [hpa] at hps;have hqf := bJ (qk := qk) (bx_ := bx_) (q := q) (iter := iter) (ch := ch) hg hn hSt hr0 hr1 hi1 hi2 u oM hk;have hdl2 := IF u;refine eNg func12 ntmps12 results12 fun F => ?_
 refine oBg fun b4 => ?_
 refine oAg zRes.toArray fun b6 => ?_
 refine cA (hps) ?_;rintro v A ⟨P,pa,pk,rfl,hP,rfl⟩;refine gA ?_;simp only at hP;refine oAg (encA a0 none 0).toArray fun b8 => ?_
 refine oSg (encA ⟨u,[116],nn,tgt,cn,o,nc,pf⟩ pa pk) rfl (wt _ _ _) ?_;refine cdLg [[0],[1],[2],[3],[4],[5],[6],[7],[8],[9],[10],[11],[12],[13],[14,0]] ?_;refine cA (hqf) ?_;rintro v A ⟨W,K',ws,rfl,hW,hSt',rfl⟩;refine gA ?_;obtain ⟨w0,w1,w2,w3,wa,wc,hvs,hcell,hr⟩ := id hW;subst hvs
 have hz1 : ∀ v ∈ ([.string ⟨#[]⟩,.string ⟨#[]⟩,w0,w1,w2,w3,.slice wa (dumH u).length wc,.int .u64 0,nS,.bool false] : LV),Value.cell1 v := by
  intro v hv;simp only [aY,aT,or_false] at hv
  rcases hv with rfl | rfl | rfl | rfl | rfl | rfl | rfl | rfl | rfl | rfl
  all_goals first | exact trivial | exact hcell _ sM
 refine oAg zCr.toArray fun b10 => ?_
 refine oSg [.string ⟨#[]⟩,.string ⟨#[]⟩,w0,w1,w2,w3,.slice wa (dumH u).length wc,.int .u64 0,nS,.bool false] rfl hz1 ?_;refine gM ?_;refine cdLg [[0],[1],[2],[3],[4],[5],[6],[7],[8],[9],[10],[12],[13],[11,0,13],[14,0],[15,0]] ?_;refine qF ?_;refine zz (vs := encA ⟨u,[116],nn,tgt,cn,o,nc,pf⟩ pa pk) lkA rfl ?_;refine gg ?_;have rl := ye x (dumH u) mt ⟨u,[116],nn,tgt,cn,o,nc,pf⟩;refine dA (Jt hg hC oM (dumH u) mt oM hml hr ⟨u,[116],nn,tgt,cn,o,nc,pf⟩ hnnl htl hcl pa pk) ?_;rintro v A ⟨O,C',oa,oc,rfl,hO,hC',rfl⟩;refine pC ?_;generalize qm x (dumH u) mt ⟨u,[116],nn,tgt,cn,o,nc,pf⟩ = r at *;refine dR (Jw O P oa pa oc pk r.1 pf oM oM (hO.rd (aA ..)) (hP.rd (aA ..))) ?_
 (try (try refine dS ?_))
 (try refine gg ?_)
 cases hb : (r.1 == pf) with
 | true =>
  refine gg ?_;refine oTg [] zRes.toArray ?_;refine oSg zRes rfl (by simp [Value.cell1]) ?_;refine zf (vs := [.agg zRes.toArray,.int .i64 13]) [quB qk bx_ s q iter [116] (ch + 1),C',K',G] ?_ (hr := hrA);exact ⟨C',K',rfl,hC',hSt',rfl⟩
 | false =>
  refine gg ?_;refine oTg [] zRes.toArray ?_;refine oSg zRes rfl (by simp [Value.cell1]) ?_;refine zf (vs := [.agg zRes.toArray,.int .i64 13]) [quB qk bx_ s q iter [116] (ch + 1),C',K',G] ?_ (hr := hrA);exact ⟨C',K',rfl,hC',hSt',rfl⟩
end Go.Proofs.YtebikhhoppiapaaGreatDoor
namespace Go.Proofs.YtebikhhoppiapaaGreatDoor
open Go Go.Ost Go.Sha _root_.Go.Proofs.Tryz
theorem QB {G : zd} (hg : vj G) {C H : zd} {b : Nat} {x : BX} (hC : RBox C b x) (hts : x.ts.length <= 900) {ha : OA} {hc : Nat} (h1 m : L8) (hl1 : h1.length <= 1000) (hm : m.length <= 1000) (hH : Rd 1 [H] ha h1.length (h1.map b8)) (a : An) (hn : a.n.length <= 4096) (huri : a.uri.length <= 4096) (hcn : a.cn.length <= 4096) (pa : OA) (pk : Nat) :
  zh prog 69 [pT b,.slice ha h1.length hc,sT m,.agg (encA a pa pk).toArray] [C,G,H] (ROut b (qm x h1 m a) [G,H]) := by
 obtain ⟨au,ar,an,ai,ak,ao,ac,ap⟩ := a;simp only at hn huri hcn;have hx64 := ac.isLt;have l2 : (ha2T m ai).length <= 6000 := by unfold ha2T;simp only [aB,aI];omega
 have s58 : Value.string ⟨#[58]⟩ = sT [58] := rfl;have s5a : Value.string ⟨#[58,97,117,116,104,58]⟩ = sT [58,97,117,116,104,58] := rfl;refine eNg func69 ntmps69 results69 fun F => ?_
 refine oBg fun b7 => ?_
 rw [s58];refine zF ?_;rw [zV (by rw [aI];omega)];refine gg ?_;refine zF ?_;rw [zV (by rw [aB,aI];omega)];refine gg ?_;rw [show m ++ [58] ++ ai = ha2T m ai from rfl];refine zF ?_;refine xb (by simp only [maxLen];omega) (fun J ja jc hJ => ?_);refine gg ?_;have kl := qW x (ha2T m ai);have kt := jT x (ha2T m ai);refine cA (wh hg oM (hJ.rd (aA ..)) hC oM) ?_;rintro v A ⟨K1,C1,ka,kc,rfl,hK1,hC1,rfl⟩;refine gA ?_;unfold qm;simp only;generalize jo x (ha2T m ai) = k at *;have hx1 : (hex h1).length <= 3000 := by rw [jK];omega
 have hx2 : (hex k.1).length <= 3000 := by rw [jK];omega
 have hx3 : (hex (xH ac)).length <= 8 := by rw [jK];exact aR _
 have l6 : (resT h1 an ac ak k.1).length <= 20000 := by unfold resT;simp only [aB,aI,aH,aQ];omega
 refine cdLg [[0],[1],[4],[5],[8],[9],[10],[15],[16],[19],[2,0,5,9,16],[3],[6],[7],[11,0,5,16],[12,0,5,16],[13],[14],[17],[18],[20,0,5,16],[21],[22,0],[23,0],[24,0]] ?_;refine dR (vq H ha hc h1 oM hH) ?_;refine qF ?_;(try rw [s58]);(try rw [s5a]);rw [zV (by simp only [aB,aI,aH,aQ];omega)];refine gg ?_;refine qF ?_;(try rw [s58]);(try rw [s5a]);rw [zV (by simp only [aB,aI,aH,aQ];omega)];refine gg ?_;refine qF ?_;(try rw [s58]);(try rw [s5a]);rw [zV (by simp only [aB,aI,aH,aQ];omega)];refine gg ?_;have hbb := jS ac.toNat 4 oM dM;rw [ZQ] at hbb;refine dA (hbb) ?_;rintro v A ⟨B,ba,bk,rfl,hB,rfl⟩;refine pC ?_;refine dR (vq B ba bk (xH ac) (by rw [show (xH ac).length = 4 from rfl];decide) (hB.rd (aA ..))) ?_;refine qF ?_;(try rw [s58]);(try rw [s5a]);rw [zV (by simp only [aB,aI,aH,aQ];omega)];refine gg ?_;refine qF ?_;(try rw [s58]);(try rw [s5a]);rw [zV (by simp only [aB,aI,aH,aQ];omega)];refine gg ?_;refine qF ?_;(try rw [s58]);(try rw [s5a]);rw [zV (by simp only [aB,aI,aH,aQ];omega)];refine gg ?_;refine qF ?_;(try rw [s58]);(try rw [s5a]);rw [zV (by simp only [aB,aI,aH,aQ];omega)];refine gg ?_;refine wL fun K hK => ?_;refine jq (vq K1 ka kc k.1 oM (hK1.rd (aA ..))) ?_;rintro v A ⟨rfl,rfl⟩;refine pA hK ?_;clear hK K
 refine gg ?_;refine qF ?_;(try rw [s58]);(try rw [s5a]);rw [zV (by simp only [aB,aI,aH,aQ];omega)];refine gg ?_;rw [show hex h1 ++ [58] ++ an ++ [58] ++ hex (xH ac) ++ [58] ++ ak ++ [58,97,117,116,104,58] ++ hex k.1 = resT h1 an ac ak k.1 from rfl];refine zG ?_;refine xb (by simp only [maxLen];omega) (fun Z za zc hZ => ?_);refine gg ?_;refine dA (wh hg oM (hZ.rd (aA ..)) hC1 oM) ?_;rintro v A ⟨O,C',oa,oc,rfl,hO,hC',rfl⟩;refine pC ?_
 (try (try refine dS ?_))
 (try refine gg ?_)
 refine ze [O,C',G,H] ?_;exact ⟨O,C',oa,oc,rfl,hO,hC',rfl⟩
abbrev ofB (o b u n : Nat) (iter : Int) : zd := [(o,.cells #[pT b,pT u,pT n,.int .i64 iter] 79 (0,0))]
abbrev ryB (y o : Nat) (t : L8) (ch : Int) : zd := [(y,.cells #[pT o,sT t,.int .u64 ch] 88 (0,0))]
instance tpRAn : xi prog 56 [(0,1),(1,1),(2,1),(3,1),(4,1),(5,1),(6,1),(7,1)] := ⟨kM⟩
theorem cella (a : An) (pa : OA) (pk : Nat) : ∀ v ∈ encA a pa pk,Value.cell1 v := by
 intro v hv;simp only [encA,aY,aT,or_false] at hv
 rcases hv with rfl | rfl | rfl | rfl | rfl | rfl | rfl | rfl <;> simp [Value.cell1,b32]
abbrev anC (u n uri cn : L8) (nc : W) (pf : L8) : An := ⟨u,[116],n,uri,cn,[],nc,pf⟩
def qJ (x : BX) (u p m uri n cn : L8) (nc : W) : (L8 × Int) × BX :=
 let h := jo x (xT u [116] p)
 let r := qm h.2 h.1 m (anC u n uri cn nc [])
 (vZ (anC u n uri cn nc r.1),r.2)
theorem KN {G : zd} (hg : vj G) {C : zd} {b y o us ns : Nat} {iter ch : Int} {x : BX} (hC : RBox C b x) (hts : x.ts.length <= 800) (u p m uri n cn : L8) (nc : W) (hu : u.length <= 1000) (hp : p.length <= 1000) (hm : m.length <= 1000) (huri : uri.length <= 1000) (hn : n.length <= 1000) (hcn : cn.length <= 1000) :
  zh prog 38 [pT y,sT u,sT p,sT m,sT uri,sT n,sT cn,b32 nc] [C,G,ryB y o [116] ch,ofB o b us ns iter]
  fun v A => ∃ C',v = .tuple #[sT (qJ x u p m uri n cn nc).1.1,.int .i64 (qJ x u p m uri n cn nc).1.2] /\ RBox C' b (qJ x u p m uri n cn nc).2 /\ A = [C',G,ryB y o [116] ch,ofB o b us ns iter] := by
 have s58 : Value.string ⟨#[58]⟩ = sT [58] := rfl;have hcl : (xT u [116] p).length <= 3000 := by unfold xT;simp only [aB,aI];omega
 refine eNg func38 ntmps38 results38 fun F => ?_
 refine oTg [(0,sT u),(1,sT [116]),(2,sT n),(3,sT uri),(4,sT cn),(6,b32 nc)] (encA (anC u n uri cn nc []) none 0).toArray ?_;refine oAg (encA a0 none 0).toArray fun b18 => ?_
 refine oSg (encA (anC u n uri cn nc []) none 0) rfl (cella _ _ _) ?_;refine cdLg [[0],[1],[2],[3],[4],[5],[6],[7],[8],[9],[10],[11],[12],[13],[14],[15],[16],[17],[18],[19],[20],[21],[22],[23],[26],[27],[24,0,3,6,10,13,27],[25,0,3,6,27],[28,0],[29],[30,0]] ?_;refine qF ?_;(try rw [s58]);rw [zV (by simp only [aB,aI,aH,aQ];omega)];refine gg ?_;refine qF ?_;(try rw [s58]);rw [zV (by simp only [aB,aI,aH,aQ];omega)];refine gg ?_;refine qF ?_;(try rw [s58]);rw [zV (by simp only [aB,aI,aH,aQ];omega)];refine gg ?_;refine qF ?_;(try rw [s58]);rw [zV (by simp only [aB,aI,aH,aQ];omega)];refine gg ?_;refine qF ?_;refine zz (vs := encA (anC u n uri cn nc []) none 0) lkA rfl ?_;refine gg ?_;rw [show u ++ [58] ++ [116] ++ [58] ++ p = xT u [116] p from rfl];refine zG ?_;refine xb (by simp only [maxLen];omega) (fun Z za zc hZ => ?_);refine pend ?_;refine pend ?_;refine pend ?_;refine pend ?_;refine pend ?_ (zz (vs := encA (anC u n uri cn nc []) none 0) lkA rfl rfl);refine gg ?_;have hl1 := qW x (xT u [116] p);have ht := jT x (xT u [116] p);refine zG ?_;refine jq (wh hg oM (hZ.rd (aA ..)) hC oM) ?_;rintro v A ⟨O,C1,oa,oc,rfl,hO,hC1,rfl⟩;(try simp only [aD,aC]);refine pend ?_;refine pend ?_;refine pend ?_ (zz (vs := encA (anC u n uri cn nc []) none 0) lkA rfl rfl);refine gg ?_;unfold qJ;simp only;generalize jo x (xT u [116] p) = h at *;have rl := ye h.2 h.1 m (anC u n uri cn nc []);refine dA (QB hg hC1 oM h.1 m oM hm (hO.rd (aA ..)) (anC u n uri cn nc []) (by show n.length <= 4096;omega) (by show uri.length <= 4096;omega) (by show cn.length <= 4096;omega) none 0) ?_;rintro v A ⟨O2,C2,qa,qc,rfl,hO2,hC2,rfl⟩;refine pC ?_;generalize qm h.2 h.1 m (anC u n uri cn nc []) = r at *
 (try (refine zG ?_;(first | refine xJ trivial upA ?_ | refine xq trivial upA sM ?_);refine pD ?_;refine gg ?_))
 (try simp only [encA,anC])
 refine gM ?_;refine oLg (encA (anC u n uri cn nc r.1) qa qc) rfl ?_;refine cR (KP (a := anC u n uri cn nc r.1) (by show u.length <= 4000;omega) (by show 1 <= 4000;decide) (by show n.length <= 4000;omega) (by show uri.length <= 4000;omega) (by show cn.length <= 4000;omega) (by show 0 <= 4000;decide) (by show r.1.length <= 1000;omega) (hO2.rd (aA ..))) ?_;refine zf (vs := [sT (vZ (anC u n uri cn nc r.1)).1,.int .i64 (vZ (anC u n uri cn nc r.1)).2]) [C2,G,ryB y o [116] ch,ofB o b us ns iter] ?_;exact ⟨C2,rfl,hC2,rfl⟩
abbrev botV (b s q : Nat) (iter : Int) (o k y : Nat) : LV := [pT b,pT s,pT q,.int .i64 iter,pT o,pT k,pT y]
instance tpDAn : xi prog 126 [(0,1),(1,1),(2,1),(3,1),(4,1),(5,1),(6,1),(7,1)] := ⟨kM⟩
theorem JZ {G : zd} (hg : vj G) {C R : zd} {b s q k y o rb us ns : Nat} {iter it2 ch : Int} {x : BX} (hC : vg C b x) (hR : RBox R rb x) (hts : x.ts.length <= 800) (u p m uri n cn : L8) (nc : W) (hu : u.length <= 1000) (hp : p.length <= 1000) (hm : m.length <= 1000) (huri : uri.length <= 1000) (hn : n.length <= 1000) (hcn : cn.length <= 1000) :
  zh prog 11 [.agg (botV b s q iter o k y).toArray,sT u,sT p,sT m,sT uri,sT n,sT cn,b32 nc] [C,R,G,ryB y o [116] ch,ofB o rb us ns it2]
  fun v A => ∃ C' R',v = sT (qJ x u p m uri n cn nc).1.1 /\ vg C' b (qJ x u p m uri n cn nc).2 /\ RBox R' rb (qJ x u p m uri n cn nc).2 /\ A = [C',R',G,ryB y o [116] ch,ofB o rb us ns it2] := by
 have hcl := KN (y := y) (o := o) (us := us) (ns := ns) (iter := it2) (ch := ch) hg hR hts u p m uri n cn nc hu hp hm huri hn hcn;refine eNg func11 ntmps11 results11 fun F => ?_
 refine oBg fun b8 => ?_
 refine cA (hcl) ?_;rintro v A ⟨R',rfl,hR',rfl⟩;refine gA ?_;have hl1 := qW x (xT u [116] p);have ht := jT x (xT u [116] p);refine cdLg [[0],[1],[2],[3],[4],[5],[6],[7],[9],[10],[11],[12],[13],[14],[15],[8,0,2],[16,0]] ?_;refine qF ?_;rw [zX (ps := [(0,sT u),(1,.string ⟨#[116]⟩),(2,sT n),(3,sT uri),(4,sT cn),(6,b32 nc)]) (cs := (encA (anC u n uri cn nc []) none 0).toArray) kM];refine gg ?_;refine dA (ha1_spec hg.1 hC oM u [116] p hu dM hp) ?_;rintro v A ⟨O,C1,oa,oc,rfl,hO,hC1,rfl⟩;refine pC ?_;unfold qJ at *;simp only at *;generalize jo x (xT u [116] p) = h at *;refine dA (Jt hg.1 hC1 oM h.1 m oM hm (hO.rd (aA ..)) (anC u n uri cn nc []) (by show n.length <= 4096;omega) (by show uri.length <= 4096;omega) (by show cn.length <= 4096;omega) none 0) ?_;rintro v A ⟨O2,C2,qa,qc,rfl,hO2,hC2,rfl⟩;refine pC ?_;refine ze [C2,R',G,ryB y o [116] ch,ofB o rb us ns it2] ?_;exact ⟨C2,R',rfl,hC2,hR',rfl⟩
end Go.Proofs.YtebikhhoppiapaaGreatDoor
namespace Go.Proofs.YtebikhhoppiapaaGreatDoor
open Go Go.Ost Go.Tab Go.Sha
structure Op12 where
 d : Int
 text : L8
 which : Int
 own : Bool
 count : Int
 ticks : Int
 back : Int
structure Op12.Ok (o : Op12) : Prop where
 d0 : 0 <= o.d
 d1 : o.d < 256
 w0 : 0 <= o.which
 w1 : o.which < 256
 c0 : 0 <= o.count
 c1 : o.count < 4294967296
 t0 : 0 <= o.ticks
 t1 : o.ticks < 4294967296
 b0 : 0 <= o.back
 b1 : o.back < 256
def encO (o : Op12) : LV := [.int .u8 o.d,sT o.text,.int .u8 o.which,.bool o.own,.int .u32 o.count,.int .u32 o.ticks,.int .u8 o.back]
open _root_.Go.Proofs.Tryz
structure Script12 (C : zd) (v : Value) (ops : List Op12) : Prop where
 out : ∃ a cap,v = .slice a ops.length cap /\ ops.length <= cap /\ cap <= maxLen /\ Rd 7 [C] a ops.length (ops.flatMap encO)
 ok : ∀ o ∈ ops,o.Ok
instance iKR_1 : xi prog 100 [(0,1),(1,1)] := ⟨kM⟩
instance iKR_2 : xi prog 105 [(0,1),(1,1),(2,1),(3,1),(4,1),(5,1),(6,1)] := ⟨kM⟩
theorem nnew_one (room : Nat) (win : Int) (r1 : 1 <= room) (r2 : room <= 64) (w1 : 1 <= win) (w2 : win <= 1099511627776) : zh prog 25 [.agg #[.int .i64 room,.int .u64 win]] [] fun v A => ∃ q T,v = .tuple #[pT q,.int .i64 0] /\ ZW (some ⟨q,0,none⟩) T (some (ns0 room win)) /\ A = [T] := by
 refine zh.conv [] (nnew_yes room win r1 r2 w1 w2) rfl (.nil _) ?_;rintro v A ⟨q,b,T,rfl,hT,rfl⟩;exact ⟨[nB q b (ns0 room win) ++ T],[nB q b (ns0 room win),T],flA,amA,q,_,rfl,⟨q,b,T,ok_new r1 r2 w1 w2,hT,rfl,rfl⟩,rfl⟩
open Go.Nam
def uN (i : Nat) : L8 := if i = 0 then [97,110,110] else [98,111,98]
def uP (i : Nat) : L8 := if i = 0 then [112,101,110,99,105,108] else [115,101,99,114,101,116]
theorem Qs (i : Nat) : (uN i).length = 3 := by unfold uN;split <;> rfl
theorem Oi (i : Nat) : (uP i).length = 6 := by unfold uP;split <;> rfl
theorem Zj (i : Nat) : xg (uN i) 32 = (uN i,0) := by unfold uN;split <;> decide +kernel
theorem Oh (i : Nat) : xg (uP i) 64 = (uP i,0) := by unfold uP;split <;> decide +kernel
def lx (sym : Bool) : Nat -> List PU × BX
 | 0 => ([],⟨sym,[]⟩)
 | i + 1 => ((lx sym i).1 ++ [⟨uN i,(vP (lx sym i).2 (uN i) (uP i)).1,(i : Int) + 1,false⟩],(vP (lx sym i).2 (uN i) (uP i)).2)
theorem fF (sym : Bool) : ∀ i,(lx sym i).2.ts.length <= 5 * i /\ (lx sym i).1.length = i
 | 0 => ⟨aR _,rfl⟩
 | i + 1 => by
  have h := fF sym i;have m := makeX_ts (lx sym i).2 (uN i) (uP i);simp only [lx,aB,aI];omega
theorem lx_less (sym : Bool) (i : Nat) (hi : i < 2) : ∀ x ∈ (lx sym i).1,x.n ≠ uN i /\ Op.bytesLess x.n (uN i) = true := by
 obtain rfl | rfl : i = 0 ∨ i = 1 := oM
 ·intro x hx;cases hx
 ·intro x hx;simp only [lx,aD,mJ] at hx;subst hx;exact ⟨(by decide : uN 0 ≠ uN 1),(by decide : Op.bytesLess (uN 0) (uN 1) = true)⟩
instance tpBoth : xi prog 32 [(0,4),(4,1),(5,1),(6,1)] := ⟨kM⟩
instance tpROff : xi prog 79 [(0,1),(1,1),(2,1),(3,1)] := ⟨kM⟩
instance tpRQu : xi prog 88 [(0,1),(1,1),(2,1)] := ⟨kM⟩
instance tpRBox : xi prog 92 [(0,1),(1,1),(2,1)] := ⟨kM⟩
instance tpRSt : xi prog 95 [(0,1),(1,1),(2,1),(3,1)] := ⟨kM⟩
def encU (i : Nat) : LV := [sT (uN i),sT (uP i)]
theorem Io {G : zd} (hg : vj G) (hn : GNam G) (sym : Bool) (room : Nat) (win : Int) (r1 : 1 <= room) (r2 : room <= 64) (w1 : 1 <= win) (w2 : win <= 1099511627776) :
  zh prog 7 [.bool sym,.int .i64 room,.int .u64 win] [G] fun v A => ∃ (b s q k o y rb rs rn : Nat) (C R K RK NT RT : zd),v = .agg (botV b s q 2 o k y).toArray /\ vg C b (lx sym 2).2 /\ RBox R rb (lx sym 2).2 /\ IsSt K s (lx sym 2).1 2 0 /\ IsRs RK rs (lx sym 2).1 2 0 /\
   ZW (some ⟨q,0,none⟩) NT (some (ns0 room win)) /\ yN (some ⟨rn,0,none⟩) RT (some (ns0 room win)) /\ A = [C,R,K,RK,NT,RT,quB k b s q 2 [116] 0,ryB y o [116] 0,ofB o rb rs rn 2,G] := by
 refine eNg func7 ntmps7 results7 fun F => ?_
 refine oAg ([.pointer none,.pointer none,.pointer none,.int .i64 0,.pointer none,.pointer none,.pointer none] : LV).toArray fun b6 => ?_
 refine oTg [(0,.int .i64 room),(1,.int .u64 win)] #[.int .i64 room,.int .u64 win] ?_;refine cA (nnew_one room win r1 r2 w1 w2) ?_;rintro v A ⟨q,NT,rfl,hNT,rfl⟩;refine gA ?_;refine cA (gO sym) ?_;rintro v A ⟨b,C,rfl,hC,rfl⟩;refine gA ?_;refine cA (gK) ?_;rintro v A ⟨s,m1,M1,rfl,hM1,rfl⟩;refine gA ?_;refine oTg [(0,pT b),(1,pT s),(2,pT q),(3,.int .i64 2)] (offV b s q 2).toArray ?_;refine oTg [(0,.bool sym)] ([.bool sym,nS,.bool false] : LV).toArray ?_;refine oBg fun rb => ?_
 refine oTg [] ([nS,nS,.int .u64 0,.int .u64 0] : LV).toArray ?_;refine oBg fun rs => ?_
 refine oTg [(0,.int .i64 room),(1,.int .u64 win)] ([.int .i64 room,.int .u64 win,nS,.int .u64 0,.int .u64 0,.int .u64 0,.bool false] : LV).toArray ?_;refine oBg fun rn => ?_
 refine oTg [(0,pT rb),(1,pT rs),(2,pT rn),(3,.int .i64 2)] (offV rb rs rn 2).toArray ?_;refine oBg fun o => ?_
 refine oTg [(0,.agg (offV b s q 2).toArray),(1,pT o)] ([pT b,pT s,pT q,.int .i64 2,pT o,.pointer none,.pointer none] : LV).toArray ?_;refine oAg ([.pointer none,.pointer none,.pointer none,.int .i64 0,.pointer none,.pointer none,.pointer none] : LV).toArray fun b9 => ?_
 refine oSg [pT b,pT s,pT q,.int .i64 2,pT o,.pointer none,.pointer none] rfl (by simp [Value.cell1]) ?_;refine gM ?_;refine cA (Oc hM1) ?_;rintro v A ⟨m2,M1',M2,rfl,hM1',hM2,rfl⟩;refine gA ?_;refine gM ?_;refine cA (KS) ?_;rintro v A ⟨T,ta,tc,rfl,hT,rfl⟩;refine gA ?_;refine zF ?_;rw [Qd (ps := [(0,.string ⟨#[97,110,110]⟩),(1,.string ⟨#[112,101,110,99,105,108]⟩)]) (cs := (encU 0).toArray) kM];refine zF ?_;rw [Qd (ps := [(0,.string ⟨#[98,111,98]⟩),(1,.string ⟨#[115,101,99,114,101,116]⟩)]) (cs := (encU 1).toArray) kM];refine gg ?_;refine zF ?_;refine ZR (n := 2) (e := 108) (s := 2) (hs := inferInstance) [encU 0,encU 1] (by rfl) rfl dM dM dM (by intro r hr;simp only [aY,aT,or_false] at hr;rcases hr with rfl | rfl <;> rfl) (fun ba CA hA => ?_);refine gg ?_;have hE : Ost.Own 2 108 CA (some ⟨ba,0,none⟩) 2 2 (([0,1] : List Nat).flatMap encU) := hA;generalize (some (⟨ba,0,none⟩ : Addr)) = sa at hE ⊢;refine code_sub (S' := [[(b9,.cells ([pT b,pT s,pT q,.int .i64 2,pT o,.pointer none,.pointer none] : LV).toArray 32 (0,0))],CA,ofB o rb rs rn 2,rbB rb sym none 0 0,stB s m1 0 0,M1',M2,rsB rs ta 1 tc none 0 0 0 0,T,C,NT,xN rn (ns0 room win) none 0 0,[(b6,.cells ([.pointer none,.pointer none,.pointer none,.int .i64 0,.pointer none,.pointer none,.pointer none] : LV).toArray 32 (0,0))],F,G]) ?_;refine jY (S' := [[(b9,.cells ([pT b,pT s,pT q,.int .i64 2,pT o,.pointer none,.pointer none] : LV).toArray 32 (0,0))],CA,ofB o rb rs rn 2,rbB rb sym none 0 0 ++ ([] ++ []),stB s m1 0 0 ++ (M1' ++ (M2 ++ [])),rsB rs ta 1 tc none 0 0 0 0 ++ T,C,NT,xN rn (ns0 room win) none 0 0 ++ [],[(b6,.cells ([.pointer none,.pointer none,.pointer none,.int .i64 0,.pointer none,.pointer none,.pointer none] : LV).toArray 32 (0,0))],F,G]) sM ?_;have hR : RBox (rbB rb sym none 0 0 ++ ([] ++ [])) rb ⟨sym,[]⟩ := ⟨none,0,[],[],[],rfl,rfl,zJ,(fun _ h => nomatch h)⟩;have hKs : IsSt (stB s m1 0 0 ++ (M1' ++ (M2 ++ []))) s [] 0 0 := ⟨m1,m2,M1',M2,[],rfl,hM1',hM2,(fun _ h => nomatch h),rfl⟩
 have hRK := is_rs0 (s := rs) (last := 0) (reads := 0) hT;have hRN : yN (some ⟨rn,0,none⟩) (xN rn (ns0 room win) none 0 0 ++ []) (some (ns0 room win)) := ⟨rn,none,0,[],ok_new r1 r2 w1 w2,zJ,rfl,rfl⟩;generalize rbB rb sym none 0 0 ++ ([] ++ []) = R at *;generalize stB s m1 0 0 ++ (M1' ++ (M2 ++ [])) = K at *;generalize rsB rs ta 1 tc none 0 0 0 0 ++ T = RK at *;generalize xN rn (ns0 room win) none 0 0 ++ [] = RT at *
 refine zM (fun m D L S => ∃ (i : Nat) (C R K RK : zd),i <= 2 /\ vg C b (lx sym i).2 /\ RBox R rb (lx sym i).2 /\ IsSt K s (lx sym i).1 i 0 /\ IsRs RK rs (lx sym i).1 i 0 /\ m = 2 - i /\ D = [] /\
  L = [(54,.int .i64 i),(53,.int .i64 2),(52,.slice sa 2 2),(9,pT b9),(6,pT b6)] /\ S = [[(b9,.cells ([pT b,pT s,pT q,.int .i64 2,pT o,.pointer none,.pointer none] : LV).toArray 32 (0,0))],CA,ofB o rb rs rn 2,R,K,RK,C,NT,RT,[(b6,.cells ([.pointer none,.pointer none,.pointer none,.int .i64 0,.pointer none,.pointer none,.pointer none] : LV).toArray 32 (0,0))],F,G])
  ⟨0,C,R,K,RK,dM,hC,hR,hKs,hRK,rfl,rfl,rfl,rfl⟩ ?_
 clear hC hR hKs hRK hM1 hM1' hM2 hT;rintro m D L S ⟨i,C,R,K,RK,hi,hC,hR,hKs,hRK,rfl,rfl,rfl,rfl⟩;obtain ⟨hxt,hul⟩ := fF sym i;refine gg ?_;refine if_d (fun hc => ?_) (fun hc => ?_)
 ·have hi2 : i < 2 := oM
  have hx0 : ([0,1] : List Nat)[i]? = some i := by
   obtain rfl | rfl : i = 0 ∨ i = 1 := oM
   ·rfl
   ·rfl
  refine gg ?_;refine zF ?_;refine xh hE (fun _ => rfl) hx0 dM mmA ?_;refine gg ?_;refine oAg ([.string ⟨#[]⟩,.string ⟨#[]⟩] : LV).toArray fun b11 => ?_
  refine oSg [sT (uN i),sT (uP i)] rfl (by simp [Value.cell1]) ?_;refine zF ?_;refine xI ([1]) dM rfl (rfl) (fun b66 C66 ho66 => ?_);refine gg ?_;refine cA (fC hg.1 hn hC oM (uN i) (uP i) (uN i) (uP i) (by rw [Qs];decide) (by rw [Oi];decide) (by rw [Qs];decide) (by rw [Oi];decide) (Zj i) (Oh i) (sc := 1) (aR 1) (ho66.rd (aA ..))) ?_;rintro v A ⟨W,C',vs,rfl,hW,hC',rfl⟩;refine gA ?_;have hlx : lx sym (i + 1) = ((lx sym i).1 ++ [⟨uN i,(vP (lx sym i).2 (uN i) (uP i)).1,(i : Int) + 1,false⟩],(vP (lx sym i).2 (uN i) (uP i)).2) := rfl;have hrm {S1 : zd} {a1 : OA} {c1 : Nat} (h1 : 1 <= c1) (h2 : Rd 1 [S1] a1 1 (([1] : L8).map b8)) := bu hg hR oM (uN i) (uP i) (uN i) (uP i) (by rw [Qs];decide) (by rw [Oi];decide) (by rw [Qs];decide) (by rw [Oi];decide) (Zj i) (Oh i) h1 h2;generalize vP (lx sym i).2 (uN i) (uP i) = mx at *;have hvs := hW;obtain ⟨e0,e1,e2,e3,f0,f1,f2,f3,rfl,_⟩ := hvs;refine oAg ([nS,.int .i64 0,nS,nS,nS] : LV).toArray fun b12 => ?_
  refine oSg [.slice e0 1 f0,.int .i64 1,.slice e1 mx.1.st.length f1,.slice e2 mx.1.sv.length f2,.slice e3 mx.1.ha.length f3] rfl (by simp [Value.cell1]) ?_
  refine zO (fun D L S => ∃ (R' W2 : zd) (vs2 : LV) (b14 : Nat),RBox R' rb mx.2 /\ SecW W2 vs2 mx.1 /\ D = [] /\ L = [(54,.int .i64 i),(53,.int .i64 2),(52,.slice sa 2 2),(9,pT b9),(6,pT b6),(11,pT b11),(12,pT b12),(14,pT b14)] /\
   S = [[(b9,.cells ([pT b,pT s,pT q,.int .i64 2,pT o,.pointer none,.pointer none] : LV).toArray 32 (0,0))],CA,ofB o rb rs rn 2,R',K,RK,C',NT,RT,[(b6,.cells ([.pointer none,.pointer none,.pointer none,.int .i64 0,.pointer none,.pointer none,.pointer none] : LV).toArray 32 (0,0))],F,G,W,W2,[(b11,.cells ([sT (uN i),sT (uP i)] : LV).toArray 108 (0,0))],[(b12,.cells ([.slice e0 1 f0,.int .i64 1,.slice e1 mx.1.st.length f1,.slice e2 mx.1.sv.length f2,.slice e3 mx.1.ha.length f3] : LV).toArray 45 (0,0))],[(b14,.cells vs2.toArray 82 (0,0))]]) ?_ ?_
  ·refine yI 9 10 14 [[],[0],[0,1],[0,1,2],[0,1,2,3],[],[5],[],[7],[],[0,1,2,3,4,5,6,7,8,9],[0,1,2,3,4,5,6,7,8,9,10],[0,1,2,3,4,5,6,7,8,9,10,11],[0,1,2,3,4,5,6,7,8,9,10,11],[0,1,2,3,4,5,6,7,8,9,10],[0,1,2,3,4,5,6,7,8,9,10,11,12,14],[0,1,2,3,4,5,6,7,8,9,10,11,12,13,14,15]] [(0,false,[]),(1,false,[]),(2,false,[]),(3,false,[]),(4,false,[]),(5,false,[]),(6,false,[]),(7,false,[]),(8,false,[]),(9,true,[1,4,6,8]),(10,true,[]),(11,false,[]),(12,false,[]),(13,false,[]),(14,true,[]),(15,true,[]),(16,true,[])] [[],[0],[0,1],[0,1,2],[0,1,2,3],[],[5],[],[7],[],[0,1,2,3,4,5,6,7,8,9,14],[0,1,2,3,4,5,6,7,8,9,10,14],[0,1,2,3,4,5,6,7,8,9,10,11,14],[0,1,2,3,4,5,6,7,8,9,10,11,14],[9],[0,1,2,3,4,5,6,7,8,9,10,11,12,14],[0,1,2,3,4,5,6,7,8,9,10,11,12,13,14,15]] [(0,false,[]),(1,false,[]),(2,false,[]),(3,false,[]),(4,false,[]),(5,false,[]),(6,false,[]),(7,false,[]),(8,false,[]),(9,true,[1,4,6,8]),(14,true,[1,4,6,8]),(10,true,[]),(11,false,[]),(12,false,[]),(13,false,[]),(15,true,[]),(16,true,[])] [[],[0],[0,1],[0,1,2],[0,1,2,3],[],[5],[],[7],[14],[0,1,2,3,4,5,6,7,8,9,14],[0,1,2,3,4,5,6,7,8,9,10,14],[0,1,2,3,4,5,6,7,8,9,10,11,14],[0,1,2,3,4,5,6,7,8,9,10,11,14],[],[0,1,2,3,4,5,6,7,8,9,10,11,12,14],[0,1,2,3,4,5,6,7,8,9,10,11,12,13,14,15]] [(0,false,[]),(1,false,[]),(2,false,[]),(3,false,[]),(4,false,[]),(5,false,[]),(6,false,[]),(7,false,[]),(8,false,[]),(14,true,[1,4,6,8]),(9,true,[1,4,6,8]),(10,true,[]),(11,false,[]),(12,false,[]),(13,false,[]),(15,true,[]),(16,true,[])] ?_ ?_ ?_
   ·refine gg ?_;refine zG ?_;refine xI ([1]) dM rfl (rfl) (fun b80 C80 ho80 => ?_);refine pC ?_;refine dA (hrm (aR 1) (ho80.rd (aA ..))) ?_;rintro v A ⟨W2,R',vs2,rfl,hW2,hR',rfl⟩;refine pC ?_;refine zG ?_;refine qE ([nS,.int .i64 0,nS,nS,nS] : LV).toArray rfl fun b14 => ?_;refine pC ?_
    obtain ⟨hvl,hvc⟩ := qB hW2;refine zG ?_;refine xo (vs := vs2) hvl hvc upA (by rfl) ?_;refine pD ?_
    (try refine gg ?_)
    (try (try refine dS ?_))
    (try refine gg ?_)
    exact mid ⟨R',W2,vs2,b14,hR',hW2,rfl,rfl,rfl⟩
   ·refine gg ?_;refine zG ?_;refine xI ([1]) dM rfl (rfl) (fun b80 C80 ho80 => ?_);refine pC ?_;refine zG ?_;refine qE ([nS,.int .i64 0,nS,nS,nS] : LV).toArray rfl fun b14 => ?_;refine pC ?_
    refine dA (hrm (aR 1) (ho80.rd (aA ..))) ?_;rintro v A ⟨W2,R',vs2,rfl,hW2,hR',rfl⟩;refine pC ?_;obtain ⟨hvl,hvc⟩ := qB hW2;refine zG ?_;refine xo (vs := vs2) hvl hvc upA (by rfl) ?_;refine pD ?_
    (try refine gg ?_)
    (try (try refine dS ?_))
    (try refine gg ?_)
    exact mid ⟨R',W2,vs2,b14,hR',hW2,rfl,rfl,rfl⟩
   ·refine gg ?_;refine zG ?_;refine qE ([nS,.int .i64 0,nS,nS,nS] : LV).toArray rfl fun b14 => ?_;refine pC ?_
    refine zG ?_;refine xI ([1]) dM rfl (rfl) (fun b80 C80 ho80 => ?_);refine pC ?_;refine dA (hrm (aR 1) (ho80.rd (aA ..))) ?_;rintro v A ⟨W2,R',vs2,rfl,hW2,hR',rfl⟩;refine pC ?_;obtain ⟨hvl,hvc⟩ := qB hW2;refine zG ?_;refine xo (vs := vs2) hvl hvc upA (by rfl) ?_;refine pD ?_
    (try refine gg ?_)
    (try (try refine dS ?_))
    (try refine gg ?_)
    exact mid ⟨R',W2,vs2,b14,hR',hW2,rfl,rfl,rfl⟩
  rintro D L S ⟨R',W2,vs2,b14,hR',hW2,rfl,rfl,rfl⟩;obtain ⟨hvl,hvc⟩ := qB hW2;have hno := lx_less sym i hi2;refine gg ?_;refine oLg [.slice e0 1 f0,.int .i64 1,.slice e1 mx.1.st.length f1,.slice e2 mx.1.sv.length f2,.slice e3 mx.1.ha.length f3] rfl ?_;refine cA (gL hn hKs oM oM oM (uN i) (uN i) (by rw [Qs];decide) (Zj i) (fun x hx => (hno x hx).1) hW) ?_;rintro v A ⟨K',rfl,hKs',rfl⟩;refine gA ?_;refine cdLg [[0],[1],[2],[3],[4],[5],[6],[7],[8,0]] ?_;refine qF ?_;refine zz (vs := vs2) lkA hvl ?_;refine gg ?_;refine dA (cN hRK oM oM oM (uN i) (uN i) (by rw [Qs];decide) (Zj i) (fun x hx => (hno x hx).1) (fun x hx => (hno x hx).2) hW2) ?_;rintro v A ⟨RK',rfl,hRK',rfl⟩;refine pC ?_;rw [<- Int.natCast_succ] at hKs' hRK';exact zI ⟨i + 1,C',R',K',RK',oM,by rw [hlx];exact hC',by rw [hlx];exact hR',by rw [hlx];exact hKs',by rw [hlx];exact hRK',rfl,rfl,rfl,rfl⟩
 obtain rfl : i = 2 := oM;refine gg ?_;refine zF ?_;refine XP (vs := [pT b,pT s,pT q,.int .i64 2,pT o,.pointer none,.pointer none]) (o := 0) (ws := offV b s q 2) lkA (by show 0 + 4 <= 7;decide) rfl ?_;refine gg ?_;refine cA (qnew_ok b s q 2 dM [116] dM dM) ?_;rintro v A ⟨k,rfl,rfl⟩;refine gA ?_;refine gM ?_;refine oTg [(0,pT o),(1,.string ⟨#[116]⟩)] ([pT o,sT [116],.int .u64 0] : LV).toArray ?_;refine oBg fun y => ?_
 refine gM ?_;refine oLg (botV b s q 2 o k y) rfl ?_;refine oSg (botV b s q 2 o k y) rfl (by simp [Value.cell1]) ?_;refine zf (vs := [.agg (botV b s q 2 o k y).toArray]) [C,R,K,RK,NT,RT,quB k b s q 2 [116] 0,ryB y o [116] 0,ofB o rb rs rn 2,G] ?_ (hr := hrA);exact ⟨b,s,q,k,o,y,rb,rs,rn,C,R,K,RK,NT,RT,rfl,hC,hR,hKs,hRK,hNT,hRN,rfl⟩
end Go.Proofs.YtebikhhoppiapaaGreatDoor
namespace Go.Proofs.YtebikhhoppiapaaGreatDoor
open Go Go.Ost Go.Sha Go.Nam Go.Tab
def ve (x y : BX) : Prop := y.sym = x.sym /\ ∃ l,y.ts = x.ts ++ l
theorem ve.refl (x : BX) : ve x x := ⟨rfl,[],(aL _).symm⟩
theorem ve.trans {x y z : BX} (h : ve x y) (g : ve y z) : ve x z := by
 obtain ⟨h1,l1,h2⟩ := h;obtain ⟨g1,l2,g2⟩ := g;exact ⟨g1.trans h1,l1 ++ l2,by rw [g2,h2,aN]⟩
theorem dm {t : Tm} : ∀ (l k : List Tm) (i j : Nat),tix t l i = some j -> tix t (l ++ k) i = some j
 | [],_,_,_,h => by cases h
 | u :: l,k,i,j,h => by
  unfold tix at h;rw [aC];unfold tix
  split at h
  ·rename_i e;rw [if_pos e];exact h
  ·rename_i e;rw [if_neg e];exact dm l k (i + 1) j h
theorem Ol {t : Tm} : ∀ (l k : List Tm) (i : Nat),tix t l i = none -> tix t (l ++ t :: k) i = some (i + l.length)
 | [],k,i,_ => by simp [tix]
 | u :: l,k,i,h => by
  unfold tix at h;rw [aC];unfold tix
  split at h
  ·cases h
  ·rename_i e;rw [if_neg e,Ol l k (i + 1) h,aH];congr 1;omega
theorem Xa (x : BX) (t : Tm) : ve x (tagX x t).2 := by
 unfold tagX
 split
 ·exact .refl x
 ·exact ⟨rfl,[t],rfl⟩
theorem IW {x y : BX} {t : Tm} (h : ve (tagX x t).2 y) : tagX y t = ((tagX x t).1,y) := by
 obtain ⟨_,l,hl⟩ := h;unfold tagX at hl ⊢
 cases ht : tix t x.ts 0 with
 | some i =>
  rw [ht] at hl;simp only at hl ⊢;rw [hl,dm _ _ _ _ ht]
 | none =>
  rw [ht] at hl;simp only at hl ⊢;rw [hl,aN,List.singleton_append,Ol _ _ _ ht]
  simp
theorem wD (x : BX) (m : L8) : ve x (jo x m).2 := by
 unfold jo;split
 ·exact Xa _ _
 ·exact .refl x
theorem QK (x : BX) (k m : L8) : ve x (macX x k m).2 := by
 unfold macX;split
 ·exact Xa _ _
 ·exact .refl x
theorem IY (x : BX) (p s : L8) (r : Nat) : ve x (strX x p s r).2 := by
 unfold strX;split
 ·exact Xa _ _
 ·exact .refl x
theorem Zc {x y : BX} {m : L8} (h : ve (jo x m).2 y) : jo y m = ((jo x m).1,y) := by
 have hs : y.sym = x.sym := h.1.trans (wD x m).1;unfold jo at h ⊢;rw [hs]
 split
 ·rename_i e;rw [if_pos e] at h;exact IW h
 ·rfl
theorem YK {x y : BX} {h m : L8} {a b : An} (e : a.uri = b.uri /\ a.n = b.n /\ a.nc = b.nc /\ a.cn = b.cn) (g : ve (qm x h m a).2 y) : qm y h m b = ((qm x h m a).1,y) := by
 unfold qm at g ⊢;simp only at g ⊢;rw [<- e.1,<- e.2.1,<- e.2.2.1,<- e.2.2.2,Zc ((wD _ _).trans g),Zc g]
theorem Um (x : BX) (n q : L8) : ve x (vP x n q).2 :=
 (IY _ _ _ _).trans ((QK _ _ _).trans ((wD _ _).trans ((QK _ _ _).trans (wD _ _))))
theorem makeX_ha {x y : BX} {n q : L8} (h : ve (vP x n q).2 y) : jo y (xT n [116] q) = ((vP x n q).1.ha,y) := Zc h
theorem hex2_in (b : UInt8) : (hex2 b).all inB = true := by
 have : ∀ n : Fin 256,(hex2 (aG n.val)).all inB = true := by decide +kernel
 have h := this ⟨b.toNat,b.toNat_lt⟩
 simpa using h
theorem hex_in (bs : L8) : (hex bs).all inB = true := by
 unfold hex;rw [List.all_flatMap,List.all_eq_true];intro b _;exact hex2_in b
theorem fO (l : List Par) : (xV l).length <= (l.map fun p => p.n.length + 2 * p.v.length + 5).sum := by
 have h1 : ∀ p : Par,(wU p).length <= p.n.length + 2 * p.v.length + 3 := by
  intro p;unfold wU valP;have := eG p.v;simp only [aB,aI]
  split <;> omega
 unfold xV
 cases l with
 | nil => simp
 | cons p l =>
  have hp := h1 p
  have h2 : (l.flatMap fun p => [44,32] ++ wU p).length <= (l.map fun p => p.n.length + 2 * p.v.length + 5).sum := by
   induction l with
   | nil => simp
   | cons q l ih =>
    have hq := h1 q;simp only [iU,aB,iB,List.sum_cons,aH,aQ] at ih ⊢;omega
  simp only [List.take_succ_cons,List.take_zero,iU,List.flatMap_nil,aL,List.drop_succ_cons,List.drop_zero,aB,iB,List.sum_cons] at h2 ⊢;omega
theorem an_fine (u n uri cn pf : L8) (nc : W) (hu : u.all inB = true) (hul : u.length <= 100) (hn : n.all inB = true) (hn1 : sizB n = true) (hnl : n.length <= 100) (huri : uri.all inB = true) (hil : uri.length <= 100) (hcn : cn.all inB = true) (hcn1 : sizB cn = true) (hcl : cn.length <= 100) (hpf : pf.length = 32) (hnc : tokB (hex (xH nc)) = true) : (vZ (anC u n uri cn nc pf)).2 = 0 := by
 have hok : anOk (anC u n uri cn nc pf) = true := by
  show (sizB n && (sizB cn && decide ((pf.length : Int) = 32))) = true
  rw [hn1,hcn1,hpf];rfl
 have hq : ∀ v : L8,v.all inB = true -> (quoE v).2 = true := fun v h => by unfold quoE;rw [if_pos h]
 have hb : (xH nc).length = 4 := rfl
 have hg : ∀ nm v : L8,v.all inB = true -> (tokB nm && (lowL nm == nm)) = true -> qT ⟨nm,v,true⟩ = true := fun nm v h1 h2 => by
  show ((quoE v).2 && (tokB nm && (lowL nm == nm))) = true
  rw [hq v h1,h2];rfl
 have hgood : (wQ (anC u n uri cn nc pf)).all qT = true := by
  rw [List.all_eq_true];intro p hp;simp only [wQ,opqP,List.mem_append,aY,aT,or_false] at hp
  rcases hp with ((rfl | rfl | rfl | rfl | rfl | rfl | rfl | rfl) | hp) | rfl
  ·exact hg _ u hu dM
  ·decide
  ·exact hg _ n hn dM
  ·exact hg _ uri huri dM
  ·decide
  ·show (tokB (hex (xH nc)) && (tokB nNc && (lowL nNc == nNc))) = true;rw [hnc];decide
  ·exact hg _ cn hcn dM
  ·exact hg _ _ (hex_in pf) dM
  ·simp at hp
  ·decide
 have hlen : (hdr ++ xV (wQ (anC u n uri cn nc pf))).length <= 4096 := by
  have := fO (wQ (anC u n uri cn nc pf));rw [aB]
  have h2 : ((wQ (anC u n uri cn nc pf)).map fun p => p.n.length + 2 * p.v.length + 5).sum <= 2000 := by
   show (8 + 2 * u.length + 5) + ((5 + 2 * 1 + 5) + ((5 + 2 * n.length + 5) + ((3 + 2 * uri.length + 5) + ((3 + 2 * 4 + 5) + ((2 + 2 * (hex (xH nc)).length + 5) + ((6 + 2 * cn.length + 5) + ((8 + 2 * (hex pf).length + 5) + ((9 + 2 * 7 + 5) + 0)))))))) <= 2000
   rw [jK,jK,hpf,hb];omega
  have : hdr.length = 7 := rfl;omega
 have hc : cntE (wQ (anC u n uri cn nc pf)) = 0 := kM;unfold vZ;rw [hok,if_neg dM];unfold jB;rw [hgood,if_neg (by rw [show decide (0 < (wQ (anC u n uri cn nc pf)).length) = true from rfl];decide),if_neg oM,if_neg (by rw [hc];decide)]
open _root_.Go.Proofs.Tryz
def nonA : L8 := [100,46,48,48,48,48,48,48,48,48,48,48,48,48,48,48,48,49]
def mGet : L8 := [71,69,84]
theorem iss1 : (zT (ns0 4 100) [100] 5).1 = (nonA,0) := by decide +kernel
theorem use1 : (useN (zT (ns0 4 100) [100] 5).2 nonA 1 6).1 = 0 := by decide +kernel
theorem ch1 : qA ⟨[116],nonA,[],false⟩ = ([68,105,103,101,115,116,32,114,101,97,108,109,61,34,116,34,44,32,110,111,110,99,101,61,34,100,46,48,48,48,48,48,48,48,48,48,48,48,48,48,48,48,49,34,44,32,97,108,103,111,114,105,116,104,109,61,83,72,65,45,50,53,54,44,32,113,111,112,61,34,97,117,116,104,34],0) := by decide +kernel
def annS (sym : Bool) : Sec := (vP ⟨sym,[]⟩ (uN 0) (uP 0)).1
def annU (sym : Bool) : PU := ⟨uN 0,annS sym,1,false⟩
def bobU (sym : Bool) : PU := ⟨uN 1,(vP (vP ⟨sym,[]⟩ (uN 0) (uP 0)).2 (uN 1) (uP 1)).1,2,false⟩
theorem lx_us (sym : Bool) : (lx sym 2).1 = [] ++ annU sym :: [bobU sym] := rfl
theorem cI {sym : Bool} {y : BX} (g : ve (lx sym 2).2 y) (m uri n cn : L8) (nc : W) :
  qJ y (uN 0) (uP 0) m uri n cn nc = (vZ (anC (uN 0) n uri cn nc (qm y (annS sym).ha m (anC (uN 0) n uri cn nc [])).1),(qm y (annS sym).ha m (anC (uN 0) n uri cn nc [])).2) := by
 have h1 : ve (vP ⟨sym,[]⟩ (uN 0) (uP 0)).2 y := (Um (vP ⟨sym,[]⟩ (uN 0) (uP 0)).2 (uN 1) (uP 1)).trans g;unfold qJ;simp only;rw [makeX_ha h1]
 rfl
instance tpAsk : xi prog 54 [(0,1),(1,1),(2,1)] := ⟨kM⟩
theorem ann_ans {sym : Bool} {qk b s q : Nat} {iter ch last reads : Int} {C K NT G : zd} {x : BX} {ns : NS} (hg : jJ G) (hn : GNam G) (hC : vg C b x) (hts : x.ts.length <= 800) (hSt : IsSt K s (lx sym 2).1 last reads) (hNT : ZW (some ⟨q,0,none⟩) NT (some ns)) (hr0 : 0 <= reads) (hr1 : reads < 1000000) (hch0 : 0 <= ch) (hch1 : ch < 1000000)
  (hd uri pf mt : L8) (hpa : paE hd = (anC (uN 0) nonA uri [99] 1 pf,0)) (hdl : hd.length <= 100000) (htl : uri.length <= 4096) (hpl : pf.length <= 4096) (hml : mt.length <= 1000) :
  zh prog 12 [pT qk,.agg #[sT mt,sT uri,sT hd],.int .u64 6] [quB qk b s q iter [116] ch,C,K,NT,G]
  fun v A => ∃ (C' K' NT' : zd) (vs' rv : LV),v = .tuple #[.agg rv.toArray,.int .i64 (ansE x ns (annS sym) mt (anC (uN 0) nonA uri [99] 1 pf) 6)] /\ (rv.length = 12 /\ ∀ u ∈ rv,Value.cell1 u) /\ ((ansE x ns (annS sym) mt (anC (uN 0) nonA uri [99] 1 pf) 6 = 0 -> rv = kT (uN 0) vs' 1 false ++ [sT nonA,b32 1]) /\ (ansE x ns (annS sym) mt (anC (uN 0) nonA uri [99] 1 pf) 6 ≠ 0 -> rv = zRes)) /\ vs'.length = 5 /\
   vg C' b (qm x (annS sym).ha mt (anC (uN 0) nonA uri [99] 1 pf)).2 /\ IsSt K' s (lx sym 2).1 last (reads + 1) /\ ZW (some ⟨q,0,none⟩) NT' (some (ansN x ns (annS sym) mt (anC (uN 0) nonA uri [99] 1 pf) 6)) /\ A = [quB qk b s q iter [116] (ch + 1),C',K',NT',G] :=
 qans2 (u := annU sym) (us1 := []) (us2 := [bobU sym]) hg hn hC hts hSt (lx_us sym) (fun _ h => nomatch h) rfl (Zj 0) dM hNT hr0 hr1 hch0 hch1 hd nonA uri [99] [] pf mt 1 hpa hdl dM htl dM hpl hml 6 dM dM
theorem WU {G : zd} (hg : vj G) (hn : GNam G) : zh prog 6 [] [G] fun v A => v = .bool true /\ A = [G] := by
 refine eNg func6 ntmps6 results6 fun F => ?_
 refine cA (Io hg hn false 4 100 dM dM dM dM) ?_;rintro v A ⟨b,s,q,k,o,y,rb,rs,rn,C,R,Ks,RKs,NT,RT,rfl,hC,hR,hSt,hRs,hNT,hRT,rfl⟩;refine gA ?_;obtain ⟨hxt,_⟩ := fF false 2;have hcl := cI (ve.refl (lx false 2).2) mGet [47] nonA [99] 1;have hst := YK (a := anC (uN 0) nonA [47] [99] 1 []) (b := anC (uN 0) nonA [47] [99] 1 (qm (lx false 2).2 (annS false).ha mGet (anC (uN 0) nonA [47] [99] 1 [])).1) ⟨rfl,rfl,rfl,rfl⟩ (ve.refl (qm (lx false 2).2 (annS false).ha mGet (anC (uN 0) nonA [47] [99] 1 [])).2);have hts := XK (lx false 2).2 (annS false).ha mGet (anC (uN 0) nonA [47] [99] 1 []);have hrl := ye (lx false 2).2 (annS false).ha mGet (anC (uN 0) nonA [47] [99] 1 []);have hcs := JZ hg hC hR (k := k) (y := y) (o := o) (s := s) (q := q) (us := rs) (ns := rn) (iter := 2) (it2 := 2) (ch := 0) oM (uN 0) (uP 0) mGet [47] nonA [99] 1 dM dM dM dM dM dM;rw [hcl] at hcs;generalize (lx false 2).2 = x at *;generalize qm x (annS false).ha mGet (anC (uN 0) nonA [47] [99] 1 []) = r at *;have hq := qchal2 (k := k) (b := b) (s := s) (iter := 2) (ch := 0) hNT dM [100] dM false 5 dM dM (by rw [iss1];decide);rw [iss1,if_pos rfl,ch1] at hq;have hf := an_fine (uN 0) nonA [47] [99] r.1 1 dM dM dM dM dM dM dM dM dM dM hrl dM;obtain ⟨hpa,hpl⟩ := pa_back hf;refine oAg ([.pointer none,.pointer none,.pointer none,.int .i64 0,.pointer none,.pointer none,.pointer none] : LV).toArray fun b1 => ?_
 refine oSg (botV b s q 2 o k y) rfl (by simp [Value.cell1]) ?_;refine gM ?_;refine cA (hq) ?_;rintro v A ⟨NT',rfl,hNT',rfl⟩;refine gA ?_;refine oLg (botV b s q 2 o k y) rfl ?_;refine cA (hcs) ?_;rintro v A ⟨C',R',rfl,hC',hR',rfl⟩;refine gA ?_;refine gM ?_;refine oTg [(0,.string ⟨#[71,69,84]⟩),(1,.string ⟨#[47]⟩),(2,sT (vZ (anC (uN 0) nonA [47] [99] 1 r.1)).1)] ([sT mGet,sT [47],sT (vZ (anC (uN 0) nonA [47] [99] 1 r.1)).1] : LV).toArray ?_;refine cA (ann_ans (sym := false) (x := r.2) (ch := 0) (reads := 0) hg.1 hn hC' oM hSt hNT' dM dM dM dM _ [47] r.1 mGet hpa oM dM oM dM) ?_;rintro v A ⟨C2,Ks2,NT2,vs',rv,rfl,⟨hrl2,hrc⟩,hres,hvl,hC2,hSt2,hNT2,rfl⟩;refine gA ?_
 have he : ansE r.2 (zT (ns0 4 100) [100] 5).2 (annS false) mGet (anC (uN 0) nonA [47] [99] 1 r.1) 6 = 0 := by
  unfold ansE;rw [hst,if_pos rfl];exact use1
 obtain rfl := hres.1 he
 obtain ⟨v0,v1,v2,v3,v4,rfl⟩ : ∃ v0 v1 v2 v3 v4,vs' = [v0,v1,v2,v3,v4] := by
  match vs',hvl with
  | [v0,v1,v2,v3,v4],_ => exact ⟨v0,v1,v2,v3,v4,rfl⟩
 rw [he];simp only [kT,aC,aD] at hrc hrl2;refine oAg zRes.toArray fun b5 => ?_
 refine oSg [sT [116],sT (uN 0),v0,v1,v2,v3,v4,.int .u64 1,nS,.bool false,sT nonA,b32 1] hrl2 hrc ?_;refine zF ?_;simp only [List.append_eq,aC,aD,beq_self_eq_true,if_true];refine gg ?_;rw [show (uN 0 == [97,110,110]) = true from rfl];refine gg ?_;refine gM ?_;rw [show b32 1 = .int .u32 1 from rfl];refine gg ?_;refine ze [G] ?_;exact ⟨rfl,rfl⟩
end Go.Proofs.YtebikhhoppiapaaGreatDoor
namespace Go.Proofs.YtebikhhoppiapaaGreatDoor
open Go Go.Ost Go.Sha Go.ChangeShapes Go.WideShapes Go.ChangeAt Go.RowKit
theorem Vn {P : Program} {W : World} {name : String} {zs : List Int} {rest : List (String × DataW Unit)} {ps : List MemPlace} {g : Nat} {t e : TypeId} {n : Nat} {l : List W32}
  (hg : P.globalNamed name = some g) (hty : (P.globals[g]?).map (·.type) = some t) (ht : P.underlying t = some (.array n e)) (he : P.underlying e = some (.int .u32)) (hce : P.cellsOf e = 1) (hct : P.cellsOf t = n)
  (hz : zs = l.map fun x => (x.toNat : Int)) (h : DataW.LaidVars P W ((name,Lib.tabData .u32 zs) :: rest) ps) : (∃ ty m,W.heap[g]? = some (.cells (rowW l) ty m)) /\ ∃ qs,DataW.LaidVars P W rest qs := by
 obtain ⟨g',t',cs,fuel,p,q,hg',ht',hvar,hd,hr,_⟩ := h;obtain rfl := Option.some.inj (hg.symm.trans hg');obtain rfl := Option.some.inj (hty.symm.trans ht');refine ⟨?_,q,hr⟩;have hcs := Lib.cells_of_tab ht he hce hct hd;simp only [World.var?,hg,Option.bind_some] at hvar
 split at hvar
 ·rename_i c ty fr hb
  cases hvar
  refine ⟨ty,fr,?_⟩;rw [hb]
  have : cs = rowW l := by
   apply lS
   rw [hcs,hz,List.map_map];rfl
  rw [this]
 ·cases hvar
def firstZ : List Int := [1779033703,3144134277,1013904242,2773480762,1359893119,2600822924,528734635,1541459225]
def oddZ : List Int := [1116352408,1899447441,3049323471,3921009573,961987163,1508970993,2453635748,2870763221,3624381080,310598401,607225278,1426881987,1925078388,2162078206,2614888103,3248222580,3835390401,4022224774,264347078,604807628,770255983,1249150122,1555081692,1996064986,2554220882,2821834349,2952996808,3210313671,3336571891,3584528711,113926993,338241895,666307205,773529912,1294757372,1396182291,1695183700,1986661051,2177026350,2456956037,2730485921,2820302411,3259730800,3345764771,3516065817,3600352804,4094571909,275423344,430227734,506948616,659060556,883997877,958139571,1322822218,1537002063,1747873779,1955562222,2024104815,2227730452,2361852424,2428436474,2756734187,3204031479,3329325298]
theorem first_z : firstZ = first.list.map fun x => (x.toNat : Int) := by decide +kernel
theorem odd_z : oddZ = odd.map fun x => (x.toNat : Int) := by decide +kernel
open Go.Nam _root_.Go.Proofs.Tryz
def span7 (p : Int × Int) : List Lit := [.int .i32 p.1,.int .i32 p.2]
def form7 (i : Nat) : List Lit := [.int .i64 ((i : Int) + 1),.int .u8 ((mk i).toNat : Int),.int .u8 ((ld i).toNat : Int),.int .i32 (ls i)]
def rows7 {H : Type} (rows : List (List Lit)) : DataW H := .agg (rows.map fun r => .agg (r.map DataW.lit))
structure Globs7 (C : zd) : Prop where
 g : vj C
 n : GNam C
theorem laid7 {W : World} (h : laidMetH prog Rows.questNilRow.laid W) (C : zd) (hC : ∀ k o,W.heap[k]? = some o -> (k,o) ∈ C) : Globs7 C := by
 have h' : laidMet prog [("ostiary/ostiaryref01.words", Lib.tabData .u32 oddZ), ("ostiary/sha.first", Lib.tabData .u32 firstZ), ("ostiary/sha.odd", Lib.tabData .u32 oddZ), ("ostiary/name.blanks", rows7 (blanks.map span7)), ("ostiary/name.nothing", rows7 (nothing.map span7)), ("ostiary/name.barred", rows7 (barred.map span7)), ("ostiary/name.forms", rows7 ([0, 1, 2, 3].map form7))] W := h;obtain ⟨ps, h0, _, _⟩ := h';obtain ⟨⟨t2, m2, hb2⟩, qs, h1⟩ := Vn (g := 4) (t := 352) (e := 42) (n := 64) kM kM kM kM kM kM odd_z h0;obtain ⟨⟨t0, m0, hb0⟩, qs, h2⟩ := Vn (g := 0) (t := 302) (e := 42) (n := 8) kM kM kM kM kM kM first_z h1;obtain ⟨⟨t1, m1, hb1⟩, qs, h3⟩ := Vn (g := 3) (t := 352) (e := 42) (n := 64) kM kM kM kM kM kM odd_z h2;obtain ⟨⟨t3, m3, hb3⟩, qs, h4⟩ := Zt (g := 5) (t := 366) (e := 342) (n := 6) (ks := [.i32, .i32]) kM kM kM kM kM dM kM h3;obtain ⟨⟨t4, m4, hb4⟩, qs, h5⟩ := Zt (g := 6) (t := 367) (e := 342) (n := 5) (ks := [.i32, .i32]) kM kM kM kM kM dM kM h4;obtain ⟨⟨t5, m5, hb5⟩, qs, h6⟩ := Zt (g := 1) (t := 343) (e := 342) (n := 9) (ks := [.i32, .i32]) kM kM kM kM kM dM kM h5;obtain ⟨⟨t6, m6, hb6⟩, _, _⟩ := Zt (g := 7) (t := 370) (e := 369) (n := 4) (ks := [.i64, .u8, .u8, .i32]) kM kM kM kM kM dM kM h6;exact ⟨⟨⟨⟨t0, m0, hC _ _ hb0⟩, ⟨t1, m1, hC _ _ hb1⟩⟩, ⟨t2, m2, hC _ _ hb2⟩⟩, ⟨t6, m6, hC _ _ hb6⟩, ⟨t5, m5, hC _ _ hb5⟩, ⟨t3, m3, hC _ _ hb3⟩, ⟨t4, m4, hC _ _ hb4⟩⟩
def put7 (cs : Array Value) : Obj -> Obj
 | .cells _ t fr => .cells cs t fr
 | o => o
noncomputable def Xk (os : Os) : World :=
 { World.holding prog os ⟨#[],#[],[]⟩ with heap := (((((((World.holding prog os ⟨#[],#[],[]⟩).heap.modify 7 (put7 formsV.toArray)).modify 1 (put7 (barred.flatMap Jc).toArray)).modify 5 (put7 (blanks.flatMap Jc).toArray)).modify 6 (put7 (nothing.flatMap Jc).toArray)).modify 0 (put7 (firstZ.map fun z => Value.int .u32 z).toArray)).modify 3 (put7 (oddZ.map fun z => Value.int .u32 z).toArray)).modify 4 (put7 (oddZ.map fun z => Value.int .u32 z).toArray) }
end Go.Proofs.YtebikhhoppiapaaGreatDoor
namespace Go.Proofs.YtebikhhoppiapaaGreatDoor
open Go Go.Ost Go.Sha Go.Nam Go.Tab
end Go.Proofs.YtebikhhoppiapaaGreatDoor
namespace Go.Proofs.YtebikhhoppiapaaGreatDoor
open Go Go.Ost _root_.Go.Proofs.Tryz
theorem wz (s : L8) (i : Nat) (hi : i <= s.length) (hs : s.length <= 100000) : zh prog 164 [sT s,.int .i64 i] []
  fun v A => (∃ j : Nat,v = .int .i64 j /\ i <= j /\ j <= s.length /\ s.drop j = zo (s.drop i)) /\ A = [] := by
 refine eNg func164 ntmps164 results164 fun F => ?_
 refine zM (fun q D L S => ∃ k : Nat,i <= k /\ k <= s.length /\ zo (s.drop k) = zo (s.drop i) /\ q = s.length - k /\ D = [] /\ L = [(1,.int .i64 k),(0,sT s)] /\ S = [F])
  ⟨i,oM,hi,rfl,rfl,rfl,rfl,rfl⟩ ?_
 rintro q D L S ⟨k,hik,hk,hsp,rfl,rfl,rfl,rfl⟩;refine gg ?_
 by_cases hkl : k < s.length
 ·have hdr := jC s k hkl;rw [dT (oM : (k : Int) < s.length)];refine gg ?_
  by_cases e1 : s.getD k 0 = 32
  ·have hb : kJ (s.getD k 0) = true := by rw [e1];rfl
   rw [hdr] at hsp;rw [beq_iff_eq.2 (show ((s.getD k 0).toNat : Int) = 32 by rw [e1];rfl)];refine gg ?_;exact zI ⟨k + 1,oM,oM,by rw [<- hsp];unfold zo;rw [lQ,if_pos hb],rfl,rfl,rfl,rfl⟩
  ·rw [beq_eq_false_iff_ne.2 (show ((s.getD k 0).toNat : Int) ≠ 32 from fun h => e1 (UInt8.toNat_inj.1 (oM : (s.getD k 0).toNat = 32)))];refine gg ?_
   by_cases e2 : s.getD k 0 = 9
   ·have hb : kJ (s.getD k 0) = true := by rw [e2];rfl
    rw [hdr] at hsp;rw [beq_iff_eq.2 (show ((s.getD k 0).toNat : Int) = 9 by rw [e2];rfl)];refine gg ?_;exact zI ⟨k + 1,oM,oM,by rw [<- hsp];unfold zo;rw [lQ,if_pos hb],rfl,rfl,rfl,rfl⟩
   ·have hb : kJ (s.getD k 0) = false := by unfold kJ;simp only [dF e1,dF e2,Bool.or_false]
    rw [beq_eq_false_iff_ne.2 (show ((s.getD k 0).toNat : Int) ≠ 9 from fun h => e2 (UInt8.toNat_inj.1 (oM : (s.getD k 0).toNat = 9)))];refine gg ?_;refine ze [] ?_;exact ⟨⟨k,rfl,hik,hk,by rw [<- hsp,hdr];unfold zo;rw [lQ,if_neg (by rw [hb];simp)]⟩,rfl⟩
 ·obtain rfl : k = s.length := oM;rw [dF (oM : ¬ (s.length : Int) < s.length)];refine gg ?_;refine ze [] ?_;exact ⟨⟨s.length,rfl,hik,hk,by rw [<- hsp,mR];rfl⟩,rfl⟩
theorem wS (s : L8) (i : Nat) (hi : i <= s.length) (hs : s.length <= 100000) : zh prog 211 [sT s,.int .i64 i] []
  fun v A => (∃ j : Nat,v = .int .i64 j /\ i <= j /\ j <= s.length /\ (s.take j).drop i = tokL (s.drop i) /\ s.drop j = tokR (s.drop i)) /\ A = [] := by
 refine eNg func211 ntmps211 results211 fun F => ?_
 refine zM (fun q D L S => ∃ k : Nat,i <= k /\ k <= s.length /\ ((s.drop i).take (k - i)).all tcB = true /\ q = s.length - k /\ D = [] /\ L = [(1,.int .i64 k),(0,sT s)] /\ S = [F])
  ⟨i,oM,hi,sM,rfl,rfl,rfl,rfl⟩ ?_
 rintro q D L S ⟨k,hik,hk,hall,rfl,rfl,rfl,rfl⟩;have hll : (s.drop i).length = s.length - i := aV;have hdd : (s.drop i).drop (k - i) = s.drop k := by rw [mQ];congr 1;omega
 refine gg ?_
 by_cases hkl : k < s.length
 ·have hnx := jF (p := tcB) (s.drop i) (k - i) oM
  have hgd : (s.drop i).getD (k - i) 0 = s.getD k 0 := by
   simp only [aS,List.getElem?_drop];rw [show i + (k - i) = k from oM]
  rw [hgd] at hnx;rw [dT (oM : (k : Int) < s.length)];refine gg ?_;have htc := Jk (s.getD k 0);refine cR (htc) ?_
  cases h1 : tcB (s.getD k 0) with
  | true =>
   refine gg ?_;exact zI ⟨k + 1,oM,oM,by rw [show k + 1 - i = k - i + 1 from oM,hnx,hall,h1];rfl,rfl,rfl,rfl,rfl⟩
  | false =>
   obtain ⟨e1,e2⟩ := Oj (s.drop i) (k - i) hall (.inr ⟨oM,by rw [hgd];exact h1⟩);refine gg ?_;refine ze [] ?_;exact ⟨⟨k,rfl,hik,hk,by rw [e1,gF],by rw [e2,hdd]⟩,rfl⟩
 ·obtain rfl : k = s.length := oM;obtain ⟨e1,e2⟩ := Oj (s.drop i) (s.length - i) hall (.inl oM);rw [dF (oM : ¬ (s.length : Int) < s.length)];refine gg ?_;refine ze [] ?_;exact ⟨⟨s.length,rfl,hik,hk,by rw [e1,gF],by rw [e2,hdd]⟩,rfl⟩
def oneR (s : L8) (i : Nat) (p : Par) (e : Int) : Prop :=
 (oneE (s.drop i) = none /\ e = -1) ∨ ∃ j : Nat,oneE (s.drop i) = some (p,s.drop j) /\ e = j /\ j <= s.length
theorem Vh {s t : L8} {i j : Nat} (hij : i <= j) (hj : j <= s.length) (htl : (s.take j).drop i = t) : t = [] ↔ j = i := by
 rw [<- htl]
 constructor
 ·intro h;have := congrArg mA h;rw [aV,aX,aQ] at this;omega
 ·rintro rfl;exact mE (by rw [aX];omega)
theorem eq (s : L8) (i : Nat) (hi : i <= s.length) (hs : s.length <= 100000) : zh prog 163 [sT s,.int .i64 i] []
  fun v A => ∃ (p : Par) (e : Int),v = .tuple #[.agg (encP p).toArray,.int .i64 e] /\ A = [] /\ oneR s i p e := by
 refine eNg func163 ntmps163 results163 fun F => ?_
 refine oAg (encP p0).toArray fun b4 => ?_
 refine cA (wS s i hi hs) ?_;rintro v A ⟨⟨j,rfl,hij,hj,htl,htr⟩,rfl⟩;refine gA ?_;rw [htl];have hll : (tokL (s.drop i)).length <= s.length := by have := Vl (s.drop i);rw [aV] at this;omega
 refine cR (yd (tokL (s.drop i)) oM) ?_;refine oTg [(0,sT (lowL (tokL (s.drop i))))] (encP ⟨lowL (tokL (s.drop i)),[],false⟩).toArray ?_;refine oA (encP p0).toArray fun b7 => ?_
 refine oSg (encP ⟨lowL (tokL (s.drop i)),[],false⟩) rfl (xw _) ?_;refine cA (wz s j hj hs) ?_;rintro v A ⟨⟨k,rfl,hjk,hk,hsp⟩,rfl⟩;refine gA ?_;rw [htr] at hsp;have hno := Vh hij hj htl
 by_cases e1 : j = i
 ·rw [beq_iff_eq.2 (oM : (j : Int) = i)];refine gg ?_;refine oTg [] (encP p0).toArray ?_;refine oSg (encP p0) rfl (xw _) ?_;refine zf (vs := [.agg (encP p0).toArray,.int .i64 (-1)]) [] ⟨p0,-1,rfl,rfl,.inl ⟨eV (hno.2 e1),rfl⟩⟩ (hr := hrA)
 ·have hne : tokL (s.drop i) ≠ [] := fun h => e1 (hno.1 h)
  rw [beq_eq_false_iff_ne.2 (oM : (j : Int) ≠ i)];refine gg ?_
  by_cases hkl : k < s.length
  ·have hdr := jC s k hkl;rw [dF (oM : ¬ (s.length : Int) <= k)];refine gg ?_
   by_cases e2 : s.getD k 0 = 61
   ·rw [bne_eq_false_iff_eq.2 (show ((s.getD k 0).toNat : Int) = 61 by rw [e2];rfl)];rw [e2] at hdr;rw [hdr] at hsp;refine gg ?_;refine cA (wz s (k + 1) oM hs) ?_;rintro v A ⟨⟨m,rfl,hkm,hm,hsp2⟩,rfl⟩;refine gA ?_
    by_cases hml : m < s.length
    ·have hdm := jC s m hml;rw [dT (oM : (m : Int) < s.length)];refine gg ?_
     by_cases e3 : s.getD m 0 = 34
     ·rw [beq_iff_eq.2 (show ((s.getD m 0).toNat : Int) = 34 by rw [e3];rfl)];rw [e3] at hdm;have hz : zo (s.drop (k + 1)) = 34 :: s.drop (m + 1) := by rw [<- hsp2,hdm]
      refine gg ?_;refine gM ?_
      refine zM (fun mm D L S => ∃ (q : Nat) (out : L8),m + 1 <= q /\ q <= s.length /\ out.length <= q /\ qgo (s.drop (m + 1)) = (qgo (s.drop q)).map (fun x => (out ++ x.1,x.2)) /\ mm = s.length - q /\ D = [] /\
        L = [(8,.int .i64 q),(7,pT b7),(4,pT b4),(0,sT s)] /\ S = [rpB b7 ⟨lowL (tokL (s.drop i)),out,true⟩,rpB b4 p0,F])
       ⟨m + 1,[],oM,oM,sM,sM,rfl,rfl,rfl,rfl⟩ ?_
      rintro mm D L S ⟨q,out,hmq,hqs,hol,hq,rfl,rfl,rfl,rfl⟩;refine gg ?_;refine if_d (fun hc => ?_) (fun hc => ?_)
      ·have hql : q < s.length := oM;have hdq := jC s q hql;rw [hdq] at hq;refine gg ?_
       by_cases d1 : s.getD q 0 = 34
       ·rw [beq_iff_eq.2 (show ((s.getD q 0).toNat : Int) = 34 by rw [d1];rfl)];rw [d1,qgo_end,lX,aL] at hq;refine gg ?_;refine oLg (encP ⟨lowL (tokL (s.drop i)),out,true⟩) rfl ?_;refine oSg (encP ⟨lowL (tokL (s.drop i)),out,true⟩) rfl (xw _) ?_;refine zf (vs := [.agg (encP ⟨lowL (tokL (s.drop i)),out,true⟩).toArray,.int .i64 ((q : Int) + 1)]) [] ⟨⟨lowL (tokL (s.drop i)),out,true⟩,(q : Int) + 1,rfl,rfl,.inr ⟨q + 1,by rw [bV hne hsp.symm hz,hq];rfl,rfl,oM⟩⟩ (hr := hrA)
       ·rw [beq_eq_false_iff_ne.2 (show ((s.getD q 0).toNat : Int) ≠ 34 from fun h => d1 (UInt8.toNat_inj.1 (oM : (s.getD q 0).toNat = 34)))];refine gg ?_
        by_cases d2 : s.getD q 0 = 92
        ·rw [beq_iff_eq.2 (show ((s.getD q 0).toNat : Int) = 92 by rw [d2];rfl)];rw [d2] at hq;refine gg ?_
         by_cases hq2 : q + 1 < s.length
         ·have hdq2 := jC s (q + 1) hq2;rw [hdq2] at hq;rw [dT (oM : (q : Int) + 1 < s.length)];refine gg ?_;rw [show ((q : Int) + 1).toNat = q + 1 from oM];refine gg ?_;refine cR (VK (s.getD (q + 1) 0)) ?_
          cases h3 : inB (s.getD (q + 1) 0) with
          | false =>
           rw [OS h3,Option.map_none] at hq;refine gg ?_;refine oTg [] (encP p0).toArray ?_;refine oSg (encP p0) rfl (xw _) ?_;refine zf (vs := [.agg (encP p0).toArray,.int .i64 (-1)]) [] ⟨p0,-1,rfl,rfl,.inl ⟨by rw [bV hne hsp.symm hz,hq];rfl,rfl⟩⟩ (hr := hrA)
          | true =>
           rw [YU h3,Option.map_map] at hq;have hc1 := Kd s ((q + 1)) hq2;refine gg ?_;refine cdLg [[0],[1],[2],[3],[4],[5],[6],[7],[8],[9,0]] ?_;rw [show ((q : Int) + 1).toNat = q + 1 from oM,show ((q : Int) + 1 + 1).toNat = q + 1 + 1 from oM];rw [show (((q + 1 : Nat) : Int) + 1).toNat = q + 1 + 1 from oM] at hc1;rw [hc1];refine qO fun K hK => ?_
           rw [zV (by simp only [aI];omega)];refine hK _ _ ?_;clear hK K;refine gg ?_;refine gM ?_;exact zI ⟨(q + 1) + 1,out ++ [s.getD (q + 1) 0],oM,oM,by simp;omega,by rw [hq];congr 1;funext x;simp,rfl,rfl,rfl,rfl⟩
         ·have hnil : s.drop (q + 1) = [] := mE oM;rw [hnil,qgo_end1,Option.map_none] at hq;rw [dF (oM : ¬ (q : Int) + 1 < s.length)];refine gg ?_
          (try rw [beq_iff_eq.2 (show ((s.getD q 0).toNat : Int) = 92 by rw [d2];rfl)])
          refine gg ?_;refine oTg [] (encP p0).toArray ?_;refine oSg (encP p0) rfl (xw _) ?_;refine zf (vs := [.agg (encP p0).toArray,.int .i64 (-1)]) [] ⟨p0,-1,rfl,rfl,.inl ⟨by rw [bV hne hsp.symm hz,hq];rfl,rfl⟩⟩ (hr := hrA)
        ·rw [beq_eq_false_iff_ne.2 (show ((s.getD q 0).toNat : Int) ≠ 92 from fun h => d2 (UInt8.toNat_inj.1 (oM : (s.getD q 0).toNat = 92)))];refine gg ?_
         (try rw [beq_eq_false_iff_ne.2 (show ((s.getD q 0).toNat : Int) ≠ 92 from fun h => d2 (UInt8.toNat_inj.1 (oM : (s.getD q 0).toNat = 92)))])
         refine gg ?_;refine cR (VK (s.getD q 0)) ?_
         cases h3 : inB (s.getD q 0) with
         | false =>
          rw [eH d1 h3,Option.map_none] at hq;refine gg ?_;refine oTg [] (encP p0).toArray ?_;refine oSg (encP p0) rfl (xw _) ?_;refine zf (vs := [.agg (encP p0).toArray,.int .i64 (-1)]) [] ⟨p0,-1,rfl,rfl,.inl ⟨by rw [bV hne hsp.symm hz,hq];rfl,rfl⟩⟩ (hr := hrA)
         | true =>
          rw [VE d1 h3 d2,Option.map_map] at hq;have hc1 := Kd s (q) hql;refine gg ?_;refine cdLg [[0],[1],[2],[3],[4],[5],[6],[7],[8],[9,0]] ?_;rw [hc1];refine qO fun K hK => ?_
          rw [zV (by simp only [aI];omega)];refine hK _ _ ?_;clear hK K;refine gg ?_;refine gM ?_;exact zI ⟨q + 1,out ++ [s.getD q 0],oM,oM,by simp;omega,by rw [hq];congr 1;funext x;simp,rfl,rfl,rfl,rfl⟩
      ·obtain rfl : q = s.length := oM;rw [mR] at hq;refine gg ?_;refine oTg [] (encP p0).toArray ?_;refine oSg (encP p0) rfl (xw _) ?_;refine zf (vs := [.agg (encP p0).toArray,.int .i64 (-1)]) [] ⟨p0,-1,rfl,rfl,.inl ⟨by rw [bV hne hsp.symm hz,hq];rfl,rfl⟩⟩ (hr := hrA)
     ·rw [beq_eq_false_iff_ne.2 (show ((s.getD m 0).toNat : Int) ≠ 34 from fun h => e3 (UInt8.toNat_inj.1 (oM : (s.getD m 0).toNat = 34)))];have hq0 : (xj (zo (s.drop (k + 1))) 34).1 = false := by rw [<- hsp2,hdm,XH _ e3]
      refine gg ?_;refine cA (wS s m hm hs) ?_;rintro v A ⟨⟨e,rfl,hme,he,hvl,hvr⟩,rfl⟩;refine gA ?_;have hno2 := Vh hme he hvl;rw [hsp2] at hvl hvr hno2;have ho := one_t hne hsp.symm hq0
      by_cases e4 : e = m
      ·rw [beq_iff_eq.2 (oM : (e : Int) = m)];rw [if_pos (hno2.2 e4)] at ho;refine gg ?_;refine oTg [] (encP p0).toArray ?_;refine oSg (encP p0) rfl (xw _) ?_;refine zf (vs := [.agg (encP p0).toArray,.int .i64 (-1)]) [] ⟨p0,-1,rfl,rfl,.inl ⟨ho,rfl⟩⟩ (hr := hrA)
      ·rw [beq_eq_false_iff_ne.2 (oM : (e : Int) ≠ m)];rw [if_neg (fun h => e4 (hno2.1 h))] at ho;refine gg ?_;rw [hvl];refine gM ?_;refine oLg (encP ⟨lowL (tokL (s.drop i)),tokL (zo (s.drop (k + 1))),false⟩) rfl ?_;refine oSg (encP ⟨lowL (tokL (s.drop i)),tokL (zo (s.drop (k + 1))),false⟩) rfl (xw _) ?_;refine zf (vs := [.agg (encP ⟨lowL (tokL (s.drop i)),tokL (zo (s.drop (k + 1))),false⟩).toArray,.int .i64 (e)]) [] ⟨⟨lowL (tokL (s.drop i)),tokL (zo (s.drop (k + 1))),false⟩,e,rfl,rfl,.inr ⟨e,by rw [hvr];exact ho,rfl,he⟩⟩ (hr := hrA)
    ·rw [dF (oM : ¬ (m : Int) < s.length)];have hq0 : (xj (zo (s.drop (k + 1))) 34).1 = false := by rw [<- hsp2,mE oM];rfl
     refine gg ?_;refine cA (wS s m hm hs) ?_;rintro v A ⟨⟨e,rfl,hme,he,hvl,hvr⟩,rfl⟩;refine gA ?_;have hno2 := Vh hme he hvl;rw [hsp2] at hvl hvr hno2;have ho := one_t hne hsp.symm hq0
     by_cases e4 : e = m
     ·rw [beq_iff_eq.2 (oM : (e : Int) = m)];rw [if_pos (hno2.2 e4)] at ho;refine gg ?_;refine oTg [] (encP p0).toArray ?_;refine oSg (encP p0) rfl (xw _) ?_;refine zf (vs := [.agg (encP p0).toArray,.int .i64 (-1)]) [] ⟨p0,-1,rfl,rfl,.inl ⟨ho,rfl⟩⟩ (hr := hrA)
     ·rw [beq_eq_false_iff_ne.2 (oM : (e : Int) ≠ m)];rw [if_neg (fun h => e4 (hno2.1 h))] at ho;refine gg ?_;rw [hvl];refine gM ?_;refine oLg (encP ⟨lowL (tokL (s.drop i)),tokL (zo (s.drop (k + 1))),false⟩) rfl ?_;refine oSg (encP ⟨lowL (tokL (s.drop i)),tokL (zo (s.drop (k + 1))),false⟩) rfl (xw _) ?_;refine zf (vs := [.agg (encP ⟨lowL (tokL (s.drop i)),tokL (zo (s.drop (k + 1))),false⟩).toArray,.int .i64 (e)]) [] ⟨⟨lowL (tokL (s.drop i)),tokL (zo (s.drop (k + 1))),false⟩,e,rfl,rfl,.inr ⟨e,by rw [hvr];exact ho,rfl,he⟩⟩ (hr := hrA)
   ·rw [bne_iff_ne.2 (show ((s.getD k 0).toNat : Int) ≠ 61 from fun h => e2 (UInt8.toNat_inj.1 (oM : (s.getD k 0).toNat = 61)))];refine gg ?_;refine oTg [] (encP p0).toArray ?_;refine oSg (encP p0) rfl (xw _) ?_;refine zf (vs := [.agg (encP p0).toArray,.int .i64 (-1)]) [] ⟨p0,-1,rfl,rfl,.inl ⟨Uc (by rw [<- hsp,hdr,XH _ e2]),rfl⟩⟩ (hr := hrA)
  ·rw [dT (oM : (s.length : Int) <= k)];refine gg ?_;refine oTg [] (encP p0).toArray ?_;refine oSg (encP p0) rfl (xw _) ?_;refine zf (vs := [.agg (encP p0).toArray,.int .i64 (-1)]) [] ⟨p0,-1,rfl,rfl,.inl ⟨Uc (by rw [<- hsp,mE oM];rfl),rfl⟩⟩ (hr := hrA)
theorem bw (s : L8) (hs : s.length <= 100000) : zh prog 119 [sT s] []
  fun v A => ∃ X a k,v = .tuple #[.slice a (je s).1.length k,.bool (je s).2] /\ OwnR X a k (je s).1 /\ A = [X] := by
 refine eNg func119 ntmps119 results119 fun F => ?_
 refine zU ?_
 refine zM (fun q D L S => ∃ (i : Nat) (ps : List Par) (X : zd) (xa : OA) (xc : Nat),i <= s.length /\ ps.length <= i /\ OwnR X xa xc ps /\ je s = (ps ++ (je (s.drop i)).1,(je (s.drop i)).2) /\ q = s.length - i /\ D = [] /\
  L = [(5,.int .i64 i),(4,.slice xa ps.length xc),(0,sT s)] /\ S = [X,F])
  ⟨0,[],[],none,0,oM,sM,zJ,rfl,rfl,rfl,rfl,rfl⟩ ?_
 rintro q D L S ⟨i,ps,X,xa,xc,hi,hpl,hX,hls,rfl,rfl,rfl,rfl⟩;refine gg ?_;refine cA (eq s i hi hs) ?_;rintro v A ⟨p,e,rfl,rfl,hR⟩;refine gA ?_;refine oA (encP p0).toArray fun b6 => ?_
 refine oSg (encP p) rfl (xw _) ?_
 rcases hR with ⟨hn,rfl⟩ | ⟨j,ho,rfl,hj⟩
 ·rw [JK hn,aL] at hls;rw [hls];refine gg ?_;refine zf (vs := [.slice xa ps.length xc,.bool false]) [X] ⟨X,xa,xc,rfl,hX,rfl⟩
 ·have h1l := (JA ho).2.1;rw [aV,aV] at h1l;rw [dF (oM : ¬ (j : Int) < 0)];refine gg ?_;refine oL (encP p) rfl ?_;refine zF ?_;refine xt (e := 137) (s := 3) (hs := inferInstance) (vs := encP p) (by rfl) dM dM rfl (fun b1 C1 ho1 => ?_);refine zF ?_;refine zu (e := 137) (s := 3) (hs := inferInstance) (by rfl) dM hX (.inr pkA) (ho1.rd mmA) (xw _) (by simp only [maxLen];omega) oM (fun C3 a3 cap3 ho3 => ?_);have e1 : ps.length + 1 = (ps ++ [p]).length := sM;have e2 : ps.flatMap encP ++ encP p = (ps ++ [p]).flatMap encP := sM;rw [e1,e2] at ho3;rw [e1];refine gg ?_
  by_cases hjl : j = s.length
  ·rw [hjl,mR] at ho;rw [ym ho] at hls;rw [beq_iff_eq.2 (oM : (j : Int) = s.length),hls];refine gg ?_;refine zf (vs := [.slice a3 (ps ++ [p]).length cap3,.bool true]) [C3] ⟨C3,a3,cap3,rfl,ho3,rfl⟩
  ·have hr0 : s.drop j ≠ [] := fun h => by
    have := congrArg mA h;rw [aV,aQ] at this;omega
   rw [beq_eq_false_iff_ne.2 (oM : (j : Int) ≠ s.length)];refine gg ?_;refine cA (wz s j hj hs) ?_;rintro v A ⟨⟨k,rfl,hjk,hk,hsp⟩,rfl⟩;refine gA ?_
   by_cases hkl : k < s.length
   ·have hdr := jC s k hkl;rw [dF (oM : ¬ (s.length : Int) <= k)];refine gg ?_
    by_cases e3 : s.getD k 0 = 44
    ·rw [e3] at hdr;rw [hdr] at hsp;rw [JJ ho hr0 (by rw [<- hsp,jA]),<- hsp,jA] at hls;rw [bne_eq_false_iff_eq.2 (show ((s.getD k 0).toNat : Int) = 44 by rw [e3];rfl)];refine gg ?_;refine cA (wz s (k + 1) oM hs) ?_;rintro v A ⟨⟨m,rfl,hkm,hm,hsp2⟩,rfl⟩;refine gA ?_;exact zI ⟨m,ps ++ [p],C3,a3,cap3,hm,oM,ho3,by rw [hls,hsp2];simp,rfl,rfl,rfl,rfl⟩
    ·rw [yl ho hr0 (by rw [<- hsp,hdr,XH _ e3])] at hls;rw [bne_iff_ne.2 (show ((s.getD k 0).toNat : Int) ≠ 44 from fun h => e3 (UInt8.toNat_inj.1 (oM : (s.getD k 0).toNat = 44))),hls];refine gg ?_;refine zf (vs := [.slice a3 (ps ++ [p]).length cap3,.bool false]) [C3] ⟨C3,a3,cap3,rfl,ho3,rfl⟩
   ·rw [yl ho hr0 (by rw [<- hsp,mE oM];rfl)] at hls;rw [dT (oM : (s.length : Int) <= k),hls];refine gg ?_;refine zf (vs := [.slice a3 (ps ++ [p]).length cap3,.bool false]) [C3] ⟨C3,a3,cap3,rfl,ho3,rfl⟩
theorem low_tc {c : UInt8} (h : 97 <= (low1 c).toNat /\ (low1 c).toNat <= 122) : tcB c = true := by
 unfold low1 at h;unfold tcB
 split at h
 ·rename_i hc
  rw [dT hc];simp
 ·rw [dT h];simp
theorem KE {a : L8} (h : lowL a = scheme) : a.all tcB = true /\ a.length = 6 := by
 have hl : (lowL a).length = a.length := by unfold lowL;simp
 refine ⟨?_,by rw [<- hl,h];rfl⟩;rw [List.all_eq_true];intro c hc;refine low_tc ?_;have hm : low1 c ∈ scheme := by rw [<- h];exact List.mem_map.2 ⟨c,hc,rfl⟩
 simp only [scheme,aY,aT,or_false] at hm
 rcases hm with e | e | e | e | e | e <;> rw [e] <;> decide
theorem head_yes {s : L8} (h0 : 7 <= s.length) (h1 : lowL (s.take 6) = scheme) (h2 : s.getD 6 0 = 32) : lowL (tokL s) = scheme /\ (xj (tokR s) 32).1 = true /\ ql s = (s.drop 6).dropWhile (fun c => c == 32) := by
 have hd : s.drop 6 = 32 :: s.drop 7 := by
  rw [iH (oM : 6 < s.length)];rw [aS,aE (oM : 6 < s.length),iR] at h2;rw [h2]
 have e := XX (r := s.drop 6) (KE h1).1 (by rw [hd];show (!tcB 32) = true;decide);rw [lR] at e;refine ⟨by rw [e.1];exact h1,by rw [e.2,hd,jA],?_⟩;unfold ql;rw [e.2,hd,jA,lQ,if_pos (beq_self_eq_true _)]
theorem head_no {s : L8} (h1 : lowL (tokL s) = scheme) (h2 : (xj (tokR s) 32).1 = true) : 7 <= s.length /\ lowL (s.take 6) = scheme /\ s.getD 6 0 = 32 := by
 have e := XI h2;have hb := Vi s;obtain ⟨_,hl⟩ := KE h1;generalize (xj (tokR s) 32).2 = r at *;generalize tokL s = a at *;rw [e] at hb;subst hb;refine ⟨by rw [aB,aH];omega,by rw [<- hl,List.take_left];exact h1,?_⟩;rw [aS,lD oM,hl];rfl
theorem YG {s : L8} (h : 4096 < s.length) : xC s = ([],3) := by unfold xC;rw [if_pos h]
theorem yU {s : L8} (h : ¬ 4096 < s.length) (h2 : ¬ (7 <= s.length /\ lowL (s.take 6) = scheme /\ s.getD 6 0 = 32)) : xC s = ([],4) := by
 unfold xC;rw [if_neg h,if_pos]
 by_cases e1 : lowL (tokL s) = scheme
 ·cases e2 : (xj (tokR s) 32).1 with
  | false => exact .inr rfl
  | true => exact (h2 (head_no e1 e2)).elim
 ·exact .inl e1
theorem YH {s : L8} (h : ¬ 4096 < s.length) (h2 : lowL (tokL s) = scheme) (h3 : (xj (tokR s) 32).1 = true) :
  xC s = if (je (ql s)).2 = false then ([],4) else if cntE (je (ql s)).1 ≠ 0 then ([],cntE (je (ql s)).1) else ((je (ql s)).1,0) := by
 unfold xC;rw [if_neg h,if_neg (by rw [not_or];exact ⟨fun e => e h2,by rw [h3];simp⟩)]
theorem Jq (s : L8) (hs : s.length <= 100000) : zh prog 45 [sT s] []
  fun v A => ∃ X a k,v = .tuple #[.slice a (xC s).1.length k,.int .i64 (xC s).2] /\ OwnR X a k (xC s).1 /\ A = [X] := by
 refine eN func45 ntmps45 results45 fun F => ?_
 refine zU ?_;refine gg ?_
 by_cases h1 : 4096 < s.length
 ·rw [YG h1,dT (oM : (4096 : Int) < s.length)];refine gg ?_;refine zf (vs := [nS,.int .i64 3]) [[]] ⟨[],none,0,rfl,zJ,rfl⟩
 rw [dF (oM : ¬ (4096 : Int) < s.length)];refine gg ?_
 by_cases h7 : 7 <= s.length
 ·rw [dF (oM : ¬ (s.length : Int) < 7)];refine gg ?_;have ht6 : (s.take 6).length <= 6 := by rw [aX];omega
  refine cR (yd (s.take 6) oM) ?_
  by_cases h2 : lowL (s.take 6) = scheme
  ·rw [bne_eq_false_iff_eq.2 (show lowL (s.take 6) = [100,105,103,101,115,116] from h2)];refine gg ?_
   by_cases h3 : s.getD 6 0 = 32
   ·obtain ⟨q1,q2,q3⟩ := head_yes h7 h2 h3;rw [bne_eq_false_iff_eq.2 (show ((s.getD 6 0).toNat : Int) = 32 by rw [h3];rfl),YH h1 q1 q2];have hrl := wA s;have hall := list_len _ (ql s) (aR _)
    have hcn : (je (ql s)).1.length <= wP (je (ql s)).1 := by
     generalize (je (ql s)).1 = l
     induction l with
     | nil => exact aR _
     | cons p l ih => show l.length + 1 <= p.n.length + p.v.length + 1 + wP l;omega
    generalize ql s = r at *;refine gg ?_;refine yr (fun D L S => ∃ i : Nat,i <= s.length /\ s.drop i = r /\ D = [] /\ L = [(4,.int .i64 i),(0,sT s)] /\ S = [[],F]) ?_ ?_
    ·refine zM (fun q D L S => ∃ i : Nat,i <= s.length /\ (s.drop i).dropWhile (fun c => c == 32) = r /\ q = s.length - i /\ D = [] /\ L = [(4,.int .i64 i),(0,sT s)] /\ S = [[],F])
      ⟨6,oM,q3.symm,rfl,rfl,rfl,rfl⟩ ?_
     rintro q D L S ⟨i,hi,hdr,rfl,rfl,rfl,rfl⟩;refine gg ?_
     by_cases hil : i < s.length
     ·have hdd : s.drop i = s.getD i 0 :: s.drop (i + 1) := by
       rw [iH hil,aS,aE hil];rfl
      rw [hdd] at hdr;rw [dT (oM : (i : Int) < s.length)];refine gg ?_
      by_cases e : s.getD i 0 = 32
      ·rw [beq_iff_eq.2 (show ((s.getD i 0).toNat : Int) = 32 by rw [e];rfl)];rw [e,lQ,if_pos (beq_self_eq_true _)] at hdr;refine gg ?_;exact zI ⟨i + 1,oM,hdr,rfl,rfl,rfl,rfl⟩
      ·rw [beq_eq_false_iff_ne.2 (show ((s.getD i 0).toNat : Int) ≠ 32 from fun h => e (UInt8.toNat_inj.1 (oM : (s.getD i 0).toNat = 32)))];rw [lQ,if_neg (by simpa using e),<- hdd] at hdr;refine gg ?_;exact mid ⟨i,hi,hdr,rfl,rfl,rfl⟩
     ·rw [dF (oM : ¬ (i : Int) < s.length)];rw [mE oM,List.dropWhile_nil] at hdr;refine gg ?_;exact mid ⟨i,hi,by rw [mE oM];exact hdr,rfl,rfl,rfl⟩
    rintro D L S ⟨i,hi,hdr,rfl,rfl,rfl⟩;refine gg ?_;rw [hdr];refine cA (bw r oM) ?_;rintro v A ⟨X,xa,xc,rfl,hX,rfl⟩;refine gA ?_
    cases hok : (je r).2 with
    | false =>
     rw [if_pos rfl];refine gg ?_;refine zf (vs := [nS,.int .i64 4]) [[]] ⟨[],none,0,rfl,zJ,rfl⟩
    | true =>
     rw [if_neg sM];refine gg ?_;refine cR (Zy hX oM) ?_
     by_cases h5 : cntE (je r).1 = 0
     ·rw [if_neg (by simp [h5]),h5];refine gg ?_;refine zf (vs := [.slice xa (je r).1.length xc,.int .i64 0]) [X] ⟨X,xa,xc,rfl,hX,rfl⟩
     ·rw [if_pos h5,bne_iff_ne.2 h5];refine gg ?_;refine zf (vs := [nS,.int .i64 (cntE (je r).1)]) [[]] ⟨[],none,0,rfl,zJ,rfl⟩
   ·rw [bne_iff_ne.2 (show ((s.getD 6 0).toNat : Int) ≠ 32 from fun h => h3 (UInt8.toNat_inj.1 (oM : (s.getD 6 0).toNat = 32))),yU h1 (fun h => h3 h.2.2)];refine gg ?_;refine zf (vs := [nS,.int .i64 4]) [[]] ⟨[],none,0,rfl,zJ,rfl⟩
  ·rw [bne_iff_ne.2 (show lowL (s.take 6) ≠ [100,105,103,101,115,116] from h2),yU h1 (fun h => h2 h.2.1)];refine gg ?_;refine zf (vs := [nS,.int .i64 4]) [[]] ⟨[],none,0,rfl,zJ,rfl⟩
 ·rw [dT (oM : (s.length : Int) < 7),yU h1 (fun h => h7 h.1)];refine gg ?_;refine zf (vs := [nS,.int .i64 4]) [[]] ⟨[],none,0,rfl,zJ,rfl⟩
theorem rfind_at {l : List Par} {n : L8} {i : Nat} (h : i < l.length) (hno : ((l.take i).find? fun p => p.n == n) = none) (hf : ((l.getD i p0).n == n) = true) : hasB l n = true /\ gotP l n = l.getD i p0 := by
 have e : l = l.take i ++ l.getD i p0 :: l.drop (i + 1) := by
  have h2 : l.drop i = l.getD i p0 :: l.drop (i + 1) := by
   rw [iH h,aS,aE h];rfl
  rw [<- h2,lR]
 have hfi : (l.find? fun p => p.n == n) = some (l.getD i p0) := by
  generalize l.getD i p0 = x at *;generalize l.take i = a at *;rw [e,List.find?_append,hno,Option.none_or,List.find?_cons,hf]
 unfold hasB gotP;rw [hfi];exact ⟨rfl,rfl⟩
theorem bC {l : List Par} {n : L8} {i : Nat} (h : i < l.length) (hno : ((l.take i).find? fun p => p.n == n) = none) (hf : ((l.getD i p0).n == n) = false) : ((l.take (i + 1)).find? fun p => p.n == n) = none := by
 rw [lG,List.find?_append,hno,Option.none_or,qX l i h]
 show List.find? _ [l.getD i p0] = none
 rw [List.find?_cons,hf];rfl
theorem bB {l : List Par} {n : L8} (h : (l.find? fun p => p.n == n) = none) : hasB l n = false /\ gotP l n = p0 := by
 unfold hasB gotP;rw [h];exact ⟨rfl,rfl⟩
abbrev sv (s : L8) : Value := sT s
abbrev OwnT (X : zd) (a : OA) (k : Nat) (l : List L8) : Prop := Ost.Own 1 9 X a l.length k (l.map sv)
theorem fZ (l : List L8) (i : Nat) (h : i < l.length) : (l.map sv)[i]? = some (sv (l.getD i [])) := by
 rw [lF,aS,aE h];rfl
theorem all_sv {f : L8 -> Bool} (l : List L8) (j : Nat) (h : j < l.length) : (l.take (j + 1)).all f = ((l.take j).all f && f (l.getD j [])) := by
 rw [lG,List.all_append,aS,aE h];simp
theorem any_sv {f : L8 -> Bool} (l : List L8) (j : Nat) (h : j < l.length) : (l.take (j + 1)).any f = ((l.take j).any f || f (l.getD j [])) := by
 rw [lG,List.any_append,aS,aE h];simp
theorem any_has (l : List L8) (n : L8) : (l.any fun x => x == n) = l.contains n := by
 rw [Bool.eq_iff_iff,List.any_eq_true,List.contains_iff_mem]
 constructor
 ·rintro ⟨x,hx,e⟩;rw [<- eq_of_beq e];exact hx
 ·intro h;exact ⟨n,h,sM⟩
section f
variable {X : zd} {xa : OA} {xc : Nat} {l : List Par}
theorem yA (hX : OwnR X xa xc l) (hl : l.length <= 100000) (n : L8) : zh prog 57 [.slice xa l.length xc,sT n] [X]
  fun v A => v = .tuple #[.agg (encP (gotP l n)).toArray,.bool (hasB l n)] /\ A = [X] := by
 have hs := wK;refine eNg func57 ntmps57 results57 fun F => ?_
 refine oAg (encP p0).toArray fun b4 => ?_
 refine zM (fun q D L S => ∃ i : Nat,i <= l.length /\ ((l.take i).find? fun p => p.n == n) = none /\ q = l.length - i /\ D = [] /\
  L = [(10,.int .i64 i),(9,.int .i64 l.length),(8,.slice xa l.length xc),(4,pT b4),(1,sT n)] /\ S = [rpB b4 p0,X,F])
  ⟨0,oM,rfl,rfl,rfl,rfl,rfl⟩ ?_
 rintro q D L S ⟨i,hi,hno,rfl,rfl,rfl,rfl⟩;refine gg ?_;refine if_d (fun hc => ?_) (fun hc => ?_)
 ·have hil : i < l.length := oM;have hx := qX l i hil;refine gg ?_;refine zF ?_;refine xh hX hs hx dM mmA ?_;refine oA (encP p0).toArray fun b7 => ?_
  refine oSg (encP (l.getD i p0)) rfl (xw _) ?_
  cases hb : ((l.getD i p0).n == n) with
  | true =>
   obtain ⟨e1,e2⟩ := rfind_at hil hno hb;rw [e1,e2];refine gg ?_;refine oL (encP (l.getD i p0)) rfl ?_;refine oSg (encP (l.getD i p0)) rfl (xw _) ?_;refine zf (vs := [.agg (encP (l.getD i p0)).toArray,.bool true]) [X] ⟨rfl,rfl⟩ (hr := hrA)
  | false =>
   refine gg ?_;exact zI ⟨i + 1,oM,bC hil hno hb,rfl,rfl,rfl,rfl⟩
 ·obtain rfl : i = l.length := oM;rw [iK] at hno;obtain ⟨e1,e2⟩ := bB hno;rw [e1,e2];refine gg ?_;refine oTg [] (encP p0).toArray ?_;refine oSg (encP p0) rfl (xw _) ?_;refine zf (vs := [.agg (encP p0).toArray,.bool false]) [X] ⟨rfl,rfl⟩ (hr := hrA)
theorem xy (hX : OwnR X xa xc l) (hl : l.length <= 100000) (n : L8) : zh prog 48 [.slice xa l.length xc,sT n] [X]
  fun v A => v = sT (gotP l n).v /\ A = [X] := by
 refine eNg func48 ntmps48 results48 fun F => ?_
 refine cR (yA hX hl n) ?_;refine oA (encP p0).toArray fun b7 => ?_
 refine oSg (encP (gotP l n)) rfl (xw _) ?_;refine ze [X] ?_;exact ⟨rfl,rfl⟩
theorem QC (hX : OwnR X xa xc l) (hl : l.length <= 100000) {M Q : zd} {ma qa : OA} {mc qc : Nat} {ms qs : List L8} (hM : OwnT M ma mc ms) (hQ : OwnT Q qa qc qs) (hm : ms.length <= 1000) (hq : qs.length <= 1000) :
  zh prog 46 [.slice xa l.length xc,.slice ma ms.length mc,.slice qa qs.length qc] [X,M,Q]
  fun v A => v = .tuple #[.bool (JG l ms qs).1,.bool (JG l ms qs).2] /\ A = [X,M,Q] := by
 unfold JG;refine eNg func46 ntmps46 results46 fun F => ?_
 refine yr (fun D L S => D = [] /\ L = [(8,.bool (ms.all (hasB l))),(9,.bool true),(0,.slice xa l.length xc),(1,.slice ma ms.length mc),(2,.slice qa qs.length qc)] /\ S = [X,M,Q,F]) ?_ ?_
 ·refine zM (fun q D L S => ∃ i : Nat,i <= ms.length /\ q = ms.length - i /\ D = [] /\
   L = [(23,.int .i64 i),(22,.int .i64 ms.length),(21,.slice ma ms.length mc),(8,.bool ((ms.take i).all (hasB l))),(9,.bool true),(0,.slice xa l.length xc),(1,.slice ma ms.length mc),(2,.slice qa qs.length qc)] /\ S = [X,M,Q,F])
   ⟨0,oM,rfl,rfl,rfl,rfl⟩ ?_
  rintro q D L S ⟨i,hi,rfl,rfl,rfl,rfl⟩;refine gg ?_;refine if_d (fun hc => ?_) (fun hc => ?_)
  ·have hil : i < ms.length := oM;have hx := fZ ms i hil;have han := all_sv (f := hasB l) ms i hil;generalize ms.getD i [] = n at *;refine gg ?_;refine cR (yA hX hl n) ?_;refine oA (encP p0).toArray fun b7 => ?_
   refine oSg (encP (gotP l n)) rfl (xw _) ?_
   cases hw : (ms.take i).all (hasB l) with
   | true =>
    rw [hw,mM] at han;refine gg ?_;rw [<- han];exact zI ⟨i + 1,oM,rfl,rfl,rfl,rfl⟩
   | false =>
    rw [hw,Bool.false_and] at han;refine gg ?_;rw [<- han];exact zI ⟨i + 1,oM,rfl,rfl,rfl,rfl⟩
  ·obtain rfl : i = ms.length := oM;rw [iK];refine gg ?_;exact mid ⟨rfl,rfl,rfl⟩
 rintro D L S ⟨rfl,rfl,rfl⟩;generalize ms.all (hasB l) = there
 have hsv : ∀ l : List L8,∀ v ∈ l.map sv,Value.cell1 v := fun l v hv => by
  obtain ⟨x,_,rfl⟩ := List.mem_map.1 hv;trivial
 refine gg ?_;refine zF ?_;refine jD (e := 9) (s := 1) (hs := inferInstance) (fun b38 C38 ho38 => ?_);refine gg ?_;refine zF ?_;refine zu (e := 9) (s := 1) (hs := inferInstance) (by rfl) dM ho38 (.inr pkA) (hM.rd mmA) (hsv ms) (by simp only [maxLen];omega) oM (fun C3 a3 k3 ho3 => ?_);refine gg ?_;refine zF ?_;refine jE rfl [sv zt,sv zH] dM rfl rfl (by simp [Value.cell1]) (fun b5 C5 ho5 => ?_);refine gg ?_;refine zF ?_;refine zu (e := 9) (s := 1) (hs := inferInstance) (by rfl) dM ho3 (.inr pkA) (ho5.rd mmA) (hsv [zt,zH]) (by simp only [maxLen];omega) oM (fun N na nk hN => ?_);have e1 : 0 + ms.length + 2 = (ms ++ [zt,zH]).length := sM;have e2 : [] ++ ms.map sv ++ [sv zt,sv zH] = (ms ++ [zt,zH]).map sv := sM;rw [e1,e2] at hN;rw [e1];clear e1 e2;have hN2 : OwnT N na nk (ms ++ [zt,zH]) := hN;clear hN ho3;have hnl : (ms ++ [zt,zH]).length <= 1002 := by simp;omega
 generalize ms ++ [zt,zH] = ns at *;refine gg ?_
 refine zM (fun q D L S => ∃ i : Nat,i <= ns.length /\ q = ns.length - i /\ D = [] /\
  L = [(44,.int .i64 i),(43,.int .i64 ns.length),(42,.slice na ns.length nk),(8,.bool there),(9,.bool ((ns.take i).all fun n => !(hasB l n && (gotP l n).q != qs.contains n))),(0,.slice xa l.length xc),(2,.slice qa qs.length qc)] /\ S = [N,X,M,Q,F])
  ⟨0,oM,rfl,rfl,rfl,rfl⟩ ?_
 rintro q D L S ⟨i,hi,rfl,rfl,rfl,rfl⟩;refine gg ?_;refine if_d (fun hc => ?_) (fun hc => ?_)
 ·have hil : i < ns.length := oM;have hx := fZ ns i hil;have han := all_sv (f := fun n => !(hasB l n && (gotP l n).q != qs.contains n)) ns i hil
  (try simp only at han)
  generalize ns.getD i [] = n at *;generalize hacc : ((ns.take i).all fun n => !(hasB l n && (gotP l n).q != qs.contains n)) = acc at *;clear hacc;refine gg ?_;refine cR (yA hX hl n) ?_;refine oA (encP p0).toArray fun b16 => ?_
  refine oS (encP (gotP l n)) rfl (xw _) ?_;generalize gotP l n = p at *;generalize hasB l n = h at *;refine gg ?_
  refine zM (fun q D L S => ∃ k : Nat,k <= qs.length /\ q = qs.length - k /\ D = [] /\
   L = [(56,.int .i64 k),(55,.int .i64 qs.length),(54,.slice qa qs.length qc),(18,.bool ((qs.take k).any fun x => x == n)),(15,sv n),(16,pT b16),(17,.bool h),
    (44,.int .i64 i),(43,.int .i64 ns.length),(42,.slice na ns.length nk),(8,.bool there),(9,.bool acc),(0,.slice xa l.length xc),(2,.slice qa qs.length qc)] /\ S = [rpB b16 p,N,X,M,Q,F])
   ⟨0,oM,rfl,rfl,rfl,rfl⟩ ?_
  rintro q D L S ⟨k,hk,rfl,rfl,rfl,rfl⟩;refine gg ?_;refine if_d (fun hc => ?_) (fun hc => ?_)
  ·have hkl : k < qs.length := oM;have hx2 := fZ qs k hkl;have han2 := any_sv (f := fun x => x == n) qs k hkl
   (try simp only at han2)
   generalize qs.getD k [] = x at *;refine gg ?_
   cases hw : ((qs.take k).any fun x => x == n) with
   | true =>
    rw [hw,Bool.true_or] at han2;refine gg ?_;rw [show Value.bool true = .bool ((qs.take (k + 1)).any fun x => x == n) from by rw [han2]];exact zI ⟨k + 1,oM,rfl,rfl,rfl,rfl⟩
   | false =>
    rw [hw,mS] at han2;refine gg ?_;rw [<- han2];exact zI ⟨k + 1,oM,rfl,rfl,rfl,rfl⟩
  ·obtain rfl : k = qs.length := oM;rw [iK,any_has];generalize qs.contains n = w at *;refine gg ?_
   cases h with
   | false =>
    rw [Bool.false_and,Bool.not_false,Bool.and_true] at han;refine gg ?_;rw [<- han];exact zI ⟨i + 1,oM,rfl,rfl,rfl,rfl⟩
   | true =>
    rw [mM] at han;refine gg ?_
    cases hpw : (p.q != w) with
    | true =>
     rw [hpw,Bool.not_true,Bool.and_false] at han;refine gg ?_;rw [show Value.bool false = .bool ((ns.take (i + 1)).all fun n => !(hasB l n && (gotP l n).q != qs.contains n)) from by rw [han]];exact zI ⟨i + 1,oM,rfl,rfl,rfl,rfl⟩
    | false =>
     rw [hpw,Bool.not_false,Bool.and_true] at han;refine gg ?_;rw [<- han];exact zI ⟨i + 1,oM,rfl,rfl,rfl,rfl⟩
 ·obtain rfl : i = ns.length := oM;rw [iK];refine gg ?_;refine zf (vs := [.bool there,.bool (ns.all fun n => !(hasB l n && (gotP l n).q != qs.contains n))]) [X,M,Q] ⟨rfl,rfl⟩
end f
end Go.Proofs.YtebikhhoppiapaaGreatDoor
namespace Go.Proofs.YtebikhhoppiapaaGreatDoor
open Go Go.Ost
theorem bG (l : List Par) : l.length <= wP l := by
 induction l with
 | nil => exact aR _
 | cons p l ih => show l.length + 1 <= p.n.length + p.v.length + 1 + wP l;omega
theorem rall_in {l : List Par} {p : Par} (h : p ∈ l) : p.n.length + p.v.length + 1 <= wP l := by
 induction l with
 | nil => cases h
 | cons a l ih =>
  show _ <= a.n.length + a.v.length + 1 + wP l
  rcases List.mem_cons.1 h with rfl | h
  ·omega
  ·have := ih h;omega
theorem yb (s : L8) : (xC s).1.length <= s.length /\ ∀ p ∈ (xC s).1,p.n.length + p.v.length <= s.length := by
 have h1 := list_len _ (ql s) (aR _);have h2 := wA s;have h3 := bG (je (ql s)).1;unfold xC
 split
 ·exact ⟨sM,fun p hp => by cases hp⟩
 split
 ·exact ⟨sM,fun p hp => by cases hp⟩
 split
 ·exact ⟨sM,fun p hp => by cases hp⟩
 split
 ·exact ⟨sM,fun p hp => by cases hp⟩
 ·refine ⟨by show (je (ql s)).1.length <= _;omega,fun p hp => ?_⟩;have := rall_in (l := (je (ql s)).1) hp;omega
theorem wE {l : List Par} {B : Nat} (h : ∀ p ∈ l,p.v.length <= B) (n : L8) : (gotP l n).v.length <= B := by
 unfold gotP
 cases hf : l.find? fun p => p.n == n with
 | none => show (0 : Nat) <= _;omega
 | some p => exact h p (List.mem_of_find?_eq_some hf)
open Go.Sha _root_.Go.Proofs.Tryz
instance tpRAns : xi prog 56 [(0,1),(1,1),(2,1),(3,1),(4,1),(5,1),(6,1),(7,1)] := ⟨kM⟩
theorem VD (a : An) (pa : OA) (pk : Nat) : ∀ v ∈ encA a pa pk,Value.cell1 v := by
 intro v hv;simp only [encA,aY,aT,or_false] at hv
 rcases hv with rfl | rfl | rfl | rfl | rfl | rfl | rfl | rfl <;> simp [Value.cell1,b32]
abbrev raB (b : Nat) (a : An) (pa : OA) (pk : Nat) : zd := [(b,.cells (encA a pa pk).toArray 56 (0,0))]
theorem ey {X : zd} {xa : OA} {xc : Nat} {p : L8} (hX : Own8 5 X xa p.length xc p) (h4 : p.length = 4) : zh prog 51 [.slice xa p.length xc] [X] fun v A => v = .int .u64 (numN p) /\ A = [X] := by
 refine eNg func51 ntmps51 results51 fun F => ?_
 refine zM (fun q D L S => ∃ (i : Nat) (m : Nat),i <= p.length /\ m = numN (p.take i) /\ q = p.length - i /\ D = [] /\
  L = [(8,.int .i64 i),(7,.int .i64 p.length),(6,.slice xa p.length xc),(3,.int .u64 (m : Int))] /\ S = [X,F])
  ⟨0,0,oM,by simp [numN],rfl,rfl,rfl,rfl⟩ ?_
 rintro q D L S ⟨i,m,hi,hm,rfl,rfl,rfl,rfl⟩
 have hmb : m < 256 ^ 4 := by
  have h1 := fd i (p.take i) (by rw [aX];omega);have h2 : 256 ^ i <= 256 ^ 4 := Nat.pow_le_pow_right dM oM;omega
 refine gg ?_;refine if_d (fun hc => ?_) (fun hc => ?_)
 ·have hil : i < p.length := oM;have hnx := fb p i hil;rw [<- hm] at hnx;have hlt := (p.getD i 0).toNat_lt;refine gg ?_;refine zI ⟨i + 1,m * 256 + (p.getD i 0).toNat,oM,hnx.symm,rfl,rfl,rfl,rfl⟩
 ·obtain rfl : i = p.length := oM;rw [iK] at hm;rw [hm];refine gg ?_;refine ze [X] ?_;exact ⟨rfl,rfl⟩
theorem num_wrap (q : L8) : Value.int .u32 (IntKind.u32.wrap ((numN q : Nat) : Int)) = b32 (numW q) := by
 rw [wrap32_mod,<- Ic];exact congrArg (fun n : Nat => Value.int .u32 (n : Int)) (lU (numN q) 32).symm
theorem KJ (l : List Par) : (vu l).length <= l.length := List.length_filter_le _ _
theorem fM (l : List Par) (i : Nat) (h : i < l.length) : vu (l.take (i + 1)) = vu (l.take i) ++ (if ((l.getD i p0).n != zH) = true then [l.getD i p0] else []) := by
 unfold vu;rw [lG,List.filter_append,qX l i h]
 congr 1
 show List.filter _ [l.getD i p0] = _
 rw [List.filter_cons]
 split <;> simp
theorem Xe (s : L8) (hs : s.length <= 100000) : zh prog 13 [sT s] []
  fun v A => ∃ P pa pk,v = .tuple #[.agg (encA (rpaE s).1 pa pk).toArray,.int .i64 (rpaE s).2] /\ Own8 5 P pa (rpaE s).1.pf.length pk (rpaE s).1.pf /\ A = [P] := by
 have hs3 := wK;obtain ⟨hpl,hpb⟩ := yb s;unfold rpaE;refine eN func13 ntmps13 results13 fun F => ?_
 refine zU ?_;refine gg ?_;refine oAg (encA a0 none 0).toArray fun b2 => ?_
 refine cA (Jq s hs) ?_;rintro v A ⟨X,xa,xk,rfl,hX,rfl⟩;refine gA ?_
 by_cases h0 : (xC s).2 = 0
 ·rw [h0,if_neg dM];generalize (xC s).1 = l at *;have hvb0 : ∀ p ∈ l,p.v.length <= 100000 := fun p hp => by have := hpb p hp;omega
  have hl : l.length <= 100000 := oM;clear hpl hpb;refine gg ?_;refine zU ?_;refine yr (fun D L S => ∃ (Kc : zd) (ka : OA) (kc : Nat),OwnR Kc ka kc (vu l) /\ D = [] /\ L = [(6,.slice ka (vu l).length kc),(2,pT b2)] /\ S = [Kc,X,raB b2 a0 none 0,[],F]) ?_ ?_
  ·refine zM (fun q D L S => ∃ (i : Nat) (Kc : zd) (ka : OA) (kc : Nat),i <= l.length /\ OwnR Kc ka kc (vu (l.take i)) /\ q = l.length - i /\ D = [] /\
    L = [(26,.int .i64 i),(25,.int .i64 l.length),(24,.slice xa l.length xk),(6,.slice ka (vu (l.take i)).length kc),(2,pT b2)] /\ S = [Kc,X,raB b2 a0 none 0,[],F])
    ⟨0,[],none,0,oM,zJ,rfl,rfl,rfl,rfl⟩ ?_
   rintro q D L S ⟨i,Kc,ka,kc,hi,hkc,rfl,rfl,rfl,rfl⟩;have hkl := KJ (l.take i);rw [aX] at hkl;refine gg ?_;refine if_d (fun hc => ?_) (fun hc => ?_)
   ·have hil : i < l.length := oM;have hx := qX l i hil;have hkn := fM l i hil;generalize l.getD i p0 = x at *;refine gg ?_;refine zF ?_;refine xh hX hs3 hx dM mmA ?_;refine oA (encP p0).toArray fun b8 => ?_
    refine oSg (encP x) rfl (xw _) ?_
    cases hst : (x.n != zH) with
    | true =>
     rw [show (x.n != [115,116,97,108,101]) = true from hst];rw [hst,if_pos rfl] at hkn;refine gg ?_;refine oL (encP x) rfl ?_;refine zF ?_;refine xt (e := 137) (s := 3) (hs := inferInstance) (vs := encP x) (by rfl) dM dM rfl (fun b1 C1 ho1 => ?_);refine zF ?_;refine zu (e := 137) (s := 3) (hs := inferInstance) (by rfl) dM hkc (.inr pkA) (ho1.rd mmA) (xw _) (by simp only [maxLen];omega) oM (fun C3 a3 cap3 ho3 => ?_);have e1 : (vu (l.take i)).length + 1 = (vu (l.take (i + 1))).length := by rw [hkn];simp
     have e2 : (vu (l.take i)).flatMap encP ++ encP x = (vu (l.take (i + 1))).flatMap encP := by rw [hkn];simp
     rw [e1,e2] at ho3;rw [e1];refine gg ?_;exact zI ⟨i + 1,C3,a3,cap3,oM,ho3,rfl,rfl,rfl,rfl⟩
    | false =>
     rw [show (x.n != [115,116,97,108,101]) = false from hst];rw [hst,if_neg sM,aL] at hkn;rw [<- hkn] at hkc ⊢;refine gg ?_;exact zI ⟨i + 1,Kc,ka,kc,oM,hkc,rfl,rfl,rfl,rfl⟩
   ·obtain rfl : i = l.length := oM;rw [iK] at hkc hkl ⊢;refine gg ?_;exact mid ⟨Kc,ka,kc,hkc,rfl,rfl,rfl⟩
  rintro D L S ⟨Kc,ka,kc,hkc,rfl,rfl,rfl⟩;have hkl := KJ l;have hvb : ∀ p ∈ vu l,p.v.length <= 100000 := fun p hp => hvb0 p (List.mem_filter.1 hp).1
  generalize vu l = k at *;have hl2 : k.length <= 100000 := oM;clear hX hvb0 hl hkl;refine gg ?_;refine zF ?_;refine jE rfl [sv xS,sv zA,sv zv,sv nUri,sv nQop,sv nNc,sv zN,sv zR,sv nAlg] dM rfl rfl (by simp [Value.cell1]) (fun b21 C21 ho21 => ?_);refine gg ?_;refine zF ?_;refine jE rfl [sv xS,sv zA,sv zv,sv nUri,sv zN,sv zR,sv zt] dM rfl rfl (by simp [Value.cell1]) (fun b22 C22 ho22 => ?_);refine gg ?_;have hM : OwnT C21 (some ⟨b21,0,none⟩) 9 kO := ho21;have hQ : OwnT C22 (some ⟨b22,0,none⟩) 7 quoA := ho22;have hls := QC hkc hl2 hM hQ dM dM;rw [show kO.length = 9 from rfl,show quoA.length = 7 from rfl] at hls;clear hM hQ ho21 ho22;refine cR (hls) ?_;clear hls;unfold rpaL;generalize hlk : JG k kO quoA = lk at *;obtain ⟨there,right⟩ := lk
  cases there with
  | false =>
   rw [if_pos rfl];refine gg ?_;refine oTg [] (encA a0 none 0).toArray ?_;refine oSg (encA a0 none 0) rfl (VD _ _ _) ?_;refine zf (vs := [.agg (encA a0 none 0).toArray,.int .i64 6]) [[]] ⟨[],none,0,rfl,zJ,rfl⟩ (hr := hrA)
  | true =>
   rw [if_neg sM];refine gg ?_;refine cR (xy hkc hl2 nNc) ?_;refine cA (Jf (gotP k nNc).v (wE hvb nNc)) ?_;rintro v A ⟨Q,qa,qk,rfl,hQ,rfl⟩;refine gA ?_;refine cR (xy hkc hl2 zR) ?_;refine cA (Jf (gotP k zR).v (wE hvb zR)) ?_;rintro v A ⟨P,pa,pk,rfl,hP,rfl⟩;(try simp only [aD,aC])
   (repeat (first | (with_reducible refine jN ?_) | ((with_reducible refine jn ?_);refine jm ?_)))
   (with_reducible refine qL ?_)
   (with_reducible refine zS ?_);refine zO (fun D L S => rpaB k = false /\ D = [] /\ L = [(4,.slice ka k.length kc),(11,.slice qa (uhE (gotP k nNc).v).1.length qk),(13,.slice pa (uhE (gotP k zR).v).1.length pk),(2,pT b2)] /\ S = [P,Q,Kc,raB b2 a0 none 0,[],F]) ?_ ?_
   ·(with_reducible refine zS ?_);refine zO (fun D L S => D = [] /\ L = [(103,.bool (rpaB k)),(4,.slice ka k.length kc),(11,.slice qa (uhE (gotP k nNc).v).1.length qk),(13,.slice pa (uhE (gotP k zR).v).1.length pk),(2,pT b2)] /\ S = [P,Q,Kc,raB b2 a0 none 0,[],F]) ?_ ?_
    ·refine WL ?_;refine dQ (fun L S => L = [(63,.bool (!right)),(12,.int .i64 (uhE (gotP k nNc).v).2),(14,.int .i64 (uhE (gotP k zR).v).2),(4,.slice ka k.length kc),(11,.slice qa (uhE (gotP k nNc).v).1.length qk),(13,.slice pa (uhE (gotP k zR).v).1.length pk),(2,pT b2)] /\ S = [P,Q,Kc,raB b2 a0 none 0,[],F]) ?_ ?_
     ·refine gg ?_;exact midr ⟨rfl,rfl⟩
     rintro L S ⟨rfl,rfl⟩;generalize hc1 : (!right) = c1;refine wY (fun L S => L = [(68,.bool (c1 || ((gotP k nQop).v != jb))),(12,.int .i64 (uhE (gotP k nNc).v).2),(14,.int .i64 (uhE (gotP k zR).v).2),(4,.slice ka k.length kc),(11,.slice qa (uhE (gotP k nNc).v).1.length qk),(13,.slice pa (uhE (gotP k zR).v).1.length pk),(2,pT b2)] /\ S = [P,Q,Kc,raB b2 a0 none 0,[],F]) ?_ ?_
     ·cases c1 with
      | true =>
       refine gg ?_;exact midr ⟨rfl,rfl⟩
      | false =>
       refine gg ?_;refine cR (xy hkc hl2 nQop) ?_
       (try rw [show ((gotP k nQop).v != [97,117,116,104]) = ((gotP k nQop).v != jb) from rfl])
       exact midr ⟨rfl,rfl⟩
     rintro L S ⟨rfl,rfl⟩;generalize hc2 : (c1 || ((gotP k nQop).v != jb)) = c2;refine Jg (fun L S => L = [(74,.bool (c2 || (lowL (gotP k nAlg).v != nSumL))),(12,.int .i64 (uhE (gotP k nNc).v).2),(14,.int .i64 (uhE (gotP k zR).v).2),(4,.slice ka k.length kc),(11,.slice qa (uhE (gotP k nNc).v).1.length qk),(13,.slice pa (uhE (gotP k zR).v).1.length pk),(2,pT b2)] /\ S = [P,Q,Kc,raB b2 a0 none 0,[],F]) ?_ ?_
     ·cases c2 with
      | true =>
       refine gg ?_;exact midr ⟨rfl,rfl⟩
      | false =>
       refine gg ?_;refine cR (xy hkc hl2 nAlg) ?_;refine cR (yd (gotP k nAlg).v (wE hvb nAlg)) ?_
       (try rw [show (lowL (gotP k nAlg).v != [115,104,97,45,50,53,54]) = (lowL (gotP k nAlg).v != nSumL) from rfl])
       exact midr ⟨rfl,rfl⟩
     rintro L S ⟨rfl,rfl⟩;generalize hc3 : (c2 || (lowL (gotP k nAlg).v != nSumL)) = c3;refine Jh (fun L S => L = [(78,.bool (c3 || ((uhE (gotP k nNc).v).2 != 0))),(14,.int .i64 (uhE (gotP k zR).v).2),(4,.slice ka k.length kc),(11,.slice qa (uhE (gotP k nNc).v).1.length qk),(13,.slice pa (uhE (gotP k zR).v).1.length pk),(2,pT b2)] /\ S = [P,Q,Kc,raB b2 a0 none 0,[],F]) ?_ ?_
     ·cases c3 with
      | true =>
       refine gg ?_;exact midr ⟨rfl,rfl⟩
      | false =>
       refine gg ?_;exact midr ⟨rfl,rfl⟩
     rintro L S ⟨rfl,rfl⟩;generalize hc4 : (c3 || ((uhE (gotP k nNc).v).2 != 0)) = c4;refine wY (fun L S => L = [(83,.bool (c4 || (((uhE (gotP k nNc).v).1.length : Int) != 4))),(14,.int .i64 (uhE (gotP k zR).v).2),(4,.slice ka k.length kc),(11,.slice qa (uhE (gotP k nNc).v).1.length qk),(13,.slice pa (uhE (gotP k zR).v).1.length pk),(2,pT b2)] /\ S = [P,Q,Kc,raB b2 a0 none 0,[],F]) ?_ ?_
     ·cases c4 with
      | true =>
       refine gg ?_;exact midr ⟨rfl,rfl⟩
      | false =>
       refine gg ?_;exact midr ⟨rfl,rfl⟩
     rintro L S ⟨rfl,rfl⟩;generalize hc5 : (c4 || (((uhE (gotP k nNc).v).1.length : Int) != 4)) = c5;refine Jh (fun L S => L = [(87,.bool (c5 || ((uhE (gotP k zR).v).2 != 0))),(4,.slice ka k.length kc),(11,.slice qa (uhE (gotP k nNc).v).1.length qk),(13,.slice pa (uhE (gotP k zR).v).1.length pk),(2,pT b2)] /\ S = [P,Q,Kc,raB b2 a0 none 0,[],F]) ?_ ?_
     ·cases c5 with
      | true =>
       refine gg ?_;exact midr ⟨rfl,rfl⟩
      | false =>
       refine gg ?_;exact midr ⟨rfl,rfl⟩
     rintro L S ⟨rfl,rfl⟩;generalize hc6 : (c5 || ((uhE (gotP k zR).v).2 != 0)) = c6;refine wY (fun L S => L = [(92,.bool (c6 || (((uhE (gotP k zR).v).1.length : Int) != 32))),(4,.slice ka k.length kc),(11,.slice qa (uhE (gotP k nNc).v).1.length qk),(13,.slice pa (uhE (gotP k zR).v).1.length pk),(2,pT b2)] /\ S = [P,Q,Kc,raB b2 a0 none 0,[],F]) ?_ ?_
     ·cases c6 with
      | true =>
       refine gg ?_;exact midr ⟨rfl,rfl⟩
      | false =>
       refine gg ?_;exact midr ⟨rfl,rfl⟩
     rintro L S ⟨rfl,rfl⟩;generalize hc7 : (c6 || (((uhE (gotP k zR).v).1.length : Int) != 32)) = c7;refine Jg (fun L S => L = [(98,.bool (c7 || !sizB (gotP k zv).v)),(4,.slice ka k.length kc),(11,.slice qa (uhE (gotP k nNc).v).1.length qk),(13,.slice pa (uhE (gotP k zR).v).1.length pk),(2,pT b2)] /\ S = [P,Q,Kc,raB b2 a0 none 0,[],F]) ?_ ?_
     ·cases c7 with
      | true =>
       refine gg ?_;exact midr ⟨rfl,rfl⟩
      | false =>
       refine gg ?_;refine cR (xy hkc hl2 zv) ?_;refine cR (we (gotP k zv).v) ?_;exact midr ⟨rfl,rfl⟩
     rintro L S ⟨rfl,rfl⟩;generalize hc8 : (c7 || !sizB (gotP k zv).v) = c8;refine OG ?_;rw [show rpaB k = (c8 || !sizB (gotP k zN).v) from by subst hc8 hc7 hc6 hc5 hc4 hc3 hc2 hc1;unfold rpaB;rw [hlk];simp only [Bool.and_assoc,Bool.or_assoc]]
     cases c8 with
     | true =>
      refine gg ?_;exact mid ⟨rfl,rfl,rfl⟩
     | false =>
      refine gg ?_;refine cR (xy hkc hl2 zN) ?_;refine cR (we (gotP k zN).v) ?_;exact mid ⟨rfl,rfl,rfl⟩
    rintro D L S ⟨rfl,rfl,rfl⟩
    cases hb : rpaB k with
    | true =>
     rw [if_pos rfl];refine gg ?_;refine oTg [] (encA a0 none 0).toArray ?_;refine oSg (encA a0 none 0) rfl (VD _ _ _) ?_;refine zf (vs := [.agg (encA a0 none 0).toArray,.int .i64 4]) [[]] ⟨[],none,0,rfl,zJ,rfl⟩ (hr := hrA)
    | false =>
     refine gg ?_;exact mid ⟨rfl,rfl,rfl,rfl⟩
   rintro D L S ⟨hgood,rfl,rfl,rfl⟩;rw [if_neg (by rw [hgood];simp)]
   have hl4 : (uhE (gotP k nNc).v).1.length = 4 := by
    unfold rpaB at hgood;simp only [Bool.or_eq_false_iff] at hgood;have := hgood.2.2.2.2.1
    simp at this;omega
   refine gg ?_;refine cR (xy hkc hl2 xS) ?_;refine cR (xy hkc hl2 zA) ?_;refine cR (xy hkc hl2 zv) ?_;refine cR (xy hkc hl2 nUri) ?_;refine cR (xy hkc hl2 zN) ?_;refine cR (xy hkc hl2 zt) ?_;refine cR (ey hQ hl4) ?_;rw [num_wrap];refine oTg [(0,sT (gotP k xS).v),(1,sT (gotP k zA).v),(2,sT (gotP k zv).v),(3,sT (gotP k nUri).v),(4,sT (gotP k zN).v),(5,sT (gotP k zt).v),(6,b32 (numW (uhE (gotP k nNc).v).1)),(7,.slice pa (uhE (gotP k zR).v).1.length pk)] (encA (anL k) pa pk).toArray ?_;refine oSg (encA (anL k) pa pk) rfl (VD _ _ _) ?_;refine zf (vs := [.agg (encA (anL k) pa pk).toArray,.int .i64 0]) [P] ⟨P,pa,pk,rfl,hP,rfl⟩ (hr := hrA)
 ·rw [bne_iff_ne.2 h0,if_pos h0];refine gg ?_;refine oTg [] (encA a0 none 0).toArray ?_;refine oSg (encA a0 none 0) rfl (VD _ _ _) ?_;refine zf (vs := [.agg (encA a0 none 0).toArray,.int .i64 (xC s).2]) [[]] ⟨[],none,0,rfl,zJ,rfl⟩ (hr := hrA)
open Go.Nam Go.Tab
instance tpRCh8 : xi prog 70 [(0,1),(1,1),(2,1),(3,1)] := ⟨kM⟩
theorem rqchal {RT : zd} {y o rb us rn : Nat} {it ch : Int} {n : NS} (h : yN (some ⟨rn,0,none⟩) RT (some n)) (hser : n.ser < 1000) (d : L8) (hd : d.length <= 1000) (st : Bool) (now : Int) (hn : now < 18446744073709551616) (hn0 : 0 <= now) (hln : (zT n d now).1.1.length <= 4000) :
  zh prog 9 [pT y,sT d,.bool st,.int .u64 now] [RT,ryB y o [116] ch,ofB o rb us rn it]
  fun v A => ∃ RT',v = (if (zT n d now).1.2 = 0 then .tuple #[sT (qA ⟨[116],(zT n d now).1.1,[],st⟩).1,.int .i64 (qA ⟨[116],(zT n d now).1.1,[],st⟩).2] else .tuple #[sT [],.int .i64 (zT n d now).1.2]) /\ yN (some ⟨rn,0,none⟩) RT' (some (zT n d now).2) /\ A = [RT',ryB y o [116] ch,ofB o rb us rn it] := by
 have hx := xIssue h hser d hd now hn0 hn;simp only [Ib] at hx;refine eNg func9 ntmps9 results9 fun F => ?_
 refine cA (hx) ?_;rintro v A ⟨rfl,RT',hRT',rfl⟩;refine gA ?_
 by_cases h0 : (zT n d now).1.2 = 0
 ·rw [if_pos h0,h0];refine gg ?_;refine oTg [(0,sT [116]),(1,sT (zT n d now).1.1),(3,.bool st)] (encC ⟨[116],(zT n d now).1.1,[],st⟩).toArray ?_;refine cR (KO ⟨[116],(zT n d now).1.1,[],st⟩ (by show 1 <= 4000;decide) hln (by show 0 <= 4000;decide)) ?_;refine zf (vs := [sT (qA ⟨[116],(zT n d now).1.1,[],st⟩).1,.int .i64 (qA ⟨[116],(zT n d now).1.1,[],st⟩).2]) [RT',ryB y o [116] ch,ofB o rb us rn it] ?_;exact ⟨RT',rfl,hRT',rfl⟩
 ·rw [if_neg h0,bne_iff_ne.2 h0];refine gg ?_;refine zf (vs := [sT [],.int .i64 (zT n d now).1.2]) [RT',ryB y o [116] ch,ofB o rb us rn it] ?_;exact ⟨RT',rfl,hRT',rfl⟩
theorem qform {k b s q : Nat} {iter ch : Int} (t hd mt tgt : L8) (a : An) (hpa : paE hd = (a,0)) (hdl : hd.length <= 100000) (hne : a.r ≠ t ∨ a.uri ≠ tgt) (now : Int) :
  zh prog 12 [pT k,.agg #[sT mt,sT tgt,sT hd],.int .u64 now] [quB k b s q iter t ch] fun v A => v = .tuple #[.agg zRes.toArray,.int .i64 4] /\ A = [quB k b s q iter t ch] := by
 have hps := ZA hd hdl;rw [hpa] at hps;refine eNg func12 ntmps12 results12 fun F => ?_
 refine oBg fun b4 => ?_
 refine oAg zRes.toArray fun b6 => ?_
 refine cA (hps) ?_;rintro v A ⟨P,pa,pk,rfl,hP,rfl⟩;refine gA ?_;simp only at hP;refine oAg (encA a0 none 0).toArray fun b8 => ?_
 refine oSg (encA a pa pk) rfl (wt _ _ _) ?_;refine zO (fun D L S => D = [] /\ L = [(28,.bool true),(6,pT b6)] /\ S = [[(b6,.cells zRes.toArray 50 (0,0))],quB k b s q iter t ch,F]) ?_ ?_
 ·refine cdLg [[0],[1],[2],[3],[4],[5],[6],[7],[8],[9],[10],[11],[12],[13],[14,0]] ?_
  by_cases h1 : a.r = t
  ·have h2 : a.uri ≠ tgt := hne.resolve_left (fun e => e h1);rw [show (a.r != t) = false by simp [h1]];refine gg ?_;rw [show (a.uri != tgt) = true by simpa using h2];refine gg ?_
   (try (try refine dS ?_))
   (try refine gg ?_)
   exact mid ⟨rfl,rfl,rfl⟩
  ·rw [show (a.r != t) = true by simpa using h1];refine gg ?_
   (try (try refine dS ?_))
   (try refine gg ?_)
   exact mid ⟨rfl,rfl,rfl⟩
 rintro D L S ⟨rfl,rfl,rfl⟩;refine gg ?_;refine oTg [] zRes.toArray ?_;refine oSg zRes rfl (by simp [Value.cell1]) ?_;refine zf (vs := [.agg zRes.toArray,.int .i64 4]) [quB k b s q iter t ch] ?_ (hr := hrA);exact ⟨rfl,rfl⟩
end Go.Proofs.YtebikhhoppiapaaGreatDoor
namespace Go.Proofs.YtebikhhoppiapaaGreatDoor
open Go Go.Ost Go.Sha Go.Nam Go.Tab
theorem ans_no {x : BX} {n : NS} {s : Sec} {m : L8} {a : An} {now : Int} (h : (qm x s.ha m a).1 ≠ a.pf) : ansE x n s m a now = 13 /\ ansN x n s m a now = n := by
 unfold ansE ansN;rw [if_neg h,if_neg h];exact ⟨rfl,rfl⟩
open _root_.Go.Proofs.Tryz
theorem Jr (s : L8) : rpaE s = paE s := by
 unfold rpaE paE
 split
 ·rfl
 ·exact (pa_same _).symm
theorem rans_err {y o : Nat} {ch : Int} (mt tgt hd : L8) (hdl : hd.length <= 100000) (he : (paE hd).2 ≠ 0) (now : Int) :
  zh prog 22 [pT y,sT mt,sT tgt,sT hd,.int .u64 now] [ryB y o [116] ch]
  fun v A => v = .tuple #[.agg zCr.toArray,sT [],.int .u32 0,.int .i64 (paE hd).2] /\ A = [ryB y o [116] ch] := by
 have hrp := Xe hd hdl;rw [Jr] at hrp;refine eNg func22 ntmps22 results22 fun F => ?_
 refine oAg zCr.toArray fun b10 => ?_
 refine cA (hrp) ?_;rintro v A ⟨P,pa,pk,rfl,hP,rfl⟩;refine gA ?_;refine oAg (encA a0 none 0).toArray fun b14 => ?_
 refine oSg (encA (paE hd).1 pa pk) rfl (wt _ _ _) ?_;rw [bne_iff_ne.2 he];refine gg ?_;refine oTg [] zCr.toArray ?_;refine oSg zCr rfl (by simp [Value.cell1]) ?_;refine zf (vs := [.agg zCr.toArray,sT [],.int .u32 0,.int .i64 (paE hd).2]) [ryB y o [116] ch] ?_ (hr := hrA);exact ⟨rfl,rfl⟩
theorem eC {y o : Nat} {ch : Int} (mt tgt hd : L8) (a : An) (hpa : paE hd = (a,0)) (hdl : hd.length <= 100000) (hne : a.r ≠ [116] ∨ a.uri ≠ tgt) (now : Int) :
  zh prog 22 [pT y,sT mt,sT tgt,sT hd,.int .u64 now] [ryB y o [116] ch]
  fun v A => v = .tuple #[.agg zCr.toArray,sT [],.int .u32 0,.int .i64 4] /\ A = [ryB y o [116] ch] := by
 have hrp := Xe hd hdl;rw [Jr,hpa] at hrp;refine eNg func22 ntmps22 results22 fun F => ?_
 refine oAg zCr.toArray fun b10 => ?_
 refine cA (hrp) ?_;rintro v A ⟨P,pa,pk,rfl,hP,rfl⟩;refine gA ?_;refine oAg (encA a0 none 0).toArray fun b14 => ?_
 refine oSg (encA a pa pk) rfl (wt _ _ _) ?_;refine zO (fun D L S => D = [] /\ L = [(43,.bool true),(10,pT b10)] /\ S = [[(b10,.cells zCr.toArray 84 (0,0))],ryB y o [116] ch,F]) ?_ ?_
 ·refine cdLg [[0],[1],[2],[3],[4],[5],[6],[7],[8],[9],[10],[11],[12]] ?_
  by_cases h1 : a.r = [116]
  ·have h2 : a.uri ≠ tgt := hne.resolve_left (fun e => e h1);rw [show (a.r != [116]) = false by simp [h1]];refine gg ?_;rw [show (a.uri != tgt) = true by simpa using h2];refine gg ?_;exact mid ⟨rfl,rfl,rfl⟩
  ·rw [show (a.r != [116]) = true by simpa using h1];refine gg ?_;exact mid ⟨rfl,rfl,rfl⟩
 rintro D L S ⟨rfl,rfl,rfl⟩;refine gg ?_;refine oTg [] zCr.toArray ?_;refine oSg zCr rfl (by simp [Value.cell1]) ?_;refine zf (vs := [.agg zCr.toArray,sT [],.int .u32 0,.int .i64 4]) [ryB y o [116] ch] ?_ (hr := hrA);exact ⟨rfl,rfl⟩
def Pick2 (V : zd) (us : List PU) (u : L8) (kb : Bool) (cv : LV) (h : L8) (H : zd) : Prop := ∃ (c0 c1 c2 c3 c4 c5 : Value) (c7 c8 c9 : Value) (ha : OA) (hc : Nat),cv = [c0,c1,c2,c3,c4,c5,.slice ha h.length hc,c7,c8,c9] /\ (∀ v ∈ cv,Value.cell1 v) /\ h.length = 32 /\ Rd 1 [H] ha h.length (h.map b8) /\
 ((vQ us u = none /\ kb = false /\ h = dumH u) ∨ ∃ p,vQ us u = some p /\ kb = true /\ h = p.sec.ha /\ c1 = sT p.n /\ c7 = .int .u64 p.gen)
def ansG (x : BX) (us : List PU) (ns : NS) (mt : L8) (a : An) (now : Int) : Int × BX × NS := match vQ us a.u with
 | none => (13,(qm x (dumH a.u) mt a).2,ns)
 | some p => (ansE x ns p.sec mt a now,(qm x p.sec.ha mt a).2,ansN x ns p.sec mt a now)
def hF (us : List PU) (a : An) (E : Int) (u : L8) (g : Int) (m : L8) (k : W) : Prop := (E = 0 /\ ∃ p,vQ us a.u = some p /\ u = p.n /\ g = p.gen /\ m = a.n /\ k = a.nc) ∨ (E ≠ 0 /\ u = [] /\ g = 0 /\ m = [] /\ k = 0)
def kix (ds : List CD) (u : L8) : Int := if (xg u 32).2 = 0 then cix (xg u 32).1 ds 0 else -1
theorem eB {y o rb s rn : Nat} {iter ch last reads : Int} {C G CL V RT : zd} {ta la : OA} {tc lc : Nat} {ds : List RD} {x : BX} {ns : NS} (hg : vj G) (hC : RBox C rb x) (hts : x.ts.length <= 800) (hL : OwnC CL la lc (ds.map RD.cd)) (hds : ds.length <= 100) (hok : ∀ d ∈ ds,d.cd.ok) (hs : ∀ d ∈ ds,SecW V d.cd.vs d.u.sec) (hRT : yN (some ⟨rn,0,none⟩) RT (some ns))
  (hr0 : 0 <= reads) (hr1 : reads < 1000000) (hch0 : 0 <= ch) (hch1 : ch < 1000000) (hi1 : 1 <= iter) (hi2 : iter <= 64)
  (mt hd : L8) (a : An) (hpa : paE hd = (a,0)) (hdl : hd.length <= 100000) (har : a.r = [116]) (hul : a.u.length <= 4096) (hnnl : a.n.length <= 4096) (htl : a.uri.length <= 4096) (hcl : a.cn.length <= 4096) (hpl : a.pf.length <= 4096) (hml : mt.length <= 1000) (now : Int) (hn0 : 0 <= now) (hnow : now < 18446744073709551616) :
  zh prog 22 [pT y,sT mt,sT a.uri,sT hd,.int .u64 now] [C,G,rsB s ta 1 tc la (ds.map RD.cd).length lc last reads,CL,V,RT,ryB y o [116] ch,ofB o rb s rn iter]
  fun v A => ∃ (C' RT' W0 : zd) (c0 c2 c3 c4 c5 c6 c8 c9 : Value) (u : L8) (g : Int) (m : L8) (k : W),v = .tuple #[.agg #[c0,sT u,c2,c3,c4,c5,c6,.int .u64 g,c8,c9],sT m,b32 k,.int .i64 (ansG x (ds.map RD.u) ns mt a now).1] /\
   (∀ v ∈ ([c0,sT u,c2,c3,c4,c5,c6,.int .u64 g,c8,c9] : LV),Value.cell1 v) /\ hF (ds.map RD.u) a (ansG x (ds.map RD.u) ns mt a now).1 u g m k /\ RBox C' rb (ansG x (ds.map RD.u) ns mt a now).2.1 /\ yN (some ⟨rn,0,none⟩) RT' (some (ansG x (ds.map RD.u) ns mt a now).2.2) /\
   A = [C',G,rsB s ta 1 tc la (ds.map RD.cd).length lc last (reads + 1),CL,W0 ++ V,RT',ryB y o [116] (ch + 1),ofB o rb s rn iter] := by
 have hrp := Xe hd hdl;rw [Jr,hpa] at hrp;have hdm := YN hg a.u oM iter hi1 hi2;have hsz := kx a.u oM 32 dM;have hfd := wB (s := s) (ta := ta) (tn := 1) (tc := tc) (last := last) (reads := reads + 1) (by rw [iA];exact hds) (rd_ok hok) hL a.u oM;rw [show (if (xg a.u 32).2 = 0 then cix (xg a.u 32).1 (ds.map RD.cd) 0 else -1) = kix (ds.map RD.cd) a.u from rfl] at hfd;refine eNg func22 ntmps22 results22 fun F => ?_
 refine oAg zCr.toArray fun b10 => ?_
 refine cA (hrp) ?_;rintro v A ⟨P,pa,pk,rfl,hP,rfl⟩;refine gA ?_;refine oAg (encA a0 none 0).toArray fun b14 => ?_
 refine oSg (encA a pa pk) rfl (wt _ _ _) ?_;refine cdLg [[0],[1],[2],[3],[4],[5],[6],[7],[8],[9],[10],[11],[12]] ?_;rw [show (a.r != [116]) = false by simp [har]];refine gg ?_;refine gM ?_;refine zO (fun D L S => ∃ (b16 : Nat) (W : zd) (w0 w1 w2 w3 : Value) (wa : OA) (wc : Nat),(∀ v ∈ ([.string ⟨#[]⟩,.string ⟨#[]⟩,w0,w1,w2,w3,.slice wa (dumH a.u).length wc,.int .u64 0,nS,.bool false] : LV),Value.cell1 v) /\ Rd 1 [W] wa (dumH a.u).length ((dumH a.u).map b8) /\ D = [] /\ L = [(16,pT b16),(14,pT b14),(10,pT b10),(0,pT y),(1,sT mt),(4,.int .u64 now)] /\ S = [[(b16,.cells ([.string ⟨#[]⟩,.string ⟨#[]⟩,w0,w1,w2,w3,.slice wa (dumH a.u).length wc,.int .u64 0,nS,.bool false] : LV).toArray 84 (0,0))],[(b14,.cells (encA a pa pk).toArray 56 (0,0))],P,[(b10,.cells zCr.toArray 84 (0,0))],F,C,G,rsB s ta 1 tc la (ds.map RD.cd).length lc last (reads + 1),CL,RT,ryB y o [116] ch,ofB o rb s rn iter,W,V]) ?_ ?_
 ·refine yJ 13 15 [[],[0],[0,1],[0,1,2],[],[4],[],[6],[6,7],[6,7,8],[6,7,8,9],[6,7,8,9,10],[6,7,8,9,10,11],[0,1,2,3,4,5,6,7,8,9,10,11,12],[0,1,2,3,4,5,6,7,8,9,10,11,12,13],[0,1,2,3,4,5,6,7,8,9,10,11,12,13],[0,1,2,3,4,5,6,7,8,9,10,11,12,13,14,15]] [(0,false,[]),(1,false,[]),(2,false,[]),(3,false,[]),(4,false,[]),(5,false,[]),(6,false,[]),(7,false,[]),(8,false,[]),(9,false,[]),(10,false,[]),(11,false,[]),(12,false,[]),(13,true,[]),(14,false,[]),(15,true,[]),(16,true,[])] [[],[0],[0,1],[0,1,2],[],[4],[],[6],[6,7],[6,7,8],[6,7,8,9],[6,7,8,9,10],[6,7,8,9,10,11],[0,1,2,3,4,5,6,7,8,9,10,11,12,15],[0,1,2,3,4,5,6,7,8,9,10,11,12,13,15],[],[0,1,2,3,4,5,6,7,8,9,10,11,12,13,14,15]] [(0,false,[]),(1,false,[]),(2,false,[]),(3,false,[]),(4,false,[]),(5,false,[]),(6,false,[]),(7,false,[]),(8,false,[]),(9,false,[]),(10,false,[]),(11,false,[]),(12,false,[]),(15,true,[3,5,9,12]),(13,true,[]),(14,false,[]),(16,true,[])] ?_ ?_
  ·refine gg ?_;refine dA (hdm) ?_;rintro v A ⟨W,ws,rfl,hW,rfl⟩;refine pC ?_;obtain ⟨w0,w1,w2,w3,wa,wc,hvs,hcell,hr⟩ := id hW;subst hvs;refine qF ?_;rw [zX (ps := [(2,.agg ([w0,w1,w2,w3,.slice wa (dumH a.u).length wc] : LV).toArray)]) (cs := ([.string ⟨#[]⟩,.string ⟨#[]⟩,w0,w1,w2,w3,.slice wa (dumH a.u).length wc,.int .u64 0,nS,.bool false] : LV).toArray) kM];refine gg ?_;refine zG ?_;refine qE zCr.toArray rfl fun b16 => ?_;refine pC ?_
   have hz1 : ∀ v ∈ ([.string ⟨#[]⟩,.string ⟨#[]⟩,w0,w1,w2,w3,.slice wa (dumH a.u).length wc,.int .u64 0,nS,.bool false] : LV),Value.cell1 v := by
    intro v hv;simp only [aY,aT,or_false] at hv
    rcases hv with rfl | rfl | rfl | rfl | rfl | rfl | rfl | rfl | rfl | rfl
    all_goals first | exact trivial | exact hcell _ sM
   refine zG ?_;refine xo (vs := [.string ⟨#[]⟩,.string ⟨#[]⟩,w0,w1,w2,w3,.slice wa (dumH a.u).length wc,.int .u64 0,nS,.bool false]) rfl hz1 upA (by rfl) ?_;refine pD ?_
   (try refine gg ?_)
   (try (try refine dS ?_))
   (try refine gg ?_)
   exact mid ⟨b16,W,w0,w1,w2,w3,wa,wc,hz1,hr,rfl,rfl,rfl⟩
  ·refine gg ?_;refine zG ?_;refine qE zCr.toArray rfl fun b16 => ?_;refine pC ?_
   refine dA (hdm) ?_;rintro v A ⟨W,ws,rfl,hW,rfl⟩;refine pC ?_;obtain ⟨w0,w1,w2,w3,wa,wc,hvs,hcell,hr⟩ := id hW;subst hvs;refine qF ?_;rw [zX (ps := [(2,.agg ([w0,w1,w2,w3,.slice wa (dumH a.u).length wc] : LV).toArray)]) (cs := ([.string ⟨#[]⟩,.string ⟨#[]⟩,w0,w1,w2,w3,.slice wa (dumH a.u).length wc,.int .u64 0,nS,.bool false] : LV).toArray) kM];refine gg ?_
   have hz1 : ∀ v ∈ ([.string ⟨#[]⟩,.string ⟨#[]⟩,w0,w1,w2,w3,.slice wa (dumH a.u).length wc,.int .u64 0,nS,.bool false] : LV),Value.cell1 v := by
    intro v hv;simp only [aY,aT,or_false] at hv
    rcases hv with rfl | rfl | rfl | rfl | rfl | rfl | rfl | rfl | rfl | rfl
    all_goals first | exact trivial | exact hcell _ sM
   refine zG ?_;refine xo (vs := [.string ⟨#[]⟩,.string ⟨#[]⟩,w0,w1,w2,w3,.slice wa (dumH a.u).length wc,.int .u64 0,nS,.bool false]) rfl hz1 upA (by rfl) ?_;refine pD ?_
   (try refine gg ?_)
   (try (try refine dS ?_))
   (try refine gg ?_)
   exact mid ⟨b16,W,w0,w1,w2,w3,wa,wc,hz1,hr,rfl,rfl,rfl⟩
 rintro D L S ⟨b16,W,w0,w1,w2,w3,wa,wc,hz1,hr,rfl,rfl,rfl⟩;refine jY (S' := [[(b16,.cells ([.string ⟨#[]⟩,.string ⟨#[]⟩,w0,w1,w2,w3,.slice wa (dumH a.u).length wc,.int .u64 0,nS,.bool false] : LV).toArray 84 (0,0))],[(b14,.cells (encA a pa pk).toArray 56 (0,0))],P,[(b10,.cells zCr.toArray 84 (0,0))],F,C,G,rsB s ta 1 tc la (ds.map RD.cd).length lc last (reads + 1),CL,RT,ryB y o [116] ch,ofB o rb s rn iter,W ++ V]) sM ?_;refine gg ?_;refine cR (hsz) ?_;refine cdLg [[0],[1],[2],[3],[4],[5],[6],[7],[8],[9],[10],[11],[12],[13,0],[14,0]] ?_;refine dA (hfd) ?_;rintro v A ⟨rfl,rfl⟩;refine pD ?_;refine wL fun K hK => ?_;refine hK _ _ ?_;clear hK K
 (try refine zx ?_)
 (try with_reducible refine qL ?_)
 (with_reducible refine zS ?_);refine zO (fun D L S => D = [] /\ L = [(20,.bool ((xg a.u 32).2 == 0 && decide (0 <= kix (ds.map RD.cd) a.u))),(19,.int .i64 (kix (ds.map RD.cd) a.u)),(16,pT b16),(14,pT b14),(10,pT b10),(0,pT y),(1,sT mt),(4,.int .u64 now)] /\ S = [[(b16,.cells ([.string ⟨#[]⟩,.string ⟨#[]⟩,w0,w1,w2,w3,.slice wa (dumH a.u).length wc,.int .u64 0,nS,.bool false] : LV).toArray 84 (0,0))],[(b14,.cells (encA a pa pk).toArray 56 (0,0))],P,[(b10,.cells zCr.toArray 84 (0,0))],F,C,G,rsB s ta 1 tc la (ds.map RD.cd).length lc last (reads + 1),CL,RT,ryB y o [116] ch,ofB o rb s rn iter,W ++ V]) ?_ ?_
 ·refine gg ?_
  by_cases h0 : (xg a.u 32).2 = 0
  ·rw [h0];refine gg ?_;exact mid ⟨rfl,rfl,rfl⟩
  ·rw [beq_eq_false_iff_ne.2 h0];refine gg ?_;exact mid ⟨rfl,rfl,rfl⟩
 rintro D L S ⟨rfl,rfl,rfl⟩;have hcs := QZ
 have hkn : ∀ p,getU (ds.map RD.u) (xg a.u 32).1 = some p -> (xg a.u 32).2 = 0 -> ∃ (i : Nat) (d : RD),(ds.map RD.cd)[i]? = some d.cd /\ d ∈ ds /\ d.u = p /\ kix (ds.map RD.cd) a.u = i /\ i < (ds.map RD.cd).length := by
  intro p hp h0;obtain ⟨us1,us2,e,hun,hpn⟩ := wn hp;obtain ⟨ds1,d,ds2,rfl,e1,rfl,e2,hdn⟩ := OK e hun;refine ⟨ds1.length,d,sM,sM,rfl,?_,sM⟩;unfold kix;rw [if_pos h0,<- hpn,cix_at hdn]
 (with_reducible refine zS ?_);refine zO (fun D L S => ∃ kb : Bool,kb = (vQ (ds.map RD.u) a.u).isSome /\ D = [] /\ L = [(20,.bool kb),(19,.int .i64 (kix (ds.map RD.cd) a.u)),(16,pT b16),(14,pT b14),(10,pT b10),(0,pT y),(1,sT mt),(4,.int .u64 now)] /\ S = [[(b16,.cells ([.string ⟨#[]⟩,.string ⟨#[]⟩,w0,w1,w2,w3,.slice wa (dumH a.u).length wc,.int .u64 0,nS,.bool false] : LV).toArray 84 (0,0))],[(b14,.cells (encA a pa pk).toArray 56 (0,0))],P,[(b10,.cells zCr.toArray 84 (0,0))],F,C,G,rsB s ta 1 tc la (ds.map RD.cd).length lc last (reads + 1),CL,RT,ryB y o [116] ch,ofB o rb s rn iter,W ++ V]) ?_ ?_
 ·refine gg ?_
  by_cases h0 : (xg a.u 32).2 = 0
  ·cases hgu : getU (ds.map RD.u) (xg a.u 32).1 with
   | none =>
    have hx : kix (ds.map RD.cd) a.u = -1 := by
     unfold kix;rw [if_pos h0];exact Qb _ 0 (by intro d hd;obtain ⟨x,hx,rfl⟩ := List.mem_map.1 hd;exact ZL hgu x.u (mH hx))
    rw [show ((xg a.u 32).2 == 0 && decide (0 <= kix (ds.map RD.cd) a.u)) = false by rw [hx];simp];refine gg ?_;exact mid ⟨false,by simp [vQ,h0,hgu],rfl,rfl,rfl⟩
   | some p =>
    obtain ⟨i,d,hx0,hdm,hdp,hx,hil⟩ := hkn p hgu h0;rw [show ((xg a.u 32).2 == 0 && decide (0 <= kix (ds.map RD.cd) a.u)) = true by rw [hx,h0];simp,hx];refine gg ?_;exact mid ⟨!d.cd.rev,by rw [<- hdp] at hgu;simp only [vQ,h0,hgu,if_true,RD.cd];cases d.u.rev <;> rfl,rfl,by first | rfl | rw [hx],rfl⟩
  ·rw [show ((xg a.u 32).2 == 0 && decide (0 <= kix (ds.map RD.cd) a.u)) = false by simp [h0]];refine gg ?_;exact mid ⟨false,by simp [vQ,h0],rfl,rfl,rfl⟩
 rintro D L S ⟨kb,hkb,rfl,rfl,rfl⟩
 (with_reducible refine zS ?_);refine zO (fun D L S => ∃ (cv : LV) (h : L8),Pick2 V (ds.map RD.u) a.u kb cv h (W ++ V) /\ D = [] /\ L = [(20,.bool kb),(16,pT b16),(14,pT b14),(10,pT b10),(0,pT y),(1,sT mt),(4,.int .u64 now)] /\ S = [[(b16,.cells cv.toArray 84 (0,0))],[(b14,.cells (encA a pa pk).toArray 56 (0,0))],P,[(b10,.cells zCr.toArray 84 (0,0))],F,C,G,rsB s ta 1 tc la (ds.map RD.cd).length lc last (reads + 1),CL,RT,ryB y o [116] ch,ofB o rb s rn iter,W ++ V]) ?_ ?_
 ·refine gg ?_
  cases hk : vQ (ds.map RD.u) a.u with
  | none =>
   rw [hk] at hkb;obtain rfl : kb = false := hkb;refine gg ?_;exact mid ⟨_,dumH a.u,⟨_,_,w0,w1,w2,w3,_,_,_,wa,wc,rfl,hz1,IF _,rd_l hr,.inl ⟨hk,rfl,rfl⟩⟩,rfl,rfl,rfl⟩
  | some p =>
   rw [hk] at hkb;obtain rfl : kb = true := hkb;have hk0 := hk;unfold vQ at hk0
   have h0 : (xg a.u 32).2 = 0 := by
    by_cases e : (xg a.u 32).2 = 0
    ·exact e
    ·rw [if_neg e] at hk0;cases hk0
   rw [if_pos h0] at hk0
   obtain ⟨p',hgu⟩ : ∃ p',getU (ds.map RD.u) (xg a.u 32).1 = some p' := by
    cases e : getU (ds.map RD.u) (xg a.u 32).1 with
    | none => rw [e] at hk0;cases hk0
    | some p' => exact ⟨p',rfl⟩
   have hpp : p' = p := by
    rw [hgu] at hk0;simp only at hk0
    split at hk0
    ·cases hk0
    ·exact Option.some.inj hk0
   subst hpp;obtain ⟨i,d,hx0,hdm,hdp,hx,hil⟩ := hkn p' hgu h0;rw [hx];refine gg ?_;subst hdp;obtain ⟨a0,a1,a2,a3,c0,c1,c2,c3,e,l0,l1,l2,l3,r0,r1,r2,r3⟩ := hs d hdm;simp only [CD.vs,RD.cd,List.cons.injEq,and_true] at e;obtain ⟨g0,g1,g2,g3,g4⟩ := e;refine zF ?_;refine xh hL hcs hx0 dM mmA ?_;refine gg ?_;refine oSg d.cd.v rfl (hok d hdm) ?_;exact mid ⟨d.cd.v,d.u.sec.ha,⟨sT [116],sT d.u.n,d.v0,d.v1,d.v2,d.v3,.int .u64 d.u.gen,nS,.bool d.u.rev,a3,c3,by rw [<- g4];rfl,hok d hdm,l3,rd_r r3,.inr ⟨d.u,hk,rfl,rfl,rfl,rfl⟩⟩,rfl,rfl,rfl⟩
 rintro D L S ⟨cv,h,hpk,rfl,rfl,rfl⟩;obtain ⟨z0,z1,z2,z3,z4,z5,z7,z8,z9,ha,hc,rfl,hcell,hh32,hrd,hcase⟩ := id hpk;refine gg ?_;refine gM ?_;refine cdLg [[0],[1],[2],[3],[4],[5],[6],[7],[8],[9],[10],[11],[13],[14],[12,0,14],[15,0],[16],[17],[18],[19],[20]] ?_;refine qF ?_;refine zz (vs := encA a pa pk) lkA rfl ?_;refine gg ?_;have rl := ye x h mt a;have hhl : h.length <= 1000 := oM;refine dA (QB hg hC oM h mt hhl hml hrd a hnnl htl hcl pa pk) ?_;rintro v A ⟨O,C',oa,oc,rfl,hO,hC',rfl⟩;refine pC ?_
 have hno : ((qm x h mt a).1 ≠ a.pf ∨ kb = false) -> ansG x (ds.map RD.u) ns mt a now = (13,(qm x h mt a).2,ns) := by
  intro hc;unfold ansG
  rcases hcase with ⟨e1,e2,e3⟩ | ⟨p,e1,e2,e3,_⟩
  ·rw [e1,e3]
  ·rw [e1];have hc2 := hc.resolve_right (by rw [e2];decide);obtain ⟨g1,g2⟩ := ans_no (n := ns) (now := now) (s := p.sec) (by rw [<- e3];exact hc2);simp only [g1,g2,e3]
 have hyes : (qm x h mt a).1 = a.pf -> kb = true -> ∃ p,vQ (ds.map RD.u) a.u = some p /\ z1 = sT p.n /\ z7 = .int .u64 p.gen /\ ansG x (ds.map RD.u) ns mt a now = ((useN ns a.n a.nc.toNat now).1,(qm x h mt a).2,(useN ns a.n a.nc.toNat now).2) := by
  intro h1 h2
  rcases hcase with ⟨_,e2,_⟩ | ⟨p,e1,_,e3,e4,e5⟩
  ·rw [e2] at h2;cases h2
  ·refine ⟨p,e1,e4,e5,?_⟩;unfold ansG ansE ansN;rw [e1];simp only;rw [<- e3,if_pos h1,if_pos h1]
 generalize qm x h mt a = r at *;refine dR (Zp [O,P] oa pa r.1.length a.pf.length oc pk r.1 a.pf (hO.rd (aA ..)) (hP.rd (aK _ (aA ..)))) ?_
 cases hb : (r.1 == a.pf) with
 | false =>
  refine gg ?_;refine oTg [] zCr.toArray ?_;refine oSg zCr rfl (by simp [Value.cell1]) ?_;refine zf (vs := [.agg zCr.toArray,sT [],.int .u32 0,.int .i64 13]) [C',G,rsB s ta 1 tc la (ds.map RD.cd).length lc last (reads + 1),CL,W ++ V,RT,ryB y o [116] (ch + 1),ofB o rb s rn iter] ?_ (hr := hrA);rw [hno (.inl (by simpa using hb))];exact ⟨C',RT,W,_,_,_,_,_,_,_,_,[],0,[],0,rfl,(by simp [Value.cell1]),.inr ⟨(dM : (13 : Int) ≠ 0),rfl,rfl,rfl,rfl⟩,hC',hRT,rfl⟩
 | true =>
  cases kb with
  | false =>
   refine gg ?_;refine oTg [] zCr.toArray ?_;refine oSg zCr rfl (by simp [Value.cell1]) ?_;refine zf (vs := [.agg zCr.toArray,sT [],.int .u32 0,.int .i64 13]) [C',G,rsB s ta 1 tc la (ds.map RD.cd).length lc last (reads + 1),CL,W ++ V,RT,ryB y o [116] (ch + 1),ofB o rb s rn iter] ?_ (hr := hrA);rw [hno (.inr rfl)];exact ⟨C',RT,W,_,_,_,_,_,_,_,_,[],0,[],0,rfl,(by simp [Value.cell1]),.inr ⟨(dM : (13 : Int) ≠ 0),rfl,rfl,rfl,rfl⟩,hC',hRT,rfl⟩
  | true =>
   obtain ⟨p,hkp,rfl,rfl,hG⟩ := hyes (by simpa using hb) rfl;have hu := xUse hRT a.n (a.nc.toNat : Int) now oM hnow;rw [show Value.int .u32 (a.nc.toNat : Int) = b32 a.nc from rfl] at hu;simp only [oUse] at hu;refine gg ?_;refine cdLg [[0],[1],[2],[3],[4],[5],[6],[7],[8],[9],[10],[11],[12,0],[13,0]] ?_;refine dA (hu) ?_;rintro v A ⟨rfl,RT',hRT',rfl⟩;refine pC ?_
   (try (try refine dS ?_))
   (try refine gg ?_)
   rw [hG];generalize useN ns a.n (a.nc.toNat : Int) now = w at *
   by_cases h0 : w.1 = 0
   ·rw [h0];refine gg ?_;refine cdLg [[0],[1],[2],[3],[4],[5,0,2,4],[6,0,4],[7,0],[8,0]] ?_;refine qF ?_;refine zz (vs := [z0,sT p.n,z2,z3,z4,z5,.slice ha h.length hc,.int .u64 p.gen,z8,z9]) lkA rfl ?_;refine gg ?_;refine zG ?_;refine xo (vs := [z0,sT p.n,z2,z3,z4,z5,.slice ha h.length hc,.int .u64 p.gen,z8,z9]) rfl hcell upA (by rfl) ?_;refine pD ?_
    (try refine gg ?_)
    (try (try refine dS ?_))
    (try refine gg ?_)
    refine zf (vs := [.agg ([z0,sT p.n,z2,z3,z4,z5,.slice ha h.length hc,.int .u64 p.gen,z8,z9] : LV).toArray,sT a.n,b32 a.nc,.int .i64 0]) [C',G,rsB s ta 1 tc la (ds.map RD.cd).length lc last (reads + 1),CL,W ++ V,RT',ryB y o [116] (ch + 1),ofB o rb s rn iter] ?_ (hr := hrA);exact ⟨C',RT',W,_,_,_,_,_,_,_,_,p.n,p.gen,a.n,a.nc,rfl,hcell,.inl ⟨rfl,p,hkp,rfl,rfl,rfl,rfl⟩,hC',hRT',rfl⟩
   ·rw [bne_iff_ne.2 h0];refine gg ?_;refine oTg [] zCr.toArray ?_;refine oSg zCr rfl (by simp [Value.cell1]) ?_;refine zf (vs := [.agg zCr.toArray,sT [],.int .u32 0,.int .i64 w.1]) [C',G,rsB s ta 1 tc la (ds.map RD.cd).length lc last (reads + 1),CL,W ++ V,RT',ryB y o [116] (ch + 1),ofB o rb s rn iter] ?_ (hr := hrA);exact ⟨C',RT',W,_,_,_,_,_,_,_,_,[],0,[],0,rfl,(by simp [Value.cell1]),.inr ⟨h0,rfl,rfl,rfl,rfl⟩,hC',hRT',rfl⟩
theorem pa_len (s : L8) : (paE s).1.u.length <= s.length /\ (paE s).1.n.length <= s.length /\ (paE s).1.uri.length <= s.length /\ (paE s).1.cn.length <= s.length /\ (paE s).1.pf.length <= s.length := by
 have hb : ∀ p ∈ (xC s).1,p.v.length <= s.length := fun p hp => by have := (yb s).2 p hp;omega
 unfold paE
 split
 ·simp [a0]
 ·unfold paL
  split
  ·simp [a0]
  ·have := uh_le (gotP (xC s).1 zR).v;have h5 := wE hb zR;exact ⟨wE hb _,wE hb _,wE hb _,wE hb _,by show (uhE (gotP (xC s).1 zR).v).1.length <= _;omega⟩
theorem qans_err {k b s q : Nat} {iter ch : Int} (t hd mt tgt : L8) (hdl : hd.length <= 100000) (he : (paE hd).2 ≠ 0) (now : Int) :
  zh prog 12 [pT k,.agg #[sT mt,sT tgt,sT hd],.int .u64 now] [quB k b s q iter t ch] fun v A => v = .tuple #[.agg zRes.toArray,.int .i64 (paE hd).2] /\ A = [quB k b s q iter t ch] := by
 have hps := ZA hd hdl;refine eNg func12 ntmps12 results12 fun F => ?_
 refine oBg fun b4 => ?_
 refine oAg zRes.toArray fun b6 => ?_
 refine cA (hps) ?_;rintro v A ⟨P,pa,pk,rfl,hP,rfl⟩;refine gA ?_;refine oAg (encA a0 none 0).toArray fun b8 => ?_
 refine oSg (encA (paE hd).1 pa pk) rfl (wt _ _ _) ?_;rw [bne_iff_ne.2 he];refine gg ?_;refine oTg [] zRes.toArray ?_;refine oSg zRes rfl (by simp [Value.cell1]) ?_;refine zf (vs := [.agg zRes.toArray,.int .i64 (paE hd).2]) [quB k b s q iter t ch] ?_ (hr := hrA);exact ⟨rfl,rfl⟩
def ansA (x : BX) (us : List PU) (ns : NS) (mt tgt hd : L8) (now : Int) : (Int × BX × NS) × Int :=
 if (paE hd).2 ≠ 0 then (((paE hd).2,x,ns),0) else if (paE hd).1.r ≠ [116] ∨ (paE hd).1.uri ≠ tgt then ((4,x,ns),0) else (ansG x us ns mt (paE hd).1 now,1)
theorem dk {us : List PU} {a : An} {E g g' : Int} {u u' m m' : L8} {k k' : W} (h : hF us a E u g m k) (h' : hF us a E u' g' m' k') : u' = u /\ g' = g /\ m' = m /\ k' = k := by
 rcases h with ⟨e,p,hp,rfl,rfl,rfl,rfl⟩ | ⟨e,rfl,rfl,rfl,rfl⟩ <;> rcases h' with ⟨e',p',hp',rfl,rfl,rfl,rfl⟩ | ⟨e',rfl,rfl,rfl,rfl⟩
 ·rw [hp] at hp';cases hp';exact ⟨rfl,rfl,rfl,rfl⟩
 ·exact absurd e e'
 ·exact absurd e' e
 ·exact ⟨rfl,rfl,rfl,rfl⟩
theorem cf {us : List PU} {w : L8} {p : PU} (h : vQ us w = some p) : ∃ us1 us2,us = us1 ++ p :: us2 /\ (∀ y ∈ us1,y.n ≠ p.n) /\ xg w 32 = (p.n,0) /\ p.rev = false := by
 unfold vQ at h
 split at h
 ·rename_i h0
  cases hg : getU us (xg w 32).1 with
  | none => rw [hg] at h;cases h
  | some p' =>
   rw [hg] at h;simp only at h
   split at h
   ·cases h
   ·rename_i hr
    cases h
    obtain ⟨us1,us2,e,h1,h2⟩ := wn hg;exact ⟨us1,us2,e,h1,by rw [h2,<- h0],by simpa using hr⟩
 ·cases h
abbrev resV (c0 c2 c3 c4 c5 c6 c8 c9 : Value) (u : L8) (g : Int) (m : L8) (k : W) : LV := [c0,sT u,c2,c3,c4,c5,c6,.int .u64 g,c8,c9,sT m,b32 k]
abbrev resC (c0 c2 c3 c4 c5 c6 c8 c9 : Value) (u : L8) (g : Int) : LV := [c0,sT u,c2,c3,c4,c5,c6,.int .u64 g,c8,c9]
theorem qans_all {qk b s q : Nat} {iter ch last reads : Int} {C K NT G : zd} {us : List PU} {x : BX} {ns : NS} (hg : jJ G) (hn : GNam G) (hC : vg C b x) (hts : x.ts.length <= 800) (hSt : IsSt K s us last reads) (hNT : ZW (some ⟨q,0,none⟩) NT (some ns)) (hr0 : 0 <= reads) (hr1 : reads < 1000000) (hch0 : 0 <= ch) (hch1 : ch < 1000000) (hi1 : 1 <= iter) (hi2 : iter <= 64)
  (mt tgt hd : L8) (hdl : hd.length <= 4096) (hml : mt.length <= 1000) (now : Int) (hn0 : 0 <= now) (hnow : now < 18446744073709551616) :
  zh prog 12 [pT qk,.agg #[sT mt,sT tgt,sT hd],.int .u64 now] [quB qk b s q iter [116] ch,C,K,NT,G]
  fun v A => ∃ (C' K' NT' : zd) (c0 c2 c3 c4 c5 c6 c8 c9 : Value) (u : L8) (g : Int) (m : L8) (k : W),v = .tuple #[.agg (resV c0 c2 c3 c4 c5 c6 c8 c9 u g m k).toArray,.int .i64 (ansA x us ns mt tgt hd now).1.1] /\ (∀ v ∈ resV c0 c2 c3 c4 c5 c6 c8 c9 u g m k,Value.cell1 v) /\ hF us (paE hd).1 (ansA x us ns mt tgt hd now).1.1 u g m k /\
   vg C' b (ansA x us ns mt tgt hd now).1.2.1 /\ IsSt K' s us last (reads + (ansA x us ns mt tgt hd now).2) /\ ZW (some ⟨q,0,none⟩) NT' (some (ansA x us ns mt tgt hd now).1.2.2) /\ A = [quB qk b s q iter [116] (ch + (ansA x us ns mt tgt hd now).2),C',K',NT',G] := by
 obtain ⟨l1,l2,l3,l4,l5⟩ := pa_len hd;have hz : ∀ v ∈ zRes,Value.cell1 v := by simp [Value.cell1]
 unfold ansA
 by_cases he : (paE hd).2 ≠ 0
 ·rw [if_pos he];simp only [Int.add_zero];refine zh.conv [quB qk b s q iter [116] ch,C,K,NT,G] (qans_err [116] hd mt tgt oM he now) flA tkA ?_;rintro v A ⟨rfl,rfl⟩;exact ⟨[quB qk b s q iter [116] ch,C,K,NT,G],[quB qk b s q iter [116] ch,C,K,NT,G],flA,amA,C,K,NT,_,_,_,_,_,_,_,_,[],0,[],0,rfl,hz,.inr ⟨he,rfl,rfl,rfl,rfl⟩,hC,hSt,hNT,rfl⟩
 ·rw [if_neg he];have hpa : paE hd = ((paE hd).1,0) := by rw [<- show (paE hd).2 = 0 from by simpa using he]
  generalize (paE hd).1 = a at *
  by_cases hf : a.r ≠ [116] ∨ a.uri ≠ tgt
  ·rw [if_pos hf];simp only [Int.add_zero];refine zh.conv [quB qk b s q iter [116] ch,C,K,NT,G] (qform [116] hd mt tgt a hpa oM hf now) flA tkA ?_;rintro v A ⟨rfl,rfl⟩;exact ⟨[quB qk b s q iter [116] ch,C,K,NT,G],[quB qk b s q iter [116] ch,C,K,NT,G],flA,amA,C,K,NT,_,_,_,_,_,_,_,_,[],0,[],0,rfl,hz,.inr ⟨(dM : (4 : Int) ≠ 0),rfl,rfl,rfl,rfl⟩,hC,hSt,hNT,rfl⟩
  ·rw [if_neg hf];obtain ⟨u,r,nn,uri,cn,o,nc,pf⟩ := a;simp only [not_or,ne_eq,Decidable.not_not] at hf;obtain ⟨rfl,rfl⟩ := hf;simp only at l1 l2 l3 l4 l5;unfold ansG
   cases hk : vQ us u with
   | none =>
    refine zh.conv [quB qk b s q iter [116] ch,C,K,NT,G] (qans_no (s := s) (q := q) (last := last) (iter := iter) hg hn hC hts hSt hr0 hr1 hch0 hch1 hi1 hi2 hd u nn uri cn o pf mt nc hpa oM oM oM oM oM oM hml hk now) flA tkA ?_;rintro v A ⟨C',K',rfl,hC',hSt',rfl⟩;exact ⟨[quB qk b s q iter [116] (ch + 1),C',K',NT,G],[quB qk b s q iter [116] (ch + 1),C',K',NT,G],flA,amA,C',K',NT,_,_,_,_,_,_,_,_,[],0,[],0,rfl,hz,.inr ⟨(dM : (13 : Int) ≠ 0),rfl,rfl,rfl,rfl⟩,hC',hSt',hNT,rfl⟩
   | some p =>
    obtain ⟨us1,us2,hus,hun,hsz,hrev⟩ := cf hk;refine zh.mono (qans2 (iter := iter) (ch := ch) hg hn hC hts hSt hus hun hrev hsz oM hNT hr0 hr1 hch0 hch1 hd nn uri cn o pf mt nc hpa oM oM oM oM oM hml now hn0 hnow) ?_;rintro v A ⟨C',K',NT',vs',rv,rfl,⟨hv1,hv2⟩,⟨hv3,hv4⟩,hvl,hC',hSt',hNT',rfl⟩;simp only
    by_cases h0 : ansE x ns p.sec mt ⟨u,[116],nn,uri,cn,o,nc,pf⟩ now = 0
    ·obtain ⟨v0,v1,v2,v3,v4,rfl⟩ : ∃ v0 v1 v2 v3 v4,vs' = [v0,v1,v2,v3,v4] := by
      match vs',hvl with
      | [v0,v1,v2,v3,v4],_ => exact ⟨v0,v1,v2,v3,v4,rfl⟩
     obtain rfl := hv3 h0;exact ⟨C',K',NT',sT [116],v0,v1,v2,v3,v4,nS,.bool false,p.n,p.gen,nn,nc,rfl,hv2,.inl ⟨h0,p,hk,rfl,rfl,rfl,rfl⟩,hC',hSt',hNT',rfl⟩
    ·obtain rfl := hv4 h0;exact ⟨C',K',NT',_,_,_,_,_,_,_,_,[],0,[],0,rfl,hz,.inr ⟨h0,rfl,rfl,rfl,rfl⟩,hC',hSt',hNT',rfl⟩
theorem rans_all {y o rb s rn : Nat} {iter ch last reads : Int} {C G K RT : zd} {us : List PU} {x : BX} {ns : NS} (hg : vj G) (hC : RBox C rb x) (hts : x.ts.length <= 800) (hK : IsRs K s us last reads) (hul : us.length <= 100) (hRT : yN (some ⟨rn,0,none⟩) RT (some ns)) (hr0 : 0 <= reads) (hr1 : reads < 1000000) (hch0 : 0 <= ch) (hch1 : ch < 1000000) (hi1 : 1 <= iter) (hi2 : iter <= 64)
  (mt tgt hd : L8) (hdl : hd.length <= 4096) (hml : mt.length <= 1000) (now : Int) (hn0 : 0 <= now) (hnow : now < 18446744073709551616) :
  zh prog 22 [pT y,sT mt,sT tgt,sT hd,.int .u64 now] [ryB y o [116] ch,C,K,RT,G,ofB o rb s rn iter]
  fun v A => ∃ (C' K' RT' : zd) (c0 c2 c3 c4 c5 c6 c8 c9 : Value) (u : L8) (g : Int) (m : L8) (k : W),v = .tuple #[.agg (resC c0 c2 c3 c4 c5 c6 c8 c9 u g).toArray,sT m,b32 k,.int .i64 (ansA x us ns mt tgt hd now).1.1] /\ (∀ v ∈ resC c0 c2 c3 c4 c5 c6 c8 c9 u g,Value.cell1 v) /\ hF us (paE hd).1 (ansA x us ns mt tgt hd now).1.1 u g m k /\
   RBox C' rb (ansA x us ns mt tgt hd now).1.2.1 /\ IsRs K' s us last (reads + (ansA x us ns mt tgt hd now).2) /\ yN (some ⟨rn,0,none⟩) RT' (some (ansA x us ns mt tgt hd now).1.2.2) /\ A = [ryB y o [116] (ch + (ansA x us ns mt tgt hd now).2),C',K',RT',G,ofB o rb s rn iter] := by
 obtain ⟨l1,l2,l3,l4,l5⟩ := pa_len hd;have hz : ∀ v ∈ zCr,Value.cell1 v := by simp [Value.cell1]
 unfold ansA
 by_cases he : (paE hd).2 ≠ 0
 ·rw [if_pos he];simp only [Int.add_zero];refine zh.conv [ryB y o [116] ch,C,K,RT,G,ofB o rb s rn iter] (rans_err mt tgt hd oM he now) flA tkA ?_;rintro v A ⟨rfl,rfl⟩;exact ⟨[ryB y o [116] ch,C,K,RT,G,ofB o rb s rn iter],[ryB y o [116] ch,C,K,RT,G,ofB o rb s rn iter],flA,amA,C,K,RT,_,_,_,_,_,_,_,_,[],0,[],0,rfl,hz,.inr ⟨he,rfl,rfl,rfl,rfl⟩,hC,hK,hRT,rfl⟩
 ·rw [if_neg he];have hpa : paE hd = ((paE hd).1,0) := by rw [<- show (paE hd).2 = 0 from by simpa using he]
  generalize (paE hd).1 = a at *
  by_cases hf : a.r ≠ [116] ∨ a.uri ≠ tgt
  ·rw [if_pos hf];simp only [Int.add_zero];refine zh.conv [ryB y o [116] ch,C,K,RT,G,ofB o rb s rn iter] (eC mt tgt hd a hpa oM hf now) flA tkA ?_;rintro v A ⟨rfl,rfl⟩;exact ⟨[ryB y o [116] ch,C,K,RT,G,ofB o rb s rn iter],[ryB y o [116] ch,C,K,RT,G,ofB o rb s rn iter],flA,amA,C,K,RT,_,_,_,_,_,_,_,_,[],0,[],0,rfl,hz,.inr ⟨(dM : (4 : Int) ≠ 0),rfl,rfl,rfl,rfl⟩,hC,hK,hRT,rfl⟩
  ·rw [if_neg hf];simp only [not_or,ne_eq,Decidable.not_not] at hf;obtain ⟨har,rfl⟩ := hf;obtain ⟨ta,la,tc,lc,T,CL,V,ds,rfl,hT,hL,hok,hs,rfl⟩ := hK;rw [iA] at hul;have hm := eB (y := y) (o := o) (s := s) (iter := iter) (ch := ch) (last := last) (ta := ta) (tc := tc) hg hC hts hL hul hok hs hRT hr0 hr1 hch0 hch1 hi1 hi2 mt hd a hpa oM har oM oM oM oM oM hml now hn0 hnow;refine zh.conv [ryB y o [116] ch,C,rsB s ta 1 tc la (ds.map RD.cd).length lc last reads,T,CL,V,RT,G,ofB o rb s rn iter] (hm) flA tkA ?_;rintro v A ⟨C',RT',W0,c0,c2,c3,c4,c5,c6,c8,c9,u,g,m,k,rfl,hcell,htold,hC',hRT',rfl⟩;exact ⟨[ryB y o [116] (ch + 1),C',rsB s ta 1 tc la (ds.map RD.cd).length lc last (reads + 1) ++ (T ++ (CL ++ (W0 ++ V))),RT',G,ofB o rb s rn iter],[ryB y o [116] (ch + 1),C',rsB s ta 1 tc la (ds.map RD.cd).length lc last (reads + 1),T,CL,W0 ++ V,RT',G,ofB o rb s rn iter],flA,amA,C',_,RT',c0,c2,c3,c4,c5,c6,c8,c9,u,g,m,k,rfl,hcell,htold,hC',⟨ta,la,tc,lc,T,CL,W0 ++ V,ds,rfl,hT,hL,hok,(fun d hd => secw_r (hs d hd)),rfl⟩,hRT',rfl⟩
end Go.Proofs.YtebikhhoppiapaaGreatDoor
namespace Go.Proofs.YtebikhhoppiapaaGreatDoor
open Go Go.Ost _root_.Go.Proofs.Tryz
def rpcE (s : L8) : Ch × Int := if (xC s).2 ≠ 0 then (c0,(xC s).2) else rpcL (xC s).1
theorem VC (c : Ch) : ∀ v ∈ encC c,Value.cell1 v := by
 intro v hv;simp only [encC,aY,aT,or_false] at hv
 rcases hv with rfl | rfl | rfl | rfl <;> simp [Value.cell1]
theorem YF (s : L8) (hs : s.length <= 100000) : zh prog 17 [sT s] []
  fun v A => v = .tuple #[.agg (encC (rpcE s).1).toArray,.int .i64 (rpcE s).2] /\ A = [] := by
 obtain ⟨hpl,hpb⟩ := yb s;unfold rpcE;refine eNg func17 ntmps17 results17 fun F => ?_
 refine oAg (encC c0).toArray fun b2 => ?_
 refine cA (Jq s hs) ?_;rintro v A ⟨X,xa,xk,rfl,hX,rfl⟩;refine gA ?_
 by_cases h0 : (xC s).2 = 0
 ·rw [h0,if_neg dM];generalize (xC s).1 = l at *;have hvb : ∀ p ∈ l,p.v.length <= 100000 := fun p hp => by have := hpb p hp;omega
  have hl : l.length <= 100000 := oM;clear hpl hpb;refine gg ?_;refine zF ?_;refine jE rfl [sv zA,sv zv,sv nQop,sv nAlg] dM rfl rfl (by simp [Value.cell1]) (fun b21 C21 ho21 => ?_);refine gg ?_;refine zF ?_;refine jE rfl [sv zA,sv zv,sv nQop,sv zt] dM rfl rfl (by simp [Value.cell1]) (fun b22 C22 ho22 => ?_);refine gg ?_;have hM : OwnT C21 (some ⟨b21,0,none⟩) 4 [zA,zv,nQop,nAlg] := ho21;have hQ : OwnT C22 (some ⟨b22,0,none⟩) 4 [zA,zv,nQop,zt] := ho22;have hls := QC hX hl hM hQ dM dM;rw [show ([zA,zv,nQop,nAlg] : List L8).length = 4 from rfl,show ([zA,zv,nQop,zt] : List L8).length = 4 from rfl] at hls;clear hM hQ ho21 ho22;refine cR (hls) ?_;clear hls;unfold rpcL;generalize hlk : JG l [zA,zv,nQop,nAlg] [zA,zv,nQop,zt] = lk at *;obtain ⟨there,right⟩ := lk
  cases there with
  | false =>
   rw [if_pos rfl];refine gg ?_;refine oTg [] (encC c0).toArray ?_;refine oSg (encC c0) rfl (VC _) ?_;refine zf (vs := [.agg (encC c0).toArray,.int .i64 6]) [] ⟨rfl,rfl⟩ (hr := hrA)
  | true =>
   rw [if_neg sM];refine gg ?_;refine cR (yA hX hl zH) ?_;refine oA (encP p0).toArray fun b8 => ?_
   refine oS (encP (gotP l zH)) rfl (xw _) ?_
   (repeat (first | (with_reducible refine jN ?_) | ((with_reducible refine jn ?_);refine jm ?_)))
   (with_reducible refine qL ?_)
   (with_reducible refine zS ?_);refine zO (fun D L S => rpcB l = false /\ D = [] /\ L = [(4,.slice xa l.length xk),(8,pT b8),(2,pT b2)] /\ S = [X,rpB b8 (gotP l zH),[(b2,.cells (encC c0).toArray 70 (0,0))],F]) ?_ ?_
   ·(with_reducible refine zS ?_);refine zO (fun D L S => D = [] /\ L = [(65,.bool (rpcB l)),(4,.slice xa l.length xk),(8,pT b8),(2,pT b2)] /\ S = [X,rpB b8 (gotP l zH),[(b2,.cells (encC c0).toArray 70 (0,0))],F]) ?_ ?_
    ·refine WL ?_;refine dP (fun L S => L = [(40,.bool (hasB l zH && ((gotP l zH).v != qn))),(7,.bool right),(4,.slice xa l.length xk),(8,pT b8),(2,pT b2)] /\ S = [X,rpB b8 (gotP l zH),[(b2,.cells (encC c0).toArray 70 (0,0))],F]) ?_ ?_
     ·cases hasB l zH with
      | false =>
       refine gg ?_;exact midr ⟨rfl,rfl⟩
      | true =>
       refine gg ?_
       (try rw [show ((gotP l zH).v != [116,114,117,101]) = ((gotP l zH).v != qn) from rfl])
       exact midr ⟨rfl,rfl⟩
     rintro L S ⟨rfl,rfl⟩;generalize hc1 : (hasB l zH && ((gotP l zH).v != qn)) = c1;refine wY (fun L S => L = [(45,.bool (c1 && ((gotP l zH).v != Id))),(7,.bool right),(4,.slice xa l.length xk),(8,pT b8),(2,pT b2)] /\ S = [X,rpB b8 (gotP l zH),[(b2,.cells (encC c0).toArray 70 (0,0))],F]) ?_ ?_
     ·cases c1 with
      | false =>
       refine gg ?_;exact midr ⟨rfl,rfl⟩
      | true =>
       refine gg ?_
       (try rw [show ((gotP l zH).v != [102,97,108,115,101]) = ((gotP l zH).v != Id) from rfl])
       exact midr ⟨rfl,rfl⟩
     rintro L S ⟨rfl,rfl⟩;generalize hc2 : (c1 && ((gotP l zH).v != Id)) = c2;refine Jh (fun L S => L = [(49,.bool (c2 || !right)),(4,.slice xa l.length xk),(8,pT b8),(2,pT b2)] /\ S = [X,rpB b8 (gotP l zH),[(b2,.cells (encC c0).toArray 70 (0,0))],F]) ?_ ?_
     ·cases c2 with
      | true =>
       refine gg ?_;exact midr ⟨rfl,rfl⟩
      | false =>
       refine gg ?_;exact midr ⟨rfl,rfl⟩
     rintro L S ⟨rfl,rfl⟩;generalize hc3 : (c2 || !right) = c3;refine wY (fun L S => L = [(54,.bool (c3 || ((gotP l nQop).v != jb))),(4,.slice xa l.length xk),(8,pT b8),(2,pT b2)] /\ S = [X,rpB b8 (gotP l zH),[(b2,.cells (encC c0).toArray 70 (0,0))],F]) ?_ ?_
     ·cases c3 with
      | true =>
       refine gg ?_;exact midr ⟨rfl,rfl⟩
      | false =>
       refine gg ?_;refine cR (xy hX hl nQop) ?_
       (try rw [show ((gotP l nQop).v != [97,117,116,104]) = ((gotP l nQop).v != jb) from rfl])
       exact midr ⟨rfl,rfl⟩
     rintro L S ⟨rfl,rfl⟩;generalize hc4 : (c3 || ((gotP l nQop).v != jb)) = c4;refine Jg (fun L S => L = [(60,.bool (c4 || (lowL (gotP l nAlg).v != nSumL))),(4,.slice xa l.length xk),(8,pT b8),(2,pT b2)] /\ S = [X,rpB b8 (gotP l zH),[(b2,.cells (encC c0).toArray 70 (0,0))],F]) ?_ ?_
     ·cases c4 with
      | true =>
       refine gg ?_;exact midr ⟨rfl,rfl⟩
      | false =>
       refine gg ?_;refine cR (xy hX hl nAlg) ?_;refine cR (yd (gotP l nAlg).v (wE hvb nAlg)) ?_
       (try rw [show (lowL (gotP l nAlg).v != [115,104,97,45,50,53,54]) = (lowL (gotP l nAlg).v != nSumL) from rfl])
       exact midr ⟨rfl,rfl⟩
     rintro L S ⟨rfl,rfl⟩;generalize hc5 : (c4 || (lowL (gotP l nAlg).v != nSumL)) = c5;refine OG ?_;rw [show rpcB l = (c5 || !sizB (gotP l zv).v) from by subst hc5 hc4 hc3 hc2 hc1;unfold rpcB;rw [hlk];simp only [Bool.and_assoc,Bool.or_assoc]]
     cases c5 with
     | true =>
      refine gg ?_;exact mid ⟨rfl,rfl,rfl⟩
     | false =>
      refine gg ?_;refine cR (xy hX hl zv) ?_;refine cR (we (gotP l zv).v) ?_;exact mid ⟨rfl,rfl,rfl⟩
    rintro D L S ⟨rfl,rfl,rfl⟩
    cases hb : rpcB l with
    | true =>
     rw [if_pos rfl];refine gg ?_;refine oTg [] (encC c0).toArray ?_;refine oSg (encC c0) rfl (VC _) ?_;refine zf (vs := [.agg (encC c0).toArray,.int .i64 4]) [] ⟨rfl,rfl⟩ (hr := hrA)
    | false =>
     refine gg ?_;exact mid ⟨rfl,rfl,rfl,rfl⟩
   rintro D L S ⟨hgood,rfl,rfl,rfl⟩;rw [if_neg (by rw [hgood];simp)];refine gg ?_;refine cdLg [[0],[2],[4],[6],[7],[8],[1,0,7],[3,0,7],[5,0,7],[9],[10,0],[11,0]] ?_;refine dR (xy hX hl zA) ?_;refine dR (xy hX hl zv) ?_;refine dR (xy hX hl zt) ?_;rw [show ((gotP l zH).v == [116,114,117,101]) = ((gotP l zH).v == qn) from rfl];refine qF ?_;rw [zX (ps := [(0,sT (gotP l zA).v),(1,sT (gotP l zv).v),(2,sT (gotP l zt).v),(3,.bool ((gotP l zH).v == qn))]) (cs := (encC ⟨(gotP l zA).v,(gotP l zv).v,(gotP l zt).v,(gotP l zH).v == qn⟩).toArray) rfl];refine gg ?_;refine zG ?_;refine xo (vs := encC ⟨(gotP l zA).v,(gotP l zv).v,(gotP l zt).v,(gotP l zH).v == qn⟩) rfl (VC _) upA (by rfl) ?_;refine pC ?_;refine zf (vs := [.agg (encC ⟨(gotP l zA).v,(gotP l zv).v,(gotP l zt).v,(gotP l zH).v == qn⟩).toArray,.int .i64 0]) [] ⟨rfl,rfl⟩ (hr := hrA)
 ·rw [bne_iff_ne.2 h0,if_pos h0];refine gg ?_;refine oTg [] (encC c0).toArray ?_;refine oSg (encC c0) rfl (VC _) ?_;refine zf (vs := [.agg (encC c0).toArray,.int .i64 (xC s).2]) [] ⟨rfl,rfl⟩ (hr := hrA)
end Go.Proofs.YtebikhhoppiapaaGreatDoor
namespace Go.Proofs.YtebikhhoppiapaaGreatDoor
open Go Go.Ost Go.Sha Go.Nam Go.Tab
structure Op21 where
 d : Int
 draw : L8
 stale : Bool
 user : L8
 pass : L8
 meth : L8
 targ : L8
 text : L8
 which : Int
 count : W
 on : Bool
 ticks : Int
structure Op21.Ok (o : Op21) : Prop where
 d0 : 0 <= o.d
 d1 : o.d < 256
 w0 : 0 <= o.which
 w1 : o.which < 256
 t0 : 0 <= o.ticks
 t1 : o.ticks < 65536
def encJ (o : Op21) : LV := [.int .u8 o.d,sT o.draw,.bool o.stale,sT o.user,sT o.pass,sT o.meth,sT o.targ,sT o.text,.int .u8 o.which,b32 o.count,.bool o.on,.int .u16 o.ticks]
theorem encJ_len (o : Op21) : (encJ o).length = 12 := rfl
theorem cell_J (o : Op21) : ∀ u ∈ encJ o,Value.cell1 u := by simp [encJ,Value.cell1,b32]
abbrev FK21 : List FK := [.int .u8,.str,.bool,.str,.str,.str,.str,.str,.int .u8,.int .u32,.bool,.int .u16]
theorem op21_of {C : zd} {r : LV} (h : RowW C FK21 r) : ∃ o : Op21,r = encJ o /\ o.Ok := by
 match r,h with
 | [_,_,_,_,_,_,_,_,_,_,_,_],⟨⟨d,rfl,hd⟩,⟨l1,rfl,_⟩,⟨b1,rfl⟩,⟨l2,rfl,_⟩,⟨l3,rfl,_⟩,⟨l4,rfl,_⟩,⟨l5,rfl,_⟩,⟨l6,rfl,_⟩,⟨w,rfl,hw⟩,⟨z,rfl,hz⟩,⟨b2,rfl⟩,⟨t,rfl,ht⟩,_⟩ =>
  simp only [Lit.wf,aM,decide_eq_true_eq] at hd hw hz ht;have hd2 : 0 <= d /\ d <= 255 := ⟨hd.1,hd.2⟩;have hw2 : 0 <= w /\ w <= 255 := ⟨hw.1,hw.2⟩;have hz2 : 0 <= z /\ z <= 4294967295 := ⟨hz.1,hz.2⟩;have ht2 : 0 <= t /\ t <= 65535 := ⟨ht.1,ht.2⟩;have hx : Value.int .u32 z = b32 (lZ 32 z.toNat) := by simp only [b32,lU];congr 1;omega
  exact ⟨⟨d,l1,b1,l2,l3,l4,l5,l6,w,lZ 32 z.toNat,b2,t⟩,by rw [hx];rfl,hd2.1,by show d < 256;omega,hw2.1,by show w < 256;omega,ht2.1,by show t < 65536;omega⟩
theorem OX {C : zd} : ∀ rows : List (LV),(∀ r ∈ rows,RowW C FK21 r) -> ∃ ops : List Op21,rows = ops.map encJ /\ ∀ o ∈ ops,o.Ok
 | [],_ => ⟨[],rfl,sM⟩
 | r :: rows,h => by
  obtain ⟨ops,e,ho⟩ := OX rows fun x hx => h x (aK _ hx)
  obtain ⟨o,rfl,hok⟩ := op21_of (h r (aA ..));refine ⟨o :: ops,by rw [e];rfl,fun x hx => ?_⟩
  rcases List.mem_cons.1 hx with rfl | hx
  ·exact hok
  ·exact ho x hx
structure Script21 (C : zd) (v : Value) (ops : List Op21) : Prop where
 out : ∃ a cap,v = .slice a ops.length cap /\ ops.length <= cap /\ cap <= maxLen /\ Rd 12 [C] a ops.length (ops.flatMap encJ)
 ok : ∀ o ∈ ops,o.Ok
theorem Yx {C : zd} {v : Value} {rows : List (LV)} (h : RowsK C FK21 v rows) : ∃ ops,Script21 C v ops := by
 obtain ⟨a,cap,rfl,h1,h2,h3,h4⟩ := h;obtain ⟨ops,rfl,ho⟩ := OX rows h4;refine ⟨ops,⟨a,cap,sM,by simpa using h1,h2,?_⟩,ho⟩
 simpa [List.flatMap_def] using h3
theorem cJ (x : BX) (u p m uri n cn : L8) (nc : W) : (qJ x u p m uri n cn nc).2.ts.length <= x.ts.length + 3 := by
 have h1 := (jT x (xT u [116] p)).1;have h2 := (XK (jo x (xT u [116] p)).2 (jo x (xT u [116] p)).1 m (anC u n uri cn nc [])).1;unfold qJ;simp only;omega
theorem OV (l : List Par) : (jB l).1.length <= 4096 := by
 unfold jB
 split
 ·exact lW _
 ·split
  ·exact lW _
  ·split
   ·exact lW _
   ·rename_i h _;show (hdr ++ xV l).length <= 4096;omega
theorem UO (x : BX) (u p m uri n cn : L8) (nc : W) : (qJ x u p m uri n cn nc).1.1.length <= 4096 := by
 unfold qJ vZ;simp only
 split
 ·exact lW _
 ·exact OV _
theorem ansA_ts (x : BX) (us : List PU) (ns : NS) (mt tgt hd : L8) (now : Int) : (ansA x us ns mt tgt hd now).1.2.1.ts.length <= x.ts.length + 2 := by
 unfold ansA
 split
 ·exact Nat.le_add_right _ 2
 ·split
  ·exact Nat.le_add_right _ 2
  ·unfold ansG
   split
   ·exact (XK _ _ _ _).1
   ·exact (XK _ _ _ _).1
theorem ansA_ser (x : BX) (us : List PU) (ns : NS) (mt tgt hd : L8) (now : Int) : (ansA x us ns mt tgt hd now).1.2.2.ser = ns.ser := by
 unfold ansA
 split
 ·rfl
 ·split
  ·rfl
  ·unfold ansG
   split
   ·rfl
   ·show (ansN _ _ _ _ _ _).ser = _
    unfold ansN
    split
    ·exact use_ser _ _ _ _
    ·rfl
theorem ansA_le (x : BX) (us : List PU) (ns : NS) (mt tgt hd : L8) (now : Int) : 0 <= (ansA x us ns mt tgt hd now).2 /\ (ansA x us ns mt tgt hd now).2 <= 1 := by
 unfold ansA
 split
 ·exact ⟨Int.le_refl _,by show (0 : Int) <= 1;decide⟩
 ·split
  ·exact ⟨Int.le_refl _,by show (0 : Int) <= 1;decide⟩
  ·exact ⟨by show (0 : Int) <= 1;decide,Int.le_refl _⟩
theorem rpc_n (s : L8) : (rpcE s).1.n.length <= 64 := by
 unfold rpcE
 split
 ·exact lW _
 ·unfold rpcL
  split
  ·exact lW _
  ·split
   ·exact lW _
   ·rename_i h
    simp only [rpcB,mP,not_or,Bool.not_eq_true,mI,sizB,Bool.and_eq_false_iff,decide_eq_false_iff_not] at h
    simp at h
    have := h.2.2.2.2
    show (gotP _ zv).v.length <= 64
    omega
theorem revU_len (us : List PU) (u : L8) (on : Bool) (last : Int) : (revU us u on last).2.1.length = us.length /\ last <= (revU us u on last).2.2 /\ (revU us u on last).2.2 <= last + 1 /\ (Kn us -> Kn (revU us u on last).2.1) := by
 unfold revU
 split
 ·split
  ·rename_i p _
   refine ⟨sM,by show last <= last + 1;omega,Int.le_refl _,fun h => ?_⟩;unfold Kn at h ⊢;rw [List.map_map]
   have e : (PU.n ∘ fun y : PU => if y.n = p.n then (⟨y.n,y.sec,last + 1,on⟩ : PU) else y) = PU.n := by
    funext y
    simp only [Function.comp_apply]
    split <;> rfl
   rw [e];exact h
  ·exact ⟨rfl,Int.le_refl _,by show last <= last + 1;omega,id⟩
 ·exact ⟨rfl,Int.le_refl _,by show last <= last + 1;omega,id⟩
theorem fQ (s : NS) (d : L8) (now : Int) : (zT s d now).1.1.length <= d.length + 17 := by
 unfold zT
 split
 ·exact lW _
 ·split
  ·exact lW _
  ·split
   ·exact lW _
   ·show (nonN d (s.ser + 1)).length <= _
    rw [non_len];exact aR _
def cK (ns : NS) (d : L8) (st : Bool) (now : Int) : L8 × Int := if (zT ns d now).1.2 = 0 then qA ⟨[116],(zT ns d now).1.1,[],st⟩ else ([],(zT ns d now).1.2)
theorem chal_if (ns : NS) (d : L8) (st : Bool) (now : Int) : (if (zT ns d now).1.2 = 0 then Value.tuple #[sT (qA ⟨[116],(zT ns d now).1.1,[],st⟩).1,.int .i64 (qA ⟨[116],(zT ns d now).1.1,[],st⟩).2] else .tuple #[sT [],.int .i64 (zT ns d now).1.2]) = .tuple #[sT (cK ns d st now).1,.int .i64 (cK ns d st now).2] := by
 unfold cK
 split <;> rfl
theorem chal_len (ns : NS) (d : L8) (st : Bool) (now : Int) : (cK ns d st now).1.length <= 4096 := by
 unfold cK qA
 split
 ·split
  ·exact lW _
  ·exact OV _
 ·exact lW _
structure Both (b s q rb rs rn i : Nat) (x : BX) (us : List PU) (last : Int) (ns : NS) (ch reads : Int) (B R K RK NT RT : zd) : Prop where
 hB : vg B b x
 hR : RBox R rb x
 hK : IsSt K s us last reads
 hRK : IsRs RK rs us last reads
 hN : ZW (some ⟨q,0,none⟩) NT (some ns)
 hRN : yN (some ⟨rn,0,none⟩) RT (some ns)
 df : Kn us
 ul : us.length = 2
 xl : x.ts.length <= 10 + 5 * i
 l0 : 0 <= last
 l1 : last <= 2 + i
 sl : ns.ser <= i
 c0 : 0 <= ch
 c1 : ch <= i
 r0 : 0 <= reads
 r1 : reads <= i
theorem lx_diff (sym : Bool) : Kn (lx sym 2).1 := by
 rw [lx_us]
 show ([uN 0,uN 1] : List L8).Nodup
 decide
end Go.Proofs.YtebikhhoppiapaaGreatDoor
