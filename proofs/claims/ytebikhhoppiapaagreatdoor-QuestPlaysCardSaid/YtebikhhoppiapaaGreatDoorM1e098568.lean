/- Texts in a row: the walk's rules and contracts, as each says. Conditions: as each says. -/
import Derived.Test.YtebikhhoppiapaaGreatDoorM09790199
import Derived.Test.YtebikhhoppiapaaGreatDoorMc263b430
import Derived.Test.YtebikhhoppiapaaGreatDoorMa22cf9b8
import Derived.Test.YtebikhhoppiapaaGreatDoorMa22cf9b8
set_option linter.unusedSimpArgs false
set_option linter.defProp false
set_option linter.unusedVariables false
set_option maxRecDepth 100000
set_option maxHeartbeats 8000000
open List renaming mem_cons_self -> aA, length_append -> aB, cons_append -> aC, nil_append -> aD, getElem?_eq_getElem -> aE, length_cons -> aH, length_singleton -> aI, mem_cons_of_mem -> aK, append_nil -> aL, append_assoc -> aN, flatten_cons -> aO, length_nil -> aQ, getD_eq_getElem?_getD -> aS, not_mem_nil -> aT, replicate -> aU, length_drop -> aV, length_take -> aX, mem_cons -> aY, length_replicate -> aZ, length_map -> iA, map_cons -> iB, range -> iC, getElem?_cons_succ -> iD, mem_append_left -> iG, drop_eq_getElem_cons -> iH, getElem?_cons_zero -> iJ, take_length -> iK, flatten_append -> iL, getElem?_toArray -> iP, flatten_nil -> iS, flatMap_cons -> iU, getElem?_append_right -> lD, take_of_length_le -> lE, getElem?_map -> lF, take_add_one -> lG, perm_append_comm -> lH, flatMap_append -> lI, map_append -> lL, getElem?_append_left -> lP, dropWhile_cons -> lQ, take_append_drop -> lR, getElem_mem -> lT, getElem?_take_of_lt -> lY, length -> mA, getD -> mB, length_set -> mC, drop_eq_nil_of_le -> mE, getElem?_modify -> mF, toList_toArray -> mG, mem_map_of_mem -> mH, mem_singleton -> mJ, all_cons -> mK, drop_drop -> mQ, drop_length -> mR, map_nil -> mV
open And renaming intro -> aF
open UInt8 renaming ofNat -> aG, toNat_ofNat' -> iO
open Nat renaming reduceBEq -> aJ, reduceEqDiff -> aP, le_refl -> aR, reduceSub -> iF, sub_zero -> iI, reduceLT -> iN, reduceAdd -> iQ, zero_add -> iT, mul_le_mul_right -> lM, add_mul -> lO, mod_eq_of_lt -> lV, zero_le -> lW, shiftLeft_eq -> mL, le_trans -> mN, add_sub_cancel -> mO, add_zero -> mT
open Bool renaming and_eq_true -> aM, not_eq_true' -> mI, true_and -> mM, or_eq_true -> mP, false_or -> mS
open Int renaming toNat_natCast -> aW, reduceToNat -> iM, reduceBEq -> iV, reduceBNe -> iW, reduceAdd -> iX, reduceSub -> iY, reduceMul -> iZ, reduceDiv -> lA, reduceMod -> lB, reducePow -> lC, reduceLT -> lJ, reduceLE -> lK
open BitVec renaming ofInt -> iE, toNat_ofNat -> lU, ofNat -> lZ
open Option renaming getD_some -> iR, map_some -> lX
open Array renaming getElem?_setIfInBounds_ne -> lN, ext' -> lS, getElem?_eq_getElem -> mD
namespace Go.Proofs.YtebikhhoppiapaaGreatDoor
open Go Go.Ost Go.Sha Go.Nam Go.Tab _root_.Go.Proofs.Tryz
abbrev OwnG (C : zd) (a : OA) (c : Nat) (all : List L8) : Prop := Ost.Own 1 9 C a all.length c (all.map fun l => sT l)
abbrev opJ (b : Nat) (o : Op21) : zd := [(b,.cells #[.int .u8 o.d,sT o.draw,.bool o.stale,sT o.user,sT o.pass,sT o.meth,sT o.targ,sT o.text,.int .u8 o.which,b32 o.count,.bool o.on,.int .u16 o.ticks] 68 (0,0))]
abbrev boJ (b9 b s q : Nat) (o k y : Nat) : zd := [(b9,.cells #[pT b,pT s,pT q,.int .i64 2,pT o,pT k,pT y] 32 (0,0))]
def nonW (all : List L8) (w : Int) : L8 := if 0 < all.length then all.getD (w.toNat % all.length) [] else [120]
theorem nonW_len {all : List L8} (h : ∀ n ∈ all,n.length <= 64) (w : Int) : (nonW all w).length <= 64 := by
 unfold nonW
 split
 ·rename_i h0
  have hj : w.toNat % all.length < all.length := Nat.mod_lt _ h0;rw [aS,aE hj];exact h _ (lT hj)
 ·decide
theorem ext4_0 {P : Program} {a b c d : Value} {κ : Value -> Prop} : zk P (Instr.extract (.tuple #[a,b,c,d]) 0) κ = κ a := zq (fun w => rfl) κ
theorem ext4_1 {P : Program} {a b c d : Value} {κ : Value -> Prop} : zk P (Instr.extract (.tuple #[a,b,c,d]) 1) κ = κ b := zq (fun w => rfl) κ
theorem ext4_2 {P : Program} {a b c d : Value} {κ : Value -> Prop} : zk P (Instr.extract (.tuple #[a,b,c,d]) 2) κ = κ c := zq (fun w => rfl) κ
theorem ext4_3 {P : Program} {a b c d : Value} {κ : Value -> Prop} : zk P (Instr.extract (.tuple #[a,b,c,d]) 3) κ = κ d := zq (fun w => rfl) κ
theorem Qm (C : zd) (h7 : Globs7 C) (sym : Bool) (room : Int) (hroom : (Lit.int .u8 room).wf = true) (win : Int) (hwin : (Lit.int .u16 win).wf = true) (v : Value) (rows : List (LV)) (hv : RowsK C FK21 v rows) :
  zh prog 5 [.bool sym,.int .u8 room,.int .u16 win,v] [C] fun v A => v = .bool true /\ A = [C] := by
 obtain ⟨hg,hn⟩ := h7;obtain ⟨ops,⟨a,cap,rfl,hcap,hmax,hrd⟩,hops⟩ := Yx hv;obtain ⟨hr0,hr1⟩ : 0 <= room /\ room <= 255 := by simp only [Lit.wf,aM,decide_eq_true_eq] at hroom;exact ⟨hroom.1,hroom.2⟩
 obtain ⟨hw0,hw1⟩ : 0 <= win /\ win <= 65535 := by simp only [Lit.wf,aM,decide_eq_true_eq] at hwin;exact ⟨hwin.1,hwin.2⟩
 obtain ⟨rm,hrm,hrm1,hrm2⟩ : ∃ rm : Nat,1 + room % 6 = rm /\ 1 <= rm /\ rm <= 64 := ⟨(1 + room % 6).toNat,oM,oM,oM⟩;have hs := encJ_len;refine eN func5 ntmps5 results5 fun F => ?_
 (with_reducible refine zS ?_);refine zO (fun D L S => D = [] /\ L = [(0,.bool sym),(1,.int .u8 room),(2,.int .u16 win),(3,.slice a ops.length cap)] /\ S = [F,C]) ?_ ?_
 ·refine gg ?_;exact mid ⟨rfl,rfl,rfl⟩
 rintro D L S ⟨rfl,rfl,rfl⟩
 (with_reducible refine zS ?_);refine zO (fun D L S => D = [] /\ L = [(0,.bool sym),(1,.int .u8 room),(2,.int .u16 win),(3,.slice a ops.length cap)] /\ S = [F,C]) ?_ ?_
 ·refine gg ?_;refine cR (WU hg hn) ?_;exact mid ⟨rfl,rfl,rfl⟩
 rintro D L S ⟨rfl,rfl,rfl⟩;refine gg ?_;rw [hrm];refine cA (Io hg hn sym rm (1 + win % 300) hrm1 hrm2 oM oM) ?_;rintro v A ⟨b,s,q,k,o,y,rb,rs,rn,B,R,Ks,RKs,NT,RT,rfl,hB,hR,hSt,hRs,hNT,hRT,rfl⟩;refine gA ?_;refine oAg ([.pointer none,.pointer none,.pointer none,.int .i64 0,.pointer none,.pointer none,.pointer none] : LV).toArray fun b9 => ?_
 refine oSg (botV b s q 2 o k y) rfl (by simp [Value.cell1]) ?_;have hb0 : Both b s q rb rs rn 0 (lx sym 2).2 (lx sym 2).1 2 (ns0 rm (1 + win % 300)) 0 0 B R Ks RKs NT RT := ⟨hB,hR,hSt,hRs,hNT,hRT,lx_diff sym,(fF sym 2).2,(fF sym 2).1,dM,dM,aR _,dM,dM,dM,dM⟩;refine zU ?_
 refine zM (fun m D L S => ∃ (i : Nat) (all : List L8) (aa : OA) (ac : Nat) (CA B R K RK NT RT : zd) (x : BX) (us : List PU) (last : Int) (ns : NS) (ch reads now : Int),i <= ops.length /\ i <= 25 /\ all.length <= i /\ (∀ n ∈ all,n.length <= 64) /\ (0 <= now /\ now <= 200 * i) /\ OwnG CA aa ac all /\ Both b s q rb rs rn i x us last ns ch reads B R K RK NT RT /\ m = ops.length - i /\ D = [] /\
  L = [(45,.int .i64 i),(44,.int .i64 ops.length),(43,.slice a ops.length cap),(11,.int .u64 now),(10,.slice aa all.length ac),(9,pT b9)] /\ S = [boJ b9 b s q o k y,B,R,K,RK,NT,RT,quB k b s q 2 [116] ch,ryB y o [116] ch,ofB o rb rs rn 2,CA,C,F])
  ⟨0,[],none,0,[],B,R,Ks,RKs,NT,RT,_,_,_,_,0,0,0,oM,oM,aR _,(fun _ h => nomatch h),oM,zJ,hb0,rfl,rfl,rfl,rfl⟩ ?_
 clear hb0 hB hR hSt hRs hNT hRT;rintro m D L S ⟨i,all,aa,ac,CA,B,R,K,RK,NT,RT,x,us,last,ns,ch,reads,now,hi,hi25,hal,hall,hnow,hCA,hb,rfl,rfl,rfl,rfl⟩;refine gg ?_;refine if_d (fun hc => ?_) (fun hc => ?_)
 ·have hil : i < ops.length := oM;have hx : ops[i]? = some ops[i] := aE hil;have hok := hops _ (lT hil);generalize ops[i] = p at *;obtain ⟨hd0,hd1,hw0,hw1,ht0,ht1⟩ := hok;refine gg ?_;refine zF ?_;rw [el_at hrd oM oM dM,aW];refine zF ?_;refine JH hrd hs hx dM mmA ?_;refine zF ?_;refine zC fun b13 => ?_;(try simp only [Value.cells])
  refine gg ?_;refine zF ?_;refine xo rfl (cell_J p) upA (by rfl) ?_;refine gg ?_;refine if_d (fun hc => ?_) (fun hc => ?_)
  ·refine gg ?_;refine ze [C] ?_;exact ⟨rfl,rfl⟩
  ·refine gg ?_;simp only [encJ,List.getElem_toArray,List.getElem_cons_succ,List.getElem_cons_zero];refine gg ?_;have hm10 : (p.meth.take 10).length <= 10 := List.length_take_le _ _;have ht30 : (p.targ.take 30).length <= 30 := List.length_take_le _ _;have hx400 : (p.text.take 400).length <= 400 := List.length_take_le _ _;have hnw : 0 <= now + p.ticks % 200 /\ now + p.ticks % 200 <= 200 * (i + 1) := oM;generalize now + p.ticks % 200 = nw at *;refine zO (fun D L S => D = [] /\ L = [(16,sT (p.text.take 400)),(15,sT (p.targ.take 30)),(14,sT (p.meth.take 10)),(13,pT b13),(45,.int .i64 i),(44,.int .i64 ops.length),(43,.slice a ops.length cap),(11,.int .u64 nw),(10,.slice aa all.length ac),(9,pT b9)] /\ S = [opJ b13 p,boJ b9 b s q o k y,B,R,K,RK,NT,RT,quB k b s q 2 [116] ch,ryB y o [116] ch,ofB o rb rs rn 2,CA,C,F]) ?_ ?_
   ·refine cdLg [[0],[1],[3],[4],[6],[7],[2,0,4,7],[5,0,7],[8,0],[9,0],[10,0],[11,0]] ?_;refine dR (jQ p.meth 10) ?_;refine dR (jQ p.targ 30) ?_;refine dR (jQ p.text 400) ?_
    (try (try refine dS ?_))
    (try refine gg ?_)
    exact mid ⟨rfl,rfl,rfl⟩
   rintro D L S ⟨rfl,rfl,rfl⟩;refine gg ?_;refine zO (fun D L S => D = [] /\ L = [(17,sT (nonW all p.which)),(16,sT (p.text.take 400)),(15,sT (p.targ.take 30)),(14,sT (p.meth.take 10)),(13,pT b13),(45,.int .i64 i),(44,.int .i64 ops.length),(43,.slice a ops.length cap),(11,.int .u64 nw),(10,.slice aa all.length ac),(9,pT b9)] /\ S = [opJ b13 p,boJ b9 b s q o k y,B,R,K,RK,NT,RT,quB k b s q 2 [116] ch,ryB y o [116] ch,ofB o rb rs rn 2,CA,C,F]) ?_ ?_
   ·unfold nonW;refine if_d (fun hc => ?_) (fun hc => ?_)
    ·have hz : 0 < all.length := oM;obtain ⟨w,hw⟩ : ∃ w : Nat,p.which = w := ⟨p.which.toNat,oM⟩;obtain ⟨j,hj,hj2,hjl⟩ : ∃ j : Nat,p.which % (all.length : Int) = j /\ w % all.length = j /\ j < all.length := ⟨w % all.length,by rw [hw];rfl,rfl,Nat.mod_lt _ hz⟩;have hx2 : (all.map fun l => sT l)[j]? = some (sT all[j]) := by rw [lF,aE hjl];rfl
     rw [if_pos hz,hw,aW,hj2,aS,aE hjl,iR];refine gg ?_;rw [hj,aW];refine gg ?_;exact mid ⟨rfl,rfl,rfl⟩
    ·rw [if_neg oM];refine gg ?_;exact mid ⟨rfl,rfl,rfl⟩
   rintro D L S ⟨rfl,rfl,rfl⟩;have hnl := nonW_len hall p.which;generalize nonW all p.which = nn at *;obtain ⟨hB,hR,hSt,hRK,hN,hRN,hdf,hul,hxl,hl0,hl1,hsl,hc0,hc1,hrd0,hrd1⟩ := hb
   (with_reducible refine zS ?_);refine zO (fun D L S => ∃ (hd : L8) (B R : zd) (x : BX),hd.length <= 4096 /\ vg B b x /\ RBox R rb x /\ x.ts.length <= 13 + 5 * i /\ D = [] /\ L = [(16,sT hd),(15,sT (p.targ.take 30)),(14,sT (p.meth.take 10)),(45,.int .i64 i),(44,.int .i64 ops.length),(43,.slice a ops.length cap),(11,.int .u64 nw),(10,.slice aa all.length ac),(9,pT b9)] /\ S = [boJ b9 b s q o k y,B,R,K,RK,NT,RT,quB k b s q 2 [116] ch,ryB y o [116] ch,ofB o rb rs rn 2,CA,C,F]) ?_ ?_
   ·refine gg ?_;refine zO (fun D L S => ∃ w : Bool,w = decide (p.d % 10 = 0 ∨ p.d % 10 = 1) /\ D = [] /\ L = [(95,.bool w),(81,.int .u8 (p.d % 10)),(17,sT nn),(16,sT (p.text.take 400)),(15,sT (p.targ.take 30)),(14,sT (p.meth.take 10)),(13,pT b13),(45,.int .i64 i),(44,.int .i64 ops.length),(43,.slice a ops.length cap),(11,.int .u64 nw),(10,.slice aa all.length ac),(9,pT b9)] /\ S = [opJ b13 p,boJ b9 b s q o k y,B,R,K,RK,NT,RT,quB k b s q 2 [116] ch,ryB y o [116] ch,ofB o rb rs rn 2,CA,C,F]) ?_ ?_
    ·refine if_b (fun hc => ?_) (fun hc => ?_)
     ·refine gg ?_;exact mid ⟨(p.d % 10 == 0),by rw [Bool.eq_iff_iff];simp [hc],rfl,rfl,rfl⟩
     ·refine gg ?_;exact mid ⟨(p.d % 10 == 1),by rw [Bool.eq_iff_iff];simp [hc],rfl,rfl,rfl⟩
    rintro D L S ⟨w,hw,rfl,rfl,rfl⟩;clear hw
    cases w with
    | true =>
     have hdr : (p.draw.take 50).length <= 50 := List.length_take_le _ _;have hln := fQ ns (p.draw.take 50) nw;have hq := qchal2 (k := k) (b := b) (s := s) (iter := 2) (ch := ch) hN oM (p.draw.take 50) oM p.stale nw oM oM oM;have hrq := rqchal (y := y) (o := o) (rb := rb) (us := rs) (it := 2) (ch := ch) hRN oM (p.draw.take 50) oM p.stale nw oM oM oM;simp only [chal_if] at hq hrq;have hzl := chal_len ns (p.draw.take 50) p.stale nw;have hse := fP ns (p.draw.take 50) nw;generalize cK ns (p.draw.take 50) p.stale nw = z at *;generalize (zT ns (p.draw.take 50) nw).2 = ns' at *;refine gg ?_;refine zO (fun D L S => ∃ NT',ZW (some ⟨q,0,none⟩) NT' (some ns') /\ D = [] /\ L = [(18,sT z.1),(19,.int .i64 z.2),(13,pT b13),(45,.int .i64 i),(44,.int .i64 ops.length),(43,.slice a ops.length cap),(11,.int .u64 nw),(10,.slice aa all.length ac),(9,pT b9)] /\ S = [opJ b13 p,boJ b9 b s q o k y,B,R,K,RK,NT',RT,quB k b s q 2 [116] ch,ryB y o [116] ch,ofB o rb rs rn 2,CA,C,F]) ?_ ?_
     ·refine cdLg [[0],[1],[2],[3],[5],[6],[7],[4,0,1,6],[8,0],[9],[10],[11],[12,0],[13,0]] ?_;refine dR (jQ p.draw 50) ?_;refine dA (hq) ?_;rintro v A ⟨NT',rfl,hNT',rfl⟩;refine pC ?_
      (try (try refine dS ?_))
      (try refine gg ?_)
      exact mid ⟨NT',hNT',rfl,rfl,rfl⟩
     rintro D L S ⟨NT',hNT',rfl,rfl,rfl⟩
     (with_reducible refine zS ?_);refine zO (fun D L S => ∃ RT',yN (some ⟨rn,0,none⟩) RT' (some ns') /\ D = [] /\ L = [(20,sT z.1),(21,.int .i64 z.2),(18,sT z.1),(19,.int .i64 z.2),(13,pT b13),(45,.int .i64 i),(44,.int .i64 ops.length),(43,.slice a ops.length cap),(11,.int .u64 nw),(10,.slice aa all.length ac),(9,pT b9)] /\ S = [opJ b13 p,boJ b9 b s q o k y,B,R,K,RK,NT',RT',quB k b s q 2 [116] ch,ryB y o [116] ch,ofB o rb rs rn 2,CA,C,F]) ?_ ?_
     ·refine cdLg [[0],[1],[2],[3],[5],[6],[7],[4,0,1,6],[8,0],[9],[10],[11],[12,0],[13,0]] ?_;refine dR (jQ p.draw 50) ?_;refine dA (hrq) ?_;rintro v A ⟨RT',rfl,hRT',rfl⟩;refine pC ?_
      (try (try refine dS ?_))
      (try refine gg ?_)
      exact mid ⟨RT',hRT',rfl,rfl,rfl⟩
     rintro D L S ⟨RT',hRT',rfl,rfl,rfl⟩;refine gg ?_;refine cR (YF z.1 oM) ?_;refine oAg (encC c0).toArray fun b22 => ?_
     refine oSg (encC (rpcE z.1).1) rfl (by simp [Value.cell1]) ?_;have hrn := rpc_n z.1;generalize rpcE z.1 = e at *;obtain ⟨⟨er,en,eo,es⟩,ee⟩ := e;simp only at hrn ⊢;refine if_b (fun hc => ?_) (fun hc => ?_)
     ·refine gg ?_;refine zF ?_;refine jE rfl [sT en] dM rfl rfl (by simp [Value.cell1]) (fun b9 C9 ho9 => ?_);refine gg ?_;refine zF ?_;refine zu (e := 9) (s := 1) (hs := inferInstance) (by rfl) dM hCA (.inr pkA) (ho9.rd mmA) (by simp [Value.cell1]) (by simp only [maxLen];omega) oM (fun C3 a3 cap3 ho3 => ?_);have e1 : all.length + 1 = (all ++ [en]).length := sM;have e2 : all.map (fun l => sT l) ++ [sT en] = (all ++ [en]).map fun l => sT l := sM
      rw [e1,e2] at ho3;rw [e1];refine gg ?_;exact zI ⟨i + 1,all ++ [en],a3,cap3,C3,B,R,K,RK,NT',RT',x,us,last,ns',ch,reads,nw,oM,oM,by simp;omega,(fun n hn' => by rcases List.mem_append.1 hn' with h | h;exact hall n h;rw [List.mem_singleton.1 h];exact hrn),hnw,ho3,⟨hB,hR,hSt,hRK,hNT',hRT',hdf,hul,oM,oM,oM,oM,oM,oM,oM,oM⟩,rfl,rfl,rfl,rfl⟩
     ·refine gg ?_;exact zI ⟨i + 1,all,aa,ac,CA,B,R,K,RK,NT',RT',x,us,last,ns',ch,reads,nw,oM,oM,oM,hall,hnw,hCA,⟨hB,hR,hSt,hRK,hNT',hRT',hdf,hul,oM,oM,oM,oM,oM,oM,oM,oM⟩,rfl,rfl,rfl,rfl⟩
    | false =>
     refine gg ?_;refine if_b (fun hc => ?_) (fun hc => ?_)
     ·have hu20 : (p.user.take 20).length <= 20 := List.length_take_le _ _;refine gg ?_;refine cR (jQ p.user 20) ?_;generalize p.user.take 20 = u at *;have hrl := revU_len us u p.on last;have hr1 := WI (G := C) hn hSt hdf hl0 oM u oM p.on;have hr2 := Ke hRK oM hdf hl0 oM u oM p.on;generalize revU us u p.on last = w at *;refine cdLg [[0],[1],[2],[3],[4],[5],[7],[8],[9],[10],[11],[12],[13],[14],[6,0,8,11,14],[15,0],[16]] ?_;refine dA (hr1) ?_;rintro v A ⟨K',rfl,hSt',rfl⟩;refine pC ?_;refine dA (hr2) ?_;rintro v A ⟨RK',rfl,hRK',rfl⟩;refine pC ?_;exact zI ⟨i + 1,all,aa,ac,CA,B,R,K',RK',NT,RT,x,w.2.1,w.2.2,ns,ch,reads,nw,oM,oM,oM,hall,hnw,hCA,⟨hB,hR,hSt',hRK',hN,hRN,hrl.2.2.2 hdf,oM,oM,oM,oM,oM,oM,oM,oM,oM⟩,rfl,rfl,rfl,rfl⟩
     ·refine gg ?_;refine if_b (fun hc => ?_) (fun hc => ?_)
      ·refine gg ?_;have hsp := hSpend hN nn nw oM;have hxp := xSpend hRN nn nw oM;have hse := dz ns nn nw;simp only [Wb] at hsp hxp;generalize jP ns nn nw = w at *;refine cdLg [[0],[1],[2],[3],[4],[6],[7],[8],[9],[10],[11],[12],[5,0,7,10],[13,0],[14]] ?_;refine dA (hsp) ?_;rintro v A ⟨rfl,NT',hNT',rfl⟩;refine pC ?_;refine dA (hxp) ?_;rintro v A ⟨rfl,RT',hRT',rfl⟩;refine pC ?_;exact zI ⟨i + 1,all,aa,ac,CA,B,R,K,RK,NT',RT',x,us,last,w.2,ch,reads,nw,oM,oM,oM,hall,hnw,hCA,⟨hB,hR,hSt,hRK,hNT',hRT',hdf,hul,oM,oM,oM,oM,oM,oM,oM,oM⟩,rfl,rfl,rfl,rfl⟩
      ·refine gg ?_;refine if_b (fun hc => ?_) (fun hc => ?_)
       ·refine gg ?_;exact mid ⟨p.text.take 400,B,R,x,oM,hB,hR,oM,rfl,rfl,rfl⟩
       ·refine gg ?_;have hu20 : (p.user.take 20).length <= 20 := List.length_take_le _ _;have hp20 : (p.pass.take 20).length <= 20 := List.length_take_le _ _;have hcl := UO x (p.user.take 20) (p.pass.take 20) (p.meth.take 10) (p.targ.take 30) nn [99] p.count;have hct := cJ x (p.user.take 20) (p.pass.take 20) (p.meth.take 10) (p.targ.take 30) nn [99] p.count;have hcs := JZ hg hB hR (k := k) (y := y) (o := o) (s := s) (q := q) (us := rs) (ns := rn) (iter := 2) (it2 := 2) (ch := ch) oM (p.user.take 20) (p.pass.take 20) (p.meth.take 10) (p.targ.take 30) nn [99] p.count oM oM oM oM oM dM;generalize qJ x (p.user.take 20) (p.pass.take 20) (p.meth.take 10) (p.targ.take 30) nn [99] p.count = w at *;refine cdLg [[0],[1],[2],[4],[5],[7],[8],[9],[10],[11],[3,0,0,5,11],[6,0,0,11],[12,0],[13,0]] ?_;refine qF ?_;refine zz (vs := botV b s q 2 o k y) lkA rfl ?_;refine gg ?_;refine zG ?_;refine jq (jQ p.user 20) ?_;rintro v A ⟨rfl,rfl⟩;(try simp only [aD,aC]);refine ⟨zz (vs := botV b s q 2 o k y) lkA rfl rfl,?_⟩;refine pC ?_;refine zG ?_;refine jq (jQ p.pass 20) ?_;rintro v A ⟨rfl,rfl⟩;(try simp only [aD,aC]);refine ⟨zz (vs := botV b s q 2 o k y) lkA rfl rfl,?_⟩;refine pC ?_;refine dA (hcs) ?_;rintro v A ⟨B',R',rfl,hB',hR',rfl⟩;refine pC ?_
        (try (try refine dS ?_))
        (try refine gg ?_)
        exact mid ⟨w.1.1,B',R',w.2,hcl,hB',hR',oM,rfl,rfl,rfl⟩
   rintro D L S ⟨hd,B,R,x,hdl,hB,hR,hxl,rfl,rfl,rfl⟩;have hm10 : (p.meth.take 10).length <= 10 := List.length_take_le _ _;generalize p.meth.take 10 = mt at *;generalize p.targ.take 30 = tg at *;refine gg ?_;refine oTg [(0,sT mt),(1,sT tg),(2,sT hd)] ([sT mt,sT tg,sT hd] : LV).toArray ?_;refine cA (qans_all (qk := k) (b := b) (s := s) (iter := 2) (ch := ch) (last := last) (reads := reads) hg.1 hn hB oM hSt hN oM oM oM oM dM dM mt tg hd hdl oM nw oM oM) ?_;rintro v A ⟨B',K',NT',c0,c2,c3,c4,c5,c6,c8,c9,eu,eg,em,ek,rfl,hcl,htold,hB',hSt',hNT',rfl⟩;refine gA ?_;have hxt := ansA_ts x us ns mt tg hd nw;have hse := ansA_ser x us ns mt tg hd nw;have hle := ansA_le x us ns mt tg hd nw;have hra := rans_all (y := y) (o := o) (iter := 2) (ch := ch) (last := last) (reads := reads) hg hR oM hRK oM hRN oM oM oM oM dM dM mt tg hd hdl oM nw oM oM;generalize ansA x us ns mt tg hd nw = r at *;refine oAg zRes.toArray fun b25 => ?_
   refine oSg (resV c0 c2 c3 c4 c5 c6 c8 c9 eu eg em ek) rfl hcl ?_;refine cA (hra) ?_;rintro v A ⟨R',RK',RT',d0,d2,d3,d4,d5,d6,d8,d9,fu,fg,fm,fk,rfl,hdl',htold',hR',hRK',hRT',rfl⟩;refine gA ?_;obtain ⟨rfl,rfl,rfl,rfl⟩ := dk htold htold';refine zF ?_;rw [ext4_0];refine gg ?_;refine zF ?_;rw [ext4_1];refine gg ?_;refine zF ?_;rw [ext4_2];refine gg ?_;refine zF ?_;rw [ext4_3];refine gg ?_;refine oAg zCr.toArray fun b27 => ?_
   refine oSg (resC d0 d2 d3 d4 d5 d6 d8 d9 fu fg) rfl hdl' ?_;have hR2 := hR';have hRK2 := hRK';obtain ⟨la,lc,CL,CM,ds,hds,rfl,_,_⟩ := hR2;obtain ⟨ta,ka,tc,kc,T1,T2,T3,us',hus',_,_,_,_,rfl⟩ := hRK2;have hdl : ds.length = r.1.2.1.ts.length := by rw [<- hds,iA]
   refine zO (fun D L S => D = [] /\ L = [(278,.bool false),(45,.int .i64 i),(44,.int .i64 ops.length),(43,.slice a ops.length cap),(11,.int .u64 nw),(10,.slice aa all.length ac),(9,pT b9)] /\ S = [rbB rb r.1.2.1.sym la ds.length lc,CL ++ CM,rsB rs ta 1 tc ka (us'.map RD.cd).length kc last (reads + r.2),T1 ++ (T2 ++ T3),boJ b9 b s q o k y,B',K',NT',RT',quB k b s q 2 [116] (ch + r.2),ryB y o [116] (ch + r.2),ofB o rb rs rn 2,CA,C,F]) ?_ ?_
   ·refine jY (S' := [rbB rb r.1.2.1.sym la ds.length lc,CL ++ CM,rsB rs ta 1 tc ka (us'.map RD.cd).length kc last (reads + r.2),T1 ++ (T2 ++ T3),[(b27,.cells (resC d0 d2 d3 d4 d5 d6 d8 d9 fu fg).toArray 84 (0,0))],[(b25,.cells (resV c0 c2 c3 c4 c5 c6 c8 c9 fu fg fm fk).toArray 50 (0,0))],boJ b9 b s q o k y,B',K',NT',RT',quB k b s q 2 [116] (ch + r.2),ryB y o [116] (ch + r.2),ofB o rb rs rn 2,CA,C,F]) ?_ ?_
    ·classical
     refine List.perm_iff_count.2 fun z => ?_
     simp only [aO,iS,List.count_append,List.count_nil];omega
    refine less (L' := [(30,.int .i64 r.1.1),(29,b32 fk),(28,sT fm),(27,pT b27),(26,.int .i64 r.1.1),(25,pT b25),(45,.int .i64 i),(44,.int .i64 ops.length),(43,.slice a ops.length cap),(11,.int .u64 nw),(10,.slice aa all.length ac),(9,pT b9)]) (S' := [rbB rb r.1.2.1.sym la ds.length lc,CL ++ CM,rsB rs ta 1 tc ka (us'.map RD.cd).length kc last (reads + r.2),T1 ++ (T2 ++ T3),[(b27,.cells #[d0,sT fu,d2,d3,d4,d5,d6,.int .u64 fg,d8,d9] 84 (0,0))],[(b25,.cells #[c0,sT fu,c2,c3,c4,c5,c6,.int .u64 fg,c8,c9,sT fm,b32 fk] 50 (0,0))],boJ b9 b s q o k y,B',K',NT',RT',quB k b s q 2 [116] (ch + r.2),ryB y o [116] (ch + r.2),ofB o rb rs rn 2,CA,C,F]) ?_;simp only [List.append_eq,aC,aD];rw [show b32 fk = .int .u32 (fk.toNat : Int) from rfl];refine cdLg [[0],[1],[2],[3],[4],[5],[6],[7],[8],[9],[10],[11],[12],[13],[14],[15],[16],[17],[18],[19],[20],[21],[22],[23],[24],[25],[26],[27],[28],[29],[30],[31],[32],[33],[35],[36],[37],[38],[39],[34,0,36,39],[40],[41],[42],[43],[44],[45],[47],[48],[49],[50],[51],[52],[53],[54],[55],[46,0,48,51,54,55],[56],[57],[58],[59],[60],[61],[63],[64],[65],[66],[67],[68],[69],[70],[62,0,64,67,70],[71],[72]] ?_;refine dR (KT (k := k) (b := b) (s := s) (q := q) (iter := 2) (ch := ch + r.2) [116]) ?_;rw [hdl];refine dR (gP hB') ?_;refine dR (UG hSt') ?_;exact mid ⟨rfl,rfl,rfl⟩
   rintro D L S ⟨rfl,rfl,rfl⟩;refine jY (S' := [rbB rb r.1.2.1.sym la ds.length lc ++ (CL ++ CM),rsB rs ta 1 tc ka (us'.map RD.cd).length kc last (reads + r.2) ++ (T1 ++ (T2 ++ T3)),boJ b9 b s q o k y,B',K',NT',RT',quB k b s q 2 [116] (ch + r.2),ryB y o [116] (ch + r.2),ofB o rb rs rn 2,CA,C,F]) ?_ ?_
   ·simp
   refine gg ?_;exact zI ⟨i + 1,all,aa,ac,CA,B',_,K',_,NT',RT',_,us,last,_,ch + r.2,reads + r.2,nw,oM,oM,oM,hall,hnw,hCA,⟨hB',hR',hSt',hRK',hNT',hRT',hdf,hul,oM,oM,oM,oM,oM,oM,oM,oM⟩,rfl,rfl,rfl,rfl⟩
 ·refine gg ?_;refine ze [C] ?_;exact ⟨rfl,rfl⟩
end Go.Proofs.YtebikhhoppiapaaGreatDoor
