/- Texts in a row: the walk's rules and contracts, as each says. Conditions: as each says. -/
import Derived.Test.YtebikhhoppiapaaGreatDoorMeb4cd2aa
import Derived.Test.YtebikhhoppiapaaGreatDoorMabaad0e2
import Derived.Test.YtebikhhoppiapaaGreatDoorM73c2a561
import Derived.Shelf.Strings.OnBuilder
import Derived.Shelf.Small.Strs
set_option linter.unusedSimpArgs false
set_option linter.defProp false
set_option linter.unusedVariables false
set_option maxRecDepth 100000
set_option maxHeartbeats 8000000
open List renaming length_append -> aA, mem_cons_self -> aB, cons_append -> aC, nil_append -> aD, getElem?_eq_getElem -> aF, length_singleton -> aI, length_cons -> aJ, mem_cons_of_mem -> aK, append_nil -> aL, append_assoc -> aM, flatten_cons -> aO, replicate -> aQ, getD_eq_getElem?_getD -> aS, length_drop -> aT, length_take -> aU, length_nil -> aV, length_replicate -> aW, not_mem_nil -> aX, map_cons -> aZ, mem_cons -> bA, range -> bC, mem_append_left -> bD, length_map -> bE, take_length -> bF, flatten_append -> bG, getElem?_cons_succ -> bJ, drop_eq_getElem_cons -> bK, flatten_nil -> bO, flatMap_cons -> bP, getElem?_append_right -> bR, take_of_length_le -> bS, take_add_one -> cC, getElem?_cons_zero -> cE, perm_append_comm -> cG, flatMap_append -> cH, map_append -> cL, getElem?_toArray -> cM, getElem?_map -> cN, dropWhile_cons -> cQ, take_append_drop -> cR, getElem?_append_left -> cT, length -> cV, getElem?_take_of_lt -> cX, getD -> cY, drop_eq_nil_of_le -> dA, getElem?_modify -> dC, getElem_mem -> dD, length_set -> dF, toList_toArray -> dG, mem_singleton -> dH, all_cons -> dI, drop_drop -> dL, drop_length -> dR, map_nil -> dS
open And renaming intro -> aE
open Nat renaming reduceBEq -> aG, reduceEqDiff -> aP, le_refl -> aR, reduceSub -> bH, sub_zero -> bI, reduceLT -> bM, reduceAdd -> bQ, zero_add -> cD, mul_le_mul_right -> cF, add_mul -> cP, mod_eq_of_lt -> cU, shiftLeft_eq -> dJ, add_sub_cancel -> dK, le_trans -> dN, add_zero -> dQ, sub_self -> dT
open UInt8 renaming ofNat -> aH, toNat_ofNat' -> bL
open Bool renaming and_eq_true -> aN, true_and -> dM, false_or -> dO, or_eq_true -> dP
open Int renaming toNat_natCast -> aY, reduceToNat -> bN, reduceBEq -> bT, reduceBNe -> bU, reduceAdd -> bV, reduceSub -> bW, reduceMul -> bX, reduceDiv -> bY, reduceMod -> bZ, reducePow -> cB, reduceLT -> cJ, reduceLE -> cK
open BitVec renaming ofInt -> bB, toNat_ofNat -> cW, ofNat -> cZ
open Option renaming getD_some -> cI, map_some -> dE
open Array renaming getElem?_setIfInBounds_ne -> cO, ext' -> cS
namespace Go.Proofs.YtebikhhoppiapaaGreatDoor
open Go Go.Ost Go.Sha Tryz
theorem KL (A B : Chunk) (a b : Option Addr) (ca cb : Nat) (xs ys : List UInt8) (hx : xs.length <= 100000) (hy : ys.length <= 100000) (h1 : Rd 1 [A] a xs.length (xs.map b8)) (h2 : Rd 1 [B] b ys.length (ys.map b8)) :
  Meets prog 190 [.slice a xs.length ca, .slice b ys.length cb] [A, B] (New8 5 (xorB xs ys) [A, B]) := by
 have hm : min xs.length ys.length <= xs.length /\ min xs.length ys.length <= ys.length := ⟨Nat.min_le_left _ _, Nat.min_le_right _ _⟩;have hxl := kn xs ys;have hg : ∀ i, i < min xs.length ys.length -> (xorB xs ys).getD i 0 = xs.getD i 0 ^^^ ys.getD i 0 := fun i hi => by rw [cY, Ja xs ys i hi]; rfl
 have hb : aQ (min xs.length ys.length) (0 : UInt8) = (bC (min xs.length ys.length)).map fun j => if j < 0 then (xorB xs ys).getD j 0 else 0 := by
  apply List.ext_getElem
  ·simp
  ·intro i g1 g2; rw [List.getElem_replicate, List.getElem_map, if_neg (Nat.not_lt_zero _)]
 have he : ((bC (min xs.length ys.length)).map fun j => if j < min xs.length ys.length then (xorB xs ys).getD j 0 else 0) = xorB xs ys := by
  apply List.ext_getElem
  ·simp [hxl]
  ·intro i g1 g2;simp only [bE, List.length_range] at g1
   simp [cY, g1, hxl]
 refine eN func190 ntmps190 results190 fun F => ?_
 refine gg ?_;rw [min_int];refine gg ?_;generalize hn : min xs.length ys.length = n at *;refine zf fun K hK => ?_; refine make8 (n := n) (by omega) (fun b2 C2 ho2 => ?_); refine hK _ _ ?_; clear hK K
 rw [hb] at ho2;refine gg ?_;generalize (some (⟨b2, 0, none⟩ : Addr)) = p at *
 refine zz (fun q D L S => ∃ (i : Nat) (C' : Chunk), i <= n /\ Own8 5 C' p n n ((bC n).map fun j => if j < i then (xorB xs ys).getD j 0 else 0) /\ q = n - i /\ D = [] /\
  L = [(17, .int .i64 i), (16, .int .i64 n), (0, .slice a xs.length ca), (1, .slice b ys.length cb), (6, .slice p n n)] /\ S = [C', F, A, B]) ⟨0, C2, by omega, ho2, rfl, rfl, rfl, rfl⟩ ?_
 rintro q D L S ⟨i, C', hi, ho, rfl, rfl, rfl, rfl⟩;refine gg ?_;refine if_d (fun hc => ?_) (fun hc => ?_)
 ·refine gg ?_;refine cdL [[0], [1], [2], [3], [4], [5], [6], [7], [8], [9], [10], [11], [12, 0]] ?_;refine gg ?_;refine zg fun K hK => ?_; (apply jA ho); (· (repeat (first | with_reducible exact Pick.head _ _ | with_reducible apply Pick.tail))); (· simp; omega); (intro C4 ho4); refine hK _ _ ?_; clear hK K
  rw [<- hg i (by omega), Jn n (fun _ => (0 : UInt8)) (fun j => (xorB xs ys).getD j 0) i (by omega)] at ho4;refine gg ?_;exact zv ⟨i + 1, C4, by omega, ho4, rfl, rfl, rfl, rfl⟩
 ·refine gg ?_;obtain rfl : i = n := by omega
  rw [he] at ho;refine zb [C', A, B] ?_;exact ⟨C', p, i, by rw [hxl], by rw [hxl]; exact ho, rfl⟩
theorem Xe {G : Chunk} (hg : qJ G) (Hp Hs : Chunk) (pa sa : Option Addr) (pcap scap : Nat) (pass salt : List UInt8) (rounds size : Nat) (hr1 : 1 <= rounds) (hr2 : rounds <= 64) (hz1 : 1 <= size) (hz2 : size <= 128)
  (hp1 : pass.length <= 10000) (hp2 : pass.length <= pcap) (hp3 : Rd 1 [Hp] pa pass.length (pass.map b8)) (hs1 : salt.length <= 10000) (hs2 : salt.length <= scap) (hs3 : Rd 1 [Hs] sa salt.length (salt.map b8)) :
  Meets prog 135 [.slice pa pass.length pcap, .slice sa salt.length scap, .int .i64 rounds, .int .i64 size] [G, Hp, Hs] (New8 5 (qU pass salt rounds size) [G, Hp, Hs]) := by
 have hpl := fun k => QR pass salt rounds k
 have hcl := Qd (fun k => qA pass salt rounds (k + 1)) (fun k => hpl _);refine eN func135 ntmps135 results135 fun F => ?_
 refine gg ?_;rw [decide_eq_false (show ¬ (rounds : Int) < 1 by omega)];refine gg ?_;rw [decide_eq_false (show ¬ (64 : Int) < rounds by omega)];refine gg ?_;rw [decide_eq_false (show ¬ (size : Int) < 1 by omega)];refine gg ?_;rw [decide_eq_false (show ¬ (128 : Int) < size by omega)];refine gg ?_;refine zB ?_
 refine zz (fun q D L S => ∃ (k : Nat) (O : Chunk) (oa : Option Addr) (oc : Nat), 32 * k < size + 32 /\ Own8 5 O oa (cat (fun k => qA pass salt rounds (k + 1)) k).length oc (cat (fun k => qA pass salt rounds (k + 1)) k) /\ q = size + 32 - 32 * k /\ D = [] /\
  L = [(9, .slice oa (cat (fun k => qA pass salt rounds (k + 1)) k).length oc), (10, .int .u64 (k + 1 : Nat)), (0, .slice pa pass.length pcap), (1, .slice sa salt.length scap), (2, .int .i64 rounds), (3, .int .i64 size)] /\ S = [O, F, G, Hp, Hs])
  ⟨0, [], none, 0, by omega, own_nil, rfl, rfl, rfl, rfl⟩ ?_
 rintro q D L S ⟨k, O, oa, oc, hk, ho, rfl, rfl, rfl, rfl⟩;have hck := hcl k;refine gg ?_;refine if_d (fun hc => ?_) (fun hc => ?_)
 ·refine gg ?_;refine cA (qG Hs sa scap salt (by omega) hs3) ?_; rintro v A ⟨C1, a1, c1, rfl, ho1, rfl⟩; (try simp only [aD, aC]);refine gg ?_;refine cA (xT (k + 1) 4 (by omega) (by decide)) ?_; rintro v A ⟨C2, a2, c2, rfl, ho2, rfl⟩; (try simp only [aD, aC]);have hbl : (be 4 (k + 1)).length = 4 := jb _ _;rw [hbl] at ho2 ⊢;refine gg ?_;refine zf fun K hK => ?_; refine app8 (ho1) pkA (ho2.rd mmA) (by omega) (fun C3 a3 cap3 ho3 => ?_); refine hK _ _ ?_; clear hK K
  have e3 : salt.length + 4 = (salt ++ be 4 (k + 1)).length := by rw [aA, hbl]
  rw [e3] at ho3 ⊢;refine gg ?_;refine cA (kP hg Hp C3 pa a3 pcap _ pass (salt ++ be 4 (k + 1)) (by omega) hp2 hp3 (by rw [aA, hbl]; omega) (ho3.rd (by simp))) ?_; rintro v A ⟨D1, da, dc, rfl, hd1, rfl⟩; (try simp only [aD, aC]);rw [vZ] at hd1 ⊢;generalize hu0 : mac pass (salt ++ be 4 (k + 1)) = u0 at *;have hpc : qA pass salt rounds (k + 1) = strT pass u0 u0 (rounds - 1) := by unfold qA; rw [hu0]
  have hul : u0.length = 32 := by rw [<- hu0]; exact vZ _ _
  refine gg ?_;refine zB ?_
  refine zz (fun q D L S => ∃ (i : Nat) (X U T : Chunk) (u t : List UInt8) (ua ta : Option Addr) (uc tc : Nat), 1 <= i /\ i <= rounds /\ u.length = 32 /\ t.length = 32 /\ Own8 5 U ua 32 uc u /\ T ∈ [U, X] /\ 32 <= tc /\ Rd 1 [T] ta 32 (t.map b8) /\
    qA pass salt rounds (k + 1) = strT pass u t (rounds - i) /\ q = rounds - i /\ D = [] /\
   L = [(13, .int .i64 i), (11, .slice ua 32 uc), (12, .slice ta 32 tc), (9, .slice oa (cat (fun k => qA pass salt rounds (k + 1)) k).length oc), (10, .int .u64 (k + 1 : Nat)), (0, .slice pa pass.length pcap), (1, .slice sa salt.length scap), (2, .int .i64 rounds), (3, .int .i64 size)] /\
   S = [U, X, O, F, G, Hp, Hs])
   ⟨1, [], D1, D1, u0, u0, da, da, dc, dc, by omega, hr1, hul, hul, hd1, by simp, hd1.1, hd1.rd (by simp), hpc, rfl, rfl, rfl, rfl⟩ ?_
  rintro q D L S ⟨i, X, U, T, u, t, ua, ta, uc, tc, hi1, hi2, hul, htl, hoU, hT, htc, hrt, hpi, rfl, rfl, rfl, rfl⟩;have hrU := hoU.rd (S := [U]) (by simp);have hml : (mac pass u).length = 32 := vZ _ _;have hT' := hT;simp only [bA, aX, or_false] at hT';refine gg ?_;refine if_d (fun hc => ?_) (fun hc => ?_)
  ·have hmc := kP hg Hp U pa ua pcap uc pass u (by omega) hp2 hp3 (by omega) (by rw [hul]; exact hrU);rw [hul] at hmc;refine gg ?_;refine cA (hmc) ?_; rintro v A ⟨D2, a2, c2, rfl, ho2, rfl⟩; refine gA ?_;rw [hml] at ho2 ⊢;have hxs := KL T D2 ta a2 tc c2 t (mac pass u) (by omega) (by omega) (by rw [htl]; exact hrt) (by rw [hml]; exact ho2.rd (by simp));rw [htl, hml] at hxs;have hxl : (xorB t (mac pass u)).length = 32 := by rw [kn, htl, hml]; decide
   have hst : strT pass u t (rounds - i) = strT pass (mac pass u) (xorB t (mac pass u)) (rounds - (i + 1)) := by
    rw [show rounds - i = (rounds - (i + 1)) + 1 from by omega]; rfl
   rw [hst] at hpi
   rcases hT' with rfl | rfl
   ·refine cA (hxs) ?_; rintro v A ⟨D6, a6, c6, rfl, ho6, rfl⟩; refine gA ?_;rw [hxl] at ho6 ⊢;exact zv ⟨i + 1, D6, D2, D6, mac pass u, xorB t (mac pass u), a2, a6, c2, c6, by omega, by omega, hml, hxl, ho2, by simp, ho6.1, ho6.rd (by simp), hpi, rfl, rfl, rfl, rfl⟩
   ·refine cA (hxs) ?_; rintro v A ⟨D6, a6, c6, rfl, ho6, rfl⟩; refine gA ?_;rw [hxl] at ho6 ⊢;exact zv ⟨i + 1, D6, D2, D6, mac pass u, xorB t (mac pass u), a2, a6, c2, c6, by omega, by omega, hml, hxl, ho2, by simp, ho6.1, ho6.rd (by simp), hpi, rfl, rfl, rfl, rfl⟩
  ·obtain rfl : i = rounds := by omega
   rw [dT] at hpi;have ht : qA pass salt i (k + 1) = t := hpi;refine gg ?_;refine zf fun K hK => ?_; refine app8 ho pkA (hrt.mem (by rcases hT' with rfl | rfl <;> simp)) (by omega) (fun C7 a7 cap7 ho7 => ?_); refine hK _ _ ?_; clear hK K
   have e7 : cat (fun k => qA pass salt i (k + 1)) k ++ t = cat (fun k => qA pass salt i (k + 1)) (k + 1) := by rw [cat, ht]
   have e8 : (cat (fun k => qA pass salt i (k + 1)) k).length + 32 = (cat (fun k => qA pass salt i (k + 1)) (k + 1)).length := by rw [<- e7, aA, htl]
   rw [e7, e8] at ho7;rw [e8];refine gg ?_;exact zv ⟨k + 1, C7, a7, cap7, by omega, ho7, rfl, rfl, rfl, rfl⟩
 ·have hoc := ho.1;have hmc := Um (fun k => qA pass salt rounds (k + 1)) (fun k => hpl _) size k (by omega) (by omega) hz1;have hcut := YY ho (l := 0) (h' := size) (m := oc) (by omega) (by omega) (by omega) (aR _);rw [List.drop_zero, bI, bI, hmc] at hcut;have es : (qU pass salt rounds size).length = size := by unfold qU; rw [aU, Qd _ (fun k => hpl _)]; unfold many; omega
  refine gg ?_;refine zb [O, G, Hp, Hs] ?_;exact ⟨O, _, oc, by rw [es], by rw [es]; exact hcut, rfl⟩
structure TD where
 t : Tm
 ka : Option Addr
 kc : Nat
 xa : Option Addr
 xc : Nat
def TD.vs (d : TD) : List Value := tmV d.t d.ka d.kc d.xa d.xc
def TD.ok (B : Chunk) (d : TD) : Prop := Rd 1 [B] d.ka d.t.key.length (d.t.key.map b8) /\ Rd 1 [B] d.xa d.t.txt.length (d.t.txt.map b8)
abbrev rbB (b : Nat) (sym : Bool) (la : Option Addr) (n lc : Nat) : Chunk := [(b, .cells #[.bool sym, .slice la n lc, .bool false] 92 (0, 0))]
theorem vs_len (d : TD) : d.vs.length = 6 := rfl
theorem VQ (d : TD) : ∀ v ∈ d.vs, Value.cell1 v := by
 intro v hv;simp only [TD.vs, tmV, bA, aX, or_false] at hv
 rcases hv with rfl | rfl | rfl | rfl | rfl | rfl <;> simp [Value.cell1]
theorem ZN (ds : List TD) : ∀ v ∈ ds.flatMap TD.vs, Value.cell1 v := by
 intro v hv;obtain ⟨d, _, h⟩ := List.mem_flatMap.1 hv;exact VQ d v h
instance tpRTm : zH prog 258 [(0, 1), (1, 1), (2, 1), (3, 1), (4, 1), (5, 1)] := ⟨by kernel_rfl⟩
theorem Qo {t : Tm} : ∀ (l : List Tm) (k i : Nat), (∀ j, j < i -> ∀ u, l[j]? = some u -> u ≠ t) -> l[i]? = some t -> tix t l k = some (k + i)
 | [], _, i, _, h => by simp at h
 | u :: l, k, 0, _, h => by
  rw [cE, Option.some.injEq] at h;unfold tix;rw [if_pos h]; rfl
 | u :: l, k, i + 1, hn, h => by
  have h0 := hn 0 (by omega) u rfl;unfold tix;rw [if_neg h0, Qo l (k + 1) i (fun j hj v hv => hn (j + 1) (by omega) v (by rw [bJ]; exact hv)) (by rw [bJ] at h; exact h)]
  congr 1; omega
theorem IJ {t : Tm} : ∀ (l : List Tm) (k : Nat), (∀ u ∈ l, u ≠ t) -> tix t l k = none
 | [], _, _ => rfl
 | u :: l, k, h => by
  unfold tix;rw [if_neg (h u (aB ..))];exact IJ l (k + 1) fun v hv => h v (aK _ hv)
theorem QB (t : Tm) {H : Chunk} {ka xa : Option Addr} {kc xc : Nat} (hk : Rd 1 [H] ka t.key.length (t.key.map b8)) (hx : Rd 1 [H] xa t.txt.length (t.txt.map b8))
  (b : Nat) (sym : Bool) (ds : List TD) (hts : ds.length <= 1000) {la : Option Addr} {lc : Nat} {CL B : Chunk} (hL : Ost.Own 6 258 CL la ds.length lc (ds.flatMap TD.vs)) (hB : ∀ d ∈ ds, d.ok B) :
  Meets prog 134 [.pointer (some ⟨b, 0, none⟩), .agg (tmV t ka kc xa xc).toArray] [rbB b sym la ds.length lc, CL, B, H]
  fun v A => ∃ (O : Chunk) (oa : Option Addr) (oc : Nat) (la' : Option Addr) (lc' : Nat) (CL' : Chunk) (ds' : List TD), v = .slice oa (tagX ⟨sym, ds.map TD.t⟩ t).1.length oc /\ Own8 5 O oa (tagX ⟨sym, ds.map TD.t⟩ t).1.length oc (tagX ⟨sym, ds.map TD.t⟩ t).1 /\
   ds'.map TD.t = (tagX ⟨sym, ds.map TD.t⟩ t).2.ts /\ Ost.Own 6 258 CL' la' ds'.length lc' (ds'.flatMap TD.vs) /\ (∀ d ∈ ds', d.ok (B ++ H)) /\ A = [O, rbB b sym la' ds'.length lc', CL', B, H] := by
 have hs := vs_len;refine eN func134 ntmps134 results134 fun F => ?_
 refine gg ?_;refine oB fun b3 => ?_
 refine gg ?_;have hcv : ∀ v ∈ tmV t ka kc xa xc, Value.cell1 v := VQ ⟨t, ka, kc, xa, xc⟩
 refine zz (fun q D L S => ∃ i : Nat, i <= ds.length /\ (∀ j, j < i -> ∀ u, (ds.map TD.t)[j]? = some u -> u ≠ t) /\ q = ds.length - i /\ D = [] /\
  L = [(12, .int .i64 i), (11, .int .i64 ds.length), (10, .slice la ds.length lc), (3, .pointer (some ⟨b3, 0, none⟩)), (0, .pointer (some ⟨b, 0, none⟩))] /\
  S = [[(b3, .cells (tmV t ka kc xa xc).toArray 258 (0, 0))], F, rbB b sym la ds.length lc, CL, B, H])
  ⟨0, by omega, (fun j hj => absurd hj (by omega)), rfl, rfl, rfl, rfl⟩ ?_
 rintro q D L S ⟨i, hi, hno, rfl, rfl, rfl, rfl⟩;refine gg ?_;refine if_d (fun hc => ?_) (fun hc => ?_)
 ·have hil : i < ds.length := by omega
  have hx0 : ds[i]? = some ds[i] := aF hil;have hd := hB _ (dD hil);have hxt : (ds.map TD.t)[i]? = some ds[i].t := by rw [cN, hx0]; rfl
  generalize ds[i] = d at *;refine gg ?_;refine zf fun K hK => ?_; refine zT hL hs hx0 (by decide) mmA ?_; refine hK _ _ ?_; clear hK K
  refine oA ([.int .i64 0, .slice none 0 0, .slice none 0 0, .int .i64 0, .slice none 0 0, .slice none 0 0] : List Value).toArray fun b6 => ?_
  refine gg ?_;refine oS d.vs rfl (VQ d) ?_;refine gg ?_;refine oL d.vs rfl ?_;refine gg ?_;refine oL (tmV t ka kc xa xc) rfl ?_;refine gg ?_;refine cA (VY d.t t hd.1 hd.2 hk hx) ?_; rintro v A ⟨rfl, rfl⟩; refine gA ?_
  by_cases he : d.t = t
  ·rw [decide_eq_true he];refine gg ?_;refine cA (qM (i + 1) (by omega)) ?_; rintro v A ⟨O, oa, oc, rfl, hO, rfl⟩; refine gA ?_
   have htag : tagX ⟨sym, ds.map TD.t⟩ t = (hdl (i + 1), ⟨sym, ds.map TD.t⟩) := by
    unfold tagX;rw [Qo (ds.map TD.t) 0 i hno (by rw [hxt, he]), cD]
   rw [htag];refine zb [O, rbB b sym la ds.length lc, CL, B, H] ?_;exact ⟨O, oa, oc, la, lc, CL, ds, rfl, hO, rfl, hL, fun d hd => ⟨rd_l (hB d hd).1, rd_l (hB d hd).2⟩, rfl⟩
  ·rw [decide_eq_false he];refine gg ?_;refine zv ⟨i + 1, by omega, fun j hj u hu => ?_, rfl, rfl, rfl, rfl⟩
   by_cases hji : j = i
   ·subst hji;rw [hxt, Option.some.injEq] at hu;rw [<- hu]; exact he
   ·exact hno j (by omega) u hu
 ·obtain rfl : i = ds.length := by omega
  have hnone : tix t (ds.map TD.t) 0 = none := IJ _ 0 fun u hu => by
   obtain ⟨j, hj, rfl⟩ := List.mem_iff_getElem.1 hu;rw [bE] at hj;exact hno j hj _ (aF (by rw [bE]; exact hj))
  have htag : tagX ⟨sym, ds.map TD.t⟩ t = (hdl ((ds.map TD.t).length + 1), ⟨sym, ds.map TD.t ++ [t]⟩) := by
   unfold tagX;rw [hnone]
  rw [bE] at htag;rw [htag];refine gg ?_;rw [decide_eq_false (show ¬ (4096 : Int) <= ds.length by omega)];refine gg ?_;refine kC 1 6 8 [[], [], [], [2], [2, 3], [2, 3, 4], [1, 2, 3, 4, 5], [], [1, 2, 3, 4, 5, 6, 7], [1, 2, 3, 4, 5, 6, 7, 8], [0, 1, 2, 3, 4, 5, 6, 7, 8, 9], [0, 1, 2, 3, 4, 5, 6, 7, 8, 9, 10], [0, 1, 2, 3, 4, 5, 6, 7, 8, 9, 10, 11]] [(0, false, []), (2, false, []), (3, false, []), (4, false, []), (5, false, []), (7, false, []), (1, true, [5, 7]), (6, true, [7]), (8, true, []), (9, true, []), (10, false, []), (11, false, []), (12, true, [])] [[], [], [], [2], [2, 3], [2, 3, 4], [1, 2, 3, 4, 5, 7, 8], [], [1, 7], [1, 2, 3, 4, 5, 6, 7, 8], [0, 1, 2, 3, 4, 5, 6, 7, 8, 9], [0, 1, 2, 3, 4, 5, 6, 7, 8, 9, 10], [0, 1, 2, 3, 4, 5, 6, 7, 8, 9, 10, 11]] [(0, false, []), (2, false, []), (3, false, []), (4, false, []), (5, false, []), (7, false, []), (1, true, [5, 7]), (8, true, [5]), (6, true, []), (9, true, []), (10, false, []), (11, false, []), (12, true, [])] [[], [7, 8], [], [2], [2, 3], [2, 3, 4], [1, 2, 3, 4, 5, 7, 8], [], [7], [1, 2, 3, 4, 5, 6, 7, 8], [0, 1, 2, 3, 4, 5, 6, 7, 8, 9], [0, 1, 2, 3, 4, 5, 6, 7, 8, 9, 10], [0, 1, 2, 3, 4, 5, 6, 7, 8, 9, 10, 11]] [(0, false, []), (2, false, []), (3, false, []), (4, false, []), (5, false, []), (7, false, []), (8, true, [5]), (1, true, [5]), (6, true, []), (9, true, []), (10, false, []), (11, false, []), (12, true, [])] ?_ ?_ ?_
  ·refine gg ?_;refine qO fun K hK => ?_; refine zi (vs := tmV t ka kc xa xc) lkA rfl ?_; refine hK _ _ ?_; clear hK K
   refine gg ?_;refine zg fun K hK => ?_; refine xY fun b0 C0 ho0 => ?_; refine pend ?_; refine pend ?_ (zi (vs := tmV t ka kc xa xc) lkA rfl rfl); refine hK _ _ ?_; clear hK K
   refine gg ?_;refine zg fun K hK => ?_; refine zn (e := 258) (s := 6) (hs := inferInstance) (by rfl) (by decide) ho0 (.inr pkA) (hL.rd mmA) (ZN ds) (by simp only [maxLen]; omega) (by omega) (fun C2 a2 c2 ho2 => ?_); refine pend ?_ (zi (vs := tmV t ka kc xa xc) lkA rfl rfl); refine hK _ _ ?_; clear hK K
   refine gg ?_
   (try rw [aD, cD] at ho2)
   (try rw [cD])
   refine zg fun K hK => ?_; refine zN (e := 258) (s := 6) (hs := inferInstance) (vs := tmV t ka kc xa xc) (by rfl) (by decide) (by decide) rfl (fun b1 C1 ho1 => ?_); refine hK _ _ ?_; clear hK K
   refine gg ?_;refine zg fun K hK => ?_; refine zn (e := 258) (s := 6) (hs := inferInstance) (by rfl) (by decide) ho2 (.inr pkA) (ho1.rd mmA) hcv (by simp only [maxLen]; omega) (by omega) (fun C3 a3 c3 ho3 => ?_); refine hK _ _ ?_; clear hK K
   refine gg ?_;refine gM ?_;refine cA (qM (ds.length + 1) (by omega)) ?_; rintro v A ⟨O, oa, oc, rfl, hO, rfl⟩; refine gA ?_;have hl1 : ds.length + 1 = (ds ++ [(⟨t, ka, kc, xa, xc⟩ : TD)]).length := by simp
   have e2 : ds.flatMap TD.vs ++ tmV t ka kc xa xc = (ds ++ [(⟨t, ka, kc, xa, xc⟩ : TD)]).flatMap TD.vs := by rw [cH]; congr 1
   rw [hl1, e2] at ho3;refine zb [O, rbB b sym a3 (ds.length + 1) c3, C3, B, H] ?_;refine ⟨O, oa, oc, a3, c3, C3, ds ++ [(⟨t, ka, kc, xa, xc⟩ : TD)], rfl, hO, by simp, ho3, fun d hd => ?_, by rw [hl1]⟩
   rcases List.mem_append.1 hd with hd | hd
   ·exact ⟨rd_l (hB d hd).1, rd_l (hB d hd).2⟩
   ·rw [dH] at hd; subst hd; exact ⟨rd_r hk, rd_r hx⟩
  ·refine gg ?_;refine qO fun K hK => ?_; refine zi (vs := tmV t ka kc xa xc) lkA rfl ?_; refine hK _ _ ?_; clear hK K
   refine gg ?_;refine zg fun K hK => ?_; refine xY fun b0 C0 ho0 => ?_; refine pend ?_; refine pend ?_ (zi (vs := tmV t ka kc xa xc) lkA rfl rfl); refine hK _ _ ?_; clear hK K
   refine gg ?_;refine zg fun K hK => ?_; refine zN (e := 258) (s := 6) (hs := inferInstance) (vs := tmV t ka kc xa xc) (by rfl) (by decide) (by decide) rfl (fun b1 C1 ho1 => ?_); refine pend ?_; refine hK _ _ ?_; clear hK K
   refine gg ?_;refine zg fun K hK => ?_; refine zn (e := 258) (s := 6) (hs := inferInstance) (by rfl) (by decide) ho0 (.inr pkA) (hL.rd mmA) (ZN ds) (by simp only [maxLen]; omega) (by omega) (fun C2 a2 c2 ho2 => ?_); refine hK _ _ ?_; clear hK K
   refine gg ?_
   (try rw [aD, cD] at ho2)
   (try rw [cD])
   refine zg fun K hK => ?_; refine zn (e := 258) (s := 6) (hs := inferInstance) (by rfl) (by decide) ho2 (.inr pkA) (ho1.rd mmA) hcv (by simp only [maxLen]; omega) (by omega) (fun C3 a3 c3 ho3 => ?_); refine hK _ _ ?_; clear hK K
   refine gg ?_;refine gM ?_;refine cA (qM (ds.length + 1) (by omega)) ?_; rintro v A ⟨O, oa, oc, rfl, hO, rfl⟩; refine gA ?_;have hl1 : ds.length + 1 = (ds ++ [(⟨t, ka, kc, xa, xc⟩ : TD)]).length := by simp
   have e2 : ds.flatMap TD.vs ++ tmV t ka kc xa xc = (ds ++ [(⟨t, ka, kc, xa, xc⟩ : TD)]).flatMap TD.vs := by rw [cH]; congr 1
   rw [hl1, e2] at ho3;refine zb [O, rbB b sym a3 (ds.length + 1) c3, C3, B, H] ?_;refine ⟨O, oa, oc, a3, c3, C3, ds ++ [(⟨t, ka, kc, xa, xc⟩ : TD)], rfl, hO, by simp, ho3, fun d hd => ?_, by rw [hl1]⟩
   rcases List.mem_append.1 hd with hd | hd
   ·exact ⟨rd_l (hB d hd).1, rd_l (hB d hd).2⟩
   ·rw [dH] at hd; subst hd; exact ⟨rd_r hk, rd_r hx⟩
  ·refine gg ?_;refine qO fun K hK => ?_; refine zi (vs := tmV t ka kc xa xc) lkA rfl ?_; refine hK _ _ ?_; clear hK K
   refine gg ?_;refine zg fun K hK => ?_; refine zN (e := 258) (s := 6) (hs := inferInstance) (vs := tmV t ka kc xa xc) (by rfl) (by decide) (by decide) rfl (fun b1 C1 ho1 => ?_); refine pend ?_; refine hK _ _ ?_; clear hK K
   refine gg ?_;refine zg fun K hK => ?_; refine xY fun b0 C0 ho0 => ?_; refine pend ?_; refine hK _ _ ?_; clear hK K
   refine gg ?_;refine zg fun K hK => ?_; refine zn (e := 258) (s := 6) (hs := inferInstance) (by rfl) (by decide) ho0 (.inr pkA) (hL.rd mmA) (ZN ds) (by simp only [maxLen]; omega) (by omega) (fun C2 a2 c2 ho2 => ?_); refine hK _ _ ?_; clear hK K
   refine gg ?_
   (try rw [aD, cD] at ho2)
   (try rw [cD])
   refine zg fun K hK => ?_; refine zn (e := 258) (s := 6) (hs := inferInstance) (by rfl) (by decide) ho2 (.inr pkA) (ho1.rd mmA) hcv (by simp only [maxLen]; omega) (by omega) (fun C3 a3 c3 ho3 => ?_); refine hK _ _ ?_; clear hK K
   refine gg ?_;refine gM ?_;refine cA (qM (ds.length + 1) (by omega)) ?_; rintro v A ⟨O, oa, oc, rfl, hO, rfl⟩; refine gA ?_;have hl1 : ds.length + 1 = (ds ++ [(⟨t, ka, kc, xa, xc⟩ : TD)]).length := by simp
   have e2 : ds.flatMap TD.vs ++ tmV t ka kc xa xc = (ds ++ [(⟨t, ka, kc, xa, xc⟩ : TD)]).flatMap TD.vs := by rw [cH]; congr 1
   rw [hl1, e2] at ho3;refine zb [O, rbB b sym a3 (ds.length + 1) c3, C3, B, H] ?_;refine ⟨O, oa, oc, a3, c3, C3, ds ++ [(⟨t, ka, kc, xa, xc⟩ : TD)], rfl, hO, by simp, ho3, fun d hd => ?_, by rw [hl1]⟩
   rcases List.mem_append.1 hd with hd | hd
   ·exact ⟨rd_l (hB d hd).1, rd_l (hB d hd).2⟩
   ·rw [dH] at hd; subst hd; exact ⟨rd_r hk, rd_r hx⟩
theorem YN (t : Tm) {H J : Chunk} {ka xa : Option Addr} {kc xc : Nat} (hk : Rd 1 [H] ka t.key.length (t.key.map b8)) (hx : Rd 1 [J] xa t.txt.length (t.txt.map b8))
  (b : Nat) (sym : Bool) (ds : List TD) (hts : ds.length <= 1000) {la : Option Addr} {lc : Nat} {CL B : Chunk} (hL : Ost.Own 6 258 CL la ds.length lc (ds.flatMap TD.vs)) (hB : ∀ d ∈ ds, d.ok B) :
  Meets prog 134 [.pointer (some ⟨b, 0, none⟩), .agg (tmV t ka kc xa xc).toArray] [rbB b sym la ds.length lc, CL, B, H, J]
  fun v A => ∃ (O : Chunk) (oa : Option Addr) (oc : Nat) (la' : Option Addr) (lc' : Nat) (CL' : Chunk) (ds' : List TD), v = .slice oa (tagX ⟨sym, ds.map TD.t⟩ t).1.length oc /\ Own8 5 O oa (tagX ⟨sym, ds.map TD.t⟩ t).1.length oc (tagX ⟨sym, ds.map TD.t⟩ t).1 /\
   ds'.map TD.t = (tagX ⟨sym, ds.map TD.t⟩ t).2.ts /\ Ost.Own 6 258 CL' la' ds'.length lc' (ds'.flatMap TD.vs) /\ (∀ d ∈ ds', d.ok (B ++ (H ++ J))) /\ A = [O, rbB b sym la' ds'.length lc', CL', B, H, J] :=
 (QB t (H := H ++ J) (rd_l hk) (rd_r hx) b sym ds hts hL hB).perm (by simp) (fun v A' ⟨O, oa, oc, la', lc', CL', ds', hv, hO, hm, hL', hB', hA⟩ =>
  ⟨[O, rbB b sym la' ds'.length lc', CL', B, H, J], by rw [hA]; simp, O, oa, oc, la', lc', CL', ds', hv, hO, hm, hL', hB', rfl⟩)
def RBox (C : Chunk) (b : Nat) (x : BX) : Prop := ∃ (la : Option Addr) (lc : Nat) (CL B : Chunk) (ds : List TD), ds.map TD.t = x.ts /\ C = rbB b x.sym la ds.length lc ++ (CL ++ B) /\ Ost.Own 6 258 CL la ds.length lc (ds.flatMap TD.vs) /\ ∀ d ∈ ds, d.ok B
def ROut (b : Nat) (y : List UInt8 × BX) (R : State) (v : Value) (A : State) : Prop := ∃ (O C' : Chunk) (oa : Option Addr) (oc : Nat), v = .slice oa y.1.length oc /\ Own8 5 O oa y.1.length oc y.1 /\ RBox C' b y.2 /\ A = O :: C' :: R
theorem qZ {G : Chunk} (hg : qJ G) {H : Chunk} {ma : Option Addr} {mc : Nat} {m : List UInt8} (hml : m.length <= 100000) (hm : Rd 1 [H] ma m.length (m.map b8)) {C : Chunk} {b : Nat} {x : BX} (hC : RBox C b x) (hts : x.ts.length <= 1000) :
  Meets prog 87 [.pointer (some ⟨b, 0, none⟩), .slice ma m.length mc] [C, G, H] (ROut b (xl x m) [G, H]) := by
 obtain ⟨la, lc, CL, B, ds, hds, rfl, hL, hB⟩ := hC;obtain ⟨sym, ts⟩ := x;simp only at hds hts;subst hds;rw [bE] at hts
 have k : Meets prog 87 [.pointer (some ⟨b, 0, none⟩), .slice ma m.length mc] [rbB b sym la ds.length lc, CL, B, G, H]
   fun v A => ∃ (O J : Chunk) (oa : Option Addr) (oc : Nat) (la' : Option Addr) (lc' : Nat) (CL' : Chunk) (ds' : List TD), v = .slice oa (xl ⟨sym, ds.map TD.t⟩ m).1.length oc /\ Own8 5 O oa (xl ⟨sym, ds.map TD.t⟩ m).1.length oc (xl ⟨sym, ds.map TD.t⟩ m).1 /\
    ds'.map TD.t = (xl ⟨sym, ds.map TD.t⟩ m).2.ts /\ Ost.Own 6 258 CL' la' ds'.length lc' (ds'.flatMap TD.vs) /\ (∀ d ∈ ds', d.ok (B ++ J)) /\ A = [O, rbB b sym la' ds'.length lc', CL', B, J, G, H] := by
  unfold xl;refine eN func87 ntmps87 results87 fun F => ?_
  refine zB ?_;refine gg ?_
  cases sym with
  | true =>
   rw [if_pos rfl];refine gg ?_;refine cA (qG H ma mc m (by omega) hm) ?_; rintro v A ⟨J, ja, jc, rfl, hJ, rfl⟩; refine gA ?_;refine oT [(0, .int .i64 1), (2, .slice ja m.length jc)] (tmV ⟨1, [], m, 0⟩ none 0 ja jc).toArray ?_;refine gg ?_;refine cA (QB (ka := none) (kc := 0) ⟨1, [], m, 0⟩ Rd.nil (hJ.rd (aB ..)) b true ds hts hL hB) ?_; rintro v A ⟨O, oa, oc, la', lc', CL', ds', rfl, hO, hm', hL', hB', rfl⟩; refine gA ?_;refine zb [O, rbB b true la' ds'.length lc', CL', B, J, G, H] ?_;exact ⟨O, J, oa, oc, la', lc', CL', ds', rfl, hO, hm', hL', hB', rfl⟩
  | false =>
   rw [if_neg (by simp)];refine gg ?_;refine cA (refS hg H ma mc m (by omega) hm) ?_; rintro v A ⟨O, oa, oc, rfl, hO, rfl⟩; refine gA ?_;refine zb [O, rbB b false la ds.length lc, CL, B, [], G, H] ?_;exact ⟨O, [], oa, oc, la, lc, CL, ds, rfl, hO, rfl, hL, fun d hd => ⟨rd_l (hB d hd).1, rd_l (hB d hd).2⟩, rfl⟩
 refine Meets.conv [rbB b sym la ds.length lc, CL, B, G, H] (k) flA tkA ?_; rintro v A ⟨O, J, oa, oc, la', lc', CL', ds', rfl, hO, hm', hL', hB', rfl⟩;exact ⟨[O, rbB b sym la' ds'.length lc' ++ (CL' ++ (B ++ J)), G, H], [O, rbB b sym la' ds'.length lc', CL', B, J, G, H], flA, amA, O, _, oa, oc, rfl, hO, ⟨la', lc', CL', B ++ J, ds', hm', by rw [(xU ⟨sym, ds.map TD.t⟩ m).2], hL', hB'⟩, rfl⟩
theorem QE {G : Chunk} (hg : qJ G) {Kc H : Chunk} {ka ma : Option Addr} {kc mc : Nat} {key m : List UInt8} (hkl : key.length <= 100000) (hk0 : key.length <= kc) (hk : Rd 1 [Kc] ka key.length (key.map b8)) (hml : m.length <= 100000) (hm : Rd 1 [H] ma m.length (m.map b8)) {C : Chunk} {b : Nat} {x : BX} (hC : RBox C b x) (hts : x.ts.length <= 1000) :
  Meets prog 85 [.pointer (some ⟨b, 0, none⟩), .slice ka key.length kc, .slice ma m.length mc] [C, G, Kc, H] (ROut b (macX x key m) [G, Kc, H]) := by
 obtain ⟨la, lc, CL, B, ds, hds, rfl, hL, hB⟩ := hC;obtain ⟨sym, ts⟩ := x;simp only at hds hts;subst hds;rw [bE] at hts
 have k : Meets prog 85 [.pointer (some ⟨b, 0, none⟩), .slice ka key.length kc, .slice ma m.length mc] [rbB b sym la ds.length lc, CL, B, G, Kc, H]
   fun v A => ∃ (O J J2 : Chunk) (oa : Option Addr) (oc : Nat) (la' : Option Addr) (lc' : Nat) (CL' : Chunk) (ds' : List TD), v = .slice oa (macX ⟨sym, ds.map TD.t⟩ key m).1.length oc /\ Own8 5 O oa (macX ⟨sym, ds.map TD.t⟩ key m).1.length oc (macX ⟨sym, ds.map TD.t⟩ key m).1 /\
    ds'.map TD.t = (macX ⟨sym, ds.map TD.t⟩ key m).2.ts /\ Ost.Own 6 258 CL' la' ds'.length lc' (ds'.flatMap TD.vs) /\ (∀ d ∈ ds', d.ok (B ++ (J ++ J2))) /\ A = [O, rbB b sym la' ds'.length lc', CL', B, J, J2, G, Kc, H] := by
  unfold macX;refine eN func85 ntmps85 results85 fun F => ?_
  refine zB ?_;refine zB ?_;refine gg ?_
  cases sym with
  | true =>
   rw [if_pos rfl];refine gg ?_;refine cA (qG Kc ka kc key (by omega) hk) ?_; rintro v A ⟨J, ja, jc, rfl, hJ, rfl⟩; refine gA ?_;refine cA (qG H ma mc m (by omega) hm) ?_; rintro v A ⟨J2, ia, ic, rfl, hJ2, rfl⟩; refine gA ?_;refine oT [(0, .int .i64 2), (1, .slice ja key.length jc), (2, .slice ia m.length ic)] (tmV ⟨2, key, m, 0⟩ ja jc ia ic).toArray ?_;refine gg ?_;refine cA (YN ⟨2, key, m, 0⟩ (hJ.rd (aB ..)) (hJ2.rd (aB ..)) b true ds hts hL hB) ?_; rintro v A ⟨O, oa, oc, la', lc', CL', ds', rfl, hO, hm', hL', hB', rfl⟩; refine gA ?_;refine zb [O, rbB b true la' ds'.length lc', CL', B, J, J2, G, Kc, H] ?_;exact ⟨O, J, J2, oa, oc, la', lc', CL', ds', rfl, hO, hm', hL', hB', rfl⟩
  | false =>
   rw [if_neg (by simp)];refine gg ?_;refine cA (kP hg Kc H ka ma kc mc key m hkl hk0 hk hml hm) ?_; rintro v A ⟨O, oa, oc, rfl, hO, rfl⟩; refine gA ?_;refine zb [O, rbB b false la ds.length lc, CL, B, [], [], G, Kc, H] ?_;exact ⟨O, [], [], oa, oc, la, lc, CL, ds, rfl, hO, rfl, hL, fun d hd => ⟨rd_l (hB d hd).1, rd_l (hB d hd).2⟩, rfl⟩
 refine Meets.conv [rbB b sym la ds.length lc, CL, B, G, Kc, H] (k) flA tkA ?_; rintro v A ⟨O, J, J2, oa, oc, la', lc', CL', ds', rfl, hO, hm', hL', hB', rfl⟩;exact ⟨[O, rbB b sym la' ds'.length lc' ++ (CL' ++ (B ++ (J ++ J2))), G, Kc, H], [O, rbB b sym la' ds'.length lc', CL', B, J, J2, G, Kc, H], flA, amA, O, _, oa, oc, rfl, hO, ⟨la', lc', CL', B ++ (J ++ J2), ds', hm', by rw [(kd ⟨sym, ds.map TD.t⟩ key m).2], hL', hB'⟩, rfl⟩
theorem rstr_spec {G : Chunk} (hg : qJ G) {Pc Sc : Chunk} {pa sa : Option Addr} {pc sc : Nat} {pass salt : List UInt8} (hp1 : pass.length <= 10000) (hp2 : pass.length <= pc) (hp3 : Rd 1 [Pc] pa pass.length (pass.map b8)) (hs1 : salt.length <= 10000) (hs2 : salt.length <= sc) (hs3 : Rd 1 [Sc] sa salt.length (salt.map b8)) (rounds : Nat) (hr1 : 1 <= rounds) (hr2 : rounds <= 64) {C : Chunk} {b : Nat} {x : BX} (hC : RBox C b x) (hts : x.ts.length <= 1000) :
  Meets prog 84 [.pointer (some ⟨b, 0, none⟩), .slice pa pass.length pc, .slice sa salt.length sc, .int .i64 rounds] [C, G, Pc, Sc] (ROut b (strX x pass salt rounds) [G, Pc, Sc]) := by
 obtain ⟨la, lc, CL, B, ds, hds, rfl, hL, hB⟩ := hC;obtain ⟨sym, ts⟩ := x;simp only at hds hts;subst hds;rw [bE] at hts
 have k : Meets prog 84 [.pointer (some ⟨b, 0, none⟩), .slice pa pass.length pc, .slice sa salt.length sc, .int .i64 rounds] [rbB b sym la ds.length lc, CL, B, G, Pc, Sc]
   fun v A => ∃ (O J J2 : Chunk) (oa : Option Addr) (oc : Nat) (la' : Option Addr) (lc' : Nat) (CL' : Chunk) (ds' : List TD), v = .slice oa (strX ⟨sym, ds.map TD.t⟩ pass salt rounds).1.length oc /\ Own8 5 O oa (strX ⟨sym, ds.map TD.t⟩ pass salt rounds).1.length oc (strX ⟨sym, ds.map TD.t⟩ pass salt rounds).1 /\
    ds'.map TD.t = (strX ⟨sym, ds.map TD.t⟩ pass salt rounds).2.ts /\ Ost.Own 6 258 CL' la' ds'.length lc' (ds'.flatMap TD.vs) /\ (∀ d ∈ ds', d.ok (B ++ (J ++ J2))) /\ A = [O, rbB b sym la' ds'.length lc', CL', B, J, J2, G, Pc, Sc] := by
  unfold strX;refine eN func84 ntmps84 results84 fun F => ?_
  refine zB ?_;refine zB ?_;refine gg ?_;rw [decide_eq_false (show ¬ (rounds : Int) < 1 by omega)];refine gg ?_;rw [decide_eq_false (show ¬ (64 : Int) < rounds by omega)];refine gg ?_
  cases sym with
  | true =>
   rw [if_pos rfl];refine gg ?_;refine cA (qG Pc pa pc pass (by omega) hp3) ?_; rintro v A ⟨J, ja, jc, rfl, hJ, rfl⟩; refine gA ?_;refine cA (qG Sc sa sc salt (by omega) hs3) ?_; rintro v A ⟨J2, ia, ic, rfl, hJ2, rfl⟩; refine gA ?_;refine oT [(0, .int .i64 3), (1, .slice ja pass.length jc), (2, .slice ia salt.length ic), (3, .int .i64 rounds)] (tmV ⟨3, pass, salt, rounds⟩ ja jc ia ic).toArray ?_;refine gg ?_;refine cA (YN ⟨3, pass, salt, rounds⟩ (hJ.rd (aB ..)) (hJ2.rd (aB ..)) b true ds hts hL hB) ?_; rintro v A ⟨O, oa, oc, la', lc', CL', ds', rfl, hO, hm', hL', hB', rfl⟩; refine gA ?_;refine zb [O, rbB b true la' ds'.length lc', CL', B, J, J2, G, Pc, Sc] ?_;exact ⟨O, J, J2, oa, oc, la', lc', CL', ds', rfl, hO, hm', hL', hB', rfl⟩
  | false =>
   rw [if_neg (by simp)];refine gg ?_;refine cA (Xe hg Pc Sc pa sa pc sc pass salt rounds 32 hr1 hr2 (by decide) (by decide) hp1 hp2 hp3 hs1 hs2 hs3) ?_; rintro v A ⟨O, oa, oc, rfl, hO, rfl⟩; refine gA ?_;refine zb [O, rbB b false la ds.length lc, CL, B, [], [], G, Pc, Sc] ?_;exact ⟨O, [], [], oa, oc, la, lc, CL, ds, rfl, hO, rfl, hL, fun d hd => ⟨rd_l (hB d hd).1, rd_l (hB d hd).2⟩, rfl⟩
 refine Meets.conv [rbB b sym la ds.length lc, CL, B, G, Pc, Sc] (k) flA tkA ?_; rintro v A ⟨O, J, J2, oa, oc, la', lc', CL', ds', rfl, hO, hm', hL', hB', rfl⟩;exact ⟨[O, rbB b sym la' ds'.length lc' ++ (CL' ++ (B ++ (J ++ J2))), G, Pc, Sc], [O, rbB b sym la' ds'.length lc', CL', B, J, J2, G, Pc, Sc], flA, amA, O, _, oa, oc, rfl, hO, ⟨la', lc', CL', B ++ (J ++ J2), ds', hm', by rw [(Ze ⟨sym, ds.map TD.t⟩ pass salt rounds).2], hL', hB'⟩, rfl⟩
open Go.Nam
theorem Zo (a : Option Addr) (c : Nat) : Meets prog 83 [.slice a 1 c, .int .i64 1] [] fun v A => v = .bool true /\ A = [] := by
 refine eN func83 ntmps83 results83 fun F => ?_
 refine gg ?_;refine zb [] ?_; exact ⟨rfl, rfl⟩
instance tpRSec : zH prog 82 [(0, 1), (1, 1), (2, 1), (3, 1), (4, 1)] := ⟨by kernel_rfl⟩
theorem Og {G : Chunk} (hg : qJ G) {C S : Chunk} {b : Nat} {x : BX} (hC : RBox C b x) (hts : x.ts.length <= 900) (u p n q : List UInt8) (hu : u.length <= 1000) (hp : p.length <= 1000) (hnl : n.length <= 1000) (hql : q.length <= 1000) (hun : xR u 32 = (n, 0)) (hpq : xR p 64 = (q, 0)) {sa : Option Addr} {sc : Nat} (hsc : 1 <= sc) (hS : Rd 1 [S] sa 1 (([1] : List UInt8).map b8)) :
  Meets prog 31 [.pointer (some ⟨b, 0, none⟩), .string (str [116]), .string (str u), .string (str p), .slice sa 1 sc, .int .i64 1] [C, G, S]
  fun v A => ∃ (W0 W1 W2 W3 C' : Chunk) (vs : List Value), v = .tuple #[.agg vs.toArray, .int .i64 0] /\ SecW (W0 ++ (W1 ++ (W2 ++ W3))) vs (qf x n q).1 /\ RBox C' b (qf x n q).2 /\ A = [W0, W1, W2, W3, C', G, S] := by
 have hnm := vy u (by omega) 32 (by decide);have hpw := vy p (by omega) 64 (by decide);rw [hun] at hnm;rw [hpq] at hpw;refine eN func31 ntmps31 results31 fun F => ?_
 refine gg ?_;refine oA ([.slice none 0 0, .int .i64 0, .slice none 0 0, .slice none 0 0, .slice none 0 0] : List Value).toArray fun b12 => ?_
 refine gg ?_;refine cA (Zr [116] (by decide)) ?_; rintro v A ⟨rfl, rfl⟩; refine gA ?_;rw [show vd [116] = true from by decide +kernel];refine gg ?_;refine cA (hnm) ?_; rintro v A ⟨rfl, rfl⟩; refine gA ?_;refine cA (hpw) ?_; rintro v A ⟨rfl, rfl⟩; refine gA ?_;refine cA (Zo sa sc) ?_; rintro v A ⟨rfl, rfl⟩; refine gA ?_;refine zf fun K hK => ?_; refine zK (by simp only [maxLen]; omega) (fun Q qa qc hQ => ?_); refine hK _ _ ?_; clear hK K
 refine gg ?_;have kl1 := YB x q [1] 1;have kt := Ze x q [1] 1;refine cA (rstr_spec hg (by omega) hQ.1 (hQ.rd (aB ..)) (by decide) hsc hS 1 (by decide) (by decide) hC (by omega)) ?_; rintro v A ⟨Kk, C1, ka, kc, rfl, hKk, hC1, rfl⟩; refine gA ?_;unfold qf;simp only;generalize strX x q [1] 1 = k at *;refine zf fun K hK => ?_; refine zX ([67, 108, 105, 101, 110, 116, 32, 75, 101, 121]) (by decide) rfl (rfl) (fun b55 C55 ho55 => ?_); refine hK _ _ ?_; clear hK K
 refine gg ?_;refine zf fun K hK => ?_; refine wN ho55 pkA (by decide) (fun C56 ho56 => ?_); refine hK _ _ ?_; clear hK K
 refine gg ?_;have cl1 := yP k.2 k.1 tagC;have ct := kd k.2 k.1 tagC;refine cA (QE hg kl1 hKk.1 (hKk.rd (aB ..)) (m := tagC) (by decide) (ho56.rd (aB ..)) hC1 (by omega)) ?_; rintro v A ⟨M, C2, ma, mc, rfl, hM, hC2, rfl⟩; refine gA ?_;generalize macX k.2 k.1 tagC = c at *;refine cA (qG S sa sc [1] (by decide) hS) ?_; rintro v A ⟨W0, wa, wc, rfl, hW0, rfl⟩; refine gA ?_;refine oT [(0, .slice wa ([1] : List UInt8).length wc), (1, .int .i64 1)] ([.slice wa ([1] : List UInt8).length wc, .int .i64 1, .slice none 0 0, .slice none 0 0, .slice none 0 0] : List Value).toArray ?_;refine gg ?_;refine oA ([.slice none 0 0, .int .i64 0, .slice none 0 0, .slice none 0 0, .slice none 0 0] : List Value).toArray fun b19 => ?_
 refine gg ?_
 refine zf fun K hK => ?_; refine xG (vs := [.slice wa ([1] : List UInt8).length wc, .int .i64 1, .slice none 0 0, .slice none 0 0, .slice none 0 0]) rfl (by
  intro v hv;simp only [bA, aX, or_false] at hv
  rcases hv with rfl | rfl | rfl | rfl | rfl <;> simp [Value.cell1]) upA (by rfl) ?_; refine hK _ _ ?_; clear hK K
 refine gg ?_;have hl1 := jH c.2 c.1;have ht := xU c.2 c.1;refine cA (qZ hg (by omega) (hM.rd (aB ..)) hC2 (by omega)) ?_; rintro v A ⟨W1, C3, va, vc, rfl, hW1, hC3, rfl⟩; refine gA ?_;generalize xl c.2 c.1 = h at *;refine gM ?_;refine zf fun K hK => ?_; refine zX ([83, 101, 114, 118, 101, 114, 32, 75, 101, 121]) (by decide) rfl (rfl) (fun b68 C68 ho68 => ?_); refine hK _ _ ?_; clear hK K
 refine gg ?_;refine zf fun K hK => ?_; refine wN ho68 pkA (by decide) (fun C69 ho69 => ?_); refine hK _ _ ?_; clear hK K
 refine gg ?_;have sl1 := yP h.2 k.1 tagS;have st := kd h.2 k.1 tagS;refine cA (QE hg kl1 hKk.1 (hKk.rd (aB ..)) (m := tagS) (by decide) (ho69.rd (aB ..)) hC3 (by omega)) ?_; rintro v A ⟨W2, C4, ua, uc, rfl, hW2, hC4, rfl⟩; refine gA ?_;generalize macX h.2 k.1 tagS = s at *;refine gM ?_;have s58 : Value.string ⟨#[58]⟩ = .string (str [58]) := rfl;rw [s58];refine zf fun K hK => ?_; rw [zF (by rw [aI]; omega)]; refine hK _ _ ?_; clear hK K
 refine gg ?_;refine zf fun K hK => ?_; rw [zF (by rw [aA, aI, aI]; omega)]; refine hK _ _ ?_; clear hK K
 refine gg ?_
 (try rw [s58])
 refine zf fun K hK => ?_; rw [zF (by rw [aA, aA, aI, aI]; omega)]; refine hK _ _ ?_; clear hK K
 refine gg ?_;refine zf fun K hK => ?_; rw [zF (by rw [aA, aA, aA, aI, aI]; omega)]; refine hK _ _ ?_; clear hK K
 refine gg ?_;rw [show n ++ [58] ++ [116] ++ [58] ++ q = xq n [116] q from rfl];have hcl : (xq n [116] q).length <= 3000 := by unfold xq; simp only [aA, aI]; omega
 refine zf fun K hK => ?_; refine zK (by simp only [maxLen]; omega) (fun X xa xc hX => ?_); refine hK _ _ ?_; clear hK K
 refine gg ?_;have al1 := jH s.2 (xq n [116] q);have at_ := xU s.2 (xq n [116] q);refine cA (qZ hg (by omega) (hX.rd (aB ..)) hC4 (by omega)) ?_; rintro v A ⟨W3, C5, ya, yc, rfl, hW3, hC5, rfl⟩; refine gA ?_;generalize xl s.2 (xq n [116] q) = a at *;refine gM ?_
 have hvc : ∀ v ∈ ([.slice wa ([1] : List UInt8).length wc, .int .i64 1, .slice va h.1.length vc, .slice ua s.1.length uc, .slice ya a.1.length yc] : List Value), Value.cell1 v := by
  intro v hv;simp only [bA, aX, or_false] at hv
  rcases hv with rfl | rfl | rfl | rfl | rfl <;> simp [Value.cell1]
 refine oL [.slice wa ([1] : List UInt8).length wc, .int .i64 1, .slice va h.1.length vc, .slice ua s.1.length uc, .slice ya a.1.length yc] rfl ?_;refine gg ?_;refine oS [.slice wa ([1] : List UInt8).length wc, .int .i64 1, .slice va h.1.length vc, .slice ua s.1.length uc, .slice ya a.1.length yc] rfl hvc ?_;refine gg ?_;refine ze (vs := [.agg ([.slice wa ([1] : List UInt8).length wc, .int .i64 1, .slice va h.1.length vc, .slice ua s.1.length uc, .slice ya a.1.length yc] : List Value).toArray, .int .i64 0]) [W0, W1, W2, W3, C5, G, S] ?_ (hr := by (intro κ hκ; simp only [resW, withV, lookT_hit, lookT_miss, aG]; exact zi (vs := [.slice wa ([1] : List UInt8).length wc, .int .i64 1, .slice va h.1.length vc, .slice ua s.1.length uc, .slice ya a.1.length yc]) lkA rfl hκ));exact ⟨W0, W1, W2, W3, C5, _, rfl, ⟨wa, va, ua, ya, wc, vc, uc, yc, rfl, ⟨hW0.1, hW1.1, hW2.1, hW3.1⟩, hl1, sl1, al1, rd_l (hW0.rd (aB ..)), rd_r (rd_l (hW1.rd (aB ..))), rd_r (rd_r (rd_l (hW2.rd (aB ..)))), rd_r (rd_r (rd_r (hW3.rd (aB ..))))⟩, hC5, rfl⟩
theorem Of {G : Chunk} (hg : qJ G) {C S : Chunk} {b : Nat} {x : BX} (hC : RBox C b x) (hts : x.ts.length <= 900) (u p n q : List UInt8) (hu : u.length <= 1000) (hp : p.length <= 1000) (hnl : n.length <= 1000) (hql : q.length <= 1000) (hun : xR u 32 = (n, 0)) (hpq : xR p 64 = (q, 0)) {sa : Option Addr} {sc : Nat} (hsc : 1 <= sc) (hS : Rd 1 [S] sa 1 (([1] : List UInt8).map b8)) :
  Meets prog 31 [.pointer (some ⟨b, 0, none⟩), .string (str [116]), .string (str u), .string (str p), .slice sa 1 sc, .int .i64 1] [C, G, S]
  fun v A => ∃ (W C' : Chunk) (vs : List Value), v = .tuple #[.agg vs.toArray, .int .i64 0] /\ SecW W vs (qf x n q).1 /\ RBox C' b (qf x n q).2 /\ A = [W, C', G, S] :=
 (Og hg hC hts u p n q hu hp hnl hql hun hpq hsc hS).perm (by simp) (fun v A' ⟨W0, W1, W2, W3, C', vs, hv, hW, hC', hA⟩ => ⟨[W0 ++ (W1 ++ (W2 ++ W3)), C', G, S], by rw [hA]; simp, _, C', vs, hv, hW, hC', rfl⟩)
abbrev stB (s r1 : Nat) (last reads : Int) : Chunk := [(s, .cells #[.map (some r1), .int .u64 last, .int .u64 reads] 158 (0, 0))]
abbrev credV (n : List UInt8) (vs : List Value) (gen : Int) (rev : Bool) : List Value := .string (str [116]) :: .string (str n) :: (vs ++ [.int .u64 gen, .slice none 0 0, .bool rev])
abbrev crB (p : Nat) (n : List UInt8) (vs : List Value) (gen : Int) (rev : Bool) : Chunk := [(p, .cells (credV n vs gen rev).toArray 48 (0, 0))]
abbrev tenM (r2 : Nat) : List (List UInt8 × Value) := [([116], .map (some r2))]
instance tpSt : zH prog 158 [(0, 1), (1, 1), (2, 1)] := ⟨by kernel_rfl⟩
section
variable {P : Program}
theorem wM {t k e : TypeId} (h : TMap P t k e) (d : Nat) (a : Option Nat) (w : World) : (Op.equalIn (d + 1) t (.map a) (.map none)).run P w = .ok a.isNone w := by
 rw [Op.equalIn, Sem.run_bind, zx h.und]
 cases a <;> rfl
theorem map_eqlN {t k e : TypeId} {x y : Operand} {κ : Value -> Prop} [h : TMap P t k e] (a : Option Nat) :
  PureW P (do eqGuard .eql t x y (.map a) (.map none); binOp .eql t (.map a) (.map none)) κ = κ (.bool a.isNone) :=
 zm (fun w => by
  have e : (do eqGuard .eql t x y (.map a) (.map none); binOp .eql t (.map a) (.map none) : Sem Value) = (do pure (.bool (<- Op.equalIn (9999 + 1) t (.map a) (.map none)))) := by
   cases a <;> rfl
  rw [e, Sem.run_bind, wM h]; rfl) κ
theorem map_neqN {t k e : TypeId} {x y : Operand} {κ : Value -> Prop} [h : TMap P t k e] (a : Option Nat) :
  PureW P (do eqGuard .neq t x y (.map a) (.map none); binOp .neq t (.map a) (.map none)) κ = κ (.bool a.isSome) :=
 zm (fun w => by
  have e : (do eqGuard .neq t x y (.map a) (.map none); binOp .neq t (.map a) (.map none) : Sem Value) = (do pure (.bool (!(<- Op.equalIn (9999 + 1) t (.map a) (.map none))))) := by
   cases a <;> rfl
  rw [e, Sem.run_bind, wM h]; cases a <;> rfl) κ
end
theorem cnew_spec : Meets prog 27 [] [] fun v A => ∃ s r1 M1, v = .pointer (some ⟨s, 0, none⟩) /\ xK M1 r1 [] /\ A = [stB s r1 0 0, M1] := by
 refine eN func27 ntmps27 results27 fun F => ?_
 refine gg ?_;refine zf fun K hK => ?_; refine JM fun r1 M1 hM => ?_; refine hK _ _ ?_; clear hK K
 refine gg ?_;refine oT [(0, .map (some r1))] ([.map (some r1), .int .u64 0, .int .u64 0] : List Value).toArray ?_;refine gg ?_;refine oB fun s => ?_
 refine gg ?_;refine zb [stB s r1 0 0, M1] ?_;exact ⟨s, r1, M1, rfl, hM, rfl⟩
theorem Xl {s r1 r2 : Nat} {last reads : Int} {M1 : Chunk} (h1 : xK M1 r1 (tenM r2)) : Meets prog 72 [.pointer (some ⟨s, 0, none⟩), .string (str [116])] [stB s r1 last reads, M1] fun v A => v = .map (some r2) /\ A = [stB s r1 last reads, M1] := by
 refine eN func72 ntmps72 results72 fun F => ?_
 refine gg ?_;rw [show mget (tenM r2) [116] = some (.map (some r2)) from by simp [mget, tenM]];refine zb [stB s r1 last reads, M1] ?_; exact ⟨rfl, rfl⟩
theorem Ym {s r1 : Nat} {last reads : Int} {M1 : Chunk} (h1 : xK M1 r1 []) : Meets prog 28 [.pointer (some ⟨s, 0, none⟩), .string (str [116])] [stB s r1 last reads, M1]
  fun v A => ∃ r2 M1' M2, v = .int .i64 0 /\ xK M1' r1 (tenM r2) /\ xK M2 r2 [] /\ A = [stB s r1 last reads, M1', M2] := by
 have hus : Meets prog 72 [.pointer (some ⟨s, 0, none⟩), .string (str [116])] [stB s r1 last reads, M1] fun v A => v = .map none /\ A = [stB s r1 last reads, M1] := by
  refine eN func72 ntmps72 results72 fun F => ?_
  refine gg ?_;rw [show mget ([] : List (List UInt8 × Value)) [116] = none from rfl];refine zb [stB s r1 last reads, M1] ?_; exact ⟨rfl, rfl⟩
 refine eN func28 ntmps28 results28 fun F => ?_
 refine gg ?_;refine cA (kx [116] (by decide)) ?_; rintro v A ⟨rfl, rfl⟩; refine gA ?_;rw [show vd [116] = true from by decide +kernel];refine gg ?_;refine cA (hus) ?_; rintro v A ⟨rfl, rfl⟩; refine gA ?_;refine zf fun K hK => ?_; rw [map_neqN]; refine hK _ _ ?_; clear hK K
 refine gg ?_;refine zf fun K hK => ?_; refine JM fun r2 M2 hM2 => ?_; refine hK _ _ ?_; clear hK K
 refine gg ?_;refine zf fun K hK => ?_; refine JL h1 pkA (fun M1' hM1 => ?_); refine hK _ _ ?_; clear hK K
 refine gg ?_;refine zb [stB s r1 last reads, M1', M2] ?_;exact ⟨r2, M1', M2, rfl, hM1, hM2, rfl⟩
theorem Qm {s r1 p : Nat} {last reads gen : Int} {n : List UInt8} {vs : List Value} {rev : Bool} (hvl : vs.length = 5) (h0 : 0 <= last) (h1 : last < 1000000) : Meets prog 59 [.pointer (some ⟨s, 0, none⟩), .pointer (some ⟨p, 0, none⟩)] [stB s r1 last reads, crB p n vs gen rev]
  fun v A => v = .int .i64 0 /\ A = [stB s r1 (last + 1) reads, crB p n vs (last + 1) rev] := by
 obtain ⟨v0, v1, v2, v3, v4, rfl⟩ : ∃ v0 v1 v2 v3 v4, vs = [v0, v1, v2, v3, v4] := by
  match vs, hvl with
  | [a, b, c, d, e], _ => exact ⟨a, b, c, d, e, rfl⟩
 simp only [crB, credV, aC, aD];refine eN func59 ntmps59 results59 fun F => ?_
 refine gg ?_;refine zb [stB s r1 (last + 1) reads, crB p n [v0, v1, v2, v3, v4] (last + 1) rev] ?_; exact ⟨rfl, rfl⟩
theorem get_spec {s r1 r2 : Nat} {last reads : Int} {M1 M2 G : Chunk} {m : List (List UInt8 × Value)} (hn : GNam G) (h1 : xK M1 r1 (tenM r2)) (h2 : xK M2 r2 m) (u : List UInt8) (hu : u.length <= 100000) :
  Meets prog 58 [.pointer (some ⟨s, 0, none⟩), .string (str [116]), .string (str u)] [stB s r1 last reads, M1, M2, G]
  fun v A => v = (if (xR u 32).2 = 0 then (mget m (xR u 32).1).getD (.pointer none) else .pointer none) /\ A = [stB s r1 last reads, M1, M2, G] := by
 refine eN func58 ntmps58 results58 fun F => ?_
 refine gg ?_;refine cA (wE hn u hu) ?_; rintro v A ⟨rfl, rfl⟩; refine gA ?_
 by_cases h0 : (xR u 32).2 = 0
 ·rw [if_pos h0, h0];refine gg ?_;refine cA (Xl h1) ?_; rintro v A ⟨rfl, rfl⟩; refine gA ?_;refine zb [stB s r1 last reads, M1, M2, G] ?_; exact ⟨rfl, rfl⟩
 ·rw [if_neg h0, bne_iff_ne.2 h0];refine gg ?_;refine zb [stB s r1 last reads, M1, M2, G] ?_; exact ⟨rfl, rfl⟩
theorem Kg (a0 a1 a2 a3 : Option Addr) (c0 c1 c2 c3 n1 n2 n3 : Nat) (h1 : n1 = 32) (h2 : n2 = 32) (h3 : n3 = 32) : Meets prog 88 [.agg ([.slice a0 1 c0, .int .i64 1, .slice a1 n1 c1, .slice a2 n2 c2, .slice a3 n3 c3] : List Value).toArray] [] fun v A => v = .bool true /\ A = [] := by
 subst h1 h2 h3;refine eN func88 ntmps88 results88 fun F => ?_
 refine gg ?_;refine oB fun b1 => ?_
 refine gg ?_;refine cA (Xw a0 c0) ?_; rintro v A ⟨rfl, rfl⟩; refine gA ?_;refine zb [] ?_; exact ⟨rfl, rfl⟩
theorem Ob {W : Chunk} {vs : List Value} {s : Sec} (hW : SecW W vs s) : Meets prog 89 [.agg vs.toArray] [W]
  fun v A => ∃ (W0 W1 W2 W3 : Chunk) (vs' : List Value), v = .agg vs'.toArray /\ SecW (W0 ++ (W1 ++ (W2 ++ W3))) vs' s /\ A = [W0, W1, W2, W3, W] := by
 obtain ⟨a0, a1, a2, a3, c0, c1, c2, c3, rfl, ⟨k0, k1, k2, k3⟩, l1, l2, l3, r0, r1, r2, r3⟩ := hW;refine eN func89 ntmps89 results89 fun F => ?_
 refine gg ?_;refine oB fun b1 => ?_
 refine gg ?_;refine oA ([.slice none 0 0, .int .i64 0, .slice none 0 0, .slice none 0 0, .slice none 0 0] : List Value).toArray fun b2 => ?_
 refine gg ?_;refine cdL [[0], [1], [3], [4], [6], [7], [9], [10], [2, 0, 4, 7, 10], [12], [5, 0, 7, 10], [8, 0, 10], [11, 0], [13, 0], [14], [15, 0], [16], [17, 0], [18], [19, 0]] ?_;refine gg ?_;refine zg fun K hK => ?_; refine zo (xA W a0 c0 [1] (by decide) r0) ?_; rintro v A ⟨C3, d0, e0, rfl, ho3, rfl⟩; refine pA hK ?_; clear hK K
 refine gg ?_;refine zg fun K hK => ?_; refine zo (xA W a1 c1 s.st (by omega) r1) ?_; rintro v A ⟨C4, d1, e1, rfl, ho4, rfl⟩; refine pA hK ?_; clear hK K
 refine gg ?_;refine zg fun K hK => ?_; refine zo (xA W a2 c2 s.sv (by omega) r2) ?_; rintro v A ⟨C5, d2, e2, rfl, ho5, rfl⟩; refine pA hK ?_; clear hK K
 refine gg ?_;refine zg fun K hK => ?_; refine zo (xA W a3 c3 s.ha (by omega) r3) ?_; rintro v A ⟨C6, d3, e3, rfl, ho6, rfl⟩; refine pA hK ?_; clear hK K
 refine gg ?_
 (try (refine zg fun K hK => ?_; (first | refine zZ trivial upA ?_ | refine zJ trivial upA (by simp) ?_); refine pBk hK ?_; clear hK K; refine gg ?_))
 (try (refine zg fun K hK => ?_; (first | refine zZ trivial upA ?_ | refine zJ trivial upA (by simp) ?_); refine pBk hK ?_; clear hK K; refine gg ?_))
 (try (refine zg fun K hK => ?_; (first | refine zZ trivial upA ?_ | refine zJ trivial upA (by simp) ?_); refine pBk hK ?_; clear hK K; refine gg ?_))
 (try (refine zg fun K hK => ?_; (first | refine zZ trivial upA ?_ | refine zJ trivial upA (by simp) ?_); refine pBk hK ?_; clear hK K; refine gg ?_))
 refine gM ?_
 have hc1 : ∀ u ∈ ([.slice d0 ([1] : List UInt8).length e0, .int .i64 1, .slice d1 s.st.length e1, .slice d2 s.sv.length e2, .slice d3 s.ha.length e3] : List Value), Value.cell1 u := by
  intro u hu;simp only [bA, aX, or_false] at hu
  rcases hu with rfl | rfl | rfl | rfl | rfl <;> simp [Value.cell1]
 refine oL [.slice d0 ([1] : List UInt8).length e0, .int .i64 1, .slice d1 s.st.length e1, .slice d2 s.sv.length e2, .slice d3 s.ha.length e3] rfl ?_;refine oS [.slice d0 ([1] : List UInt8).length e0, .int .i64 1, .slice d1 s.st.length e1, .slice d2 s.sv.length e2, .slice d3 s.ha.length e3] rfl hc1 ?_;refine gg ?_;refine ze (vs := [.agg ([.slice d0 ([1] : List UInt8).length e0, .int .i64 1, .slice d1 s.st.length e1, .slice d2 s.sv.length e2, .slice d3 s.ha.length e3] : List Value).toArray]) [C3, C4, C5, C6, W] ?_ (hr := by (intro κ hκ; simp only [resW, withV, lookT_hit, lookT_miss, aG]; exact zi (vs := [.slice d0 ([1] : List UInt8).length e0, .int .i64 1, .slice d1 s.st.length e1, .slice d2 s.sv.length e2, .slice d3 s.ha.length e3]) lkA rfl hκ));exact ⟨C3, C4, C5, C6, _, rfl, ⟨d0, d1, d2, d3, e0, e1, e2, e3, rfl, ⟨ho3.1, ho4.1, ho5.1, ho6.1⟩, l1, l2, l3, rd_l (ho3.rd (aB ..)), rd_r (rd_l (ho4.rd (aB ..))), rd_r (rd_r (rd_l (ho5.rd (aB ..)))), rd_r (rd_r (rd_r (ho6.rd (aB ..))))⟩, rfl⟩
theorem QX {α : Type} (k : List UInt8) (v : α) : ∀ m : List (List UInt8 × α), mget (mput m k v) k = some v
 | [] => by simp [mput, mget]
 | (k', u) :: m => by
  simp only [mput]
  split
  ·simp [mget]
  ·rename_i h
   simp only [mget, if_neg h];exact QX k v m
theorem Xv {W : Chunk} {vs : List Value} {s : Sec} (hW : SecW W vs s) : Meets prog 89 [.agg vs.toArray] [W]
  fun v A => ∃ (W' : Chunk) (vs' : List Value), v = .agg vs'.toArray /\ SecW W' vs' s /\ A = [W', W] :=
 (Ob hW).perm (by simp) (fun v A' ⟨W0, W1, W2, W3, vs', hv, hW', hA⟩ => ⟨[W0 ++ (W1 ++ (W2 ++ W3)), W], by rw [hA]; simp, _, vs', hv, hW', rfl⟩)
theorem jF {W : Chunk} {vs : List Value} {s : Sec} (hW : SecW W vs s) : vs.length = 5 /\ ∀ v ∈ vs, Value.cell1 v := by
 obtain ⟨a0, a1, a2, a3, c0, c1, c2, c3, rfl, _⟩ := hW;refine ⟨rfl, fun v hv => ?_⟩;simp only [bA, aX, or_false] at hv
 rcases hv with rfl | rfl | rfl | rfl | rfl <;> simp [Value.cell1]
instance tpCr : zH prog 48 [(0, 1), (1, 1), (2, 5), (7, 1), (8, 1), (9, 1)] := ⟨by kernel_rfl⟩
theorem add_spec {s r1 r2 : Nat} {last reads : Int} {M1 M2 G W : Chunk} {m : List (List UInt8 × Value)} (hn : GNam G) (h1 : xK M1 r1 (tenM r2)) (h2 : xK M2 r2 m) (hml : m.length < 32) (hl0 : 0 <= last) (hl1 : last < 1000) (u n : List UInt8) (hu : u.length <= 1000) (hun : xR u 32 = (n, 0)) (hno : mget m n = none) {vs : List Value} {sec : Sec} (hW : SecW W vs sec) :
  Meets prog 32 [.pointer (some ⟨s, 0, none⟩), .string (str [116]), .string (str u), .agg vs.toArray] [stB s r1 last reads, M1, M2, G, W]
  fun v A => ∃ p M2' W' vs', v = .int .i64 0 /\ xK M2' r2 (mput m n (.pointer (some ⟨p, 0, none⟩))) /\ SecW W' vs' sec /\ A = [stB s r1 (last + 1) reads, M1, M2', crB p n vs' (last + 1) false, W', G, W] := by
 have hnm := wE hn u (by omega);rw [hun] at hnm;obtain ⟨hvl, hvc⟩ := jF hW;have hr := hW;obtain ⟨a0, a1, a2, a3, c0, c1, c2, c3, rfl, _, l1, l2, l3, _⟩ := hr;refine eN func32 ntmps32 results32 fun F => ?_
 refine gg ?_;refine oB fun b7 => ?_
 refine gg ?_;refine cA (Xl h1) ?_; rintro v A ⟨rfl, rfl⟩; refine gA ?_;refine zf fun K hK => ?_; rw [map_eqlN]; refine hK _ _ ?_; clear hK K
 refine gg ?_;refine cA (hnm) ?_; rintro v A ⟨rfl, rfl⟩; refine gA ?_;refine oL [.slice a0 1 c0, .int .i64 1, .slice a1 sec.st.length c1, .slice a2 sec.sv.length c2, .slice a3 sec.ha.length c3] rfl ?_;refine gg ?_;refine cA (Kg a0 a1 a2 a3 c0 c1 c2 c3 _ _ _ l1 l2 l3) ?_; rintro v A ⟨rfl, rfl⟩; refine gA ?_;rw [hno];simp only [Option.getD_none];refine gg ?_;rw [decide_eq_false (show ¬ (32 : Int) <= m.length by omega)];refine gg ?_;rw [decide_eq_false (show ¬ (9007199254740992 : Int) <= last by omega)];refine gg ?_;refine oL [.slice a0 1 c0, .int .i64 1, .slice a1 sec.st.length c1, .slice a2 sec.sv.length c2, .slice a3 sec.ha.length c3] rfl ?_;refine gg ?_;refine cA (Xv hW) ?_; rintro v A ⟨W', vs', rfl, hW', rfl⟩; refine gA ?_;have hW2 := hW';obtain ⟨e0, e1, e2, e3, f0, f1, f2, f3, rfl, _⟩ := hW2;refine oT [(0, .string (str [116])), (1, .string (str n)), (2, .agg ([.slice e0 1 f0, .int .i64 1, .slice e1 sec.st.length f1, .slice e2 sec.sv.length f2, .slice e3 sec.ha.length f3] : List Value).toArray)] (credV n [.slice e0 1 f0, .int .i64 1, .slice e1 sec.st.length f1, .slice e2 sec.sv.length f2, .slice e3 sec.ha.length f3] 0 false).toArray ?_;refine gg ?_;refine oB fun p => ?_
 refine gg ?_;refine zf fun K hK => ?_; refine JL h2 pkA (fun M2' hM2 => ?_); refine hK _ _ ?_; clear hK K
 refine gg ?_;rw [QX];simp only [cI];refine cA (Qm (s := s) (r1 := r1) (p := p) (reads := reads) (gen := 0) (n := n) (vs := [.slice e0 1 f0, .int .i64 1, .slice e1 sec.st.length f1, .slice e2 sec.sv.length f2, .slice e3 sec.ha.length f3]) (rev := false) rfl hl0 (by omega)) ?_; rintro v A ⟨rfl, rfl⟩; refine gA ?_;refine zb [stB s r1 (last + 1) reads, M1, M2', crB p n [.slice e0 1 f0, .int .i64 1, .slice e1 sec.st.length f1, .slice e2 sec.sv.length f2, .slice e3 sec.ha.length f3] (last + 1) false, W', G, W] ?_;exact ⟨p, M2', W', _, rfl, hM2, hW', rfl⟩
abbrev rsB (s : Nat) (ta : Option Addr) (tn tc : Nat) (la : Option Addr) (ln lc : Nat) (last reads : Int) : Chunk := [(s, .cells #[.slice ta tn tc, .slice la ln lc, .int .u64 last, .int .u64 reads] 95 (0, 0))]
abbrev In (C : Chunk) (a : Option Addr) (c : Nat) : Prop := Ost.Own 1 9 C a 1 c [.string (str [116])]
theorem in_none : Meets prog 74 [.slice none 0 0, .string (str [116])] [] fun v A => v = .bool false /\ A = [] := by
 refine eN func74 ntmps74 results74 fun F => ?_
 refine gg ?_;refine zz (fun q D L S => q = 0 /\ D = [] /\ L = [(9, .int .i64 0), (8, .int .i64 0)] /\ S = [F]) ⟨rfl, rfl, rfl, rfl⟩ ?_;rintro q D L S ⟨rfl, rfl, rfl, rfl⟩;refine gg ?_;refine zb [] ?_; exact ⟨rfl, rfl⟩
theorem in_one {T : Chunk} {a : Option Addr} {c : Nat} (hT : In T a c) : Meets prog 74 [.slice a 1 c, .string (str [116])] [T] fun v A => v = .bool true /\ A = [T] := by
 refine eN func74 ntmps74 results74 fun F => ?_
 refine gg ?_;refine zz (fun q D L S => q = 1 /\ D = [] /\ L = [(9, .int .i64 0), (8, .int .i64 1), (7, .slice a 1 c), (1, .string (str [116]))] /\ S = [F, T]) ⟨rfl, rfl, rfl, rfl⟩ ?_;rintro q D L S ⟨rfl, rfl, rfl, rfl⟩;refine gg ?_
 (try rw [show Int.toNat 0 = 0 from rfl])
 refine zf fun K hK => ?_; refine qN (i := 0) hT rfl mmA ?_; refine hK _ _ ?_; clear hK K
 refine gg ?_;refine zb [T] ?_; exact ⟨rfl, rfl⟩
theorem put_none : Meets prog 75 [.slice none 0 0, .string (str [116])] [] fun v A => ∃ T a c, v = .slice a 1 c /\ In T a c /\ A = [T] := by
 refine eN func75 ntmps75 results75 fun F => ?_
 refine zB ?_;refine gg ?_;refine zz (fun q D L S => q = 0 /\ D = [] /\ L = [(5, .int .i64 0), (0, .slice none 0 0), (1, .string (str [116]))] /\ S = [[], F]) ⟨rfl, rfl, rfl, rfl⟩ ?_;rintro q D L S ⟨rfl, rfl, rfl, rfl⟩;refine gg ?_;refine kC 0 4 6 [[], [], [], [1, 2], [0, 1, 2, 3], [], [0, 1, 2, 3, 4, 5], [0, 1, 2, 3, 4, 5, 6], [], [], [8, 9], [0, 1, 2, 3, 4, 5, 6, 7, 8, 9, 10], [0, 1, 2, 3, 4, 5, 6, 7, 8, 9, 10, 11]] [(1, false, []), (2, false, []), (3, false, []), (5, false, []), (8, false, []), (9, false, []), (10, false, []), (0, true, []), (4, true, []), (6, true, []), (7, true, []), (11, true, []), (12, true, [])] [[], [], [], [1, 2], [0, 1, 2, 3, 5, 6], [], [0, 5], [0, 1, 2, 3, 4, 5, 6], [], [], [8, 9], [0, 1, 2, 3, 4, 5, 6, 7, 8, 9, 10], [0, 1, 2, 3, 4, 5, 6, 7, 8, 9, 10, 11]] [(1, false, []), (2, false, []), (3, false, []), (5, false, []), (8, false, []), (9, false, []), (10, false, []), (0, true, []), (6, true, []), (4, true, []), (7, true, []), (11, true, []), (12, true, [])] [[5, 6], [], [], [1, 2], [0, 1, 2, 3, 5, 6], [], [5], [0, 1, 2, 3, 4, 5, 6], [], [], [8, 9], [0, 1, 2, 3, 4, 5, 6, 7, 8, 9, 10], [0, 1, 2, 3, 4, 5, 6, 7, 8, 9, 10, 11]] [(1, false, []), (2, false, []), (3, false, []), (5, false, []), (8, false, []), (9, false, []), (10, false, []), (6, true, []), (0, true, []), (4, true, []), (7, true, []), (11, true, []), (12, true, [])] ?_ ?_ ?_
 ·refine gg ?_;refine zg fun K hK => ?_; refine xY fun b0 C0 ho0 => ?_; refine hK _ _ ?_; clear hK K
  refine gg ?_;refine zg fun K hK => ?_; refine zn (e := 9) (s := 1) (hs := inferInstance) (by rfl) (by decide) ho0 (.inr pkA) (vs := []) Rd.nil (by simp) (by decide) (by decide) (fun C2 a2 c2 ho2 => ?_); refine hK _ _ ?_; clear hK K
  refine gg ?_;refine zg fun K hK => ?_; refine xZ rfl [.string (str [116])] (by decide) rfl rfl (by simp [Value.cell1]) (fun b1 C1 ho1 => ?_); refine hK _ _ ?_; clear hK K
  refine gg ?_;refine zg fun K hK => ?_; refine zn (e := 9) (s := 1) (hs := inferInstance) (by rfl) (by decide) ho2 (.inr pkA) (ho1.rd mmA) (by simp [Value.cell1]) (by decide) (by decide) (fun C3 a3 c3 ho3 => ?_); refine hK _ _ ?_; clear hK K
  refine gg ?_;refine zg fun K hK => ?_; refine zn (e := 9) (s := 1) (hs := inferInstance) (by rfl) (by decide) ho3 (.inr pkA) (vs := []) Rd.nil (by simp) (by decide) (by decide) (fun C4 a4 c4 ho4 => ?_); refine hK _ _ ?_; clear hK K
  refine gg ?_
  (try (try (refine zg fun K hK => ?_; refine hK _ _ ?_; clear hK K)))
  (try refine gg ?_)
  exact zb [C4] ⟨C4, a4, c4, rfl, ho4, rfl⟩
 ·refine gg ?_;refine zg fun K hK => ?_; refine xY fun b0 C0 ho0 => ?_; refine hK _ _ ?_; clear hK K
  refine gg ?_;refine zg fun K hK => ?_; refine xZ rfl [.string (str [116])] (by decide) rfl rfl (by simp [Value.cell1]) (fun b1 C1 ho1 => ?_); refine hK _ _ ?_; clear hK K
  refine gg ?_;refine zg fun K hK => ?_; refine zn (e := 9) (s := 1) (hs := inferInstance) (by rfl) (by decide) ho0 (.inr pkA) (vs := []) Rd.nil (by simp) (by decide) (by decide) (fun C2 a2 c2 ho2 => ?_); refine hK _ _ ?_; clear hK K
  refine gg ?_;refine zg fun K hK => ?_; refine zn (e := 9) (s := 1) (hs := inferInstance) (by rfl) (by decide) ho2 (.inr pkA) (ho1.rd mmA) (by simp [Value.cell1]) (by decide) (by decide) (fun C3 a3 c3 ho3 => ?_); refine hK _ _ ?_; clear hK K
  refine gg ?_;refine zg fun K hK => ?_; refine zn (e := 9) (s := 1) (hs := inferInstance) (by rfl) (by decide) ho3 (.inr pkA) (vs := []) Rd.nil (by simp) (by decide) (by decide) (fun C4 a4 c4 ho4 => ?_); refine hK _ _ ?_; clear hK K
  refine gg ?_
  (try (try (refine zg fun K hK => ?_; refine hK _ _ ?_; clear hK K)))
  (try refine gg ?_)
  exact zb [C4] ⟨C4, a4, c4, rfl, ho4, rfl⟩
 ·refine gg ?_;refine zg fun K hK => ?_; refine xZ rfl [.string (str [116])] (by decide) rfl rfl (by simp [Value.cell1]) (fun b1 C1 ho1 => ?_); refine hK _ _ ?_; clear hK K
  refine gg ?_;refine zg fun K hK => ?_; refine xY fun b0 C0 ho0 => ?_; refine hK _ _ ?_; clear hK K
  refine gg ?_;refine zg fun K hK => ?_; refine zn (e := 9) (s := 1) (hs := inferInstance) (by rfl) (by decide) ho0 (.inr pkA) (vs := []) Rd.nil (by simp) (by decide) (by decide) (fun C2 a2 c2 ho2 => ?_); refine hK _ _ ?_; clear hK K
  refine gg ?_;refine zg fun K hK => ?_; refine zn (e := 9) (s := 1) (hs := inferInstance) (by rfl) (by decide) ho2 (.inr pkA) (ho1.rd mmA) (by simp [Value.cell1]) (by decide) (by decide) (fun C3 a3 c3 ho3 => ?_); refine hK _ _ ?_; clear hK K
  refine gg ?_;refine zg fun K hK => ?_; refine zn (e := 9) (s := 1) (hs := inferInstance) (by rfl) (by decide) ho3 (.inr pkA) (vs := []) Rd.nil (by simp) (by decide) (by decide) (fun C4 a4 c4 ho4 => ?_); refine hK _ _ ?_; clear hK K
  refine gg ?_
  (try (try (refine zg fun K hK => ?_; refine hK _ _ ?_; clear hK K)))
  (try refine gg ?_)
  exact zb [C4] ⟨C4, a4, c4, rfl, ho4, rfl⟩
theorem QN {s : Nat} {last reads : Int} : Meets prog 29 [.pointer (some ⟨s, 0, none⟩), .string (str [116])] [rsB s none 0 0 none 0 0 last reads]
  fun v A => ∃ T a c, v = .int .i64 0 /\ In T a c /\ A = [rsB s a 1 c none 0 0 last reads, T] := by
 refine eN func29 ntmps29 results29 fun F => ?_
 refine gg ?_;refine cA (Zr [116] (by decide)) ?_; rintro v A ⟨rfl, rfl⟩; refine gA ?_;rw [show vd [116] = true from by decide +kernel];refine gg ?_;refine cA (in_none) ?_; rintro v A ⟨rfl, rfl⟩; refine gA ?_;refine cA (put_none) ?_; rintro v A ⟨T, a, c, rfl, hT, rfl⟩; refine gA ?_;refine gM ?_;refine zb [rsB s a 1 c none 0 0 last reads, T] ?_;exact ⟨T, a, c, rfl, hT, rfl⟩
theorem KC (a0 a1 a2 a3 : Option Addr) (c0 c1 c2 c3 n1 n2 n3 : Nat) (h1 : n1 = 32) (h2 : n2 = 32) (h3 : n3 = 32) : Meets prog 90 [.agg ([.slice a0 1 c0, .int .i64 1, .slice a1 n1 c1, .slice a2 n2 c2, .slice a3 n3 c3] : List Value).toArray] [] fun v A => v = .bool true /\ A = [] := by
 subst h1 h2 h3;refine eN func90 ntmps90 results90 fun F => ?_
 refine gg ?_;refine oB fun b1 => ?_
 refine gg ?_;refine cA (Zo a0 c0) ?_; rintro v A ⟨rfl, rfl⟩; refine gA ?_;refine zb [] ?_; exact ⟨rfl, rfl⟩
structure CD where
 n : List UInt8
 v0 : Value
 v1 : Value
 v2 : Value
 v3 : Value
 v4 : Value
 gen : Int
 rev : Bool
abbrev CD.vs (d : CD) : List Value := [d.v0, d.v1, d.v2, d.v3, d.v4]
abbrev CD.v (d : CD) : List Value := [.string (str [116]), .string (str d.n), d.v0, d.v1, d.v2, d.v3, d.v4, .int .u64 d.gen, .slice none 0 0, .bool d.rev]
def CD.ok (d : CD) : Prop := ∀ v ∈ d.v, Value.cell1 v
theorem cd_len (d : CD) : d.v.length = 10 := rfl
abbrev OwnC (C : Chunk) (a : Option Addr) (c : Nat) (ds : List CD) : Prop := Ost.Own 10 84 C a ds.length c (ds.flatMap CD.v)
theorem WI {ds : List CD} (h : ∀ d ∈ ds, d.ok) : ∀ v ∈ ds.flatMap CD.v, Value.cell1 v := by
 intro v hv;obtain ⟨d, hd, h1⟩ := List.mem_flatMap.1 hv;exact h d hd v h1
instance tpRCr : zH prog 84 [(0, 1), (1, 1), (2, 5), (7, 1), (8, 1), (9, 1)] := ⟨by kernel_rfl⟩
abbrev zcd : List Value := [.string ⟨#[]⟩, .string ⟨#[]⟩, .slice none 0 0, .int .i64 0, .slice none 0 0, .slice none 0 0, .slice none 0 0, .int .u64 0, .slice none 0 0, .bool false]
theorem Ky {s : Nat} {ta la : Option Addr} {tn tc lc : Nat} {last reads : Int} {CL : Chunk} {ds : List CD} (hds : ds.length <= 100) (hok : ∀ d ∈ ds, d.ok) (hL : OwnC CL la lc ds) :
  Meets prog 91 [.pointer (some ⟨s, 0, none⟩), .string (str [116])] [rsB s ta tn tc la ds.length lc last reads, CL] fun v A => ∃ a c, v = .slice a ds.length c /\ A = [rsB s ta tn tc la ds.length lc last reads, CL] := by
 have hs := cd_len;refine eN func91 ntmps91 results91 fun F => ?_
 refine gg ?_;refine zB ?_
 refine zz (fun q D L S => ∃ (i : Nat) (U : Chunk) (ua : Option Addr) (uc : Nat), i <= ds.length /\ OwnC U ua uc (ds.take i) /\ q = ds.length - i /\ D = [] /\
  L = [(15, .int .i64 i), (14, .int .i64 ds.length), (13, .slice la ds.length lc), (5, .slice ua (ds.take i).length uc), (1, .string (str [116]))] /\
  S = [U, F, rsB s ta tn tc la ds.length lc last reads, CL]) ⟨0, [], none, 0, by omega, own_nil, rfl, rfl, rfl, rfl⟩ ?_
 rintro q D L S ⟨i, U, ua, uc, hi, hU, rfl, rfl, rfl, rfl⟩;refine gg ?_;refine if_d (fun hc => ?_) (fun hc => ?_)
 ·have hil : i < ds.length := by omega
  have hx0 : ds[i]? = some ds[i] := aF hil;have hdo := hok _ (dD hil);have hnx : ds.take (i + 1) = ds.take i ++ [ds[i]] := by rw [cC, hx0]; rfl
  have htl : (ds.take i).length <= 100 := by rw [aU]; omega
  generalize ds[i] = d at *;refine gg ?_;refine zf fun K hK => ?_; refine zT hL hs hx0 (by decide) mmA ?_; refine hK _ _ ?_; clear hK K
  refine oA zcd.toArray fun b7 => ?_
  refine oS d.v rfl hdo ?_;refine gg ?_;refine oL d.v rfl ?_;refine zf fun K hK => ?_; refine zN (e := 84) (s := 10) (hs := inferInstance) (vs := d.v) (by rfl) (by decide) (by decide) rfl (fun b1 C1 ho1 => ?_); refine hK _ _ ?_; clear hK K
  refine zf fun K hK => ?_; refine zn (e := 84) (s := 10) (hs := inferInstance) (by rfl) (by decide) hU (.inr pkA) (ho1.rd mmA) hdo (by simp only [maxLen]; omega) (by omega) (fun C3 a3 cap3 ho3 => ?_); refine hK _ _ ?_; clear hK K
  have e1 : (ds.take i).length + 1 = (ds.take (i + 1)).length := by rw [hnx]; simp
  have e2 : (ds.take i).flatMap CD.v ++ d.v = (ds.take (i + 1)).flatMap CD.v := by rw [hnx]; simp
  rw [e1, e2] at ho3;rw [e1];refine gg ?_;exact zv ⟨i + 1, C3, a3, cap3, by omega, ho3, rfl, rfl, rfl, rfl⟩
 ·refine gg ?_;refine zb [rsB s ta tn tc la ds.length lc last reads, CL] ?_;obtain rfl : i = ds.length := by omega
  rw [bF];exact ⟨ua, uc, rfl, rfl⟩
def cix (n : List UInt8) : List CD -> Nat -> Int
 | [], _ => -1
 | d :: l, i => if d.n = n then (i : Int) else cix n l (i + 1)
theorem VE {n : List UInt8} : ∀ (l : List CD) (k i : Nat), (∀ j, j < i -> ∀ d, l[j]? = some d -> d.n ≠ n) -> (∃ d, l[i]? = some d /\ d.n = n) -> cix n l k = ((k + i : Nat) : Int)
 | [], _, i, _, ⟨d, h, _⟩ => by simp at h
 | u :: l, k, 0, _, ⟨d, h, e⟩ => by
  rw [cE, Option.some.injEq] at h;subst h;unfold cix;rw [if_pos e]; rfl
 | u :: l, k, i + 1, hn, ⟨d, h, e⟩ => by
  have h0 := hn 0 (by omega) u rfl;unfold cix;rw [if_neg h0, VE l (k + 1) i (fun j hj v hv => hn (j + 1) (by omega) v (by rw [bJ]; exact hv)) ⟨d, by rw [bJ] at h; exact h, e⟩]
  congr 1; omega
theorem WU {n : List UInt8} : ∀ (l : List CD) (k : Nat), (∀ d ∈ l, d.n ≠ n) -> cix n l k = -1
 | [], _, _ => rfl
 | u :: l, k, h => by
  unfold cix;rw [if_neg (h u (aB ..))];exact WU l (k + 1) fun v hv => h v (aK _ hv)
theorem KN {s : Nat} {ta la : Option Addr} {tn tc lc : Nat} {last reads : Int} {CL : Chunk} {ds : List CD} (hds : ds.length <= 100) (hok : ∀ d ∈ ds, d.ok) (hL : OwnC CL la lc ds) (u : List UInt8) (hu : u.length <= 100000) :
  Meets prog 60 [.pointer (some ⟨s, 0, none⟩), .string (str [116]), .string (str u)] [rsB s ta tn tc la ds.length lc last reads, CL] fun v A => v = .int .i64 (if (xR u 32).2 = 0 then cix (xR u 32).1 ds 0 else -1) /\ A = [rsB s ta tn tc la ds.length lc last reads, CL] := by
 have hs := cd_len;refine eN func60 ntmps60 results60 fun F => ?_
 refine gg ?_;refine cA (vy u hu 32 (by decide)) ?_; rintro v A ⟨rfl, rfl⟩; refine gA ?_
 by_cases h0 : (xR u 32).2 = 0
 ·rw [if_pos h0, h0];refine gg ?_;generalize (xR u 32).1 = n at *
  refine zz (fun q D L S => ∃ i : Nat, i <= ds.length /\ (∀ j, j < i -> ∀ d, ds[j]? = some d -> d.n ≠ n) /\ q = ds.length - i /\ D = [] /\
   L = [(27, .int .i64 i), (26, .int .i64 ds.length), (25, .slice la ds.length lc), (7, .string (str n)), (1, .string (str [116]))] /\ S = [F, rsB s ta tn tc la ds.length lc last reads, CL])
   ⟨0, by omega, (fun j hj => absurd hj (by omega)), rfl, rfl, rfl, rfl⟩ ?_
  rintro q D L S ⟨i, hi, hno, rfl, rfl, rfl, rfl⟩;refine gg ?_;refine if_d (fun hc => ?_) (fun hc => ?_)
  ·have hil : i < ds.length := by omega
   have hx0 : ds[i]? = some ds[i] := aF hil;have hdo := hok _ (dD hil);generalize ds[i] = d at *;refine gg ?_;refine zf fun K hK => ?_; refine zT hL hs hx0 (by decide) mmA ?_; refine hK _ _ ?_; clear hK K
   refine oA zcd.toArray fun b7 => ?_
   refine gg ?_;refine oS d.v rfl hdo ?_;refine gg ?_
   cases hb : (d.n == n) with
   | true =>
    refine gg ?_;refine zb [rsB s ta tn tc la ds.length lc last reads, CL] ?_;refine ⟨?_, rfl⟩;rw [VE ds 0 i hno ⟨d, hx0, by simpa using hb⟩, cD]
   | false =>
    refine gg ?_;refine zv ⟨i + 1, by omega, fun j hj u hu => ?_, rfl, rfl, rfl, rfl⟩
    by_cases hji : j = i
    ·subst hji;rw [hx0, Option.some.injEq] at hu;rw [<- hu]; simpa using hb
    ·exact hno j (by omega) u hu
  ·obtain rfl : i = ds.length := by omega
   refine gg ?_;refine zb [rsB s ta tn tc la ds.length lc last reads, CL] ?_;refine ⟨?_, rfl⟩
   rw [WU ds 0 fun d hd => by
    obtain ⟨j, hj, rfl⟩ := List.mem_iff_getElem.1 hd;exact hno j hj _ (aF hj)]
 ·rw [if_neg h0, beq_eq_false_iff_ne.2 h0];refine gg ?_;refine zb [rsB s ta tn tc la ds.length lc last reads, CL] ?_; exact ⟨rfl, rfl⟩
theorem IR {P : Program} {t : TypeId} {x y : Operand} {a b : List UInt8} {κ : Value -> Prop} [h : TStr P t] : PureW P (do eqGuard .lss t x y (.string (str a)) (.string (str b)); binOp .lss t (.string (str a)) (.string (str b))) κ = κ (.bool (Op.bytesLess a b)) :=
 zm (fun w => by
  have e : Op.bytesLess a b = Op.bytesLess (str a).toList (str b).toList := by rw [ByteArray.toList_eq, ByteArray.toList_eq]; rfl
  rw [e]; rfl) κ
theorem Ww {s : Nat} {ta la : Option Addr} {tn tc lc : Nat} {last reads : Int} {CL : Chunk} {ds : List CD} (hds : ds.length <= 100) (hok : ∀ d ∈ ds, d.ok) (hL : OwnC CL la lc ds) (c : CD) (hc : c.ok) (hlt : ∀ d ∈ ds, Op.bytesLess d.n c.n = true) :
  Meets prog 92 [.pointer (some ⟨s, 0, none⟩), .agg c.v.toArray] [rsB s ta tn tc la ds.length lc last reads, CL] fun v A => ∃ la' lc' CL', OwnC CL' la' lc' (ds ++ [c]) /\ A = [rsB s ta tn tc la' (ds ++ [c]).length lc' last reads, CL'] := by
 have hs := cd_len;have hcap := hL.1;refine eN func92 ntmps92 results92 fun F => ?_
 refine gg ?_;refine oB fun b3 => ?_
 refine gg ?_
 refine zz (fun q D L S => ∃ i : Nat, i <= ds.length /\ q = ds.length - i /\ D = [] /\ L = [(4, .int .i64 i), (3, .pointer (some ⟨b3, 0, none⟩)), (0, .pointer (some ⟨s, 0, none⟩))] /\
  S = [[(b3, .cells c.v.toArray 84 (0, 0))], F, rsB s ta tn tc la ds.length lc last reads, CL]) ⟨0, by omega, rfl, rfl, rfl, rfl⟩ ?_
 rintro q D L S ⟨i, hi, rfl, rfl, rfl, rfl⟩;refine gg ?_;refine cdL [[0], [1], [2], [3], [4], [5], [6], [7], [8], [9], [10], [11], [12], [13], [14], [15], [16], [17], [18], [19], [20], [21], [22], [23], [24], [25], [26], [27], [28], [29], [30], [31], [32], [33], [34], [35], [36], [37], [38], [39], [40], [41], [42], [43], [44], [45]] ?_
 dsimp only
 refine gg ?_
 by_cases h1 : (i : Int) < ds.length
 ·rw [decide_eq_true h1];have hil : i < ds.length := by omega
  have hx0 : ds[i]? = some ds[i] := aF hil;have hdn := hlt _ (dD hil);generalize ds[i] = d at *;refine gg ?_;refine qO fun K hK => ?_; (try rw [show c.v.toArray[0] = Value.string (str [116]) from rfl]); rw [IR, show Op.bytesLess [116] [116] = false from rfl]; refine hK _ _ ?_; clear hK K
  refine gg ?_;refine qO fun K hK => ?_; (try rw [show c.v.toArray[1] = Value.string (str c.n) from rfl]); rw [IR, hdn]; refine hK _ _ ?_; clear hK K
  refine gg ?_;exact zv ⟨i + 1, by omega, rfl, rfl, rfl, rfl⟩
 ·rw [decide_eq_false h1];obtain rfl : i = ds.length := by omega
  refine gg ?_
  have hr0 : Rd 10 [CL] (cutA 10 la 0 lc) ds.length (ds.flatMap CD.v) := by
   have e : cutA 10 la 0 lc = la := by
    unfold cutA
    split
    ·rfl
    ·cases la <;> simp [Addr.add]
   rw [e]; exact hL.rd (aB ..)
  refine kC 1 8 10 [[], [], [], [2], [2, 3], [2, 3, 4], [], [2, 3, 4, 5, 6], [1, 2, 3, 4, 5, 6, 7], [], [1, 2, 3, 4, 5, 6, 7, 8, 9], [1, 2, 3, 4, 5, 6, 7, 8, 9, 10], [], [12], [12, 13], [12, 13, 14], [], [12, 13, 14, 15, 16], [1, 2, 3, 4, 5, 6, 7, 8, 9, 10, 11, 12, 13, 14, 15, 16, 17], [0, 1, 2, 3, 4, 5, 6, 7, 8, 9, 10, 11, 12, 13, 14, 15, 16, 17, 18], [0, 1, 2, 3, 4, 5, 6, 7, 8, 9, 10, 11, 12, 13, 14, 15, 16, 17, 18, 19], [0, 1, 2, 3, 4, 5, 6, 7, 8, 9, 10, 11, 12, 13, 14, 15, 16, 17, 18, 19, 20]] [(0, false, []), (2, false, []), (3, false, []), (4, false, []), (5, false, []), (6, false, []), (7, false, []), (9, false, []), (12, false, []), (13, false, []), (14, false, []), (15, false, []), (16, false, []), (17, false, []), (1, true, [5, 9, 15]), (8, true, [9, 15]), (10, true, [15]), (11, true, [15]), (18, true, []), (19, false, []), (20, false, []), (21, true, [])] [[], [], [], [2], [2, 3], [2, 3, 4], [], [2, 3, 4, 5, 6], [1, 2, 3, 4, 5, 6, 7, 9, 10], [], [1, 9], [1, 2, 3, 4, 5, 6, 7, 8, 9, 10], [], [12], [12, 13], [12, 13, 14], [], [12, 13, 14, 15, 16], [1, 2, 3, 4, 5, 6, 7, 8, 9, 10, 11, 12, 13, 14, 15, 16, 17], [0, 1, 2, 3, 4, 5, 6, 7, 8, 9, 10, 11, 12, 13, 14, 15, 16, 17, 18], [0, 1, 2, 3, 4, 5, 6, 7, 8, 9, 10, 11, 12, 13, 14, 15, 16, 17, 18, 19], [0, 1, 2, 3, 4, 5, 6, 7, 8, 9, 10, 11, 12, 13, 14, 15, 16, 17, 18, 19, 20]] [(0, false, []), (2, false, []), (3, false, []), (4, false, []), (5, false, []), (6, false, []), (7, false, []), (9, false, []), (12, false, []), (13, false, []), (14, false, []), (15, false, []), (16, false, []), (17, false, []), (1, true, [5, 9, 15]), (10, true, [5, 15]), (8, true, [15]), (11, true, [15]), (18, true, []), (19, false, []), (20, false, []), (21, true, [])] [[], [9, 10], [], [2], [2, 3], [2, 3, 4], [], [2, 3, 4, 5, 6], [1, 2, 3, 4, 5, 6, 7, 9, 10], [], [9], [1, 2, 3, 4, 5, 6, 7, 8, 9, 10], [], [12], [12, 13], [12, 13, 14], [], [12, 13, 14, 15, 16], [1, 2, 3, 4, 5, 6, 7, 8, 9, 10, 11, 12, 13, 14, 15, 16, 17], [0, 1, 2, 3, 4, 5, 6, 7, 8, 9, 10, 11, 12, 13, 14, 15, 16, 17, 18], [0, 1, 2, 3, 4, 5, 6, 7, 8, 9, 10, 11, 12, 13, 14, 15, 16, 17, 18, 19], [0, 1, 2, 3, 4, 5, 6, 7, 8, 9, 10, 11, 12, 13, 14, 15, 16, 17, 18, 19, 20]] [(0, false, []), (2, false, []), (3, false, []), (4, false, []), (5, false, []), (6, false, []), (7, false, []), (9, false, []), (12, false, []), (13, false, []), (14, false, []), (15, false, []), (16, false, []), (17, false, []), (10, true, [5, 15]), (1, true, [5, 15]), (8, true, [15]), (11, true, [15]), (18, true, []), (19, false, []), (20, false, []), (21, true, [])] ?_ ?_ ?_
  ·refine gg ?_;refine qO fun K hK => ?_; refine zi (vs := c.v) lkA rfl ?_; refine hK _ _ ?_; clear hK K
   refine gg ?_
   (try rw [dT])
   refine zg fun K hK => ?_; refine xY fun b0 C0 ho0 => ?_; refine pend ?_; refine pend ?_ (zi (vs := c.v) lkA rfl rfl); refine pend ?_; refine hK _ _ ?_; clear hK K
   refine gg ?_;refine zg fun K hK => ?_; refine zn (e := 84) (s := 10) (hs := inferInstance) (by rfl) (by decide) ho0 (.inr pkA) (hr0.mem mmA) (WI hok) (by simp only [maxLen]; omega) (by omega) (fun C2 a2 c2 ho2 => ?_); refine pend ?_ (zi (vs := c.v) lkA rfl rfl); refine pend ?_; refine hK _ _ ?_; clear hK K
   refine gg ?_
   (try rw [aD, cD] at ho2)
   (try rw [cD])
   refine zg fun K hK => ?_; refine zN (e := 84) (s := 10) (hs := inferInstance) (vs := c.v) (by rfl) (by decide) (by decide) rfl (fun b1 C1 ho1 => ?_); refine pend ?_; refine hK _ _ ?_; clear hK K
   refine gg ?_;refine zg fun K hK => ?_; refine zn (e := 84) (s := 10) (hs := inferInstance) (by rfl) (by decide) ho2 (.inr pkA) (ho1.rd mmA) hc (by simp only [maxLen]; omega) (by omega) (fun C3 a3 c3 ho3 => ?_); refine pend ?_; refine hK _ _ ?_; clear hK K
   refine gg ?_;refine zg fun K hK => ?_; refine zn (e := 84) (s := 10) (hs := inferInstance) (by rfl) (by decide) ho3 (.inr pkA) (vs := []) Rd.nil (by simp) (by simp only [maxLen]; omega) (by omega) (fun C4 a4 c4 ho4 => ?_); refine hK _ _ ?_; clear hK K
   refine gg ?_
   (try rw [aL, dQ] at ho4)
   (try rw [dQ])
   refine gM ?_;have e1 : ds.length + 1 = (ds ++ [c]).length := by simp
   have e2 : ds.flatMap CD.v ++ c.v = (ds ++ [c]).flatMap CD.v := by rw [cH]; congr 1
   rw [e1, e2] at ho4;rw [e1];exact zL [rsB s ta tn tc a4 (ds ++ [c]).length c4 last reads, C4] ⟨a4, c4, C4, ho4, rfl⟩
  ·refine gg ?_;refine qO fun K hK => ?_; refine zi (vs := c.v) lkA rfl ?_; refine hK _ _ ?_; clear hK K
   refine gg ?_
   (try rw [dT])
   refine zg fun K hK => ?_; refine xY fun b0 C0 ho0 => ?_; refine pend ?_; refine pend ?_ (zi (vs := c.v) lkA rfl rfl); refine pend ?_; refine hK _ _ ?_; clear hK K
   refine gg ?_;refine zg fun K hK => ?_; refine zN (e := 84) (s := 10) (hs := inferInstance) (vs := c.v) (by rfl) (by decide) (by decide) rfl (fun b1 C1 ho1 => ?_); refine pend ?_; refine pend ?_; refine hK _ _ ?_; clear hK K
   refine gg ?_;refine zg fun K hK => ?_; refine zn (e := 84) (s := 10) (hs := inferInstance) (by rfl) (by decide) ho0 (.inr pkA) (hr0.mem mmA) (WI hok) (by simp only [maxLen]; omega) (by omega) (fun C2 a2 c2 ho2 => ?_); refine pend ?_; refine hK _ _ ?_; clear hK K
   refine gg ?_
   (try rw [aD, cD] at ho2)
   (try rw [cD])
   refine zg fun K hK => ?_; refine zn (e := 84) (s := 10) (hs := inferInstance) (by rfl) (by decide) ho2 (.inr pkA) (ho1.rd mmA) hc (by simp only [maxLen]; omega) (by omega) (fun C3 a3 c3 ho3 => ?_); refine pend ?_; refine hK _ _ ?_; clear hK K
   refine gg ?_;refine zg fun K hK => ?_; refine zn (e := 84) (s := 10) (hs := inferInstance) (by rfl) (by decide) ho3 (.inr pkA) (vs := []) Rd.nil (by simp) (by simp only [maxLen]; omega) (by omega) (fun C4 a4 c4 ho4 => ?_); refine hK _ _ ?_; clear hK K
   refine gg ?_
   (try rw [aL, dQ] at ho4)
   (try rw [dQ])
   refine gM ?_;have e1 : ds.length + 1 = (ds ++ [c]).length := by simp
   have e2 : ds.flatMap CD.v ++ c.v = (ds ++ [c]).flatMap CD.v := by rw [cH]; congr 1
   rw [e1, e2] at ho4;rw [e1];exact zL [rsB s ta tn tc a4 (ds ++ [c]).length c4 last reads, C4] ⟨a4, c4, C4, ho4, rfl⟩
  ·refine gg ?_;refine qO fun K hK => ?_; refine zi (vs := c.v) lkA rfl ?_; refine hK _ _ ?_; clear hK K
   refine gg ?_
   (try rw [dT])
   refine zg fun K hK => ?_; refine zN (e := 84) (s := 10) (hs := inferInstance) (vs := c.v) (by rfl) (by decide) (by decide) rfl (fun b1 C1 ho1 => ?_); refine pend ?_; refine pend ?_; refine hK _ _ ?_; clear hK K
   refine gg ?_;refine zg fun K hK => ?_; refine xY fun b0 C0 ho0 => ?_; refine pend ?_; refine pend ?_; refine hK _ _ ?_; clear hK K
   refine gg ?_;refine zg fun K hK => ?_; refine zn (e := 84) (s := 10) (hs := inferInstance) (by rfl) (by decide) ho0 (.inr pkA) (hr0.mem mmA) (WI hok) (by simp only [maxLen]; omega) (by omega) (fun C2 a2 c2 ho2 => ?_); refine pend ?_; refine hK _ _ ?_; clear hK K
   refine gg ?_
   (try rw [aD, cD] at ho2)
   (try rw [cD])
   refine zg fun K hK => ?_; refine zn (e := 84) (s := 10) (hs := inferInstance) (by rfl) (by decide) ho2 (.inr pkA) (ho1.rd mmA) hc (by simp only [maxLen]; omega) (by omega) (fun C3 a3 c3 ho3 => ?_); refine pend ?_; refine hK _ _ ?_; clear hK K
   refine gg ?_;refine zg fun K hK => ?_; refine zn (e := 84) (s := 10) (hs := inferInstance) (by rfl) (by decide) ho3 (.inr pkA) (vs := []) Rd.nil (by simp) (by simp only [maxLen]; omega) (by omega) (fun C4 a4 c4 ho4 => ?_); refine hK _ _ ?_; clear hK K
   refine gg ?_
   (try rw [aL, dQ] at ho4)
   (try rw [dQ])
   refine gM ?_;have e1 : ds.length + 1 = (ds ++ [c]).length := by simp
   have e2 : ds.flatMap CD.v ++ c.v = (ds ++ [c]).flatMap CD.v := by rw [cH]; congr 1
   rw [e1, e2] at ho4;rw [e1];exact zL [rsB s ta tn tc a4 (ds ++ [c]).length c4 last reads, C4] ⟨a4, c4, C4, ho4, rfl⟩
theorem Xt {u n : List UInt8} (h : xR u 32 = (n, 0)) : xR n 32 = (n, 0) /\ n.length <= 32 := by
 have hp := (prep_prep u).1;unfold xR at h ⊢
 split at h
 ·rename_i h1; simp only [Prod.mk.injEq] at h; exact absurd h.2 h1
 split at h
 ·simp at h
 split at h
 ·simp at h
 ·rename_i h1 h2 h3
  simp only [Prod.mk.injEq, and_true] at h;rw [h] at hp h2 h3;refine ⟨?_, by omega⟩;rw [hp, if_neg (by simp), if_neg h2, if_neg h3]
theorem radd_spec {s : Nat} {ta la : Option Addr} {tc lc : Nat} {last reads : Int} {T CL W : Chunk} {ds : List CD} (hT : In T ta tc) (hds : ds.length <= 20) (hok : ∀ d ∈ ds, d.ok) (hL : OwnC CL la lc ds) (hl0 : 0 <= last) (hl1 : last < 1000) (u n : List UInt8) (hu : u.length <= 1000) (hun : xR u 32 = (n, 0)) (hno : ∀ d ∈ ds, d.n ≠ n) (hlt : ∀ d ∈ ds, Op.bytesLess d.n n = true) {vs : List Value} {sec : Sec} (hW : SecW W vs sec) :
  Meets prog 33 [.pointer (some ⟨s, 0, none⟩), .string (str [116]), .string (str u), .agg vs.toArray] [rsB s ta 1 tc la ds.length lc last reads, T, CL, W]
  fun v A => ∃ (la' : Option Addr) (lc' : Nat) (CL' : Chunk) (c : CD), v = .int .i64 0 /\ c.n = n /\ c.vs = vs /\ c.gen = last + 1 /\ c.rev = false /\ c.ok /\ OwnC CL' la' lc' (ds ++ [c]) /\ A = [rsB s ta 1 tc la' (ds ++ [c]).length lc' (last + 1) reads, T, CL', W] := by
 obtain ⟨hst, hnl⟩ := Xt hun;have hnm := vy u (by omega) 32 (by decide);rw [hun] at hnm;have hfd := KN (s := s) (ta := ta) (tn := 1) (tc := tc) (last := last) (reads := reads) (by omega) hok hL n (by omega);rw [hst, if_pos rfl, WU ds 0 hno] at hfd;obtain ⟨hvl, hvc⟩ := jF hW;have hr := hW;obtain ⟨a0, a1, a2, a3, c0, c1, c2, c3, rfl, _, l1, l2, l3, _⟩ := hr;refine eN func33 ntmps33 results33 fun F => ?_
 refine gg ?_;refine oB fun b7 => ?_
 refine gg ?_;refine cA (in_one hT) ?_; rintro v A ⟨rfl, rfl⟩; refine gA ?_;refine cA (hnm) ?_; rintro v A ⟨rfl, rfl⟩; refine gA ?_;refine oL [.slice a0 1 c0, .int .i64 1, .slice a1 sec.st.length c1, .slice a2 sec.sv.length c2, .slice a3 sec.ha.length c3] rfl ?_;refine gg ?_;refine cA (KC a0 a1 a2 a3 c0 c1 c2 c3 _ _ _ l1 l2 l3) ?_; rintro v A ⟨rfl, rfl⟩; refine gA ?_;refine cA (hfd) ?_; rintro v A ⟨rfl, rfl⟩; refine gA ?_;refine cA (Ky (s := s) (ta := ta) (tn := 1) (tc := tc) (last := last) (reads := reads) (by omega) hok hL) ?_; rintro v A ⟨ua, uc, rfl, rfl⟩; refine gA ?_;rw [decide_eq_false (show ¬ (32 : Int) <= ds.length by omega)];refine gg ?_;rw [decide_eq_false (show ¬ (9007199254740992 : Int) <= last by omega)];refine gg ?_;refine gM ?_
 have hcok : (⟨n, .slice a0 1 c0, .int .i64 1, .slice a1 sec.st.length c1, .slice a2 sec.sv.length c2, .slice a3 sec.ha.length c3, last + 1, false⟩ : CD).ok := by
  intro v hv;simp only [CD.v, bA, aX, or_false] at hv
  rcases hv with rfl | rfl | rfl | rfl | rfl | rfl | rfl | rfl | rfl | rfl <;> simp [Value.cell1]
 have hins := Ww (s := s) (ta := ta) (tn := 1) (tc := tc) (last := last + 1) (reads := reads) (by omega) hok hL (⟨n, .slice a0 1 c0, .int .i64 1, .slice a1 sec.st.length c1, .slice a2 sec.sv.length c2, .slice a3 sec.ha.length c3, last + 1, false⟩ : CD) hcok hlt;refine cdL [[0], [1], [2], [3], [4], [5], [6], [7], [8], [9, 0]] ?_;refine gg ?_;refine qO fun K hK => ?_; refine zi (vs := [.slice a0 1 c0, .int .i64 1, .slice a1 sec.st.length c1, .slice a2 sec.sv.length c2, .slice a3 sec.ha.length c3]) lkA rfl ?_; refine hK _ _ ?_; clear hK K
 refine gg ?_;refine qO fun K hK => ?_; rw [zV (ps := [(0, .string (str [116])), (1, .string (str n)), (2, .agg ([.slice a0 1 c0, .int .i64 1, .slice a1 sec.st.length c1, .slice a2 sec.sv.length c2, .slice a3 sec.ha.length c3] : List Value).toArray), (3, .int .u64 (last + 1))]) (cs := (⟨n, .slice a0 1 c0, .int .i64 1, .slice a1 sec.st.length c1, .slice a2 sec.sv.length c2, .slice a3 sec.ha.length c3, last + 1, false⟩ : CD).v.toArray) rfl]; refine hK _ _ ?_; clear hK K
 refine gg ?_;refine zg fun K hK => ?_; refine zo (hins) ?_; rintro v A ⟨la', lc', CL', hL', rfl⟩; refine pA hK ?_; clear hK K
 refine gg ?_;refine zb [rsB s ta 1 tc la' (ds ++ [(⟨n, .slice a0 1 c0, .int .i64 1, .slice a1 sec.st.length c1, .slice a2 sec.sv.length c2, .slice a3 sec.ha.length c3, last + 1, false⟩ : CD)]).length lc' (last + 1) reads, T, CL', W] ?_;exact ⟨la', lc', CL', (⟨n, .slice a0 1 c0, .int .i64 1, .slice a1 sec.st.length c1, .slice a2 sec.sv.length c2, .slice a3 sec.ha.length c3, last + 1, false⟩ : CD), rfl, rfl, rfl, rfl, rfl, hcok, hL', rfl⟩
open Go.Tab
structure PU where
 n : List UInt8
 sec : Sec
 gen : Int
 rev : Bool
structure CU where
 u : PU
 p : Nat
 vs : List Value
 W : Chunk
def CU.C (c : CU) : Chunk := crB c.p c.u.n c.vs c.u.gen c.u.rev ++ c.W
def mU (cs : List CU) : List (List UInt8 × Value) := cs.map fun c => (c.u.n, .pointer (some ⟨c.p, 0, none⟩))
theorem mU_none {n : List UInt8} : ∀ cs : List CU, (∀ c ∈ cs, c.u.n ≠ n) -> mget (mU cs) n = none
 | [], _ => rfl
 | c :: l, h => by
  simp only [mU, aZ, mget];rw [if_neg (fun e => h c (aB ..) e.symm)];exact mU_none l fun d hd => h d (aK _ hd)
def IsSt (K : Chunk) (s : Nat) (us : List PU) (last reads : Int) : Prop := ∃ (r1 r2 : Nat) (M1 M2 : Chunk) (cs : List CU), cs.map CU.u = us /\ xK M1 r1 (tenM r2) /\ xK M2 r2 (mU cs) /\ (∀ c ∈ cs, SecW c.W c.vs c.u.sec) /\ K = stB s r1 last reads ++ (M1 ++ (M2 ++ cs.flatMap CU.C))
theorem cadd_spec {K G W : Chunk} {s : Nat} {us : List PU} {last reads : Int} (hn : GNam G) (hK : IsSt K s us last reads) (hul : us.length < 32) (hl0 : 0 <= last) (hl1 : last < 1000) (u n : List UInt8) (hu : u.length <= 1000) (hun : xR u 32 = (n, 0)) (hno : ∀ x ∈ us, x.n ≠ n) {vs : List Value} {sec : Sec} (hW : SecW W vs sec) :
  Meets prog 32 [.pointer (some ⟨s, 0, none⟩), .string (str [116]), .string (str u), .agg vs.toArray] [K, G, W]
  fun v A => ∃ K', v = .int .i64 0 /\ IsSt K' s (us ++ [⟨n, sec, last + 1, false⟩]) (last + 1) reads /\ A = [K', G, W] := by
 obtain ⟨r1, r2, M1, M2, cs, rfl, h1, h2, hs, rfl⟩ := hK;have hm : mget (mU cs) n = none := mU_none cs fun c hc => hno c.u (List.mem_map_of_mem hc)
 have hml : (mU cs).length < 32 := by rw [mU, bE]; rwa [bE] at hul
 refine Meets.conv [stB s r1 last reads, M1, M2, cs.flatMap CU.C, G, W] (add_spec hn h1 h2 hml hl0 hl1 u n hu hun hm hW) flA tkA ?_; rintro v A ⟨p, M2', W', vs', rfl, hM, hW', rfl⟩;refine ⟨[stB s r1 (last + 1) reads ++ (M1 ++ (M2' ++ (cs.flatMap CU.C ++ (crB p n vs' (last + 1) false ++ W')))), G, W], [stB s r1 (last + 1) reads, M1, M2', cs.flatMap CU.C, crB p n vs' (last + 1) false, W', G, W], flA, amA, _, rfl, ⟨r1, r2, M1, M2', cs ++ [⟨⟨n, sec, last + 1, false⟩, p, vs', W'⟩], by simp, h1, ?_, ?_, ?_⟩, rfl⟩
 ·rw [yO _ _ _ hm] at hM
  simpa [mU] using hM
 ·intro c hc
  rcases List.mem_append.1 hc with hc | hc
  ·exact hs c hc
  ·obtain rfl := List.mem_singleton.1 hc;exact hW'
 ·simp [cH, CU.C]
structure RD where
 u : PU
 v0 : Value
 v1 : Value
 v2 : Value
 v3 : Value
 v4 : Value
def RD.cd (d : RD) : CD := ⟨d.u.n, d.v0, d.v1, d.v2, d.v3, d.v4, d.u.gen, d.u.rev⟩
def IsRs (K : Chunk) (s : Nat) (us : List PU) (last reads : Int) : Prop := ∃ (ta la : Option Addr) (tc lc : Nat) (T CL V : Chunk) (ds : List RD), ds.map RD.u = us /\ In T ta tc /\ OwnC CL la lc (ds.map RD.cd) /\ (∀ d ∈ ds, d.cd.ok) /\ (∀ d ∈ ds, SecW V d.cd.vs d.u.sec) /\ K = rsB s ta 1 tc la (ds.map RD.cd).length lc last reads ++ (T ++ (CL ++ V))
theorem secw_l {A B : Chunk} {vs : List Value} {s : Sec} (h : SecW A vs s) : SecW (A ++ B) vs s := by
 obtain ⟨a0, a1, a2, a3, c0, c1, c2, c3, e, l0, l1, l2, l3, r0, r1, r2, r3⟩ := h;exact ⟨a0, a1, a2, a3, c0, c1, c2, c3, e, l0, l1, l2, l3, rd_l r0, rd_l r1, rd_l r2, rd_l r3⟩
theorem secw_r {A B : Chunk} {vs : List Value} {s : Sec} (h : SecW B vs s) : SecW (A ++ B) vs s := by
 obtain ⟨a0, a1, a2, a3, c0, c1, c2, c3, e, l0, l1, l2, l3, r0, r1, r2, r3⟩ := h;exact ⟨a0, a1, a2, a3, c0, c1, c2, c3, e, l0, l1, l2, l3, rd_r r0, rd_r r1, rd_r r2, rd_r r3⟩
theorem is_rs0 {s : Nat} {T : Chunk} {a : Option Addr} {c : Nat} {last reads : Int} (hT : In T a c) : IsRs (rsB s a 1 c none 0 0 last reads ++ T) s [] last reads :=
 ⟨a, none, c, 0, T, [], [], [], rfl, hT, own_nil, (fun _ h => nomatch h), (fun _ h => nomatch h), by simp⟩
theorem Ij {K W : Chunk} {s : Nat} {us : List PU} {last reads : Int} (hK : IsRs K s us last reads) (hul : us.length <= 20) (hl0 : 0 <= last) (hl1 : last < 1000) (u n : List UInt8) (hu : u.length <= 1000) (hun : xR u 32 = (n, 0)) (hno : ∀ x ∈ us, x.n ≠ n) (hlt : ∀ x ∈ us, Op.bytesLess x.n n = true) {vs : List Value} {sec : Sec} (hW : SecW W vs sec) :
  Meets prog 33 [.pointer (some ⟨s, 0, none⟩), .string (str [116]), .string (str u), .agg vs.toArray] [K, W]
  fun v A => ∃ K', v = .int .i64 0 /\ IsRs K' s (us ++ [⟨n, sec, last + 1, false⟩]) (last + 1) reads /\ A = [K'] := by
 obtain ⟨ta, la, tc, lc, T, CL, V, ds, rfl, hT, hL, hok, hs, rfl⟩ := hK;rw [bE] at hul;have hh := radd_spec (s := s) (reads := reads) hT (by rw [bE]; exact hul) (by intro d hd; obtain ⟨x, hx, rfl⟩ := List.mem_map.1 hd; exact hok x hx) hL hl0 hl1 u n hu hun (by intro d hd; obtain ⟨x, hx, rfl⟩ := List.mem_map.1 hd; exact hno x.u (List.mem_map_of_mem hx)) (by intro d hd; obtain ⟨x, hx, rfl⟩ := List.mem_map.1 hd; exact hlt x.u (List.mem_map_of_mem hx)) hW;refine Meets.conv [rsB s ta 1 tc la (ds.map RD.cd).length lc last reads, T, CL, V, W] (hh) flA tkA ?_; rintro v A ⟨la', lc', CL', ⟨cn, v0, v1, v2, v3, v4, cg, cr⟩, rfl, hc1, hc2, hc3, hc4, hcok, hL', rfl⟩;simp only at hc1 hc2 hc3 hc4;subst hc1 hc2 hc3 hc4;refine ⟨[rsB s ta 1 tc la' (ds.map RD.cd ++ [(⟨cn, v0, v1, v2, v3, v4, last + 1, false⟩ : CD)]).length lc' (last + 1) reads ++ (T ++ (CL' ++ (V ++ W)))], [rsB s ta 1 tc la' (ds.map RD.cd ++ [(⟨cn, v0, v1, v2, v3, v4, last + 1, false⟩ : CD)]).length lc' (last + 1) reads, T, CL', V, W], flA, amA, _, rfl, ⟨ta, la', tc, lc', T, CL', V ++ W, ds ++ [⟨⟨cn, sec, last + 1, false⟩, v0, v1, v2, v3, v4⟩], by simp, hT, ?_, ?_, ?_, ?_⟩, rfl⟩
 ·simpa [RD.cd] using hL'
 ·intro c hc
  rcases List.mem_append.1 hc with hc | hc
  ·exact hok c hc
  ·obtain rfl := List.mem_singleton.1 hc;exact hcok
 ·intro c hc
  rcases List.mem_append.1 hc with hc | hc
  ·exact secw_l (hs c hc)
  ·obtain rfl := List.mem_singleton.1 hc;exact secw_r hW
 ·simp [RD.cd]
end Go.Proofs.YtebikhhoppiapaaGreatDoor
namespace Go.Proofs.YtebikhhoppiapaaGreatDoor
open Go Go.Ost Go.Shelf Go.RowKit Tryz
def renS : Ren := ⟨fun x => if x = 156 then 153 else if x = 165 then 204 else if x = 166 then 146 else if x = 169 then 150 else if x = 240 then 201 else if x = 241 then 238 else if x = 276 then 237 else if x = 277 then 183 else x, fun x => if x = 31 then 46 else if x = 37 then 43 else if x = 70 then 270 else if x = 72 then 272 else if x = 75 then 274 else if x = 76 then 275 else if x = 80 then 277 else if x = 127 then 330 else if x = 164 then 358 else x, fun x => x⟩
instance iOJ_1 : zh prog 0 (.tuple #[]) 1 0 := ⟨by kernel_rfl⟩
instance iOJ_2 : xe prog 0 := ⟨by kernel_rfl⟩
instance iOJ_3 : zh prog 20 .nilIface 1 16 := ⟨by kernel_rfl⟩
instance iOJ_4 : xe prog 20 := ⟨by kernel_rfl⟩
instance iOJ_5 : zh prog 274 .nilIface 1 16 := ⟨by kernel_rfl⟩
instance iOJ_6 : xe prog 274 := ⟨by kernel_rfl⟩
instance iOJ_7 : zh prog 275 (.tuple #[.int .i64 0, .nilIface]) 1 0 := ⟨by kernel_rfl⟩
instance iOJ_8 : xe prog 275 := ⟨by kernel_rfl⟩
theorem laysS : Lays.n156 prog renS where
 mixed := by kernel_rfl
 f156 := by kernel_rfl
 f165 := by kernel_rfl
 f166 := by kernel_rfl
 f169 := by kernel_rfl
 f240 := by kernel_rfl
 f241 := by kernel_rfl
 f276 := by kernel_rfl
 f277 := by kernel_rfl
 t0 := by kernel_rfl
 a0 := zr (t := 0) inferInstance
 z0 := zt (t := 0) inferInstance
 v0 := zD (t := 0) inferInstance
 t3 := by kernel_rfl
 a3 := zr (t := 3) inferInstance
 z3 := zt (t := 3) inferInstance
 v3 := zD (t := 3) inferInstance
 t4 := by kernel_rfl
 a4 := zr (t := 4) inferInstance
 z4 := zt (t := 4) inferInstance
 v4 := zD (t := 4) inferInstance
 t9 := by kernel_rfl
 a9 := zr (t := 9) inferInstance
 z9 := zt (t := 9) inferInstance
 v9 := zD (t := 9) inferInstance
 t20 := by kernel_rfl
 a20 := zr (t := 20) inferInstance
 z20 := zt (t := 20) inferInstance
 v20 := zD (t := 20) inferInstance
 t31 := by kernel_rfl
 a31 := zr (t := 46) inferInstance
 z31 := zt (t := 46) inferInstance
 v31 := zD (t := 46) inferInstance
 t37 := by kernel_rfl
 a37 := zr (t := 43) inferInstance
 z37 := zt (t := 43) inferInstance
 v37 := zD (t := 43) inferInstance
 t70 := by kernel_rfl
 a70 := zr (t := 270) inferInstance
 z70 := zt (t := 270) inferInstance
 v70 := zD (t := 270) inferInstance
 t72 := by kernel_rfl
 a72 := qV (t := 272) inferInstance
 z72 := zt (t := 272) inferInstance
 v72 := zD (t := 272) inferInstance
 t75 := by kernel_rfl
 a75 := zr (t := 274) inferInstance
 z75 := zt (t := 274) inferInstance
 v75 := zD (t := 274) inferInstance
 t76 := by kernel_rfl
 a76 := zr (t := 275) inferInstance
 z76 := zt (t := 275) inferInstance
 v76 := zD (t := 275) inferInstance
 t127 := by kernel_rfl
 a127 := zr (t := 330) inferInstance
 z127 := zt (t := 330) inferInstance
 v127 := zD (t := 330) inferInstance
 t164 := by kernel_rfl
 a164 := zr (t := 358) inferInstance
 z164 := zt (t := 358) inferInstance
 v164 := zD (t := 358) inferInstance
theorem extraS : Builder.Extra prog renS where
 sizeBuilder := by kernel_rfl
 liesBuilder := by kernel_rfl
 t5 := by kernel_rfl
 a5 := zr (t := 5) inferInstance
 z5 := zt (t := 5) inferInstance
 v5 := zD (t := 5) inferInstance
 infoByte := by kernel_rfl
 cellsByte := by kernel_rfl
 sizeByte := by kernel_rfl
 neB5 := by decide
theorem UY (A : State) (a : Option Addr) (c : Nat) (ls : List (List UInt8)) (sep : List UInt8) (h : Rd 1 A a ls.length (ls.map fun l => Value.string (str l))) (hne : ls ≠ []) (hnc : ls.length <= c) (hn : ls.length <= 1000000) (hlen : (sep.intercalate ls).length <= 1000000000) :
  Meets prog 153 [.slice a ls.length c, .string (str sep)] A fun v A' => v = .string (str (sep.intercalate ls)) /\ A' = [] :: A := by
 refine jU rfl rfl (by kernel_rfl) fun w hw => ?_
 obtain ⟨l0, r, rfl⟩ := List.exists_cons_of_ne_nil hne;obtain ⟨b, o, rfl, h0⟩ := kQ h hw (i := 0) (v := .string (str l0)) rfl
 have hx : ((l0 :: r).map str).map (fun s => s.data.toList) = l0 :: r := by
  rw [List.map_map];exact List.map_id _
 have hl : ((l0 :: r).map str).length = (l0 :: r).length := bE ..
 have key := Any.strings_Join laysS extraS b o c ((l0 :: r).map str) (str sep) w (fun j x hj => by
   rw [cN, Option.map_eq_some_iff] at hj;obtain ⟨l, hl, rfl⟩ := hj;obtain ⟨b', o', e', hc'⟩ := kQ h hw (i := j) (v := .string (str l)) (by rw [cN, hl]; rfl)
   cases e'
   exact hc') (by
   obtain ⟨b', o', cs, e, m, e1, e2⟩ := Ih h0
   cases e1
   exact (Array.getElem?_eq_some_iff.1 e2).1) (by rw [hl]; omega) (by rw [hl]; exact hnc) (by rw [hx]; show (sep.intercalate (l0 :: r)).length <= _; omega)
 rw [hl, hx] at key;refine key.mono ?_;rintro e w' ⟨rfl, hb⟩;exact ⟨_, rfl, hb, [], fun k o hm => (by cases hm), by simp, rfl, rfl⟩
def renI : Ren := ⟨fun x => if x = 137 then 160 else if x = 217 then 209 else if x = 266 then 240 else x, fun x => x, fun x => x⟩
theorem laysI : Lays.n137 prog renI where
 mixed := by kernel_rfl
 f137 := by kernel_rfl
 f217 := by kernel_rfl
 f266 := by kernel_rfl
 t3 := by kernel_rfl
 a3 := zr (t := 3) inferInstance
 z3 := zt (t := 3) inferInstance
 v3 := zD (t := 3) inferInstance
 t5 := by kernel_rfl
 a5 := zr (t := 5) inferInstance
 z5 := zt (t := 5) inferInstance
 v5 := zD (t := 5) inferInstance
 t9 := by kernel_rfl
 a9 := zr (t := 9) inferInstance
 z9 := zt (t := 9) inferInstance
 v9 := zD (t := 9) inferInstance
def sgn_DA : List UInt8 := [33, 35, 36, 37, 38, 39, 42, 43, 45, 46, 94, 95, 124, 126, 96]
theorem ON (c : UInt8) : Meets prog 160 [.string (str sgn_DA), b8 c] [] fun v A => v = .int .i64 (Lib.indexByte sgn_DA c) /\ A = [] := by
 have h : Meets prog 160 [.string (str sgn_DA), b8 c] [] fun v A => v = .int .i64 (Lib.indexByte sgn_DA c) /\ A = [[]] := by
  refine jU rfl rfl (by kernel_rfl) fun w hw => ?_
  refine (Any.strings_IndexByte laysI ⟨sgn_DA.toArray⟩ c.toNat w).mono ?_;rintro e w' ⟨rfl, rfl⟩;refine ⟨_, rfl, Below.refl _ _, [], fun k o hm => (by cases hm), by simp, ?_, rfl⟩;rw [show ((c.toNat : Int).toNat.toUInt8) = c from by simp]
 refine Meets.conv [] h rfl (.nil _) ?_;rintro v A ⟨rfl, rfl⟩;exact ⟨[], [[]], rfl, Among.refl _, rfl, rfl⟩
def tcB (c : UInt8) : Bool := decide (97 <= c.toNat /\ c.toNat <= 122) || (decide (65 <= c.toNat /\ c.toNat <= 90) || (decide (48 <= c.toNat /\ c.toNat <= 57) || sgn_DA.contains c))
theorem index_ge (c : UInt8) : ∀ l : List UInt8, 0 <= Lib.indexByte l c ↔ c ∈ l
 | [] => by simp [Lib.indexByte]
 | b :: l => by
  have ih := index_ge c l;have hg := Lib.indexByte_ge l c
  by_cases hb : b = c
  ·subst hb; simp [Lib.indexByte]
  ·have h1 : (b == c) = false := beq_eq_false_iff_ne.2 hb
   have e : Lib.indexByte (b :: l) c = if (Lib.indexByte l c == -1) = true then -1 else Lib.indexByte l c + 1 := by
    show (if (b == c) = true then (0 : Int) else _) = _
    rw [h1]; rfl
   rw [e, bA, <- ih]
   by_cases h3 : Lib.indexByte l c = -1
   ·rw [if_pos (by rw [h3]; rfl)]
    constructor
    ·intro h; omega
    ·rintro (h | h)
     ·exact (hb h.symm).elim
     ·omega
   ·rw [if_neg (by simp [h3])]
    constructor
    ·intro _; exact .inr (by omega)
    ·intro _; omega
theorem ibyte_ge (c : UInt8) : decide (0 <= Lib.indexByte sgn_DA c) = sgn_DA.contains c := by
 rw [Bool.eq_iff_iff, decide_eq_true_eq, index_ge, List.contains_iff_mem]
theorem Xq (c : UInt8) : Meets prog 202 [b8 c] [] fun v A => v = .bool (tcB c) /\ A = [] := by
 have hlt := c.toNat_lt;have hi := ON c;have hge := ibyte_ge c;have key : tcB c = (decide (97 <= c.toNat /\ c.toNat <= 122) || (decide (65 <= c.toNat /\ c.toNat <= 90) || (decide (48 <= c.toNat /\ c.toNat <= 57) || sgn_DA.contains c))) := rfl;rw [key, <- hge];rw [show b8 c = .int .u8 (c.toNat : Int) from rfl] at hi ⊢;obtain ⟨n, hn⟩ : ∃ n : Int, (c.toNat : Int) = n := ⟨_, rfl⟩
 rw [show decide (97 <= c.toNat /\ c.toNat <= 122) = decide (97 <= n /\ n <= 122) from by rw [decide_eq_decide]; omega,
  show decide (65 <= c.toNat /\ c.toNat <= 90) = decide (65 <= n /\ n <= 90) from by rw [decide_eq_decide]; omega,
  show decide (48 <= c.toNat /\ c.toNat <= 57) = decide (48 <= n /\ n <= 57) from by rw [decide_eq_decide]; omega]
 rw [hn] at hi ⊢;refine eN func202 ntmps202 results202 fun F => ?_
 refine gg ?_;have sgs : Value.string ⟨#[33, 35, 36, 37, 38, 39, 42, 43, 45, 46, 94, 95, 124, 126, 96]⟩ = .string (str sgn_DA) := rfl
 by_cases b1 : 97 <= n
 ·rw [decide_eq_true b1];refine gg ?_
  by_cases d1 : n <= 122
  ·rw [decide_eq_true d1, decide_eq_true (show 97 <= n /\ n <= 122 from ⟨b1, d1⟩)];refine gg ?_;refine zb [] ?_; exact ⟨by simp, rfl⟩
  ·rw [decide_eq_false d1, decide_eq_false (show ¬ (97 <= n /\ n <= 122) by omega)];refine gg ?_
   by_cases b2 : 65 <= n
   ·rw [decide_eq_true b2];refine gg ?_
    by_cases d2 : n <= 90
    ·rw [decide_eq_true d2, decide_eq_true (show 65 <= n /\ n <= 90 from ⟨b2, d2⟩)];refine gg ?_;refine zb [] ?_; exact ⟨by simp, rfl⟩
    ·rw [decide_eq_false d2, decide_eq_false (show ¬ (65 <= n /\ n <= 90) by omega)];refine gg ?_
     by_cases b3 : 48 <= n
     ·rw [decide_eq_true b3];refine gg ?_
      by_cases d3 : n <= 57
      ·rw [decide_eq_true d3, decide_eq_true (show 48 <= n /\ n <= 57 from ⟨b3, d3⟩)];refine gg ?_;refine zb [] ?_; exact ⟨by simp, rfl⟩
      ·rw [decide_eq_false d3, decide_eq_false (show ¬ (48 <= n /\ n <= 57) by omega)];refine gg ?_
       (try rw [sgs])
       refine cA (hi) ?_; rintro v A ⟨rfl, rfl⟩; refine gA ?_;refine zb [] ?_; exact ⟨by simp, rfl⟩
     ·rw [decide_eq_false b3, decide_eq_false (show ¬ (48 <= n /\ n <= 57) by omega)];refine gg ?_
      (try rw [sgs])
      refine cA (hi) ?_; rintro v A ⟨rfl, rfl⟩; refine gA ?_;refine zb [] ?_; exact ⟨by simp, rfl⟩
   ·rw [decide_eq_false b2, decide_eq_false (show ¬ (65 <= n /\ n <= 90) by omega)];refine gg ?_
    by_cases b3 : 48 <= n
    ·rw [decide_eq_true b3];refine gg ?_
     by_cases d3 : n <= 57
     ·rw [decide_eq_true d3, decide_eq_true (show 48 <= n /\ n <= 57 from ⟨b3, d3⟩)];refine gg ?_;refine zb [] ?_; exact ⟨by simp, rfl⟩
     ·rw [decide_eq_false d3, decide_eq_false (show ¬ (48 <= n /\ n <= 57) by omega)];refine gg ?_
      (try rw [sgs])
      refine cA (hi) ?_; rintro v A ⟨rfl, rfl⟩; refine gA ?_;refine zb [] ?_; exact ⟨by simp, rfl⟩
    ·rw [decide_eq_false b3, decide_eq_false (show ¬ (48 <= n /\ n <= 57) by omega)];refine gg ?_
     (try rw [sgs])
     refine cA (hi) ?_; rintro v A ⟨rfl, rfl⟩; refine gA ?_;refine zb [] ?_; exact ⟨by simp, rfl⟩
 ·rw [decide_eq_false b1, decide_eq_false (show ¬ (97 <= n /\ n <= 122) by omega)];refine gg ?_
  by_cases b2 : 65 <= n
  ·rw [decide_eq_true b2];refine gg ?_
   by_cases d2 : n <= 90
   ·rw [decide_eq_true d2, decide_eq_true (show 65 <= n /\ n <= 90 from ⟨b2, d2⟩)];refine gg ?_;refine zb [] ?_; exact ⟨by simp, rfl⟩
   ·rw [decide_eq_false d2, decide_eq_false (show ¬ (65 <= n /\ n <= 90) by omega)];refine gg ?_
    by_cases b3 : 48 <= n
    ·rw [decide_eq_true b3];refine gg ?_
     by_cases d3 : n <= 57
     ·rw [decide_eq_true d3, decide_eq_true (show 48 <= n /\ n <= 57 from ⟨b3, d3⟩)];refine gg ?_;refine zb [] ?_; exact ⟨by simp, rfl⟩
     ·rw [decide_eq_false d3, decide_eq_false (show ¬ (48 <= n /\ n <= 57) by omega)];refine gg ?_
      (try rw [sgs])
      refine cA (hi) ?_; rintro v A ⟨rfl, rfl⟩; refine gA ?_;refine zb [] ?_; exact ⟨by simp, rfl⟩
    ·rw [decide_eq_false b3, decide_eq_false (show ¬ (48 <= n /\ n <= 57) by omega)];refine gg ?_
     (try rw [sgs])
     refine cA (hi) ?_; rintro v A ⟨rfl, rfl⟩; refine gA ?_;refine zb [] ?_; exact ⟨by simp, rfl⟩
  ·rw [decide_eq_false b2, decide_eq_false (show ¬ (65 <= n /\ n <= 90) by omega)];refine gg ?_
   by_cases b3 : 48 <= n
   ·rw [decide_eq_true b3];refine gg ?_
    by_cases d3 : n <= 57
    ·rw [decide_eq_true d3, decide_eq_true (show 48 <= n /\ n <= 57 from ⟨b3, d3⟩)];refine gg ?_;refine zb [] ?_; exact ⟨by simp, rfl⟩
    ·rw [decide_eq_false d3, decide_eq_false (show ¬ (48 <= n /\ n <= 57) by omega)];refine gg ?_
     (try rw [sgs])
     refine cA (hi) ?_; rintro v A ⟨rfl, rfl⟩; refine gA ?_;refine zb [] ?_; exact ⟨by simp, rfl⟩
   ·rw [decide_eq_false b3, decide_eq_false (show ¬ (48 <= n /\ n <= 57) by omega)];refine gg ?_
    (try rw [sgs])
    refine cA (hi) ?_; rintro v A ⟨rfl, rfl⟩; refine gA ?_;refine zb [] ?_; exact ⟨by simp, rfl⟩
end Go.Proofs.YtebikhhoppiapaaGreatDoor
namespace Go.Proofs.YtebikhhoppiapaaGreatDoor
open Go Go.Ost Go.Sha Tryz
def nonB (c : UInt8) : Bool := !(decide ((c.toNat : Int) < 33) || (decide ((126 : Int) < (c.toNat : Int)) || ((c.toNat : Int) == 44)))
def yq (s : List UInt8) : Bool := s.all nonB && (decide (1 <= s.length) && decide (s.length <= 40))
theorem xI {p : UInt8 -> Bool} (s : List UInt8) (i : Nat) (h : i < s.length) : (s.take (i + 1)).all p = ((s.take i).all p && p (s.getD i 0)) := by
 rw [cC, List.all_append, aS, aF h]
 simp
theorem yu {p : UInt8 -> Bool} {s : List UInt8} {i : Nat} (h : i < s.length) (hp : p (s.getD i 0) = false) : s.all p = false := by
 rw [List.all_eq_false];refine ⟨s.getD i 0, ?_, by rw [hp]; simp⟩;rw [aS, aF h];exact dD h
theorem Kj (s : List UInt8) (hs : s.length <= 1000000) : Meets prog 137 [.string (str s)] [] fun v A => v = .bool (s.all nonB && (decide (1 <= s.length) && decide (s.length <= 64))) /\ A = [] := by
 refine eN func137 ntmps137 results137 fun F => ?_
 refine gg ?_
 refine zz (fun q D L S => ∃ i : Nat, i <= s.length /\ (s.take i).all nonB = true /\ q = s.length - i /\ D = [] /\ L = [(6, .int .i64 i), (5, .int .i64 s.length), (0, .string (str s))] /\ S = [F])
  ⟨0, by omega, by simp, rfl, rfl, rfl, rfl⟩ ?_
 rintro q D L S ⟨i, hi, hall, rfl, rfl, rfl, rfl⟩;refine gg ?_;refine if_d (fun hc => ?_) (fun hc => ?_)
 ·have hil : i < s.length := by omega
  have hnx := xI (p := nonB) s i hil;have hct := yu (p := nonB) hil;have hx := (s.getD i 0).toNat_lt;refine gg ?_
  cases h1 : decide (((s.getD i 0).toNat : Int) < 33) with
  | true =>
   rw [hct (by simp only [nonB, h1]; rfl)];refine gg ?_;refine zb [] ?_; exact ⟨rfl, rfl⟩
  | false =>
   refine gg ?_
   cases h2 : decide ((126 : Int) < ((s.getD i 0).toNat : Int)) with
   | true =>
    rw [hct (by simp only [nonB, h1, h2]; rfl)];refine gg ?_;refine zb [] ?_; exact ⟨rfl, rfl⟩
   | false =>
    refine gg ?_
    cases h3 : (((s.getD i 0).toNat : Int) == 44) with
    | true =>
     rw [hct (by simp only [nonB, h1, h2, h3]; rfl)];refine gg ?_;refine zb [] ?_; exact ⟨rfl, rfl⟩
    | false =>
     refine gg ?_;exact zv ⟨i + 1, by omega, by rw [hnx, hall]; simp only [nonB, h1, h2, h3]; rfl, rfl, rfl, rfl, rfl⟩
 ·obtain rfl : i = s.length := by omega
  rw [bF] at hall;rw [hall];refine gg ?_
  have e : decide ((s.length : Int) <= 64) = decide (s.length <= 64) := by
   by_cases h : s.length <= 64
   ·rw [decide_eq_true h, decide_eq_true (by omega)]
   ·rw [decide_eq_false h, decide_eq_false (by omega)]
  by_cases h : s = []
  ·subst h;rw [bne_self_eq_false];refine gg ?_;refine zb [] ?_; exact ⟨rfl, rfl⟩
  ·have hp : 0 < s.length := List.length_pos_iff.2 h;rw [bne_iff_ne.2 h];refine gg ?_;rw [decide_eq_true (show 1 <= s.length by omega), <- e];refine zb [] ?_; exact ⟨rfl, rfl⟩
theorem KH (s : List UInt8) (hs : s.length <= 1000000) : Meets prog 102 [.string (str s)] [] fun v A => v = .bool (s.all nonB && (decide (1 <= s.length) && decide (s.length <= 64))) /\ A = [] := by
 refine eN func102 ntmps102 results102 fun F => ?_
 refine gg ?_
 refine zz (fun q D L S => ∃ i : Nat, i <= s.length /\ (s.take i).all nonB = true /\ q = s.length - i /\ D = [] /\ L = [(3, .int .i64 i), (0, .string (str s))] /\ S = [F])
  ⟨0, by omega, by simp, rfl, rfl, rfl, rfl⟩ ?_
 rintro q D L S ⟨i, hi, hall, rfl, rfl, rfl, rfl⟩;refine gg ?_;refine if_d (fun hc => ?_) (fun hc => ?_)
 ·have hil : i < s.length := by omega
  have hnx := xI (p := nonB) s i hil;have hct := yu (p := nonB) hil;have hx := (s.getD i 0).toNat_lt;refine gg ?_
  cases h1 : decide (((s.getD i 0).toNat : Int) < 33) with
  | true =>
   rw [hct (by simp only [nonB, h1]; rfl)];refine gg ?_;refine zb [] ?_; exact ⟨rfl, rfl⟩
  | false =>
   refine gg ?_
   cases h2 : decide ((126 : Int) < ((s.getD i 0).toNat : Int)) with
   | true =>
    rw [hct (by simp only [nonB, h1, h2]; rfl)];refine gg ?_;refine zb [] ?_; exact ⟨rfl, rfl⟩
   | false =>
    refine gg ?_
    cases h3 : (((s.getD i 0).toNat : Int) == 44) with
    | true =>
     rw [hct (by simp only [nonB, h1, h2, h3]; rfl)];refine gg ?_;refine zb [] ?_; exact ⟨rfl, rfl⟩
    | false =>
     refine gg ?_;exact zv ⟨i + 1, by omega, by rw [hnx, hall]; simp only [nonB, h1, h2, h3]; rfl, rfl, rfl, rfl, rfl⟩
 ·obtain rfl : i = s.length := by omega
  rw [bF] at hall;rw [hall];refine gg ?_
  have e : decide ((s.length : Int) <= 64) = decide (s.length <= 64) := by
   by_cases h : s.length <= 64
   ·rw [decide_eq_true h, decide_eq_true (by omega)]
   ·rw [decide_eq_false h, decide_eq_false (by omega)]
  by_cases h : 1 <= s.length
  ·rw [decide_eq_true h, decide_eq_true (show (1 : Int) <= s.length by omega), <- e];refine gg ?_;refine zb [] ?_; exact ⟨rfl, rfl⟩
  ·rw [decide_eq_false h, decide_eq_false (show ¬ (1 : Int) <= s.length by omega)];refine gg ?_;refine zb [] ?_; exact ⟨rfl, rfl⟩
theorem OX (s : List UInt8) (hs : s.length <= 1000000) : Meets prog 93 [.string (str s)] [] fun v A => v = .bool (yq s) /\ A = [] := by
 have key : yq s = ((s.all nonB && (decide (1 <= s.length) && decide (s.length <= 64))) && decide ((s.length : Int) <= 40)) := by
  unfold yq
  by_cases h : s.length <= 40
  ·rw [decide_eq_true h, decide_eq_true (show s.length <= 64 by omega), decide_eq_true (show (s.length : Int) <= 40 by omega), Bool.and_true, Bool.and_true]
  ·rw [decide_eq_false h, decide_eq_false (show ¬ (s.length : Int) <= 40 by omega), Bool.and_false, Bool.and_false, Bool.and_false]
 have hn := Kj s hs;rw [key]
 cases hB : (s.all nonB && (decide (1 <= s.length) && decide (s.length <= 64))) with
 | false =>
  rw [hB] at hn;refine eN func93 ntmps93 results93 fun F => ?_
  refine gg ?_;refine cA (hn) ?_; rintro v A ⟨rfl, rfl⟩; refine gA ?_;refine zb [] ?_; exact ⟨rfl, rfl⟩
 | true =>
  rw [hB] at hn;refine eN func93 ntmps93 results93 fun F => ?_
  refine gg ?_;refine cA (hn) ?_; rintro v A ⟨rfl, rfl⟩; refine gA ?_;refine zb [] ?_; exact ⟨rfl, rfl⟩
theorem getD_mid (d h : List UInt8) (k : Nat) : (d ++ (46 : UInt8) :: h).getD k 0 = if k < d.length then d.getD k 0 else if k = d.length then 46 else h.getD (k - d.length - 1) 0 := by
 simp only [aS]
 by_cases h1 : k < d.length
 ·rw [if_pos h1, cT h1]
 ·rw [if_neg h1, bR (by omega)]
  by_cases h2 : k = d.length
  ·rw [if_pos h2, h2]; simp
  ·rw [if_neg h2, show k - d.length = (k - d.length - 1) + 1 from by omega]; simp
theorem JS (d h : List UInt8) (hd : d.length <= 1000000) (hl : h.length <= 1000000) (hh : ∀ c ∈ h, c ≠ 46) : Meets prog 194 [.string (str (d ++ 46 :: h)), .int .u8 46] [] fun v A => v = .int .i64 d.length /\ A = [] := by
 obtain ⟨s, hs⟩ : ∃ s, d ++ (46 : UInt8) :: h = s := ⟨_, rfl⟩;have hsl : s.length = d.length + h.length + 1 := by rw [<- hs]; simp; omega
 have hg := getD_mid d h;rw [hs] at hg ⊢;refine eN func194 ntmps194 results194 fun F => ?_
 refine gg ?_;rw [show ((s.length : Int) - 1) = ((s.length - 1 : Nat) : Int) from by omega]
 refine zz (fun q D L S => ∃ k : Nat, d.length <= k /\ k < s.length /\ q = k + 1 /\ D = [] /\ L = [(5, .int .i64 k), (0, .string (str s)), (1, .int .u8 46)] /\ S = [F])
  ⟨s.length - 1, by omega, by omega, rfl, rfl, rfl, rfl⟩ ?_
 rintro q D L S ⟨k, hk1, hk2, rfl, rfl, rfl, rfl⟩;refine gg ?_;rw [decide_eq_true (show (0 : Int) <= k by omega)];refine gg ?_;rw [show (b8 (s.getD k 0)) = .int .u8 (s.getD k 0).toNat from rfl]
 by_cases h2 : k = d.length
 ·have e : s.getD k 0 = 46 := by rw [hg, if_neg (by omega), if_pos h2]
  rw [e];refine gg ?_;subst h2;refine zb [] ?_; exact ⟨rfl, rfl⟩
 ·have e : s.getD k 0 ≠ 46 := by
   rw [hg, if_neg (by omega), if_neg h2];refine hh _ ?_;rw [aS, aF (by omega)];exact dD _
  have e2 : (((s.getD k 0).toNat : Int) == 46) = false := beq_eq_false_iff_ne.2 (fun h => e (UInt8.toNat_inj.1 (by rw [show (46 : UInt8).toNat = 46 from rfl]; omega)));refine gg ?_;rw [e2];refine gg ?_;rw [show ((k : Int) - 1) = ((k - 1 : Nat) : Int) from by omega];exact zv ⟨k - 1, by omega, by omega, rfl, rfl, rfl, rfl⟩
theorem Vf (d h : List UInt8) (hd : d.length <= 1000000) (hl : h.length <= 1000000) (hh : ∀ c ∈ h, c ≠ 46) : Meets prog 140 [.string (str (d ++ 46 :: h)), .string (str [46])] [] fun v A => v = .int .i64 d.length /\ A = [] := by
 refine eN func140 ntmps140 results140 fun F => ?_
 refine gg ?_;refine zf fun K hK => ?_; rw [sidx (by decide) (by decide)]; refine hK _ _ ?_; clear hK K
 refine gg ?_;refine cA (JS d h hd hl hh) ?_; rintro v A ⟨rfl, rfl⟩; refine gA ?_;refine zb [] ?_; exact ⟨rfl, rfl⟩
theorem OY (d h : List UInt8) (hd : d.length <= 1000000) (hl : h.length <= 1000000) (hh : ∀ c ∈ h, c ≠ 46) : Meets prog 95 [.string (str (d ++ 46 :: h))] [] fun v A => v = .string (str d) /\ A = [] := by
 have hz : (d ++ (46 : UInt8) :: h).length = d.length + h.length + 1 := by simp; omega
 refine eN func95 ntmps95 results95 fun F => ?_
 refine gg ?_;refine cA (Vf d h hd hl hh) ?_; rintro v A ⟨rfl, rfl⟩; refine gA ?_;refine gg ?_;rw [List.take_left' rfl];refine zb [] ?_; exact ⟨rfl, rfl⟩
def hx (n : Nat) : List UInt8 := hex (be 8 n)
theorem hx_len (n : Nat) : (hx n).length = 16 := by unfold hx; rw [hex_len, jb]
theorem Kt (n : Nat) (hn : n < 18446744073709551616) : Meets prog 97 [.int .u64 n] [] fun v A => v = .string (str (hx n)) /\ A = [] := by
 refine eN func97 ntmps97 results97 fun F => ?_
 refine gg ?_;refine zf fun K hK => ?_; refine make8 (n := 8) (by decide) (fun b1 C1 ho1 => ?_); refine hK _ _ ?_; clear hK K
 refine gg ?_
 refine zz (fun q D L S => ∃ (i : Nat) (C : Chunk), i <= 8 /\ Own8 5 C (some ⟨b1, 0, none⟩) 8 8 ((be 8 n).take i ++ aQ (8 - i) 0) /\ q = 8 - i /\ D = [] /\
  L = [(8, .int .i64 i), (7, .int .i64 8), (3, .slice (some ⟨b1, 0, none⟩) 8 8), (0, .int .u64 n)] /\ S = [C, F])
  ⟨0, C1, by omega, ho1, rfl, rfl, rfl, rfl⟩ ?_
 rintro q D L S ⟨i, C, hi, ho, rfl, rfl, rfl, rfl⟩;refine gg ?_;refine if_d (fun hc => ?_) (fun hc => ?_)
 ·have hi8 : i < 8 := by omega
  have hl : ((be 8 n).take i).length = i := by rw [aU, jb]; omega
  have hset : ((be 8 n).take i ++ aQ (8 - i) 0).set i (aH (n / 256 ^ (8 - 1 - i))) = (be 8 n).take (i + 1) ++ aQ (8 - (i + 1)) 0 := by
   rw [be_next 8 n i hi8, show 8 - i = (8 - (i + 1)) + 1 from by omega, List.replicate_succ, List.set_append_right _ _ (by omega), hl, dT, List.set_cons_zero, aM]; rfl
  have e1 : Value.int .u8 (IntKind.u8.wrap ((n : Int) / 2 ^ (8 * ((7 : Int) - i)).toNat)) = b8 (aH (n / 256 ^ (8 - 1 - i))) := by
   rw [show (8 * ((7 : Int) - i)).toNat = 8 * (8 - 1 - i) from by omega, shift8, qt]; rfl
  have e2 : (⟨b1, 0 + i * 1, none⟩ : Addr) = elA (some ⟨b1, 0, none⟩) i := by
   simp only [elA, cI, add_mk]; congr 1; omega
  refine gg ?_;refine zf fun K hK => ?_; rw [e1, e2]; refine jA ho pkA (by simp [jb]; omega) (fun C2 ho2 => ?_); refine hK _ _ ?_; clear hK K
  rw [hset] at ho2;refine gg ?_;exact zv ⟨i + 1, C2, by omega, ho2, rfl, rfl, rfl, rfl⟩
 ·obtain rfl : i = 8 := by omega
  rw [show (be 8 n).take 8 ++ aQ (8 - 8) 0 = be 8 n from by rw [bS (by rw [jb]; omega)]; simp] at ho;have hb := wT C (some ⟨b1, 0, none⟩) 8 (be 8 n) (by rw [jb]; decide) (by rw [jb]; exact ho.rd (by simp));rw [jb] at hb;refine gg ?_;refine cA (hb) ?_; rintro v A ⟨rfl, rfl⟩; refine gA ?_;refine zb [] ?_; exact ⟨rfl, rfl⟩
end Go.Proofs.YtebikhhoppiapaaGreatDoor
namespace Go.Proofs.YtebikhhoppiapaaGreatDoor
open Go Go.Ost Tryz
theorem beq_n (c k : UInt8) : (c == k) = decide ((c.toNat : Int) = (k.toNat : Int)) := by
 rw [Bool.eq_iff_iff, beq_iff_eq, decide_eq_true_eq]
 constructor
 ·rintro rfl; rfl
 ·intro h; exact UInt8.toNat_inj.1 (by omega)
def sgN (n : Int) : Bool := decide (n = 33) || (decide (n = 35) || (decide (n = 36) || (decide (n = 37) || (decide (n = 38) || (decide (n = 39) || (decide (n = 42) || (decide (n = 43) || (decide (n = 45) || (decide (n = 46) || (decide (n = 94) || (decide (n = 95) || (decide (n = 124) || (decide (n = 126) || (decide (n = 96)))))))))))))))
theorem sgn_has (c : UInt8) : sgn_DA.contains c = sgN c.toNat := by
 simp only [sgn_DA, List.contains_cons, List.contains_nil, Bool.or_false, beq_n]; rfl
def tcN (n : Int) : Bool := decide (97 <= n /\ n <= 122) || (decide (65 <= n /\ n <= 90) || (decide (48 <= n /\ n <= 57) || sgN n))
theorem tc_n (c : UInt8) : tcB c = tcN c.toNat := by
 unfold tcB tcN;rw [sgn_has]
 rw [show decide (97 <= c.toNat /\ c.toNat <= 122) = decide (97 <= (c.toNat : Int) /\ (c.toNat : Int) <= 122) from by rw [decide_eq_decide]; omega,
  show decide (65 <= c.toNat /\ c.toNat <= 90) = decide (65 <= (c.toNat : Int) /\ (c.toNat : Int) <= 90) from by rw [decide_eq_decide]; omega,
  show decide (48 <= c.toNat /\ c.toNat <= 57) = decide (48 <= (c.toNat : Int) /\ (c.toNat : Int) <= 57) from by rw [decide_eq_decide]; omega]
theorem rtchar_n (n : Int) (h0 : 0 <= n) (h1 : n < 256) : Meets prog 166 [.int .u8 n] [] fun v A => v = .bool (tcN n) /\ A = [] := by
 unfold tcN;refine eN func166 ntmps166 results166 fun F => ?_
 (with_reducible refine zY ?_); refine zQ (fun D L S => D = [] /\ L = [(0, .int .u8 n)] /\ S = [F]) ?_ ?_
 ·refine gg ?_;exact mid ⟨rfl, rfl, rfl⟩
 rintro D L S ⟨rfl, rfl, rfl⟩
 (with_reducible refine zY ?_); refine zQ (fun D L S => ¬ (97 <= n /\ n <= 122) /\ ¬ (65 <= n /\ n <= 90) /\ ¬ (48 <= n /\ n <= 57) /\ D = [] /\ L = [(0, .int .u8 n)] /\ S = [F]) ?_ ?_
 ·refine gg ?_
  by_cases b1 : 97 <= n
  ·rw [decide_eq_true b1];refine gg ?_
   by_cases d1 : n <= 122
   ·rw [decide_eq_true d1, decide_eq_true (show 97 <= n /\ n <= 122 from ⟨b1, d1⟩)];refine gg ?_;refine zb [] ?_; exact ⟨by simp, rfl⟩
   ·rw [decide_eq_false d1];refine gg ?_;rw [decide_eq_true (show 65 <= n by omega)];refine gg ?_;rw [decide_eq_false (show ¬ n <= 90 by omega)];refine gg ?_;rw [decide_eq_true (show 48 <= n by omega)];refine gg ?_;rw [decide_eq_false (show ¬ n <= 57 by omega)];refine gg ?_;exact mid ⟨by omega, by omega, by omega, rfl, rfl, rfl⟩
  ·rw [decide_eq_false b1];refine gg ?_
   by_cases b2 : 65 <= n
   ·rw [decide_eq_true b2];refine gg ?_
    by_cases d2 : n <= 90
    ·rw [decide_eq_true d2, decide_eq_true (show 65 <= n /\ n <= 90 from ⟨b2, d2⟩)];refine gg ?_;refine zb [] ?_; exact ⟨by simp, rfl⟩
    ·rw [decide_eq_false d2];refine gg ?_;rw [decide_eq_true (show 48 <= n by omega)];refine gg ?_;rw [decide_eq_false (show ¬ n <= 57 by omega)];refine gg ?_;exact mid ⟨by omega, by omega, by omega, rfl, rfl, rfl⟩
   ·rw [decide_eq_false b2];refine gg ?_
    by_cases b3 : 48 <= n
    ·rw [decide_eq_true b3];refine gg ?_
     by_cases d3 : n <= 57
     ·rw [decide_eq_true d3, decide_eq_true (show 48 <= n /\ n <= 57 from ⟨b3, d3⟩)];refine gg ?_;refine zb [] ?_; exact ⟨by simp, rfl⟩
     ·rw [decide_eq_false d3];refine gg ?_;exact mid ⟨by omega, by omega, by omega, rfl, rfl, rfl⟩
    ·rw [decide_eq_false b3];refine gg ?_;exact mid ⟨by omega, by omega, by omega, rfl, rfl, rfl⟩
 rintro D L S ⟨a1, a2, a3, rfl, rfl, rfl⟩;rw [decide_eq_false a1, decide_eq_false a2, decide_eq_false a3];unfold sgN;refine gg ?_;refine if_b (fun hc => ?_) (fun hc => ?_)
 ·refine gg ?_
  (try rw [beq_iff_eq.2 hc])
  (try refine gg ?_)
  refine zb [] ?_; exact ⟨by simp [hc], rfl⟩
 ·have hc0 := hc;refine gg ?_;refine if_b (fun hc => ?_) (fun hc => ?_)
  ·refine gg ?_
   (try rw [beq_iff_eq.2 hc])
   (try refine gg ?_)
   refine zb [] ?_; exact ⟨by simp [hc], rfl⟩
  ·have hc1 := hc;refine gg ?_;refine if_b (fun hc => ?_) (fun hc => ?_)
   ·refine gg ?_
    (try rw [beq_iff_eq.2 hc])
    (try refine gg ?_)
    refine zb [] ?_; exact ⟨by simp [hc], rfl⟩
   ·have hc2 := hc;refine gg ?_;refine if_b (fun hc => ?_) (fun hc => ?_)
    ·refine gg ?_
     (try rw [beq_iff_eq.2 hc])
     (try refine gg ?_)
     refine zb [] ?_; exact ⟨by simp [hc], rfl⟩
    ·have hc3 := hc;refine gg ?_;refine if_b (fun hc => ?_) (fun hc => ?_)
     ·refine gg ?_
      (try rw [beq_iff_eq.2 hc])
      (try refine gg ?_)
      refine zb [] ?_; exact ⟨by simp [hc], rfl⟩
     ·have hc4 := hc;refine gg ?_;refine if_b (fun hc => ?_) (fun hc => ?_)
      ·refine gg ?_
       (try rw [beq_iff_eq.2 hc])
       (try refine gg ?_)
       refine zb [] ?_; exact ⟨by simp [hc], rfl⟩
      ·have hc5 := hc;refine gg ?_;refine if_b (fun hc => ?_) (fun hc => ?_)
       ·refine gg ?_
        (try rw [beq_iff_eq.2 hc])
        (try refine gg ?_)
        refine zb [] ?_; exact ⟨by simp [hc], rfl⟩
       ·have hc6 := hc;refine gg ?_;refine if_b (fun hc => ?_) (fun hc => ?_)
        ·refine gg ?_
         (try rw [beq_iff_eq.2 hc])
         (try refine gg ?_)
         refine zb [] ?_; exact ⟨by simp [hc], rfl⟩
        ·have hc7 := hc;refine gg ?_;refine if_b (fun hc => ?_) (fun hc => ?_)
         ·refine gg ?_
          (try rw [beq_iff_eq.2 hc])
          (try refine gg ?_)
          refine zb [] ?_; exact ⟨by simp [hc], rfl⟩
         ·have hc8 := hc;refine gg ?_;refine if_b (fun hc => ?_) (fun hc => ?_)
          ·refine gg ?_
           (try rw [beq_iff_eq.2 hc])
           (try refine gg ?_)
           refine zb [] ?_; exact ⟨by simp [hc], rfl⟩
          ·have hc9 := hc;refine gg ?_;refine if_b (fun hc => ?_) (fun hc => ?_)
           ·refine gg ?_
            (try rw [beq_iff_eq.2 hc])
            (try refine gg ?_)
            refine zb [] ?_; exact ⟨by simp [hc], rfl⟩
           ·have hc10 := hc;refine gg ?_;refine if_b (fun hc => ?_) (fun hc => ?_)
            ·refine gg ?_
             (try rw [beq_iff_eq.2 hc])
             (try refine gg ?_)
             refine zb [] ?_; exact ⟨by simp [hc], rfl⟩
            ·have hc11 := hc;refine gg ?_;refine if_b (fun hc => ?_) (fun hc => ?_)
             ·refine gg ?_
              (try rw [beq_iff_eq.2 hc])
              (try refine gg ?_)
              refine zb [] ?_; exact ⟨by simp [hc], rfl⟩
             ·have hc12 := hc;refine gg ?_;refine if_b (fun hc => ?_) (fun hc => ?_)
              ·refine gg ?_
               (try rw [beq_iff_eq.2 hc])
               (try refine gg ?_)
               refine zb [] ?_; exact ⟨by simp [hc], rfl⟩
              ·have hc13 := hc;refine gg ?_;refine if_b (fun hc => ?_) (fun hc => ?_)
               ·refine gg ?_
                (try rw [beq_iff_eq.2 hc])
                (try refine gg ?_)
                refine zb [] ?_; exact ⟨by simp [hc], rfl⟩
               ·have hc14 := hc;refine gg ?_;refine zb [] ?_; exact ⟨by simp [hc0, hc1, hc2, hc3, hc4, hc5, hc6, hc7, hc8, hc9, hc10, hc11, hc12, hc13, hc14], rfl⟩
theorem Zn (c : UInt8) : Meets prog 166 [b8 c] [] fun v A => v = .bool (tcB c) /\ A = [] := by
 have := c.toNat_lt;have h := rtchar_n c.toNat (by omega) (by omega);rw [<- tc_n] at h;exact h
def tokB (s : List UInt8) : Bool := s.all tcB && decide (1 <= s.length)
theorem Xp (s : List UInt8) (hs : s.length <= 1000000) : Meets prog 147 [.string (str s)] [] fun v A => v = .bool (tokB s) /\ A = [] := by
 unfold tokB;refine eN func147 ntmps147 results147 fun F => ?_
 refine gg ?_
 refine zz (fun q D L S => ∃ i : Nat, i <= s.length /\ (s.take i).all tcB = true /\ q = s.length - i /\ D = [] /\ L = [(6, .int .i64 i), (5, .int .i64 s.length), (0, .string (str s))] /\ S = [F])
  ⟨0, by omega, by simp, rfl, rfl, rfl, rfl⟩ ?_
 rintro q D L S ⟨i, hi, hall, rfl, rfl, rfl, rfl⟩;refine gg ?_;refine if_d (fun hc => ?_) (fun hc => ?_)
 ·have hil : i < s.length := by omega
  have hnx := xI (p := tcB) s i hil;have hct := yu (p := tcB) hil;refine gg ?_;refine cA (Xq (s.getD i 0)) ?_; rintro v A ⟨rfl, rfl⟩; refine gA ?_
  cases h1 : tcB (s.getD i 0) with
  | false =>
   rw [hct h1];refine gg ?_;refine zb [] ?_; exact ⟨rfl, rfl⟩
  | true =>
   refine gg ?_;exact zv ⟨i + 1, by omega, by rw [hnx, hall, h1]; rfl, rfl, rfl, rfl, rfl⟩
 ·obtain rfl : i = s.length := by omega
  rw [bF] at hall;rw [hall];refine gg ?_
  by_cases h : s = []
  ·subst h;rw [bne_self_eq_false];refine gg ?_;refine zb [] ?_; exact ⟨rfl, rfl⟩
  ·have hp : 0 < s.length := List.length_pos_iff.2 h;rw [bne_iff_ne.2 h, decide_eq_true (show 1 <= s.length by omega)];refine gg ?_;refine zb [] ?_; exact ⟨rfl, rfl⟩
theorem Zm (s : List UInt8) (hs : s.length <= 1000000) : Meets prog 122 [.string (str s)] [] fun v A => v = .bool (tokB s) /\ A = [] := by
 unfold tokB;refine eN func122 ntmps122 results122 fun F => ?_
 refine gg ?_
 refine zz (fun q D L S => ∃ i : Nat, i <= s.length /\ (s.take i).all tcB = true /\ q = s.length - i /\ D = [] /\ L = [(3, .int .i64 i), (0, .string (str s))] /\ S = [F])
  ⟨0, by omega, by simp, rfl, rfl, rfl, rfl⟩ ?_
 rintro q D L S ⟨i, hi, hall, rfl, rfl, rfl, rfl⟩;refine gg ?_;refine if_d (fun hc => ?_) (fun hc => ?_)
 ·have hil : i < s.length := by omega
  have hnx := xI (p := tcB) s i hil;have hct := yu (p := tcB) hil;refine gg ?_;refine cA (Zn (s.getD i 0)) ?_; rintro v A ⟨rfl, rfl⟩; refine gA ?_
  cases h1 : tcB (s.getD i 0) with
  | false =>
   rw [hct h1];refine gg ?_;refine zb [] ?_; exact ⟨rfl, rfl⟩
  | true =>
   refine gg ?_;exact zv ⟨i + 1, by omega, by rw [hnx, hall, h1]; rfl, rfl, rfl, rfl, rfl⟩
 ·obtain rfl : i = s.length := by omega
  rw [bF] at hall;rw [hall];refine gg ?_;have e : decide ((0 : Int) < s.length) = decide (1 <= s.length) := by rw [decide_eq_decide]; omega
  rw [e];refine zb [] ?_; exact ⟨rfl, rfl⟩
def inB (c : UInt8) : Bool := decide ((c.toNat : Int) = 9) || (decide (32 <= (c.toNat : Int)) && decide ((c.toNat : Int) ≠ 127))
theorem kW (c : UInt8) : Meets prog 203 [b8 c] [] fun v A => v = .bool (inB c) /\ A = [] := by
 have hlt := c.toNat_lt;unfold inB;rw [show b8 c = .int .u8 (c.toNat : Int) from rfl];obtain ⟨n, hn⟩ : ∃ n : Int, (c.toNat : Int) = n := ⟨_, rfl⟩;have h1 : n < 256 := by omega
 rw [hn];refine eN func203 ntmps203 results203 fun F => ?_
 refine gg ?_
 by_cases h9 : n = 9
 ·subst h9;refine gg ?_;refine zb [] ?_; exact ⟨by simp, rfl⟩
 ·rw [beq_eq_false_iff_ne.2 h9];refine gg ?_
  by_cases h32 : 32 <= n
  ·rw [decide_eq_true h32];refine gg ?_
   by_cases h126 : n <= 126
   ·rw [decide_eq_true h126];refine gg ?_;refine zb [] ?_; exact ⟨by simp [h9, h32]; omega, rfl⟩
   ·rw [decide_eq_false h126];refine gg ?_
    by_cases h127 : n = 127
    ·subst h127;refine gg ?_;refine zb [] ?_; exact ⟨by simp, rfl⟩
    ·rw [decide_eq_true (show 128 <= n by omega)];refine gg ?_;refine zb [] ?_; exact ⟨by simp [h9, h32, h127], rfl⟩
  ·rw [decide_eq_false h32];refine gg ?_;rw [decide_eq_false (show ¬ 128 <= n by omega)];refine gg ?_;refine zb [] ?_; exact ⟨by simp [h9, h32], rfl⟩
theorem JJ (c : UInt8) : Meets prog 165 [b8 c] [] fun v A => v = .bool (inB c) /\ A = [] := by
 have hlt := c.toNat_lt;unfold inB;rw [show b8 c = .int .u8 (c.toNat : Int) from rfl];obtain ⟨n, hn⟩ : ∃ n : Int, (c.toNat : Int) = n := ⟨_, rfl⟩;have h1 : n < 256 := by omega
 rw [hn];refine eN func165 ntmps165 results165 fun F => ?_
 refine gg ?_
 by_cases h9 : n = 9
 ·subst h9;refine gg ?_;refine zb [] ?_; exact ⟨by simp, rfl⟩
 ·rw [beq_eq_false_iff_ne.2 h9];refine gg ?_
  by_cases h32 : 32 <= n
  ·rw [decide_eq_true h32];refine gg ?_
   by_cases h127 : n = 127
   ·subst h127;refine gg ?_;refine zb [] ?_; exact ⟨by simp, rfl⟩
   ·rw [bne_iff_ne.2 h127];refine gg ?_;refine zb [] ?_; exact ⟨by simp [h9, h32, h127], rfl⟩
  ·rw [decide_eq_false h32];refine gg ?_;refine zb [] ?_; exact ⟨by simp [h9, h32], rfl⟩
def xt (c : UInt8) : List UInt8 := if c = 34 ∨ c = 92 then [92, c] else [c]
def quo (s : List UInt8) : List UInt8 := 34 :: (s.flatMap xt ++ [34])
def quoE (s : List UInt8) : List UInt8 × Bool := if s.all inB then (quo s, true) else ([], false)
theorem Uz (s : List UInt8) (i : Nat) (h : i < s.length) : (s.take (i + 1)).flatMap xt = (s.take i).flatMap xt ++ xt (s.getD i 0) := by
 rw [cC, cH, aS, aF h]
 simp
theorem yo (s : List UInt8) : (s.flatMap xt).length <= 2 * s.length := by
 induction s with
 | nil => simp
 | cons c s ih =>
  rw [bP, aA, aJ];have : (xt c).length <= 2 := by unfold xt; split <;> simp
  omega
theorem Ot (s : List UInt8) (hs : s.length <= 100000) : Meets prog 148 [.string (str s)] [] fun v A => v = .tuple #[.string (str (quoE s).1), .bool (quoE s).2] /\ A = [] := by
 have h34 : Value.int .u8 34 = b8 34 := rfl;have h92 : Value.int .u8 92 = b8 92 := rfl;unfold quoE;refine eN func148 ntmps148 results148 fun F => ?_
 refine gg ?_;refine zf fun K hK => ?_; refine zu fun b4 => ?_; (try simp only [Value.cells]); refine hK _ _ ?_; clear hK K
 refine zB ?_;refine gg ?_;have hw := jk (Bd.new b4) (by simp) 34;rw [aV] at hw;rw [h34];refine cA (hw) ?_; rintro v A ⟨rfl, p1, a1, cap1, X1, hB1, rfl⟩; refine gA ?_
 refine zz (fun q D L S => ∃ (i : Nat) (p a' : Option Addr) (cap' : Nat) (X : Chunk), i <= s.length /\ (s.take i).all inB = true /\ Bd b4 (34 :: (s.take i).flatMap xt) p a' cap' X /\ q = s.length - i /\ D = [] /\
  L = [(9, .int .i64 i), (8, .int .i64 s.length), (4, .pointer (some ⟨b4, 0, none⟩)), (0, .string (str s))] /\ S = [bdB b4 p a' (34 :: (s.take i).flatMap xt).length cap', X, F])
  ⟨0, p1, a1, cap1, X1, by omega, by simp, hB1, rfl, rfl, rfl, rfl⟩ ?_
 rintro q D L S ⟨i, p, a', cap', X, hi, hall, hB, rfl, rfl, rfl, rfl⟩;have hel := yo (s.take i);rw [aU] at hel;refine gg ?_;refine if_d (fun hc => ?_) (fun hc => ?_)
 ·have hil : i < s.length := by omega
  have hnx := xI (p := inB) s i hil;have hct := yu (p := inB) hil;have hen := Uz s i hil;have hlt := (s.getD i 0).toNat_lt;refine gg ?_;refine cA (kW (s.getD i 0)) ?_; rintro v A ⟨rfl, rfl⟩; refine gA ?_
  cases h1 : inB (s.getD i 0) with
  | false =>
   rw [hct h1];refine gg ?_;refine ze (vs := [.string (str []), .bool false]) [] ⟨rfl, rfl⟩
  | true =>
   refine gg ?_
   by_cases e1 : s.getD i 0 = 34
   ·have hes : xt (s.getD i 0) = [92, s.getD i 0] := if_pos (.inl e1);rw [beq_iff_eq.2 e1];refine gg ?_;rw [h92];refine cA (jk hB (by rw [aJ]; omega) 92) ?_; rintro v A ⟨rfl, p2, a2, cap2, X2, hB2, rfl⟩; refine gA ?_;rw [aC] at hB2;refine cA (jk hB2 (by rw [aJ, aA, aI]; omega) (s.getD i 0)) ?_; rintro v A ⟨rfl, p3, a3, cap3, X3, hB3, rfl⟩; refine gA ?_;rw [aC] at hB3;rw [show 34 :: ((s.take i).flatMap xt ++ [92] ++ [s.getD i 0]) = 34 :: (s.take (i + 1)).flatMap xt from by rw [hen, hes]; simp] at hB3 ⊢;exact zv ⟨i + 1, p3, a3, cap3, X3, by omega, by rw [hnx, hall, h1]; rfl, hB3, rfl, rfl, rfl, rfl⟩
   ·rw [beq_eq_false_iff_ne.2 e1];refine gg ?_
    by_cases e2 : s.getD i 0 = 92
    ·have hes : xt (s.getD i 0) = [92, s.getD i 0] := if_pos (.inr e2);rw [beq_iff_eq.2 (show ((s.getD i 0).toNat : Int) = 92 by rw [e2]; rfl)];refine gg ?_;rw [h92];refine cA (jk hB (by rw [aJ]; omega) 92) ?_; rintro v A ⟨rfl, p2, a2, cap2, X2, hB2, rfl⟩; refine gA ?_;rw [aC] at hB2;refine cA (jk hB2 (by rw [aJ, aA, aI]; omega) (s.getD i 0)) ?_; rintro v A ⟨rfl, p3, a3, cap3, X3, hB3, rfl⟩; refine gA ?_;rw [aC] at hB3;rw [show 34 :: ((s.take i).flatMap xt ++ [92] ++ [s.getD i 0]) = 34 :: (s.take (i + 1)).flatMap xt from by rw [hen, hes]; simp] at hB3 ⊢;exact zv ⟨i + 1, p3, a3, cap3, X3, by omega, by rw [hnx, hall, h1]; rfl, hB3, rfl, rfl, rfl, rfl⟩
    ·have hes : xt (s.getD i 0) = [s.getD i 0] := if_neg (fun h => by
      rcases h with h | h
      ·exact e1 h
      ·exact e2 h)
     rw [beq_eq_false_iff_ne.2 (show ((s.getD i 0).toNat : Int) ≠ 92 from fun h => e2 (UInt8.toNat_inj.1 (show (s.getD i 0).toNat = 92 by omega)))];refine gg ?_;refine cA (jk hB (by rw [aJ]; omega) (s.getD i 0)) ?_; rintro v A ⟨rfl, p3, a3, cap3, X3, hB3, rfl⟩; refine gA ?_;rw [aC] at hB3;rw [show 34 :: ((s.take i).flatMap xt ++ [s.getD i 0]) = 34 :: (s.take (i + 1)).flatMap xt from by rw [hen, hes]] at hB3 ⊢;exact zv ⟨i + 1, p3, a3, cap3, X3, by omega, by rw [hnx, hall, h1]; rfl, hB3, rfl, rfl, rfl, rfl⟩
 ·obtain rfl : i = s.length := by omega
  rw [bF] at hall hB hel ⊢;rw [hall, if_pos rfl];refine gg ?_;have hw3 := jk hB (by rw [aJ]; omega) 34;rw [<- h34] at hw3;refine cA (hw3) ?_; rintro v A ⟨rfl, p3, a3, cap3, X3, hB3, rfl⟩; refine gA ?_;rw [aC] at hB3;rw [show 34 :: (s.flatMap xt ++ [34]) = quo s from rfl] at hB3 ⊢;refine cA (kj hB3 (by unfold quo; rw [aJ, aA, aI]; omega)) ?_; rintro v A ⟨rfl, rfl⟩; refine gA ?_;refine ze (vs := [.string (str (quo s)), .bool true]) [] ⟨rfl, rfl⟩
theorem Qb (s : List UInt8) (i : Nat) (h : i < s.length) : (s.take ((i : Int) + 1).toNat).drop i = [s.getD i 0] := by
 rw [show ((i : Int) + 1).toNat = i + 1 from by omega, List.drop_take, show i + 1 - i = 1 from by omega];rw [bK h, aS, aF h]; rfl
theorem KD (s : List UInt8) (hs : s.length <= 100000) : Meets prog 121 [.string (str s)] [] fun v A => v = .tuple #[.string (str (quoE s).1), .bool (quoE s).2] /\ A = [] := by
 have s34 : Value.string ⟨#[34]⟩ = .string (str [34]) := rfl;have s92 : Value.string ⟨#[92]⟩ = .string (str [92]) := rfl;unfold quoE;refine eN func121 ntmps121 results121 fun F => ?_
 refine gg ?_;rw [s34]
 refine zz (fun q D L S => ∃ i : Nat, i <= s.length /\ (s.take i).all inB = true /\ q = s.length - i /\ D = [] /\ L = [(5, .int .i64 i), (4, .string (str (34 :: (s.take i).flatMap xt))), (0, .string (str s))] /\ S = [F])
  ⟨0, by omega, by simp, rfl, rfl, rfl, rfl⟩ ?_
 rintro q D L S ⟨i, hi, hall, rfl, rfl, rfl, rfl⟩;have hel := yo (s.take i);rw [aU] at hel;refine gg ?_;refine if_d (fun hc => ?_) (fun hc => ?_)
 ·have hil : i < s.length := by omega
  have hnx := xI (p := inB) s i hil;have hct := yu (p := inB) hil;have hen := Uz s i hil;have hc1 := Qb s i hil;refine gg ?_;refine cA (JJ (s.getD i 0)) ?_; rintro v A ⟨rfl, rfl⟩; refine gA ?_
  cases h1 : inB (s.getD i 0) with
  | false =>
   rw [hct h1];refine gg ?_;refine ze (vs := [.string (str []), .bool false]) [] ⟨rfl, rfl⟩
  | true =>
   refine gg ?_
   by_cases e1 : s.getD i 0 = 34
   ·have hes : xt (s.getD i 0) = [92, s.getD i 0] := if_pos (.inl e1);rw [beq_iff_eq.2 (show ((s.getD i 0).toNat : Int) = 34 by rw [e1]; rfl)];refine gg ?_;refine zf fun K hK => ?_; rw [s92, zF (by simp only [aJ, aA, aV, aI]; omega)]; refine hK _ _ ?_; clear hK K
    refine gg ?_;rw [hc1];refine zf fun K hK => ?_; rw [zF (by simp only [aJ, aA, aV, aI]; omega)]; refine hK _ _ ?_; clear hK K
    rw [show 34 :: ((s.take i).flatMap xt ++ [92]) ++ [s.getD i 0] = 34 :: (s.take (i + 1)).flatMap xt from by rw [hen, hes]; simp];refine gg ?_;exact zv ⟨i + 1, by omega, by rw [hnx, hall, h1]; rfl, rfl, rfl, rfl, rfl⟩
   ·rw [beq_eq_false_iff_ne.2 (show ((s.getD i 0).toNat : Int) ≠ 34 from fun h => e1 (UInt8.toNat_inj.1 (show (s.getD i 0).toNat = 34 by omega)))];refine gg ?_
    by_cases e2 : s.getD i 0 = 92
    ·have hes : xt (s.getD i 0) = [92, s.getD i 0] := if_pos (.inr e2);rw [beq_iff_eq.2 (show ((s.getD i 0).toNat : Int) = 92 by rw [e2]; rfl)];refine gg ?_;refine zf fun K hK => ?_; rw [s92, zF (by simp only [aJ, aA, aV, aI]; omega)]; refine hK _ _ ?_; clear hK K
     refine gg ?_;rw [hc1];refine zf fun K hK => ?_; rw [zF (by simp only [aJ, aA, aV, aI]; omega)]; refine hK _ _ ?_; clear hK K
     rw [show 34 :: ((s.take i).flatMap xt ++ [92]) ++ [s.getD i 0] = 34 :: (s.take (i + 1)).flatMap xt from by rw [hen, hes]; simp];refine gg ?_;exact zv ⟨i + 1, by omega, by rw [hnx, hall, h1]; rfl, rfl, rfl, rfl, rfl⟩
    ·have hes : xt (s.getD i 0) = [s.getD i 0] := if_neg (fun h => by
      rcases h with h | h
      ·exact e1 h
      ·exact e2 h)
     rw [beq_eq_false_iff_ne.2 (show ((s.getD i 0).toNat : Int) ≠ 92 from fun h => e2 (UInt8.toNat_inj.1 (show (s.getD i 0).toNat = 92 by omega)))];refine gg ?_;rw [hc1];refine zf fun K hK => ?_; rw [zF (by simp only [aJ, aA, aV, aI]; omega)]; refine hK _ _ ?_; clear hK K
     rw [show 34 :: (s.take i).flatMap xt ++ [s.getD i 0] = 34 :: (s.take (i + 1)).flatMap xt from by rw [hen, hes]; simp];refine gg ?_;exact zv ⟨i + 1, by omega, by rw [hnx, hall, h1]; rfl, rfl, rfl, rfl, rfl⟩
 ·obtain rfl : i = s.length := by omega
  rw [bF] at hall hel ⊢;rw [hall, if_pos rfl];refine gg ?_;refine zf fun K hK => ?_; rw [zF (by simp only [aJ, aA, aV, aI]; omega)]; refine hK _ _ ?_; clear hK K
  rw [show 34 :: s.flatMap xt ++ [34] = quo s from rfl];refine gg ?_;refine ze (vs := [.string (str (quo s)), .bool true]) [] ⟨rfl, rfl⟩
def low1 (c : UInt8) : UInt8 := if 65 <= c.toNat /\ c.toNat <= 90 then aH (c.toNat + 32) else c
def lowL (s : List UInt8) : List UInt8 := s.map low1
theorem low_set (s : List UInt8) (i : Nat) (h : i < s.length) : ((s.take i).map low1 ++ s.drop i).set i (low1 (s.getD i 0)) = (s.take (i + 1)).map low1 ++ s.drop (i + 1) := by
 have hl : ((s.take i).map low1).length = i := by simp; omega
 rw [List.set_append_right _ _ (by omega), hl, dT, bK h, List.set_cons_zero, cC, aS, aF h];simp only [cI, Option.toList_some, cL, aZ, dS, aM, aC, aD]
theorem low_at (s : List UInt8) (i : Nat) (h : i < s.length) : ((s.take i).map low1 ++ s.drop i).getD i 0 = s.getD i 0 := by
 have hl : ((s.take i).map low1).length = i := by simp; omega
 simp only [aS];rw [bR (by omega), hl, dT, List.getElem?_drop, dQ]
theorem vh (s : List UInt8) (hs : s.length <= 100000) : Meets prog 149 [.string (str s)] [] fun v A => v = .string (str (lowL s)) /\ A = [] := by
 refine eN func149 ntmps149 results149 fun F => ?_
 refine gg ?_;refine zf fun K hK => ?_; refine zK (by simp only [maxLen]; omega) (fun X xa xc hX => ?_); refine hK _ _ ?_; clear hK K
 refine gg ?_
 refine zz (fun q D L S => ∃ (i : Nat) (X : Chunk), i <= s.length /\ Own8 5 X (some xa) s.length xc ((s.take i).map low1 ++ s.drop i) /\ q = s.length - i /\ D = [] /\
  L = [(10, .int .i64 i), (9, .int .i64 s.length), (8, .slice (some xa) s.length xc), (3, .slice (some xa) s.length xc)] /\ S = [X, F])
  ⟨0, X, by omega, hX, rfl, rfl, rfl, rfl⟩ ?_
 rintro q D L S ⟨i, X, hi, hX, rfl, rfl, rfl, rfl⟩;have hlen : ((s.take i).map low1 ++ s.drop i).length = s.length := by simp; omega
 refine gg ?_;refine if_d (fun hc => ?_) (fun hc => ?_)
 ·have hil : i < s.length := by omega
  have hst := low_set s i hil;have hat := low_at s i hil;have hlt := (s.getD i 0).toNat_lt;refine gg ?_;rw [hat]
  have keep : ¬ (65 <= (s.getD i 0).toNat /\ (s.getD i 0).toNat <= 90) -> (s.take i).map low1 ++ s.drop i = (s.take (i + 1)).map low1 ++ s.drop (i + 1) := fun hn => by
   rw [<- hst, show low1 (s.getD i 0) = s.getD i 0 from if_neg hn];refine (List.ext_getElem? fun j => ?_).symm;rw [List.getElem?_set]
   split
   ·rename_i hj
    subst hj;rw [hlen, if_pos hil, <- hat, aS, aF (by omega)]; rfl
   ·rfl
  by_cases h1 : (65 : Int) <= (s.getD i 0).toNat
  ·rw [decide_eq_true h1];refine gg ?_
   by_cases h2 : ((s.getD i 0).toNat : Int) <= 90
   ·rw [decide_eq_true h2]
    have e1 : Value.int .u8 (((s.getD i 0).toNat : Int) - 65 + 97) = b8 (low1 (s.getD i 0)) := by
     unfold low1;rw [if_pos ⟨by omega, by omega⟩];simp only [b8, bL]
     congr 1; omega
    refine gg ?_;rw [show b8 (s.getD i 0) = Value.int .u8 ((s.getD i 0).toNat : Int) from rfl];refine gg ?_;refine zf fun K hK => ?_; rw [e1]; refine jA hX pkA (by omega) (fun X2 hX2 => ?_); refine hK _ _ ?_; clear hK K
    rw [hst] at hX2;refine gg ?_;exact zv ⟨i + 1, X2, by omega, hX2, rfl, rfl, rfl, rfl⟩
   ·rw [decide_eq_false h2];rw [keep (by omega)] at hX;refine gg ?_;exact zv ⟨i + 1, X, by omega, hX, rfl, rfl, rfl, rfl⟩
  ·rw [decide_eq_false h1];rw [keep (by omega)] at hX;refine gg ?_;exact zv ⟨i + 1, X, by omega, hX, rfl, rfl, rfl, rfl⟩
 ·obtain rfl : i = s.length := by omega
  rw [bF, dR, aL] at hX;refine gg ?_;refine zf fun K hK => ?_; refine xm (hX.rd mmA) ?_; refine hK _ _ ?_; clear hK K
  refine gg ?_;refine zb [] ?_; exact ⟨rfl, rfl⟩
def alph : List UInt8 := [97, 98, 99, 100, 101, 102, 103, 104, 105, 106, 107, 108, 109, 110, 111, 112, 113, 114, 115, 116, 117, 118, 119, 120, 121, 122]
theorem alph_at : ∀ k < 26, (alph.drop k).take 1 = [aH (k + 97)] := by decide
theorem low_next (s : List UInt8) (i : Nat) (h : i < s.length) : lowL (s.take (i + 1)) = lowL (s.take i) ++ [low1 (s.getD i 0)] := by
 unfold lowL;rw [cC, cL, aS, aF h]
 simp
theorem wx (s : List UInt8) (hs : s.length <= 100000) : Meets prog 49 [.string (str s)] [] fun v A => v = .string (str (lowL s)) /\ A = [] := by
 have sal : Value.string ⟨#[97, 98, 99, 100, 101, 102, 103, 104, 105, 106, 107, 108, 109, 110, 111, 112, 113, 114, 115, 116, 117, 118, 119, 120, 121, 122]⟩ = .string (str alph) := rfl;have snil : Value.string ⟨#[]⟩ = .string (str []) := rfl;refine eN func49 ntmps49 results49 fun F => ?_
 refine gg ?_
 refine zz (fun q D L S => ∃ i : Nat, i <= s.length /\ q = s.length - i /\ D = [] /\ L = [(4, .int .i64 i), (3, .string (str (lowL (s.take i)))), (0, .string (str s))] /\ S = [F])
  ⟨0, by omega, rfl, rfl, rfl, rfl⟩ ?_
 rintro q D L S ⟨i, hi, rfl, rfl, rfl, rfl⟩;have hll : (lowL (s.take i)).length <= s.length := by unfold lowL; rw [bE, aU]; omega
 refine gg ?_;refine if_d (fun hc => ?_) (fun hc => ?_)
 ·have hil : i < s.length := by omega
  have hnx := low_next s i hil;have hc1 := Qb s i hil;have hlt := (s.getD i 0).toNat_lt;refine gg ?_
  by_cases h1 : (65 : Int) <= (s.getD i 0).toNat
  ·rw [decide_eq_true h1];refine gg ?_
   by_cases h2 : ((s.getD i 0).toNat : Int) <= 90
   ·rw [decide_eq_true h2];refine gg ?_;refine cdL [[0], [1], [2], [3], [4], [5], [6], [7], [8], [9], [10], [11], [12, 0]] ?_;refine gg ?_;rw [show b8 (s.getD i 0) = Value.int .u8 ((s.getD i 0).toNat : Int) from rfl];refine gg ?_;rw [show b8 (s.getD i 0) = Value.int .u8 ((s.getD i 0).toNat : Int) from rfl];refine gg ?_;obtain ⟨k, hk, hk2⟩ : ∃ k : Nat, ((s.getD i 0).toNat : Int) - 65 = k /\ k < 26 := ⟨(s.getD i 0).toNat - 65, by omega, by omega⟩
    have hlw : low1 (s.getD i 0) = aH (k + 97) := by
     unfold low1;rw [if_pos ⟨by omega, by omega⟩]
     congr 1; omega
    rw [hk];refine qO fun K hK => ?_
    rw [sal, Kf (by omega) (by omega) (by show _ <= (26 : Int); omega), show ((k : Int) + 1).toNat - ((k : Int)).toNat = 1 from by omega, show ((k : Int)).toNat = k from by omega, alph_at k hk2];refine hK _ _ ?_; clear hK K;refine gg ?_;refine qO fun K hK => ?_
    rw [zF (by simp only [aI]; omega)];refine hK _ _ ?_; clear hK K;rw [show lowL (s.take i) ++ [aH (k + 97)] = lowL (s.take (i + 1)) from by rw [hnx, hlw]];refine gg ?_;exact zv ⟨i + 1, by omega, rfl, rfl, rfl, rfl⟩
   ·rw [decide_eq_false h2];refine gg ?_;rw [hc1];refine zf fun K hK => ?_; rw [zF (by simp only [aI]; omega)]; refine hK _ _ ?_; clear hK K
    rw [show lowL (s.take i) ++ [s.getD i 0] = lowL (s.take (i + 1)) from by rw [hnx, show low1 (s.getD i 0) = s.getD i 0 from if_neg (by omega)]];refine gg ?_;exact zv ⟨i + 1, by omega, rfl, rfl, rfl, rfl⟩
  ·rw [decide_eq_false h1];refine gg ?_;rw [hc1];refine zf fun K hK => ?_; rw [zF (by simp only [aI]; omega)]; refine hK _ _ ?_; clear hK K
   rw [show lowL (s.take i) ++ [s.getD i 0] = lowL (s.take (i + 1)) from by rw [hnx, show low1 (s.getD i 0) = s.getD i 0 from if_neg (by omega)]];refine gg ?_;exact zv ⟨i + 1, by omega, rfl, rfl, rfl, rfl⟩
 ·obtain rfl : i = s.length := by omega
  rw [bF];refine gg ?_;refine zb [] ?_; exact ⟨rfl, rfl⟩
abbrev scB (b : Nat) (s : List UInt8) : Chunk := [(b, .cells #[.string (str s)] 285 (0, 0))]
def zG (s : List UInt8) (c : UInt8) : Bool × List UInt8 := match s with
 | [] => (false, [])
 | d :: r => if d = c then (true, r) else (false, d :: r)
theorem jY (b : Nat) (s : List UInt8) (c : UInt8) (hs : s.length <= 100000) : Meets prog 156 [.pointer (some ⟨b, 0, none⟩), b8 c] [scB b s] fun v A => v = .bool (zG s c).1 /\ A = [scB b (zG s c).2] := by
 cases s with
 | nil =>
  refine eN func156 ntmps156 results156 fun F => ?_
  refine gg ?_
  (try rw [beq_self_eq_true])
  (try refine gg ?_)
  refine zb [scB b []] ?_; exact ⟨rfl, rfl⟩
 | cons d r =>
  rw [aJ] at hs;have hl1 : 0 < (d :: r).length := by simp
  simp only [zG];refine eN func156 ntmps156 results156 fun F => ?_
  refine gg ?_;rw [show ((d :: r : List UInt8) == []) = false from rfl];refine gg ?_;rw [show (d :: r).getD 0 0 = d from rfl]
  by_cases hd : d = c
  ·subst hd;rw [if_pos rfl, bne_self_eq_false];refine gg ?_
   (try rw [show ((d :: r).take (d :: r).length).drop (1 : Int).toNat = r from by simp])
   (try rw [show ((d :: r).drop (1 : Int).toNat).take ((d :: r).length - (1 : Int).toNat) = r from by simp])
   (try refine gg ?_)
   refine zb [scB b r] ?_; exact ⟨rfl, rfl⟩
  ·rw [if_neg hd, bne_iff_ne.2 hd];refine gg ?_;refine zb [scB b (d :: r)] ?_; exact ⟨rfl, rfl⟩
def qK (c : UInt8) : Bool := decide (c = 32) || decide (c = 9)
def zk (s : List UInt8) : List UInt8 := s.dropWhile qK
theorem qp (b : Nat) (s : List UInt8) (hs : s.length <= 100000) : Meets prog 207 [.pointer (some ⟨b, 0, none⟩)] [scB b s] fun v A => v = .tuple #[] /\ A = [scB b (zk s)] := by
 refine eN func207 ntmps207 results207 fun F => ?_
 refine gg ?_
 refine zz (fun q D L S => ∃ t : List UInt8, t.length <= s.length /\ zk t = zk s /\ q = t.length /\ D = [] /\ L = [(0, .pointer (some ⟨b, 0, none⟩))] /\ S = [scB b t, F])
  ⟨s, aR _, rfl, rfl, rfl, rfl, rfl⟩ ?_
 rintro q D L S ⟨t, htl, ht, rfl, rfl, rfl, rfl⟩
 cases t with
 | nil =>
  rw [<- ht];refine gg ?_
  (try rw [bne_self_eq_false])
  (try refine gg ?_)
  refine zL [scB b []] ⟨rfl, rfl⟩
 | cons d r =>
  have hl1 : 0 < (d :: r).length := by simp
  have hl2 : (d :: r).length = r.length + 1 := rfl;refine gg ?_;rw [show ((d :: r : List UInt8) != []) = true from rfl];refine gg ?_;rw [show (d :: r).getD 0 0 = d from rfl]
  by_cases e1 : d = 32
  ·have hb : qK d = true := by rw [e1]; rfl
   rw [beq_iff_eq.2 (show (d.toNat : Int) = 32 by rw [e1]; rfl)];refine gg ?_
   (try rw [show ((d :: r).take (d :: r).length).drop (1 : Int).toNat = r from by simp])
   (try rw [show ((d :: r).drop (1 : Int).toNat).take ((d :: r).length - (1 : Int).toNat) = r from by simp])
   (try refine gg ?_)
   exact zv ⟨r, by omega, by rw [<- ht]; unfold zk; rw [cQ, if_pos hb], rfl, rfl, rfl, rfl⟩
  ·rw [beq_eq_false_iff_ne.2 (show (d.toNat : Int) ≠ 32 from fun h => e1 (UInt8.toNat_inj.1 (show d.toNat = 32 by omega)))];refine gg ?_
   (try rw [show (d :: r).getD 0 0 = d from rfl])
   by_cases e2 : d = 9
   ·have hb : qK d = true := by rw [e2]; rfl
    rw [beq_iff_eq.2 (show (d.toNat : Int) = 9 by rw [e2]; rfl)];refine gg ?_
    (try rw [show ((d :: r).take (d :: r).length).drop (1 : Int).toNat = r from by simp])
    (try rw [show ((d :: r).drop (1 : Int).toNat).take ((d :: r).length - (1 : Int).toNat) = r from by simp])
    (try refine gg ?_)
    exact zv ⟨r, by omega, by rw [<- ht]; unfold zk; rw [cQ, if_pos hb], rfl, rfl, rfl, rfl⟩
   ·have hb : qK d = false := by unfold qK; simp [e1, e2]
    rw [beq_eq_false_iff_ne.2 (show (d.toNat : Int) ≠ 9 from fun h => e2 (UInt8.toNat_inj.1 (show d.toNat = 9 by omega)))];rw [<- ht, show zk (d :: r) = d :: r from by unfold zk; rw [cQ, if_neg (by rw [hb]; simp)]];refine gg ?_;refine zL [scB b (d :: r)] ⟨rfl, rfl⟩
end Go.Proofs.YtebikhhoppiapaaGreatDoor
namespace Go.Proofs.YtebikhhoppiapaaGreatDoor
open Go Go.Ost
structure Par where
 n : List UInt8
 v : List UInt8
 q : Bool
def tokL (s : List UInt8) : List UInt8 := s.takeWhile tcB
def tokR (s : List UInt8) : List UInt8 := s.dropWhile tcB
def qgo : List UInt8 -> Option (List UInt8 × List UInt8)
 | [] => none
 | [c] => if c = 34 then some ([], []) else none
 | c :: d :: r => if c = 34 then some ([], d :: r) else if inB c = false then none else
  if c = 92 then (if inB d = true then (qgo r).map (fun x => (d :: x.1, x.2)) else none) else (qgo (d :: r)).map (fun x => (c :: x.1, x.2))
def oneE (s : List UInt8) : Option (Par × List UInt8) :=
 if tokL s = [] ∨ (zG (zk (tokR s)) 61).1 = false then none else
 if (zG (zk (zG (zk (tokR s)) 61).2) 34).1 = true then
  (qgo (zG (zk (zG (zk (tokR s)) 61).2) 34).2).map fun z => (⟨lowL (tokL s), z.1, true⟩, z.2)
 else if tokL (zk (zG (zk (tokR s)) 61).2) = [] then none
 else some (⟨lowL (tokL s), tokL (zk (zG (zk (tokR s)) 61).2), false⟩, tokR (zk (zG (zk (tokR s)) 61).2))
def Ve : Nat -> List UInt8 -> List Par × Bool
 | 0, _ => ([], false)
 | n + 1, s => match oneE s with
  | none => ([], false)
  | some (p, r) => if r = [] then ([p], true) else
   if (zG (zk r) 44).1 = true then (p :: (Ve n (zk (zG (zk r) 44).2)).1, (Ve n (zk (zG (zk r) 44).2)).2) else ([p], false)
def xr (s : List UInt8) : List Par × Bool := Ve (s.length + 1) s
theorem xM (s : List UInt8) : (zk s).length <= s.length := (List.dropWhile_sublist _).length_le
theorem Jf (s : List UInt8) : (tokR s).length <= s.length := (List.dropWhile_sublist _).length_le
theorem Jg (s : List UInt8) : (tokL s).length <= s.length := (List.takeWhile_sublist _).length_le
theorem Jd (s : List UInt8) : tokL s ++ tokR s = s := List.takeWhile_append_dropWhile
theorem vu (s : List UInt8) (c : UInt8) : (zG s c).2.length <= s.length := by
 unfold zG; split
 ·simp
 ·split
  ·simp
  ·simp
theorem IU (s : List UInt8) (c : UInt8) (h : (zG s c).1 = false) : (zG s c).2 = s := by
 unfold zG at h ⊢; split
 ·rfl
 ·split
  ·rename_i hd; simp [hd] at h
  ·rfl
theorem sign_yes (c : UInt8) (r : List UInt8) : zG (c :: r) c = (true, r) := by simp [zG]
theorem yJ {c d : UInt8} (r : List UInt8) (h : d ≠ c) : zG (d :: r) c = (false, d :: r) := by simp [zG, h]
theorem jX (s : List UInt8) (c : UInt8) (h : (zG s c).1 = true) : (zG s c).2.length + 1 = s.length := by
 unfold zG at h ⊢; split
 ·simp at h
 ·split
  ·simp
  ·rename_i hd; simp [hd] at h
theorem KV : ∀ (k : Nat) (s : List UInt8), s.length <= k -> ∀ v r, qgo s = some (v, r) -> v.length + r.length < s.length
 | 0, s, hk, v, r, h => by
  obtain rfl : s = [] := List.length_eq_zero_iff.1 (by omega)
  simp [qgo] at h
 | k + 1, [], hk, v, r, h => by simp [qgo] at h
 | k + 1, [c], hk, v, r, h => by
  simp only [qgo] at h
  split at h
  ·cases h; simp
  ·cases h
 | k + 1, c :: d :: t, hk, v, r, h => by
  simp only [qgo] at h;simp only [aJ] at hk ⊢
  split at h
  ·cases h; simp
  ·split at h
   ·cases h
   ·split at h
    ·split at h
     ·cases hq : qgo t with
      | none => rw [hq] at h; cases h
      | some x =>
       rw [hq] at h; cases h
       have := KV k t (by omega) x.1 x.2 hq;simp only [aJ]; omega
     ·cases h
    ·cases hq : qgo (d :: t) with
     | none => rw [hq] at h; cases h
     | some x =>
      rw [hq] at h; cases h
      have := KV k (d :: t) (by simp only [aJ]; omega) x.1 x.2 hq;simp only [aJ] at this ⊢; omega
theorem Zx {s : List UInt8} {p : Par} {r : List UInt8} (h : oneE s = some (p, r)) : p.n.length + p.v.length + r.length < s.length /\ r.length < s.length /\ 1 <= p.n.length := by
 unfold oneE at h
 split at h
 ·cases h
 rename_i hno
 rw [not_or] at hno;obtain ⟨h1, h2⟩ := hno;have h2' : (zG (zk (tokR s)) 61).1 = true := by simpa using h2
 have e1 := jX _ _ h2';have e2 := xM (tokR s);have e3 := congrArg cV (Jd s);rw [aA] at e3;have e4 := xM (zG (zk (tokR s)) 61).2;have e5 : 0 < (tokL s).length := List.length_pos_iff.2 h1;have e6 : (lowL (tokL s)).length = (tokL s).length := by unfold lowL; simp
 generalize (zk (zG (zk (tokR s)) 61).2) = y at *
 split at h
 ·rename_i h3
  have e7 := jX _ _ h3
  cases hq : qgo (zG y 34).2 with
  | none => rw [hq] at h; cases h
  | some x =>
   rw [hq] at h; cases h
   have := KV _ _ (aR _) _ _ hq;refine ⟨?_, by omega, ?_⟩
   ·show (lowL (tokL s)).length + x.1.length + x.2.length < _
    omega
   ·show 1 <= (lowL (tokL s)).length
    omega
 ·split at h
  ·cases h
  ·cases h
   have e8 := congrArg cV (Jd y);rw [aA] at e8;refine ⟨?_, by omega, ?_⟩
   ·show (lowL (tokL s)).length + (tokL y).length + (tokR y).length < _
    omega
   ·show 1 <= (lowL (tokL s)).length
    omega
theorem XH : ∀ (n m : Nat) (s : List UInt8), s.length < n -> s.length < m -> Ve n s = Ve m s
 | 0, m, s, hn, hm => by omega
 | n + 1, 0, s, hn, hm => by omega
 | n + 1, m + 1, s, hn, hm => by
  simp only [Ve]
  cases h : oneE s with
  | none => rfl
  | some x =>
   obtain ⟨p, r⟩ := x;have hl := (Zx h).2.1;have e1 := xM r;have e2 := vu (zk r) 44;have e3 := xM (zG (zk r) 44).2;simp only;rw [XH n m _ (by omega) (by omega)]
theorem wF {s : List UInt8} : xr s = match oneE s with
  | none => ([], false)
  | some (p, r) => if r = [] then ([p], true) else
   if (zG (zk r) 44).1 = true then (p :: (xr (zk (zG (zk r) 44).2)).1, (xr (zk (zG (zk r) 44).2)).2) else ([p], false) := by
 show Ve (s.length + 1) s = _
 rw [Ve]
 cases h : oneE s with
 | none => rfl
 | some x =>
  obtain ⟨p, r⟩ := x;have hl := (Zx h).2.1;have e1 := xM r;have e2 := vu (zk r) 44;have e3 := xM (zG (zk r) 44).2;simp only;rw [XH s.length _ _ (by omega) (Nat.lt_succ_self _)]
  rfl
theorem ZE {s : List UInt8} (h : oneE s = none) : xr s = ([], false) := by rw [wF, h]
theorem kg {s : List UInt8} {p : Par} (h : oneE s = some (p, [])) : xr s = ([p], true) := by rw [wF, h]; rfl
theorem kf {s r : List UInt8} {p : Par} (h : oneE s = some (p, r)) (hr : r ≠ []) (hs : (zG (zk r) 44).1 = false) : xr s = ([p], false) := by
 rw [wF, h]; simp only [if_neg hr, hs]; rfl
theorem ZD {s r : List UInt8} {p : Par} (h : oneE s = some (p, r)) (hr : r ≠ []) (hs : (zG (zk r) 44).1 = true) :
  xr s = (p :: (xr (zk (zG (zk r) 44).2)).1, (xr (zk (zG (zk r) 44).2)).2) := by
 rw [wF, h]; simp only [if_neg hr, hs, if_true]
def vL : List Par -> Nat
 | [] => 0
 | p :: l => p.n.length + p.v.length + 1 + vL l
theorem list_len : ∀ (k : Nat) (s : List UInt8), s.length <= k -> vL (xr s).1 <= s.length
 | k, s, hk => by
  cases h : oneE s with
  | none => rw [ZE h]; exact Nat.zero_le _
  | some x =>
   obtain ⟨p, r⟩ := x;have hl := Zx h
   by_cases hr : r = []
   ·subst hr; rw [kg h]; show p.n.length + p.v.length + 1 + 0 <= _; omega
   ·cases hs : (zG (zk r) 44).1 with
    | false => rw [kf h hr hs]; show p.n.length + p.v.length + 1 + 0 <= _; omega
    | true =>
     rw [ZD h hr hs];have e1 := xM r;have e2 := jX _ _ hs;have e3 := xM (zG (zk r) 44).2
     match k, hk with
     | 0, hk => omega
     | k + 1, hk =>
      have := list_len k (zk (zG (zk r) 44).2) (by omega)
      show p.n.length + p.v.length + 1 + _ <= _
      omega
structure It where
 p : Par
 nm : List UInt8
 ga : List UInt8
 gb : List UInt8
 g1 : List UInt8
 g2 : List UInt8
def valI (p : Par) : List UInt8 := if p.q = true then quo p.v else p.v
def okP (p : Par) : Bool := (if p.q = true then p.v.all inB else tokB p.v) && (tokB p.n && decide (lowL p.n = p.n))
def wR (x : It) : List UInt8 := x.nm ++ (x.g1 ++ 61 :: (x.g2 ++ valI x.p))
def wX : List It -> List UInt8
 | [] => []
 | x :: l => x.ga ++ 44 :: (x.gb ++ (wR x ++ wX l))
structure It.ok (x : It) : Prop where
 p : okP x.p = true
 nm : tokB x.nm = true
 low : lowL x.nm = x.p.n
 ga : x.ga.all qK = true
 gb : x.gb.all qK = true
 g1 : x.g1.all qK = true
 g2 : x.g2.all qK = true
theorem UH {c : UInt8} (h : qK c = true) : tcB c = false := by
 unfold qK at h;simp only [dP, decide_eq_true_eq] at h
 rcases h with rfl | rfl <;> decide
theorem tc_blank {c : UInt8} (h : tcB c = true) : qK c = false := by
 cases hb : qK c with
 | false => rfl
 | true => rw [UH hb] at h; cases h
def UU (r : List UInt8) : Bool := match r with | [] => true | c :: _ => !tcB c
theorem Za {a r : List UInt8} (ha : a.all tcB = true) (hr : UU r = true) : tokL (a ++ r) = a /\ tokR (a ++ r) = r := by
 induction a with
 | nil =>
  cases r with
  | nil => exact ⟨rfl, rfl⟩
  | cons c r =>
   have hc : tcB c = false := by simpa [UU] using hr
   constructor
   ·show List.takeWhile tcB (c :: r) = []
    rw [List.takeWhile_cons, if_neg (by rw [hc]; simp)]
   ·show List.dropWhile tcB (c :: r) = c :: r
    rw [cQ, if_neg (by rw [hc]; simp)]
 | cons d a ih =>
  rw [dI, aN] at ha;obtain ⟨i1, i2⟩ := ih ha.2
  constructor
  ·show List.takeWhile tcB (d :: (a ++ r)) = d :: a
   rw [List.takeWhile_cons, if_pos ha.1]; exact congrArg _ i1
  ·show List.dropWhile tcB (d :: (a ++ r)) = r
   rw [cQ, if_pos ha.1]; exact i2
def hardB (r : List UInt8) : Bool := match r with | [] => true | c :: _ => !qK c
theorem vT {a r : List UInt8} (ha : a.all qK = true) (hr : hardB r = true) : zk (a ++ r) = r := by
 induction a with
 | nil =>
  cases r with
  | nil => rfl
  | cons c r =>
   have hc : qK c = false := by simpa [hardB] using hr
   show List.dropWhile qK (c :: r) = c :: r
   rw [cQ, if_neg (by rw [hc]; simp)]
 | cons d a ih =>
  rw [dI, aN] at ha
  show List.dropWhile qK (d :: (a ++ r)) = r
  rw [cQ, if_pos ha.1]; exact ih ha.2
theorem YF {a r : List UInt8} (ha : a.all qK = true) (hr : UU r = true) : UU (a ++ r) = true := by
 cases a with
 | nil => exact hr
 | cons d a =>
  rw [dI, aN] at ha
  show (!tcB d) = true
  rw [UH ha.1]; rfl
theorem hard_tc {a r : List UInt8} (ha : a.all tcB = true) (h1 : a ≠ []) : hardB (a ++ r) = true := by
 cases a with
 | nil => exact (h1 rfl).elim
 | cons d a =>
  rw [dI, aN] at ha
  show (!qK d) = true
  rw [tc_blank ha.1]; rfl
theorem Je {a : List UInt8} (h : tokB a = true) : a.all tcB = true /\ a ≠ [] := by
 unfold tokB at h;rw [aN, decide_eq_true_eq] at h;refine ⟨h.1, fun e => ?_⟩;rw [e] at h; simp at h
theorem JD {c : UInt8} {s : List UInt8} (h1 : c ≠ 34) (h2 : inB c = true) (h3 : c ≠ 92) : qgo (c :: s) = (qgo s).map fun x => (c :: x.1, x.2) := by
 cases s with
 | nil => simp [qgo, h1]
 | cons d s => rw [qgo, if_neg h1, if_neg (by rw [h2]; simp), if_neg h3]
theorem KW {d : UInt8} {s : List UInt8} (h : inB d = true) : qgo (92 :: d :: s) = (qgo s).map fun x => (d :: x.1, x.2) := by
 rw [qgo, if_neg (by decide), if_neg (by decide), if_pos rfl, if_pos h]
theorem qgo_end (s : List UInt8) : qgo (34 :: s) = some ([], s) := by
 cases s <;> simp [qgo]
theorem YW : ∀ (v r : List UInt8), v.all inB = true -> qgo (v.flatMap xt ++ 34 :: r) = some (v, r)
 | [], r, _ => qgo_end r
 | c :: v, r, h => by
  rw [dI, aN] at h;have ih := YW v r h.2;rw [bP, aM]
  by_cases hc : c = 34 ∨ c = 92
  ·rw [show xt c = [92, c] from if_pos hc];simp only [aC, aD];rw [KW h.1, ih]; rfl
  ·rw [show xt c = [c] from if_neg hc];rw [not_or] at hc;simp only [aC, aD];rw [JD hc.1 h.1 hc.2, ih]; rfl
theorem YZ {x : It} (h : x.ok) {r : List UInt8} (hr : UU r = true) : oneE (wR x ++ r) = some (x.p, r) := by
 obtain ⟨p, nm, ga, gb, g1, g2⟩ := x;obtain ⟨hp, hn, hl, hga, hgb, hg1, hg2⟩ := h;obtain ⟨n, v, q⟩ := p;simp only at hp hn hl hga hgb hg1 hg2;obtain ⟨n1, n2⟩ := Je hn;have e0 : wR ⟨⟨n, v, q⟩, nm, ga, gb, g1, g2⟩ ++ r = nm ++ (g1 ++ (61 :: (g2 ++ (valI ⟨n, v, q⟩ ++ r)))) := by simp [wR]
 have t1 := Za (r := g1 ++ (61 :: (g2 ++ (valI ⟨n, v, q⟩ ++ r)))) n1 (YF hg1 (by rfl));have s1 := vT (r := 61 :: (g2 ++ (valI ⟨n, v, q⟩ ++ r))) hg1 (by rfl);rw [e0];unfold oneE;rw [t1.1, t1.2, s1, sign_yes, if_neg (by simp [n2])];simp only;unfold okP at hp;rw [aN] at hp
 cases q with
 | true =>
  rw [if_pos rfl] at hp;have e1 : valI ⟨n, v, true⟩ ++ r = 34 :: (v.flatMap xt ++ 34 :: r) := by simp [valI, quo]
  rw [e1, vT hg2 (by rfl), sign_yes, if_pos rfl];simp only;rw [YW v r hp.1, hl]; rfl
 | false =>
  rw [if_neg (by simp)] at hp;obtain ⟨v1, v2⟩ := Je hp.1;have e1 : valI ⟨n, v, false⟩ ++ r = v ++ r := by simp [valI]
  have t2 := Za (r := r) v1 hr;rw [e1, vT hg2 (hard_tc v1 v2)]
  have hs : (zG (v ++ r) 34).1 = false := by
   cases v with
   | nil => exact (v2 rfl).elim
   | cons d v =>
    rw [dI, aN] at v1;rw [aC, yJ _ (fun e => by rw [e] at v1; exact absurd v1.1 (by decide))]
  rw [hs, if_neg (by simp), t2.1, t2.2, if_neg v2, hl]
theorem IN (l : List It) (h : ∀ x ∈ l, x.ok) : UU (wX l) = true := by
 cases l with
 | nil => rfl
 | cons x l => exact YF (h x (aB ..)).ga (show (!tcB 44) = true by decide)
theorem Vd : ∀ (l : List It) (x : It), x.ok -> (∀ y ∈ l, y.ok) -> xr (wR x ++ wX l) = (x.p :: l.map It.p, true)
 | [], x, hx, _ => kg (YZ hx rfl)
 | y :: l, x, hx, h => by
  have hy := h y (aB ..);have ht : ∀ z ∈ l, z.ok := fun z hz => h z (aK _ hz)
  have e1 : wX (y :: l) = y.ga ++ 44 :: (y.gb ++ (wR y ++ wX l)) := rfl;have s1 : zk (wX (y :: l)) = 44 :: (y.gb ++ (wR y ++ wX l)) := by rw [e1]; exact vT hy.ga (by rfl)
  have hn := Je hy.nm
  have s2 : zk (y.gb ++ (wR y ++ wX l)) = wR y ++ wX l := vT hy.gb (by
   unfold wR; rw [aM]; exact hard_tc hn.1 hn.2)
  have hne : wX (y :: l) ≠ [] := by rw [e1]; simp
  rw [ZD (YZ hx (IN _ h)) hne (by rw [s1, sign_yes]), s1, sign_yes];simp only;rw [s2, Vd l y hy ht]
  rfl
theorem one_no1 {s : List UInt8} (h : tokL s = []) : oneE s = none := by unfold oneE; rw [if_pos (.inl h)]
theorem Wf {s : List UInt8} (h : (zG (zk (tokR s)) 61).1 = false) : oneE s = none := by unfold oneE; rw [if_pos (.inr h)]
theorem OG {s y z : List UInt8} (h : tokL s ≠ []) (h1 : zk (tokR s) = 61 :: y) (h2 : zk y = 34 :: z) : oneE s = (qgo z).map fun x => (⟨lowL (tokL s), x.1, true⟩, x.2) := by
 unfold oneE;rw [h1, sign_yes, if_neg (by simp [h])];simp only;rw [h2, sign_yes, if_pos rfl]
theorem one_t {s y : List UInt8} (h : tokL s ≠ []) (h1 : zk (tokR s) = 61 :: y) (h2 : (zG (zk y) 34).1 = false) :
  oneE s = if tokL (zk y) = [] then none else some (⟨lowL (tokL s), tokL (zk y), false⟩, tokR (zk y)) := by
 unfold oneE;rw [h1, sign_yes, if_neg (by simp [h])];simp only;rw [h2, if_neg (by simp)]
theorem yK {s : List UInt8} {c : UInt8} (h : (zG s c).1 = true) : s = c :: (zG s c).2 := by
 unfold zG at h ⊢; split
 ·simp at h
 ·split
  ·rename_i hd; subst hd; rfl
  ·rename_i hd; simp [hd] at h
theorem cut_cut (s : List UInt8) (i j : Nat) : (s.take j).drop i = (s.drop i).take (j - i) := by rw [List.drop_take]
open Tryz
theorem xH (s : List UInt8) (i : Nat) (h : i < s.length) : s.drop i = s.getD i 0 :: s.drop (i + 1) := by
 rw [bK h, aS, aF h]; rfl
theorem Ys (s : List UInt8) (i : Nat) (ha : (s.take i).all tcB = true) (hs : s.length <= i ∨ (i < s.length /\ tcB (s.getD i 0) = false)) : tokL s = s.take i /\ tokR s = s.drop i := by
 have := Za (r := s.drop i) ha (by
  rcases hs with h | ⟨h1, h2⟩
  ·rw [dA h]; rfl
  ·rw [xH s i h1]; show (!tcB _) = true; rw [h2]; rfl)
 rwa [cR] at this
theorem qu (b : Nat) (s : List UInt8) (hs : s.length <= 100000) : Meets prog 155 [.pointer (some ⟨b, 0, none⟩)] [scB b s] fun v A => v = .string (str (tokL s)) /\ A = [scB b (tokR s)] := by
 refine eN func155 ntmps155 results155 fun F => ?_
 refine gg ?_
 refine zz (fun q D L S => ∃ i : Nat, i <= s.length /\ (s.take i).all tcB = true /\ q = s.length - i /\ D = [] /\ L = [(3, .int .i64 i), (0, .pointer (some ⟨b, 0, none⟩))] /\ S = [scB b s, F])
  ⟨0, by omega, by simp, rfl, rfl, rfl, rfl⟩ ?_
 rintro q D L S ⟨i, hi, hall, rfl, rfl, rfl, rfl⟩;refine gg ?_
 by_cases hil : i < s.length
 ·have hnx := xI (p := tcB) s i hil;rw [decide_eq_true (show (i : Int) < s.length by omega)];refine gg ?_;refine cA (Xq (s.getD i 0)) ?_; rintro v A ⟨rfl, rfl⟩; refine gA ?_
  cases h1 : tcB (s.getD i 0) with
  | true =>
   refine gg ?_;exact zv ⟨i + 1, by omega, by rw [hnx, hall, h1]; rfl, rfl, rfl, rfl, rfl⟩
  | false =>
   obtain ⟨e1, e2⟩ := Ys s i hall (.inr ⟨hil, h1⟩);rw [e1, e2];refine gg ?_;refine zb [scB b (s.drop i)] ?_; exact ⟨rfl, rfl⟩
 ·obtain ⟨e1, e2⟩ := Ys s i hall (.inl (by omega));rw [e1, e2];rw [decide_eq_false (show ¬ (i : Int) < s.length by omega)];refine gg ?_;refine zb [scB b (s.drop i)] ?_; exact ⟨rfl, rfl⟩
theorem qgo_bad {c : UInt8} {r : List UInt8} (h1 : c ≠ 34) (h2 : inB c = false) : qgo (c :: r) = none := by
 cases r <;> simp [qgo, h1, h2]
theorem qgo_end1 : qgo [92] = none := by simp [qgo]
theorem YV {d : UInt8} {r : List UInt8} (h2 : inB d = false) : qgo (92 :: d :: r) = none := by
 rw [qgo, if_neg (by decide), if_neg (by decide), if_pos rfl, if_neg (by rw [h2]; simp)]
def qgoV (s : List UInt8) : List UInt8 × Bool × List UInt8 := match qgo s with
 | some x => (x.1, true, x.2)
 | none => ([], false, s)
theorem Zv {s : List UInt8} (h : qgo s = none) : qgoV s = ([], false, s) := by unfold qgoV; rw [h]
theorem qv_some {s : List UInt8} {x : List UInt8 × List UInt8} (h : qgo s = some x) : qgoV s = (x.1, true, x.2) := by unfold qgoV; rw [h]
theorem KT (b : Nat) (s : List UInt8) (hs : s.length <= 100000) : Meets prog 239 [.pointer (some ⟨b, 0, none⟩)] [scB b s]
  fun v A => v = .tuple #[.string (str (qgoV s).1), .bool (qgoV s).2.1] /\ A = [scB b (qgoV s).2.2] := by
 refine eN func239 ntmps239 results239 fun F => ?_
 refine gg ?_;refine zB ?_
 refine zz (fun q D L S => ∃ (i : Nat) (out : List UInt8) (X : Chunk) (xa : Option Addr) (xc : Nat), i <= s.length /\ out.length <= i /\ qgo s = (qgo (s.drop i)).map (fun x => (out ++ x.1, x.2)) /\ Own8 5 X xa out.length xc out /\ q = s.length - i /\ D = [] /\
  L = [(5, .int .i64 i), (4, .slice xa out.length xc), (0, .pointer (some ⟨b, 0, none⟩))] /\ S = [X, scB b s, F])
  ⟨0, [], [], none, 0, by omega, by simp, by simp, own_nil, rfl, rfl, rfl, rfl⟩ ?_
 rintro q D L S ⟨i, out, X, xa, xc, hi, hol, hq, hX, rfl, rfl, rfl, rfl⟩;refine gg ?_;refine if_d (fun hc => ?_) (fun hc => ?_)
 ·have hil : i < s.length := by omega
  have hdr := xH s i hil;have hlt := (s.getD i 0).toNat_lt;rw [hdr] at hq;refine gg ?_
  by_cases e1 : s.getD i 0 = 34
  ·rw [e1, qgo_end, dE] at hq;rw [beq_iff_eq.2 (show ((s.getD i 0).toNat : Int) = 34 by rw [e1]; rfl), qv_some hq, aL];refine gg ?_;refine zf fun K hK => ?_; refine xm (hX.rd mmA) ?_; refine hK _ _ ?_; clear hK K
   refine gg ?_;refine ze (vs := [.string (str out), .bool true]) [scB b (s.drop (i + 1))] ⟨rfl, rfl⟩
  ·rw [beq_eq_false_iff_ne.2 (show ((s.getD i 0).toNat : Int) ≠ 34 from fun h => e1 (UInt8.toNat_inj.1 (show (s.getD i 0).toNat = 34 by omega)))];refine gg ?_;refine cA (kW (s.getD i 0)) ?_; rintro v A ⟨rfl, rfl⟩; refine gA ?_
   cases h1 : inB (s.getD i 0) with
   | false =>
    rw [qgo_bad e1 h1, Option.map_none] at hq;rw [Zv hq];refine gg ?_;refine ze (vs := [.string (str []), .bool false]) [scB b s] ⟨rfl, rfl⟩
   | true =>
    refine gg ?_
    by_cases e2 : s.getD i 0 = 92
    ·rw [beq_iff_eq.2 (show ((s.getD i 0).toNat : Int) = 92 by rw [e2]; rfl)];refine gg ?_;rw [e2] at hq
     by_cases hi2 : i + 1 < s.length
     ·have hdr2 := xH s (i + 1) hi2;rw [hdr2] at hq;rw [beq_eq_false_iff_ne.2 (show (i : Int) + 1 ≠ s.length by omega)];refine gg ?_;rw [show ((i : Int) + 1).toNat = i + 1 from by omega];refine cA (kW (s.getD (i + 1) 0)) ?_; rintro v A ⟨rfl, rfl⟩; refine gA ?_
      cases h2 : inB (s.getD (i + 1) 0) with
      | false =>
       rw [YV h2, Option.map_none] at hq;rw [Zv hq];refine gg ?_;refine ze (vs := [.string (str []), .bool false]) [scB b s] ⟨rfl, rfl⟩
      | true =>
       rw [KW h2, Option.map_map] at hq;refine gg ?_;rw [show ((i : Int) + 1).toNat = i + 1 from by omega];refine zf fun K hK => ?_; refine zX ([s.getD (i + 1) 0]) (by decide) rfl (rfl) (fun b7 C7 ho7 => ?_); refine hK _ _ ?_; clear hK K
       refine gg ?_;refine zf fun K hK => ?_; refine app8 (hX) pkA ((ho7.rd (aB ..)).mem mmA) (by omega) (fun C9 a9 cap9 ho9 => ?_); refine hK _ _ ?_; clear hK K
       refine gg ?_;rw [show out.length + 1 = (out ++ [s.getD (i + 1) 0]).length from by simp] at ho9 ⊢;exact zv ⟨i + 2, out ++ [s.getD (i + 1) 0], C9, a9, cap9, by omega, by simp; omega, by rw [hq]; congr 1; funext x; simp, ho9, rfl, rfl, rfl, rfl⟩
     ·have hnil : s.drop (i + 1) = [] := dA (by omega);rw [hnil, qgo_end1, Option.map_none] at hq;rw [Zv hq];rw [beq_iff_eq.2 (show (i : Int) + 1 = s.length by omega)];refine gg ?_;refine ze (vs := [.string (str []), .bool false]) [scB b s] ⟨rfl, rfl⟩
    ·rw [beq_eq_false_iff_ne.2 (show ((s.getD i 0).toNat : Int) ≠ 92 from fun h => e2 (UInt8.toNat_inj.1 (show (s.getD i 0).toNat = 92 by omega)))];rw [JD e1 h1 e2, Option.map_map] at hq;refine gg ?_;refine zf fun K hK => ?_; refine zX ([s.getD i 0]) (by decide) rfl (rfl) (fun b7 C7 ho7 => ?_); refine hK _ _ ?_; clear hK K
     refine gg ?_;refine zf fun K hK => ?_; refine app8 (hX) pkA ((ho7.rd (aB ..)).mem mmA) (by omega) (fun C9 a9 cap9 ho9 => ?_); refine hK _ _ ?_; clear hK K
     refine gg ?_;rw [show out.length + 1 = (out ++ [s.getD i 0]).length from by simp] at ho9 ⊢;exact zv ⟨i + 1, out ++ [s.getD i 0], C9, a9, cap9, by omega, by simp; omega, by rw [hq]; congr 1; funext x; simp, ho9, rfl, rfl, rfl, rfl⟩
 ·obtain rfl : i = s.length := by omega
  rw [dR] at hq;rw [Zv (by rw [hq]; rfl)];refine gg ?_;refine ze (vs := [.string (str []), .bool false]) [scB b s] ⟨rfl, rfl⟩
abbrev encP (p : Par) : List Value := [.string (str p.n), .string (str p.v), .bool p.q]
theorem vI (p : Par) : (encP p).length = 3 := rfl
theorem zP (p : Par) : ∀ v ∈ encP p, Value.cell1 v := by
 intro v hv;simp only [encP, bA, aX, or_false] at hv
 rcases hv with rfl | rfl | rfl <;> simp [Value.cell1]
def p0 : Par := ⟨[], [], false⟩
instance iDH_1 : zH prog 210 [(0, 1), (1, 1), (2, 1)] := ⟨by kernel_rfl⟩
theorem OE (b : Nat) (s : List UInt8) (hs : s.length <= 100000) : Meets prog 206 [.pointer (some ⟨b, 0, none⟩)] [scB b s]
  fun v A => ∃ (p : Par) (ok : Bool) (r : List UInt8), v = .tuple #[.agg (encP p).toArray, .bool ok] /\ A = [scB b r] /\ oneE s = (if ok = true then some (p, r) else none) := by
 have l1 := Jf s;have l0 := Jg s;have l2 := xM (tokR s);have l3 := vu (zk (tokR s)) 61;have low0 : (lowL (tokL s) = []) ↔ tokL s = [] := by unfold lowL; exact List.map_eq_nil_iff
 refine eN func206 ntmps206 results206 fun F => ?_
 refine gg ?_;refine oA (encP p0).toArray fun b2 => ?_
 refine gg ?_;refine cA (qu b s hs) ?_; rintro v A ⟨rfl, rfl⟩; refine gA ?_;refine cA (vh (tokL s) (by omega)) ?_; rintro v A ⟨rfl, rfl⟩; refine gA ?_;refine oT [(0, .string (str (lowL (tokL s))))] (encP ⟨lowL (tokL s), [], false⟩).toArray ?_;refine gg ?_;refine oA (encP p0).toArray fun b4 => ?_
 refine oS (encP ⟨lowL (tokL s), [], false⟩) rfl (zP _) ?_;refine gg ?_;refine cA (qp b (tokR s) (by omega)) ?_; rintro v A ⟨rfl, rfl⟩; refine gA ?_
 by_cases ha : tokL s = []
 ·have hn : lowL (tokL s) = [] := low0.2 ha;have l4 := xM (zk (tokR s));rw [hn];refine gg ?_
  (try rw [bne_self_eq_false])
  refine gg ?_;refine cA (qp b (zk (tokR s)) (by omega)) ?_; rintro v A ⟨rfl, rfl⟩; refine gA ?_;refine cA (qu b (zk (zk (tokR s))) (by omega)) ?_; rintro v A ⟨rfl, rfl⟩; refine gA ?_;refine gM ?_;refine cdL [[0], [1], [2], [3], [4], [5], [6], [7, 0, 4], [8, 0]] ?_;refine gg ?_;refine qO fun K hK => ?_
  refine zi (vs := encP ⟨[], tokL (zk (zk (tokR s))), false⟩) lkA rfl ?_; refine hK _ _ ?_; clear hK K;refine gg ?_;refine zg fun K hK => ?_; refine xG (vs := encP ⟨[], tokL (zk (zk (tokR s))), false⟩) rfl (zP _) upA (by rfl) ?_; refine pBk hK ?_; clear hK K
  refine gg ?_;refine ze (vs := [.agg (encP ⟨[], tokL (zk (zk (tokR s))), false⟩).toArray, .bool false]) [scB b (tokR (zk (zk (tokR s))))] ⟨⟨[], tokL (zk (zk (tokR s))), false⟩, false, (tokR (zk (zk (tokR s)))), rfl, rfl, by rw [one_no1 ha]; rfl⟩ (hr := by (intro κ hκ; simp only [resW, withV, lookT_hit, lookT_miss, aG]; exact zi (vs := encP ⟨[], tokL (zk (zk (tokR s))), false⟩) lkA rfl hκ))
 ·have hn : (lowL (tokL s) != []) = true := bne_iff_ne.2 (fun e => ha (low0.1 e));refine gg ?_;rw [hn];refine gg ?_
  (try rw [show Value.int .u8 61 = b8 61 from rfl])
  refine cA (jY b (zk (tokR s)) 61 (by omega)) ?_; rintro v A ⟨rfl, rfl⟩; refine gA ?_;have l4 := xM (zG (zk (tokR s)) 61).2
  cases h1 : (zG (zk (tokR s)) 61).1 with
  | false =>
   refine gg ?_;refine cA (qp b (zG (zk (tokR s)) 61).2 (by omega)) ?_; rintro v A ⟨rfl, rfl⟩; refine gA ?_;refine cA (qu b (zk (zG (zk (tokR s)) 61).2) (by omega)) ?_; rintro v A ⟨rfl, rfl⟩; refine gA ?_;refine gM ?_;refine cdL [[0], [1], [2], [3], [4], [5], [6], [7, 0, 4], [8, 0]] ?_;refine gg ?_;refine qO fun K hK => ?_
   refine zi (vs := encP ⟨lowL (tokL s), tokL (zk (zG (zk (tokR s)) 61).2), false⟩) lkA rfl ?_; refine hK _ _ ?_; clear hK K;refine gg ?_;refine zg fun K hK => ?_; refine xG (vs := encP ⟨lowL (tokL s), tokL (zk (zG (zk (tokR s)) 61).2), false⟩) rfl (zP _) upA (by rfl) ?_; refine pBk hK ?_; clear hK K
   refine gg ?_;refine ze (vs := [.agg (encP ⟨lowL (tokL s), tokL (zk (zG (zk (tokR s)) 61).2), false⟩).toArray, .bool false]) [scB b (tokR (zk (zG (zk (tokR s)) 61).2))] ⟨⟨lowL (tokL s), tokL (zk (zG (zk (tokR s)) 61).2), false⟩, false, (tokR (zk (zG (zk (tokR s)) 61).2)), rfl, rfl, by rw [Wf h1]; rfl⟩ (hr := by (intro κ hκ; simp only [resW, withV, lookT_hit, lookT_miss, aG]; exact zi (vs := encP ⟨lowL (tokL s), tokL (zk (zG (zk (tokR s)) 61).2), false⟩) lkA rfl hκ))
  | true =>
   have hy := yK h1;obtain ⟨y, hy2⟩ : ∃ y, (zG (zk (tokR s)) 61).2 = y := ⟨_, rfl⟩;rw [hy2] at hy l4 l3 ⊢;refine gg ?_;refine cA (qp b y (by omega)) ?_; rintro v A ⟨rfl, rfl⟩; refine gA ?_
   (try rw [show Value.int .u8 34 = b8 34 from rfl])
   refine cA (jY b (zk y) 34 (by omega)) ?_; rintro v A ⟨rfl, rfl⟩; refine gA ?_
   cases h2 : (zG (zk y) 34).1 with
   | true =>
    have hz := yK h2;have l5 := vu (zk y) 34;obtain ⟨z, hz2⟩ : ∃ z, (zG (zk y) 34).2 = z := ⟨_, rfl⟩;rw [hz2] at hz l5 ⊢;refine gg ?_;refine gM ?_;refine cA (KT b z (by omega)) ?_; rintro v A ⟨rfl, rfl⟩; refine gA ?_;refine gM ?_;refine oL (encP ⟨lowL (tokL s), (qgoV z).1, true⟩) rfl ?_;refine gg ?_;refine oS (encP ⟨lowL (tokL s), (qgoV z).1, true⟩) rfl (zP _) ?_;refine gg ?_;refine ze (vs := [.agg (encP ⟨lowL (tokL s), (qgoV z).1, true⟩).toArray, .bool (qgoV z).2.1]) [scB b (qgoV z).2.2] ⟨⟨lowL (tokL s), (qgoV z).1, true⟩, (qgoV z).2.1, (qgoV z).2.2, rfl, rfl, ?_⟩ (hr := by (intro κ hκ; simp only [resW, withV, lookT_hit, lookT_miss, aG]; exact zi (vs := encP ⟨lowL (tokL s), (qgoV z).1, true⟩) lkA rfl hκ));rw [OG ha hy hz]
    cases hq : qgo z with
    | none => rw [Zv hq]; rfl
    | some x => rw [qv_some hq]; rfl
   | false =>
    have hs2 := IU _ _ h2;rw [hs2];refine gg ?_;refine cA (qu b (zk y) (by omega)) ?_; rintro v A ⟨rfl, rfl⟩; refine gA ?_;refine gM ?_;have ho := one_t ha hy h2
    by_cases hv : tokL (zk y) = []
    ·rw [if_pos hv] at ho;rw [hv];refine cdL [[0], [1], [2], [3], [4], [5], [6], [7, 0, 4], [8, 0]] ?_;refine gg ?_;refine qO fun K hK => ?_
     refine zi (vs := encP ⟨lowL (tokL s), [], false⟩) lkA rfl ?_; refine hK _ _ ?_; clear hK K;refine gg ?_
     (try rw [bne_self_eq_false]); (try refine gg ?_)
     refine zg fun K hK => ?_; refine xG (vs := encP ⟨lowL (tokL s), [], false⟩) rfl (zP _) upA (by rfl) ?_; refine pBk hK ?_; clear hK K
     refine gg ?_;refine ze (vs := [.agg (encP ⟨lowL (tokL s), [], false⟩).toArray, .bool false]) [scB b (tokR (zk y))] ⟨⟨lowL (tokL s), [], false⟩, false, (tokR (zk y)), rfl, rfl, by rw [ho]; rfl⟩ (hr := by (intro κ hκ; simp only [resW, withV, lookT_hit, lookT_miss, aG]; exact zi (vs := encP ⟨lowL (tokL s), [], false⟩) lkA rfl hκ))
    ·rw [if_neg hv] at ho;have hv2 : (tokL (zk y) != []) = true := bne_iff_ne.2 hv;refine cdL [[0], [1], [2], [3], [4], [5], [6], [7, 0, 4], [8, 0]] ?_;refine gg ?_;refine qO fun K hK => ?_
     refine zi (vs := encP ⟨lowL (tokL s), tokL (zk y), false⟩) lkA rfl ?_; refine hK _ _ ?_; clear hK K;refine gg ?_;rw [hv2]; refine gg ?_;refine zg fun K hK => ?_; refine xG (vs := encP ⟨lowL (tokL s), tokL (zk y), false⟩) rfl (zP _) upA (by rfl) ?_; refine pBk hK ?_; clear hK K
     refine gg ?_;refine ze (vs := [.agg (encP ⟨lowL (tokL s), tokL (zk y), false⟩).toArray, .bool true]) [scB b (tokR (zk y))] ⟨⟨lowL (tokL s), tokL (zk y), false⟩, true, (tokR (zk y)), rfl, rfl, by rw [ho]; rfl⟩ (hr := by (intro κ hκ; simp only [resW, withV, lookT_hit, lookT_miss, aG]; exact zi (vs := encP ⟨lowL (tokL s), tokL (zk y), false⟩) lkA rfl hκ))
abbrev OwnR (X : Chunk) (a : Option Addr) (k : Nat) (l : List Par) : Prop := Ost.Own 3 137 X a l.length k (l.flatMap encP)
abbrev OwnP (X : Chunk) (a : Option Addr) (k : Nat) (l : List Par) : Prop := Ost.Own 3 210 X a l.length k (l.flatMap encP)
abbrev rpB (b : Nat) (p : Par) : Chunk := [(b, .cells (encP p).toArray 137 (0, 0))]
abbrev dpB (b : Nat) (p : Par) : Chunk := [(b, .cells (encP p).toArray 210 (0, 0))]
instance tpRPar : zH prog 137 [(0, 1), (1, 1), (2, 1)] := ⟨by kernel_rfl⟩
instance teqRPar : TEq prog 137 [.s, .s, .b] := ⟨by kernel_rfl⟩
def Vu (l : List Par) (i : Nat) : Bool := (l.take i).any fun q => (l.getD i p0).n == q.n
def cntE (l : List Par) : Int := if 16 < l.length then 3 else if (bC l.length).any (Vu l) = true then 7 else 0
theorem XA (f : Nat -> Bool) (i : Nat) : (bC (i + 1)).any f = ((bC i).any f || f i) := by
 rw [List.range_succ, List.any_append]; simp
theorem QM (f : Nat -> Bool) {i n : Nat} (h : i < n) (hf : f i = true) : (bC n).any f = true := List.any_eq_true.2 ⟨i, List.mem_range.2 h, hf⟩
theorem Yx (l : List Par) (f : Par -> Bool) (j : Nat) (h : j < l.length) : (l.take (j + 1)).any f = ((l.take j).any f || f (l.getD j p0)) := by
 rw [cC, List.any_append, aS, aF h]; simp
theorem jI (l : List Par) (i : Nat) (h : i < l.length) : l[i]? = some (l.getD i p0) := by
 rw [aS, aF h]; rfl
theorem Yw (l : List Par) {i j : Nat} (hj : j < i) (hi : i <= l.length) : (l.take i)[j]? = some (l.getD j p0) := by
 rw [cX hj]; exact jI l j (by omega)
theorem dup_has {l : List Par} {i j : Nat} (hj : j < i) (hi : i <= l.length) (hb : ((l.getD i p0).n == (l.getD j p0).n) = true) : Vu l i = true :=
 List.any_eq_true.2 ⟨_, List.mem_of_getElem? (Yw l hj hi), hb⟩
end Go.Proofs.YtebikhhoppiapaaGreatDoor
namespace Go.Proofs.YtebikhhoppiapaaGreatDoor
open Go Go.Ost
def hdr : List UInt8 := [68, 105, 103, 101, 115, 116, 32]
def scheme : List UInt8 := [100, 105, 103, 101, 115, 116]
def valP (p : Par) : List UInt8 := if p.q = true then (quoE p.v).1 else p.v
def Vn (p : Par) : Bool := if p.q = true then (quoE p.v).2 else tokB p.v
def vQ (p : Par) : List UInt8 := p.n ++ [61] ++ valP p
def jD (p : Par) : Bool := Vn p && (tokB p.n && (lowL p.n == p.n))
def xo (l : List Par) : List UInt8 := (l.take 1).flatMap vQ ++ (l.drop 1).flatMap (fun p => [44, 32] ++ vQ p)
def xO (l : List Par) : List UInt8 × Int :=
 if (decide (0 < l.length) && l.all jD) = false then ([], 4) else if 4096 < (hdr ++ xo l).length then ([], 3) else
 if cntE l ≠ 0 then ([], cntE l) else (hdr ++ xo l, 0)
theorem Vg (l : List Par) (i : Nat) (h : i < l.length) : xo (l.take (i + 1)) = xo (l.take i) ++ ((if 0 < i then [44, 32] else []) ++ vQ (l.getD i p0)) := by
 have htk : l.take (i + 1) = l.take i ++ [l.getD i p0] := by rw [cC, jI l i h]; rfl
 rw [htk];unfold xo
 by_cases h0 : 0 < i
 ·have hl : (l.take i).length = i := by rw [aU]; omega
  rw [if_pos h0, List.take_append_of_le_length (by omega), List.drop_append_of_le_length (by omega), cH]
  simp
 ·obtain rfl : i = 0 := by omega
  simp
theorem quo_len (v : List UInt8) : (quoE v).1.length <= 2 * v.length + 2 := by
 unfold quoE
 split
 ·show (quo v).length <= _
  unfold quo;have := yo v;rw [aJ, aA, aI]; omega
 ·simp
theorem VS (p : Par) : (valP p).length <= 2 * p.v.length + 2 := by
 unfold valP
 split
 ·exact quo_len p.v
 ·omega
theorem Yv (p : Par) : (vQ p).length <= p.n.length + 2 * p.v.length + 3 := by
 unfold vQ;have := VS p;rw [aA, aA, aI]; omega
theorem Up (l : List Par) (h : ∀ p ∈ l, p.n.length + p.v.length <= 5000) : (xo l).length <= l.length * 12000 := by
 have key : ∀ (l : List Par) (f : Par -> List UInt8), (∀ p ∈ l, (f p).length <= 12000) -> (l.flatMap f).length <= l.length * 12000 := by
  intro l f
  induction l with
  | nil => intro _; simp
  | cons p l ih =>
   intro h;rw [bP, aA, aJ];have h1 := h p (aB ..);have h2 := ih fun q hq => h q (aK _ hq)
   rw [cP]; omega
 have htx : ∀ p ∈ l, (vQ p).length <= 11000 := fun p hp => by
  have := Yv p;have := h p hp;omega
 have a1 := key (l.take 1) vQ fun p hp => dN (htx p (List.mem_of_mem_take hp)) (by decide)
 have a2 := key (l.drop 1) (fun p => [44, 32] ++ vQ p) fun p hp => by
  have := htx p (List.mem_of_mem_drop hp);rw [aA]
  show 2 + _ <= _
  omega
 unfold xo;rw [aA];rw [aU] at a1;rw [aT] at a2;have : min 1 l.length * 12000 + (l.length - 1) * 12000 = (min 1 l.length + (l.length - 1)) * 12000 := by rw [cP]
 have h3 : min 1 l.length + (l.length - 1) = l.length := by omega
 rw [h3] at this;omega
theorem all_par {f : Par -> Bool} (l : List Par) (j : Nat) (h : j < l.length) : (l.take (j + 1)).all f = ((l.take j).all f && f (l.getD j p0)) := by
 rw [cC, List.all_append, aS, aF h]; simp
theorem Yl {f : Par -> Bool} {l : List Par} {j : Nat} (h : j < l.length) (hf : f (l.getD j p0) = false) : l.all f = false := by
 rw [List.all_eq_false];refine ⟨_, List.mem_of_getElem? (jI l j h), ?_⟩;rw [hf]; simp
def jh (s : List UInt8) : List UInt8 := (zG (tokR s) 32).2.dropWhile (fun c => c == 32)
def xh (s : List UInt8) : List Par × Int :=
 if 4096 < s.length then ([], 3) else
 if lowL (tokL s) ≠ scheme ∨ (zG (tokR s) 32).1 = false then ([], 4) else
 if (xr (jh s)).2 = false then ([], 4) else
 if cntE (xr (jh s)).1 ≠ 0 then ([], cntE (xr (jh s)).1) else ((xr (jh s)).1, 0)
theorem vA (s : List UInt8) : (jh s).length <= s.length := by
 have h1 := (List.dropWhile_sublist (fun c : UInt8 => c == 32) (l := (zG (tokR s) 32).2)).length_le;have h2 := vu (tokR s) 32;have h3 := Jf s;unfold jh; omega
def itP (p : Par) : It := ⟨p, p.n, [], [32], [], []⟩
theorem WF {p : Par} (h : jD p = true) : (itP p).ok := by
 unfold jD at h;rw [aN, aN, beq_iff_eq] at h;obtain ⟨h1, h2, h3⟩ := h;refine ⟨?_, h2, h3, rfl, rfl, rfl, rfl⟩
 show okP p = true
 unfold okP;rw [h2, h3];unfold Vn at h1
 cases hq : p.q with
 | true =>
  rw [hq, if_pos rfl] at h1;unfold quoE at h1
  split at h1
  ·rename_i ha; rw [if_pos rfl, ha]; simp
  ·cases h1
 | false =>
  rw [hq, if_neg (by simp)] at h1;rw [if_neg (by simp), h1]; simp
theorem Uv {p : Par} (h : jD p = true) : valP p = valI p := by
 unfold jD at h;rw [aN] at h;unfold valP valI
 cases hq : p.q with
 | true =>
  have h1 := h.1;unfold Vn at h1;rw [hq, if_pos rfl] at h1;unfold quoE at h1 ⊢
  split at h1
  ·rename_i ha; rw [if_pos rfl, if_pos rfl, if_pos ha]
  ·cases h1
 | false => rw [if_neg (by simp), if_neg (by simp)]
theorem join_it : ∀ (l : List Par) (p : Par), (∀ q ∈ p :: l, jD q = true) -> xo (p :: l) = wR (itP p) ++ wX (l.map itP) := by
 intro l p h
 have key : ∀ l : List Par, (∀ q ∈ l, jD q = true) -> l.flatMap (fun p => [44, 32] ++ vQ p) = wX (l.map itP) := by
  intro l
  induction l with
  | nil => intro _; rfl
  | cons q l ih =>
   intro h;rw [bP, ih fun x hx => h x (aK _ hx), aZ, wX];unfold vQ;rw [Uv (h q (aB ..))]
   simp [itP, wR]
 show List.flatMap vQ [p] ++ l.flatMap _ = _
 rw [key l fun q hq => h q (aK _ hq)];have hp := Uv (h p (aB ..))
 simp [vQ, hp, itP, wR]
theorem Wa {l : List Par} (h : (xO l).2 = 0) : xh (xO l).1 = (l, 0) := by
 unfold xO at h ⊢
 split at h
 ·cases h
 rename_i h1
 split at h
 ·cases h
 rename_i h2
 split at h
 ·rename_i h3; exact (h3 h).elim
 rename_i h3
 rw [if_neg h1, if_neg h2, if_neg h3]
 show xh (hdr ++ xo l) = _
 have hc : cntE l = 0 := by simpa using h3
 have h1' : (decide (0 < l.length) && l.all jD) = true := by simpa using h1
 rw [aN, decide_eq_true_eq, List.all_eq_true] at h1';obtain ⟨hl, hg⟩ := h1'
 cases l with
 | nil => simp at hl
 | cons p l =>
  have hj := join_it l p hg
  have hok : ∀ y ∈ l.map itP, y.ok := fun y hy => by
   obtain ⟨q, hq, rfl⟩ := List.mem_map.1 hy;exact WF (hg q (aK _ hq))
  have hb := Vd (l.map itP) (itP p) (WF (hg p (aB ..))) hok;rw [<- hj] at hb
  have hmm : (itP p).p :: (l.map itP).map It.p = p :: l := by
   rw [List.map_map]
   show p :: l.map (fun x => x) = _
   rw [List.map_id']
  rw [hmm] at hb;have ht := Za (a := [68, 105, 103, 101, 115, 116]) (r := 32 :: xo (p :: l)) (by decide) (by show (!tcB 32) = true; decide);have e0 : hdr ++ xo (p :: l) = [68, 105, 103, 101, 115, 116] ++ 32 :: xo (p :: l) := rfl
  have hr : jh (hdr ++ xo (p :: l)) = xo (p :: l) := by
   unfold jh;rw [e0, ht.2, sign_yes];have hn := (Je (WF (hg p (aB ..))).nm);rw [hj];unfold wR;rw [aM]
   cases hnm : (itP p).nm with
   | nil => exact (hn.2 hnm).elim
   | cons c r =>
    rw [hnm, dI, aN] at hn;have hc32 : c ≠ 32 := fun e => by rw [e] at hn; exact absurd hn.1.1 (by decide)
    rw [aC, cQ, if_neg (by simpa using hc32)]
  unfold xh;rw [if_neg h2, if_neg (by rw [e0, ht.1, ht.2, sign_yes]; simp; decide), hr, hb];simp only;rw [if_neg (by simp), if_neg (by rw [hc]; simp)]
def nRealm : List UInt8 := [114, 101, 97, 108, 109]
def nNonce : List UInt8 := [110, 111, 110, 99, 101]
def nOpaque : List UInt8 := [111, 112, 97, 113, 117, 101]
def nAlg : List UInt8 := [97, 108, 103, 111, 114, 105, 116, 104, 109]
def nStale : List UInt8 := [115, 116, 97, 108, 101]
def nQop : List UInt8 := [113, 111, 112]
def nAuth : List UInt8 := [97, 117, 116, 104]
def nTrue : List UInt8 := [116, 114, 117, 101]
def nSum : List UInt8 := [83, 72, 65, 45, 50, 53, 54]
def nSumL : List UInt8 := [115, 104, 97, 45, 50, 53, 54]
def nUser : List UInt8 := [117, 115, 101, 114, 110, 97, 109, 101]
def nUri : List UInt8 := [117, 114, 105]
def nNc : List UInt8 := [110, 99]
def nCnonce : List UInt8 := [99, 110, 111, 110, 99, 101]
def nResp : List UInt8 := [114, 101, 115, 112, 111, 110, 115, 101]
def sizB (s : List UInt8) : Bool := s != [] && decide ((s.length : Int) <= 64)
structure Ch where
 r : List UInt8
 n : List UInt8
 o : List UInt8
 st : Bool
abbrev encC (c : Ch) : List Value := [.string (str c.r), .string (str c.n), .string (str c.o), .bool c.st]
def opqP (o : List UInt8) : List Par := if o = [] then [] else [⟨nOpaque, o, true⟩]
def staP (b : Bool) : List Par := if b = true then [⟨nStale, nTrue, false⟩] else []
def ki (c : Ch) : List Par := [⟨nRealm, c.r, true⟩, ⟨nNonce, c.n, true⟩] ++ opqP c.o ++ [⟨nAlg, nSum, false⟩] ++ staP c.st ++ [⟨nQop, nAuth, true⟩]
def qh (c : Ch) : List UInt8 × Int := if sizB c.n = false then ([], 4) else xO (ki c)
def hasB (l : List Par) (n : List UInt8) : Bool := (l.find? fun p => p.n == n).isSome
def gotP (l : List Par) (n : List UInt8) : Par := (l.find? fun p => p.n == n).getD p0
theorem got_no {l : List Par} {n : List UInt8} (h : hasB l n = false) : gotP l n = p0 := by
 unfold hasB at h; unfold gotP
 cases hf : l.find? fun p => p.n == n with
 | none => rfl
 | some p => rw [hf] at h; cases h
abbrev Fl := Bool × Bool
def getF (l : List Par) (n : List UInt8) (q : Bool) (f : Fl) : Fl := (f.1 || !hasB l n, f.2 || (gotP l n).q != q)
def vl (b : Bool) (f : Fl) : Fl := (f.1, f.2 || !b)
def mayF (l : List Par) (n : List UInt8) (q : Bool) (f : Fl) : Fl := if hasB l n = true then getF l n q f else f
def comF (l : List Par) (q : Bool) (f : Fl) : Fl := vl (lowL (gotP l nAlg).v == lowL nSum) (getF l nAlg false (vl ((gotP l nQop).v == nAuth) (getF l nQop q f)))
def endF (f : Fl) : Int := if f.1 = true then 6 else if f.2 = true then 4 else 0
def Vb (l : List Par) (must q : List (List UInt8)) : Bool × Bool :=
 (must.all (hasB l), (must ++ [nOpaque, nStale]).all fun n => !(hasB l n && (gotP l n).q != q.contains n))
theorem fine_fst (b : Bool) (f : Fl) : (vl b f).1 = f.1 := rfl
theorem get_fst (l : List Par) (n : List UInt8) (q : Bool) (f : Fl) : (getF l n q f).1 = (f.1 || !hasB l n) := rfl
theorem may_fst (l : List Par) (n : List UInt8) (q : Bool) (f : Fl) : (mayF l n q f).1 = f.1 := by
 unfold mayF
 split
 ·rename_i h; rw [get_fst, h]; simp
 ·rfl
open Go.Sha
def dv (c : UInt8) : Int := Lib.indexByte digits c
def uhF : List UInt8 -> Option (List UInt8)
 | [] => some []
 | [_] => none
 | a :: b :: r => if dv a < 0 ∨ dv b < 0 then none else (uhF r).map fun l => aH (16 * (dv a).toNat + (dv b).toNat) :: l
def uhE (s : List UInt8) : List UInt8 × Int := if s.length % 2 ≠ 0 then ([], 2) else match uhF s with
 | some l => (l, 0)
 | none => ([], 5)
theorem yS (c : UInt8) : -1 <= dv c /\ dv c < 16 := by
 have key : ∀ l : List UInt8, -1 <= Lib.indexByte l c /\ Lib.indexByte l c < l.length := by
  intro l
  induction l with
  | nil => exact ⟨by show (-1 : Int) <= -1; decide, by show (-1 : Int) < 0; decide⟩
  | cons b l ih =>
   have e : Lib.indexByte (b :: l) c = if (b == c) = true then (0 : Int) else if (Lib.indexByte l c == -1) = true then -1 else Lib.indexByte l c + 1 := rfl;rw [e, aJ]
   split
   ·omega
   ·split
    ·omega
    ·rename_i h; simp at h; omega
 exact key digits
theorem Iz : ∀ (k : Nat) (s : List UInt8), s.length <= k -> ∀ l, uhF s = some l -> 2 * l.length = s.length
 | _, [], _, l, h => by simp [uhF] at h; subst h; rfl
 | _, [a], _, l, h => by simp [uhF] at h
 | 0, a :: b :: r, hk, l, h => by simp at hk
 | k + 1, a :: b :: r, hk, l, h => by
  simp only [uhF] at h
  split at h
  ·cases h
  ·cases hr : uhF r with
   | none => rw [hr] at h; cases h
   | some x =>
    rw [hr] at h; cases h
    have := Iz k r (by simp only [aJ] at hk; omega) x hr;simp only [aJ]; omega
theorem uh_len {s : List UInt8} (h : (uhE s).2 = 0) : 2 * (uhE s).1.length = s.length := by
 unfold uhE at h ⊢
 split at h
 ·cases h
 ·rename_i hm
  rw [if_neg hm]
  cases hu : uhF s with
  | none => rw [hu] at h; cases h
  | some l => exact Iz _ _ (aR _) l hu
theorem uh_le (s : List UInt8) : 2 * (uhE s).1.length <= s.length := by
 by_cases h : (uhE s).2 = 0
 ·rw [uh_len h]; exact aR _
 ·unfold uhE at h ⊢
  split
  ·simp
  ·rename_i hm
   rw [if_neg hm] at h
   cases hu : uhF s with
   | none => simp
   | some l => rw [hu] at h; exact (h rfl).elim
def numW (l : List UInt8) : W := l.foldl (fun n b => (n <<< 8) ||| cZ 32 b.toNat) 0
def numE (s : List UInt8) : W × Bool := (numW (uhE s).1, decide ((uhE s).2 = 0) && decide ((s.length : Int) = 8))
structure An where
 u : List UInt8
 r : List UInt8
 n : List UInt8
 uri : List UInt8
 cn : List UInt8
 o : List UInt8
 nc : W
 pf : List UInt8
def a0 : An := ⟨[], [], [], [], [], [], 0, []⟩
abbrev encA (a : An) (pa : Option Addr) (pk : Nat) : List Value := [.string (str a.u), .string (str a.r), .string (str a.n), .string (str a.uri), .string (str a.cn), .string (str a.o), b32 a.nc, .slice pa a.pf.length pk]
def wB (l : List Par) : Bool := decide ((uhE (gotP l nResp).v).2 = 0) && decide (((uhE (gotP l nResp).v).1.length : Int) = 32)
def paF (l : List Par) : Fl :=
 vl (wB l) (getF l nResp true (vl (numE (gotP l nNc).v).2 (getF l nNc false (comF l false (mayF l nOpaque true (vl (sizB (gotP l nCnonce).v) (getF l nCnonce true (getF l nUri true (vl (sizB (gotP l nNonce).v) (getF l nNonce true (getF l nRealm true (getF l nUser true (false, false)))))))))))))
def anL (l : List Par) : An := ⟨(gotP l nUser).v, (gotP l nRealm).v, (gotP l nNonce).v, (gotP l nUri).v, (gotP l nCnonce).v, (gotP l nOpaque).v, (numE (gotP l nNc).v).1, (uhE (gotP l nResp).v).1⟩
def paL (l : List Par) : An × Int := if endF (paF l) ≠ 0 then (a0, endF (paF l)) else (anL l, 0)
def paE (s : List UInt8) : An × Int := if (xh s).2 ≠ 0 then (a0, (xh s).2) else paL (xh s).1
def mustA : List (List UInt8) := [nUser, nRealm, nNonce, nUri, nQop, nNc, nCnonce, nResp, nAlg]
def quoA : List (List UInt8) := [nUser, nRealm, nNonce, nUri, nCnonce, nResp, nOpaque]
def jP (l : List Par) : List Par := l.filter fun p => p.n != nStale
def rpaB (l : List Par) : Bool :=
 !(Vb l mustA quoA).2 || ((gotP l nQop).v != nAuth || (lowL (gotP l nAlg).v != nSumL || ((uhE (gotP l nNc).v).2 != 0 || (((uhE (gotP l nNc).v).1.length : Int) != 4 || ((uhE (gotP l nResp).v).2 != 0 || (((uhE (gotP l nResp).v).1.length : Int) != 32 || (!sizB (gotP l nNonce).v || !sizB (gotP l nCnonce).v)))))))
def rpaL (l : List Par) : An × Int := if (Vb l mustA quoA).1 = false then (a0, 6) else if rpaB l = true then (a0, 4) else (anL l, 0)
def rpaE (s : List UInt8) : An × Int := if (xh s).2 ≠ 0 then (a0, (xh s).2) else rpaL (jP (xh s).1)
theorem zA (l : List Par) {n : List UInt8} (h : n ≠ nStale) : hasB (jP l) n = hasB l n /\ gotP (jP l) n = gotP l n := by
 have e : (jP l).find? (fun p => p.n == n) = l.find? (fun p => p.n == n) := by
  unfold jP
  induction l with
  | nil => rfl
  | cons p l ih =>
   rw [List.filter_cons]
   split
   ·rw [List.find?_cons, List.find?_cons, ih]
   ·rename_i hp
    have hps : p.n = nStale := by simpa using hp
    rw [ih, List.find?_cons];have : (p.n == n) = false := beq_eq_false_iff_ne.2 (by rw [hps]; exact h.symm);rw [this]
 unfold hasB gotP;rw [e]; exact ⟨rfl, rfl⟩
theorem keep_stale (l : List Par) : hasB (jP l) nStale = false := by
 unfold hasB jP;rw [Option.isSome_eq_false_iff, Option.isNone_iff_eq_none, List.find?_eq_none];intro p hp;have := (List.mem_filter.1 hp).2
 simpa using this
theorem pa_lost (l : List Par) : (paF l).1 = !(mustA.all (hasB l)) := by
 unfold paF comF mustA;simp only [fine_fst, get_fst, may_fst, dI, List.all_nil];generalize hasB l nUser = a1;generalize hasB l nRealm = a2;generalize hasB l nNonce = a3;generalize hasB l nUri = a4;generalize hasB l nQop = a5;generalize hasB l nNc = a6;generalize hasB l nCnonce = a7;generalize hasB l nResp = a8;generalize hasB l nAlg = a9
 cases a1 <;> simp <;> cases a2 <;> simp <;> cases a3 <;> simp <;> cases a4 <;> simp <;> cases a5 <;> simp <;> cases a6 <;> simp <;> cases a7 <;> simp <;> cases a8 <;> simp <;> cases a9 <;> simp
theorem num_ok (v : List UInt8) : (numE v).2 = !((uhE v).2 != 0 || ((uhE v).1.length : Int) != 4) := by
 unfold numE
 by_cases h : (uhE v).2 = 0
 ·have hl := uh_len h;rw [h]
  by_cases h8 : (v.length : Int) = 8
  ·have : ((uhE v).1.length : Int) = 4 := by omega
   rw [this, decide_eq_true h8]; rfl
  ·have h4 : ((uhE v).1.length : Int) ≠ 4 := by omega
   rw [decide_eq_false h8, bne_iff_ne.2 h4]; rfl
 ·rw [decide_eq_false h, bne_iff_ne.2 h]; rfl
theorem proof_ok (l : List Par) : wB l = !((uhE (gotP l nResp).v).2 != 0 || ((uhE (gotP l nResp).v).1.length : Int) != 32) := by
 unfold wB;generalize (uhE (gotP l nResp).v).2 = a;generalize ((uhE (gotP l nResp).v).1.length : Int) = b
 by_cases h1 : a = 0 <;> by_cases h2 : b = 32 <;> simp [h1, h2]
theorem pa_same (l : List Par) : paL l = rpaL (jP l) := by
 have n1 : nUser ≠ nStale := by decide
 have n2 : nRealm ≠ nStale := by decide
 have n3 : nNonce ≠ nStale := by decide
 have n4 : nUri ≠ nStale := by decide
 have n5 : nQop ≠ nStale := by decide
 have n6 : nNc ≠ nStale := by decide
 have n7 : nCnonce ≠ nStale := by decide
 have n8 : nResp ≠ nStale := by decide
 have n9 : nAlg ≠ nStale := by decide
 have n10 : nOpaque ≠ nStale := by decide
 have hl := pa_lost l
 have hlk : (Vb (jP l) mustA quoA).1 = mustA.all (hasB l) := by
  show mustA.all (hasB (jP l)) = _
  unfold mustA;simp only [dI, List.all_nil, (zA l n1).1, (zA l n2).1, (zA l n3).1, (zA l n4).1, (zA l n5).1, (zA l n6).1, (zA l n7).1, (zA l n8).1, (zA l n9).1]
 unfold paL rpaL
 cases hall : mustA.all (hasB l) with
 | false =>
  rw [hall] at hl hlk;rw [if_pos hlk];have he : endF (paF l) = 6 := by unfold endF; rw [hl]; rfl
  rw [he, if_pos (by decide)]
 | true =>
  rw [hall] at hl hlk;rw [hlk, if_neg (show ¬ (true = false) by decide)]
  have han : anL (jP l) = anL l := by
   unfold anL;rw [(zA l n1).2, (zA l n2).2, (zA l n3).2, (zA l n4).2, (zA l n6).2, (zA l n7).2, (zA l n8).2, (zA l n10).2]
  have hbad : (paF l).2 = rpaB (jP l) := by
   unfold mustA at hall;simp only [dI, List.all_nil, Bool.and_true, aN] at hall;obtain ⟨h1, h2, h3, h4, h5, h6, h7, h8, h9⟩ := hall;have hsum : lowL nSum = nSumL := by decide
   have c1 : quoA.contains nUser = true := by decide
   have c2 : quoA.contains nRealm = true := by decide
   have c3 : quoA.contains nNonce = true := by decide
   have c4 : quoA.contains nUri = true := by decide
   have c5 : quoA.contains nQop = false := by decide
   have c6 : quoA.contains nNc = false := by decide
   have c7 : quoA.contains nCnonce = true := by decide
   have c8 : quoA.contains nResp = true := by decide
   have c9 : quoA.contains nAlg = false := by decide
   have c10 : quoA.contains nOpaque = true := by decide
   have hn3 : ((gotP l nQop).v != nAuth) = !((gotP l nQop).v == nAuth) := rfl;have hn4 : (lowL (gotP l nAlg).v != nSumL) = !(lowL (gotP l nAlg).v == nSumL) := rfl;have hx1 := num_ok (gotP l nNc).v;have hx2 := proof_ok l;unfold rpaB Vb mustA paF comF mayF getF vl
   simp only [aC, aD, dI, List.all_nil, c1, c2, c3, c4, c5, c6, c7, c8, c9, c10, keep_stale, (zA l n1).1, (zA l n2).1, (zA l n3).1, (zA l n4).1, (zA l n5).1, (zA l n6).1, (zA l n7).1, (zA l n8).1, (zA l n9).1, (zA l n10).1,
    (zA l n1).2, (zA l n2).2, (zA l n3).2, (zA l n4).2, (zA l n5).2, (zA l n6).2, (zA l n7).2, (zA l n8).2, (zA l n9).2, (zA l n10).2, h1, h2, h3, h4, h5, h6, h7, h8, h9, hsum, hx1, hx2, hn3, hn4]
   generalize ((uhE (gotP l nNc).v).2 != 0) = y1;generalize (((uhE (gotP l nNc).v).1.length : Int) != 4) = y2;generalize ((uhE (gotP l nResp).v).2 != 0) = y3;generalize (((uhE (gotP l nResp).v).1.length : Int) != 32) = y4;generalize sizB (gotP l nNonce).v = x1;generalize sizB (gotP l nCnonce).v = x2;generalize ((gotP l nQop).v == nAuth) = x3;generalize (lowL (gotP l nAlg).v == nSumL) = x4;generalize (gotP l nUser).q = q1;generalize (gotP l nRealm).q = q2;generalize (gotP l nNonce).q = q3;generalize (gotP l nUri).q = q4;generalize (gotP l nQop).q = q5;generalize (gotP l nNc).q = q6;generalize (gotP l nCnonce).q = q7;generalize (gotP l nResp).q = q8;generalize (gotP l nAlg).q = q9;generalize (gotP l nOpaque).q = q10
   cases hasB l nOpaque <;> simp only [if_true, if_false, reduceIte, Bool.false_eq_true, beq_self_eq_true, dO, Bool.true_or, Bool.or_true, Bool.or_false, dM, Bool.false_and, Bool.not_true, Bool.not_false, Bool.and_true] <;>
    cases q1 <;> (try simp) <;> cases q2 <;> (try simp) <;> cases q3 <;> (try simp) <;> cases q4 <;> (try simp) <;> cases q5 <;> (try simp) <;> cases q6 <;> (try simp) <;> cases q7 <;> (try simp) <;> cases q8 <;> (try simp) <;> cases q9 <;> (try simp) <;> cases x1 <;> (try simp) <;> cases x2 <;> (try simp) <;> cases x3 <;> (try simp) <;> cases x4 <;> (try simp) <;> cases y1 <;> (try simp) <;> cases y2 <;> (try simp) <;> cases y3 <;> (try simp) <;> cases y4 <;> (try simp) <;> cases q10 <;> (try simp)
  unfold endF;rw [hl, hbad, han]
  cases rpaB (jP l) with
  | true => simp
  | false => simp
def vM (a : An) : List Par := [(⟨nUser, a.u, true⟩ : Par), ⟨nRealm, a.r, true⟩, ⟨nNonce, a.n, true⟩, ⟨nUri, a.uri, true⟩, ⟨nQop, nAuth, false⟩, ⟨nNc, hex (zW a.nc), false⟩, ⟨nCnonce, a.cn, true⟩, ⟨nResp, hex a.pf, true⟩] ++ opqP a.o ++ [⟨nAlg, nSum, false⟩]
def anOk (a : An) : Bool := sizB a.n && (sizB a.cn && decide ((a.pf.length : Int) = 32))
def qi (a : An) : List UInt8 × Int := if anOk a = false then ([], 4) else xO (vM a)
theorem an_len (a : An) : (vM a).length <= 20 := by
 unfold vM opqP;simp only [aA, aJ, aV]
 split <;> simp
theorem an_bound {a : An} (h1 : a.u.length <= 4000) (h2 : a.r.length <= 4000) (h3 : a.n.length <= 4000) (h4 : a.uri.length <= 4000) (h5 : a.cn.length <= 4000) (h6 : a.o.length <= 4000) (h7 : a.pf.length <= 1000) : ∀ p ∈ vM a, p.n.length + p.v.length <= 5000 := by
 intro p hp;unfold vM opqP at hp;simp only [List.mem_append, bA, aX, or_false] at hp
 rcases hp with ((rfl | rfl | rfl | rfl | rfl | rfl | rfl | rfl) | hp) | rfl
 ·show nUser.length + a.u.length <= _; have : nUser.length = 8 := rfl; omega
 ·show nRealm.length + a.r.length <= _; have : nRealm.length = 5 := rfl; omega
 ·show nNonce.length + a.n.length <= _; have : nNonce.length = 5 := rfl; omega
 ·show nUri.length + a.uri.length <= _; have : nUri.length = 3 := rfl; omega
 ·decide
 ·show nNc.length + (hex (zW a.nc)).length <= _; rw [hex_len]; have : nNc.length = 2 := rfl; have : (zW a.nc).length = 4 := rfl; omega
 ·show nCnonce.length + a.cn.length <= _; have : nCnonce.length = 6 := rfl; omega
 ·show nResp.length + (hex a.pf).length <= _; rw [hex_len]; have : nResp.length = 8 := rfl; omega
 ·split at hp
  ·cases hp
  ·simp only [bA, aX, or_false] at hp;subst hp
   show nOpaque.length + a.o.length <= _; have : nOpaque.length = 6 := rfl; omega
 ·decide
end Go.Proofs.YtebikhhoppiapaaGreatDoor
namespace Go.Proofs.YtebikhhoppiapaaGreatDoor
open Go Go.Ost Tryz
theorem Vy {s : Nat} {a : Option Addr} {m : Nat} : cutA s a 0 m = a := by
 unfold cutA
 split
 ·rfl
 ·cases a with
  | none => simp
  | some x => simp [Addr.add]
theorem yC {X : Chunk} {xa : Option Addr} {xc : Nat} {l : List Par} (hX : OwnP X xa xc l) (hl : l.length <= 100000) : Meets prog 151 [.slice xa l.length xc] [X]
  fun v A => v = .int .i64 (cntE l) /\ A = [X] := by
 have hs := vI;have hle := hX.1;unfold cntE;refine eN func151 ntmps151 results151 fun F => ?_
 refine gg ?_
 by_cases h16 : 16 < l.length
 ·rw [if_pos h16, decide_eq_true (show (16 : Int) < l.length by omega)];refine gg ?_;refine zb [X] ⟨rfl, rfl⟩
 rw [if_neg h16, decide_eq_false (show ¬ (16 : Int) < l.length by omega)];refine gg ?_
 refine zz (fun q D L S => ∃ i : Nat, i <= l.length /\ (bC i).any (Vu l) = false /\ q = l.length - i /\ D = [] /\
  L = [(12, .int .i64 i), (11, .int .i64 l.length), (10, .slice xa l.length xc), (0, .slice xa l.length xc)] /\ S = [X, F])
  ⟨0, by omega, rfl, rfl, rfl, rfl, rfl⟩ ?_
 rintro q D L S ⟨i, hi, hno, rfl, rfl, rfl, rfl⟩;refine gg ?_;refine if_d (fun hc => ?_) (fun hc => ?_)
 ·have hil : i < l.length := by omega
  have hx := jI l i hil;have hrn := XA (Vu l) i;refine gg ?_;refine zf fun K hK => ?_; refine zT hX hs hx (by decide) mmA ?_; refine hK _ _ ?_; clear hK K
  refine oA (encP p0).toArray fun b4 => ?_
  refine gg ?_;refine oS (encP (l.getD i p0)) rfl (zP _) ?_;refine gg ?_
  have hcut : Ost.Own 3 210 X xa i xc ((l.take i).flatMap encP) := by
   have q := Wd hX (l := 0) (h' := i) (m := xc) (by omega) (by omega) (by omega) (by omega)
   rwa [Vy, bI, bI, Nat.zero_mul, List.drop_zero, ZL encP 3 hs] at q
  (try (refine zf fun K hK => ?_; rw [cut_hi (e := 210) (s := 3) (hs := inferInstance) (by omega) (by omega)]; refine hK _ _ ?_; clear hK K))
  simp only [Vy, bI, show ((i : Int)).toNat = i from by omega];refine gg ?_
  refine zz (fun q D L S => ∃ j : Nat, j <= i /\ ((l.take j).any fun q => (l.getD i p0).n == q.n) = false /\ q = i - j /\ D = [] /\
   L = [(21, .int .i64 j), (20, .int .i64 i), (19, .slice xa i xc), (4, .pointer (some ⟨b4, 0, none⟩)), (12, .int .i64 i), (11, .int .i64 l.length), (10, .slice xa l.length xc), (0, .slice xa l.length xc)] /\ S = [dpB b4 (l.getD i p0), X, F])
   ⟨0, by omega, rfl, rfl, rfl, rfl, rfl⟩ ?_
  rintro q D L S ⟨j, hj, hnj, rfl, rfl, rfl, rfl⟩;refine gg ?_;refine if_d (fun hc => ?_) (fun hc => ?_)
  ·have hji : j < i := by omega
   have hx2 := Yw l hji hi;refine gg ?_;refine zf fun K hK => ?_; refine zT hcut hs hx2 (by decide) mmA ?_; refine hK _ _ ?_; clear hK K
   refine oA (encP p0).toArray fun b6 => ?_
   refine gg ?_;refine oS (encP (l.getD j p0)) rfl (zP _) ?_;refine gg ?_
   cases hb : ((l.getD i p0).n == (l.getD j p0).n) with
   | true =>
    refine gg ?_;rw [if_pos (QM (Vu l) hil (dup_has hji hi hb))];refine zb [X] ⟨rfl, rfl⟩
   | false =>
    refine gg ?_;exact zv ⟨j + 1, by omega, by rw [Yx l _ j (by omega), hnj, hb]; rfl, rfl, rfl, rfl, rfl⟩
  ·obtain rfl : j = i := by omega
   refine gg ?_;exact zv ⟨j + 1, by omega, by rw [hrn, hno]; exact hnj, rfl, rfl, rfl, rfl⟩
 ·obtain rfl : i = l.length := by omega
  rw [hno];refine gg ?_;refine zb [X] ⟨rfl, rfl⟩
theorem wA {X : Chunk} {xa : Option Addr} {xc : Nat} {l : List Par} (hX : OwnR X xa xc l) (hl : l.length <= 100000) : Meets prog 120 [.slice xa l.length xc] [X]
  fun v A => v = .int .i64 (cntE l) /\ A = [X] := by
 have hs := vI;have hle := hX.1;unfold cntE;refine eN func120 ntmps120 results120 fun F => ?_
 refine gg ?_
 by_cases h16 : 16 < l.length
 ·rw [if_pos h16, decide_eq_true (show (16 : Int) < l.length by omega)];refine gg ?_;refine zb [X] ⟨rfl, rfl⟩
 rw [if_neg h16, decide_eq_false (show ¬ (16 : Int) < l.length by omega)];refine gg ?_
 refine zz (fun q D L S => ∃ i : Nat, i <= l.length /\ (bC i).any (Vu l) = false /\ q = l.length - i /\ D = [] /\
  L = [(10, .int .i64 i), (9, .int .i64 l.length), (0, .slice xa l.length xc)] /\ S = [X, F])
  ⟨0, by omega, rfl, rfl, rfl, rfl, rfl⟩ ?_
 rintro q D L S ⟨i, hi, hno, rfl, rfl, rfl, rfl⟩;refine gg ?_;refine if_d (fun hc => ?_) (fun hc => ?_)
 ·have hil : i < l.length := by omega
  have hx := jI l i hil;have hrn := XA (Vu l) i;refine gg ?_
  refine zz (fun q D L S => ∃ j : Nat, j <= i /\ ((l.take j).any fun q => (l.getD i p0).n == q.n) = false /\ q = i - j /\ D = [] /\
   L = [(4, .int .i64 j), (3, .int .i64 i), (10, .int .i64 i), (9, .int .i64 l.length), (0, .slice xa l.length xc)] /\ S = [X, F])
   ⟨0, by omega, rfl, rfl, rfl, rfl, rfl⟩ ?_
  rintro q D L S ⟨j, hj, hnj, rfl, rfl, rfl, rfl⟩;refine gg ?_;refine if_d (fun hc => ?_) (fun hc => ?_)
  ·have hji : j < i := by omega
   have hx2 := jI l j (by omega);refine gg ?_;refine cdL [[0], [1], [2], [3], [4], [5], [6], [7], [8], [9], [10]] ?_;refine gg ?_
   (try (refine qO fun K hK => ?_; refine ZC (off := 0) hX hs hx rfl mmA ?_; refine hK _ _ ?_; clear hK K; refine gg ?_))
   (try (refine qO fun K hK => ?_; refine ZC (off := 0) hX hs hx2 rfl mmA ?_; refine hK _ _ ?_; clear hK K; refine gg ?_))
   cases hb : ((l.getD i p0).n == (l.getD j p0).n) with
   | true =>
    refine gg ?_;rw [if_pos (QM (Vu l) hil (dup_has hji hi hb))];refine zb [X] ⟨rfl, rfl⟩
   | false =>
    refine gg ?_;exact zv ⟨j + 1, by omega, by rw [Yx l _ j (by omega), hnj, hb]; rfl, rfl, rfl, rfl, rfl⟩
  ·obtain rfl : j = i := by omega
   refine gg ?_;exact zv ⟨j + 1, by omega, by rw [hrn, hno]; exact hnj, rfl, rfl, rfl, rfl⟩
 ·obtain rfl : i = l.length := by omega
  rw [hno];refine gg ?_;refine zb [X] ⟨rfl, rfl⟩
theorem Oy {X : Chunk} {xa : Option Addr} {xc : Nat} {l : List Par} (hX : OwnP X xa xc l) (hl : l.length <= 20) (hb : ∀ p ∈ l, p.n.length + p.v.length <= 5000) :
  Meets prog 101 [.slice xa l.length xc] [X] fun v A => v = .tuple #[.string (str (xO l).1), .int .i64 (xO l).2] /\ A = [X] := by
 have hs := vI;have s7 : Value.string ⟨#[68, 105, 103, 101, 115, 116, 32]⟩ = .string (str hdr) := rfl;have s2 : Value.string ⟨#[44, 32]⟩ = .string (str [44, 32]) := rfl;have s1 : Value.string ⟨#[61]⟩ = .string (str [61]) := rfl;refine eN func101 ntmps101 results101 fun F => ?_
 refine gg ?_;refine zf fun K hK => ?_; refine zu fun b4 => ?_; (try simp only [Value.cells]); refine hK _ _ ?_; clear hK K
 refine zB ?_;refine gg ?_;have hw := yX (Bd.new b4) hdr (by decide) (by decide);rw [aV, aD] at hw;rw [s7];refine cA (hw) ?_; rintro v A ⟨⟨u, rfl⟩, p1, a1, cap1, X1, hB1, rfl⟩; refine gA ?_;have e0 : hdr = hdr ++ xo (l.take 0) := by simp [xo]
 rw [e0] at hB1;rw [show hdr.length = (hdr ++ xo (l.take 0)).length from congrArg cV e0, show decide ((0 : Int) < l.length) = (decide ((0 : Int) < l.length) && (l.take 0).all jD) from by simp]
 refine zz (fun q D L S => ∃ (i : Nat) (p a' : Option Addr) (cap' : Nat) (Y : Chunk), i <= l.length /\ Bd b4 (hdr ++ xo (l.take i)) p a' cap' Y /\ q = l.length - i /\ D = [] /\
  L = [(18, .int .i64 i), (17, .int .i64 l.length), (16, .slice xa l.length xc), (4, .pointer (some ⟨b4, 0, none⟩)), (5, .bool (decide ((0 : Int) < l.length) && (l.take i).all jD)), (0, .slice xa l.length xc)] /\
  S = [bdB b4 p a' (hdr ++ xo (l.take i)).length cap', Y, X, F])
  ⟨0, p1, a1, cap1, X1, by omega, hB1, rfl, rfl, rfl, rfl⟩ ?_
 rintro q D L S ⟨i, p, a', cap', Y, hi, hB, rfl, rfl, rfl, rfl⟩;have hjl := Up (l.take i) fun p hp => hb p (List.mem_of_mem_take hp)
 have htl : (l.take i).length <= 20 := by rw [aU]; omega
 have hh7 : hdr.length = 7 := rfl;have hjl2 : (xo (l.take i)).length <= 240000 := dN hjl (by omega);have hol : (hdr ++ xo (l.take i)).length <= 240007 := by rw [aA]; omega
 clear hjl;refine gg ?_;refine if_d (fun hc => ?_) (fun hc => ?_)
 ·have hil : i < l.length := by omega
  have hx := jI l i hil;have hjn := Vg l i hil;have han := all_par (f := jD) l i hil;have hpb := hb _ (List.mem_of_getElem? hx);have htx := Yv (l.getD i p0);have hvl := VS (l.getD i p0);generalize l.getD i p0 = x at *;obtain ⟨n, v, qq⟩ := x;simp only at hpb htx hvl;generalize hokk : (decide ((0 : Int) < l.length) && (l.take i).all jD) = okk;refine gg ?_;refine zf fun K hK => ?_; refine zT hX hs hx (by decide) mmA ?_; refine hK _ _ ?_; clear hK K
  refine oA (encP p0).toArray fun b7 => ?_
  refine gg ?_;refine oS (encP ⟨n, v, qq⟩) rfl (zP _) ?_;refine gg ?_;refine cdL [[0], [1], [2], [3], [4, 0, 1], [5, 0], [6, 0]] ?_;refine gg ?_;refine zg fun K hK => ?_; refine zo (Xp v (by omega)) ?_; rintro v A ⟨rfl, rfl⟩; refine pA hK ?_; clear hK K
  refine gg ?_
  refine zQ (fun D L S => D = [] /\ L = [(8, .string (str (valP ⟨n, v, qq⟩))), (9, .bool (Vn ⟨n, v, qq⟩)), (7, .pointer (some ⟨b7, 0, none⟩)), (6, .int .i64 i), (18, .int .i64 i), (17, .int .i64 l.length), (16, .slice xa l.length xc), (4, .pointer (some ⟨b4, 0, none⟩)), (5, .bool okk), (0, .slice xa l.length xc)] /\
   S = [bdB b4 p a' (hdr ++ xo (l.take i)).length cap', Y, X, dpB b7 ⟨n, v, qq⟩, F]) ?_ ?_
  ·cases qq with
   | true =>
    refine gg ?_;refine cA (Ot v (by omega)) ?_; rintro v A ⟨rfl, rfl⟩; refine gA ?_;exact mid ⟨rfl, rfl, rfl⟩
   | false =>
    refine gg ?_;exact mid ⟨rfl, rfl, rfl⟩
  rintro D L S ⟨rfl, rfl, rfl⟩
  (with_reducible refine zY ?_); refine zQ (fun D L S => D = [] /\ L = [(5, .bool (okk && jD ⟨n, v, qq⟩)), (8, .string (str (valP ⟨n, v, qq⟩))), (7, .pointer (some ⟨b7, 0, none⟩)), (6, .int .i64 i), (18, .int .i64 i), (17, .int .i64 l.length), (16, .slice xa l.length xc), (4, .pointer (some ⟨b4, 0, none⟩)), (0, .slice xa l.length xc)] /\
   S = [bdB b4 p a' (hdr ++ xo (l.take i)).length cap', Y, X, dpB b7 ⟨n, v, qq⟩, F]) ?_ ?_
  ·have hgd : jD ⟨n, v, qq⟩ = (Vn ⟨n, v, qq⟩ && (tokB n && (lowL n == n))) := rfl;rw [hgd];generalize Vn ⟨n, v, qq⟩ = ff;refine cdL [[0], [1], [2], [3], [4], [5], [6], [7, 0], [8], [9], [10], [11], [13], [14], [12, 0, 14], [15], [16], [17, 0]] ?_;refine gg ?_
   cases okk with
   | false =>
    refine gg ?_;exact mid ⟨rfl, rfl, rfl⟩
   | true =>
    refine gg ?_
    cases ff with
    | false =>
     refine gg ?_;exact mid ⟨rfl, rfl, rfl⟩
    | true =>
     refine gg ?_;refine zg fun K hK => ?_; refine zo (Xp n (by omega)) ?_; rintro v A ⟨rfl, rfl⟩; refine pA hK ?_; clear hK K
     refine gg ?_
     cases tokB n with
     | false =>
      refine gg ?_;exact mid ⟨rfl, rfl, rfl⟩
     | true =>
      refine gg ?_;refine zg fun K hK => ?_; refine zo (vh n (by omega)) ?_; rintro v A ⟨rfl, rfl⟩; refine pA hK ?_; clear hK K
      refine gg ?_;exact mid ⟨rfl, rfl, rfl⟩
  rintro D L S ⟨rfl, rfl, rfl⟩;rw [<- hokk, Bool.and_assoc, <- han];clear hokk;generalize hokn : (decide ((0 : Int) < l.length) && (l.take (i + 1)).all jD) = okn
  (with_reducible refine zY ?_); refine zQ (fun D L S => ∃ (p a' : Option Addr) (cap' : Nat) (Y : Chunk), Bd b4 (hdr ++ (xo (l.take i) ++ (if 0 < i then [44, 32] else []))) p a' cap' Y /\ D = [] /\ L = [(5, .bool okn), (8, .string (str (valP ⟨n, v, qq⟩))), (7, .pointer (some ⟨b7, 0, none⟩)), (18, .int .i64 i), (17, .int .i64 l.length), (16, .slice xa l.length xc), (4, .pointer (some ⟨b4, 0, none⟩)), (0, .slice xa l.length xc)] /\
   S = [bdB b4 p a' (hdr ++ (xo (l.take i) ++ (if 0 < i then [44, 32] else []))).length cap', Y, X, dpB b7 ⟨n, v, qq⟩, F]) ?_ ?_
  ·refine gg ?_
   by_cases h0 : 0 < i
   ·rw [decide_eq_true (show (0 : Int) < i by omega), if_pos h0, <- aM];refine gg ?_;rw [s2];refine cA (yX hB [44, 32] (by rw [show ([44, 32] : List UInt8).length = 2 from rfl]; omega) (by decide)) ?_; rintro v A ⟨⟨u, rfl⟩, p2, a2, cap2, X2, hB2, rfl⟩; refine gA ?_;exact mid ⟨p2, a2, cap2, X2, hB2, rfl, rfl, rfl⟩
   ·rw [decide_eq_false (show ¬ (0 : Int) < i by omega), if_neg h0, aL];refine gg ?_;exact mid ⟨p, a', cap', Y, hB, rfl, rfl, rfl⟩
  rintro D L S ⟨p, a', cap', Y, hB, rfl, rfl, rfl⟩
  have hol2 : (hdr ++ (xo (l.take i) ++ (if 0 < i then [44, 32] else []))).length <= 240009 := by
   rw [aA, aA];have : (if 0 < i then [44, 32] else [] : List UInt8).length <= 2 := by split <;> simp
   omega
  have hfin : hdr ++ (xo (l.take i) ++ (if 0 < i then [44, 32] else [])) ++ (n ++ [61] ++ valP ⟨n, v, qq⟩) = hdr ++ xo (l.take (i + 1)) := by
   rw [hjn]; simp [vQ]
  generalize valP ⟨n, v, qq⟩ = w at *;have hnl : (n ++ [61] ++ w).length <= 20000 /\ 1 <= (n ++ [61] ++ w).length := by rw [aA, aA, aI]; omega
  refine gg ?_;rw [s1];refine zf fun K hK => ?_; rw [zF (by rw [aI]; omega)]; refine hK _ _ ?_; clear hK K
  refine gg ?_;refine zf fun K hK => ?_; rw [zF (by rw [aA, aI]; omega)]; refine hK _ _ ?_; clear hK K
  refine gg ?_;refine cA (yX hB (n ++ [61] ++ w) (by omega) (by omega)) ?_; rintro v A ⟨⟨u, rfl⟩, p3, a3, cap3, X3, hB3, rfl⟩; refine gA ?_;rw [hfin] at hB3 ⊢;subst hokn;exact zv ⟨i + 1, p3, a3, cap3, X3, by omega, hB3, rfl, rfl, rfl, rfl⟩
 ·obtain rfl : i = l.length := by omega
  rw [bF] at hB hol ⊢
  have hpe : xO l = (if (decide ((0 : Int) < l.length) && l.all jD) = false then ([], 4) else if 4096 < (hdr ++ xo l).length then ([], 3) else if cntE l ≠ 0 then ([], cntE l) else (hdr ++ xo l, 0)) := by
   unfold xO;rw [show decide ((0 : Int) < l.length) = decide (0 < l.length) from by rw [decide_eq_decide]; omega]
  rw [hpe];generalize (decide ((0 : Int) < l.length) && l.all jD) = okk at *;refine gg ?_;refine cA (kj hB (by omega)) ?_; rintro v A ⟨rfl, rfl⟩; refine gA ?_
  cases okk with
  | false =>
   rw [if_pos rfl];refine gg ?_;refine ze (vs := [.string (str []), .int .i64 4]) [X] ⟨rfl, rfl⟩
  | true =>
   rw [if_neg (by simp)];refine gg ?_
   by_cases h2 : 4096 < (hdr ++ xo l).length
   ·rw [if_pos h2, decide_eq_true (show (4096 : Int) < ((hdr ++ xo l).length : Nat) by omega)];refine gg ?_;refine ze (vs := [.string (str []), .int .i64 3]) [X] ⟨rfl, rfl⟩
   ·rw [if_neg h2, decide_eq_false (show ¬ (4096 : Int) < ((hdr ++ xo l).length : Nat) by omega)];refine gg ?_;refine cA (yC hX (by omega)) ?_; rintro v A ⟨rfl, rfl⟩; refine gA ?_
    by_cases h3 : cntE l = 0
    ·rw [if_neg (by simp [h3]), h3];refine gg ?_;refine ze (vs := [.string (str (hdr ++ xo l)), .int .i64 0]) [X] ⟨rfl, rfl⟩
    ·rw [if_pos h3, bne_iff_ne.2 h3];refine gg ?_;refine ze (vs := [.string (str []), .int .i64 (cntE l)]) [X] ⟨rfl, rfl⟩
instance tpChal : zH prog 119 [(0, 1), (1, 1), (2, 1), (3, 1)] := ⟨by kernel_rfl⟩
theorem ch_len (c : Ch) : (ki c).length <= 20 := by
 unfold ki opqP staP;simp only [aA, aJ, aV]
 split <;> split <;> simp
theorem ch_bound {c : Ch} (h1 : c.r.length <= 4000) (h2 : c.n.length <= 4000) (h3 : c.o.length <= 4000) : ∀ p ∈ ki c, p.n.length + p.v.length <= 5000 := by
 intro p hp;unfold ki opqP staP at hp;simp only [List.mem_append, bA, aX, or_false] at hp
 rcases hp with (((hp | hp) | rfl) | hp) | rfl
 ·rcases hp with rfl | rfl
  ·show nRealm.length + c.r.length <= _; have : nRealm.length = 5 := rfl; omega
  ·show nNonce.length + c.n.length <= _; have : nNonce.length = 5 := rfl; omega
 ·split at hp
  ·cases hp
  ·simp only [bA, aX, or_false] at hp;subst hp
   show nOpaque.length + c.o.length <= _; have : nOpaque.length = 6 := rfl; omega
 ·decide
 ·split at hp
  ·simp only [bA, aX, or_false] at hp;subst hp; decide
  ·cases hp
 ·decide
theorem UZ (s : List UInt8) : Meets prog 100 [.string (str s)] [] fun v A => v = .bool (sizB s) /\ A = [] := by
 unfold sizB;refine eN func100 ntmps100 results100 fun F => ?_
 refine gg ?_
 cases hb : (s != []) with
 | false =>
  refine gg ?_;refine zb [] ?_; exact ⟨rfl, rfl⟩
 | true =>
  refine gg ?_;refine zb [] ?_; exact ⟨rfl, rfl⟩
theorem We {X : Chunk} {xa : Option Addr} {xc : Nat} {l : List Par} (hX : OwnP X xa xc l) (hl : l.length <= 100) (s : List UInt8) : Meets prog 99 [.slice xa l.length xc, .string (str s)] [X]
  fun v A => ∃ X' a' k', v = .slice a' (l ++ opqP s).length k' /\ OwnP X' a' k' (l ++ opqP s) /\ A = [X'] := by
 unfold opqP;refine eN func99 ntmps99 results99 fun F => ?_
 refine gg ?_
 by_cases hs : s = []
 ·rw [if_pos hs, hs, aL];refine gg ?_
  (try rw [beq_self_eq_true])
  (try refine gg ?_)
  refine zb [X] ⟨X, xa, xc, rfl, hX, rfl⟩
 ·rw [if_neg hs, beq_eq_false_iff_ne.2 hs];refine gg ?_;refine oT [(0, .string ⟨#[111, 112, 97, 113, 117, 101]⟩), (1, (.string (str s))), (2, .bool true)] (encP ⟨nOpaque, s, true⟩).toArray ?_;refine zf fun K hK => ?_; refine zN (e := 210) (s := 3) (hs := inferInstance) (vs := encP (⟨nOpaque, s, true⟩ : Par)) (by rfl) (by decide) (by decide) rfl (fun b5 C5 ho5 => ?_); refine hK _ _ ?_; clear hK K
  refine zf fun K hK => ?_; refine zn (e := 210) (s := 3) (hs := inferInstance) (by rfl) (by decide) hX (.inr pkA) (ho5.rd mmA) (zP _) (by simp only [maxLen]; omega) (by omega) (fun X5 a5 k5 hX5 => ?_); refine hK _ _ ?_; clear hK K
  have e1 : (l).length + 1 = (l ++ [(⟨nOpaque, s, true⟩ : Par)]).length := by simp
  have e2 : (l).flatMap encP ++ encP (⟨nOpaque, s, true⟩ : Par) = (l ++ [(⟨nOpaque, s, true⟩ : Par)]).flatMap encP := by simp
  rw [e1, e2] at hX5;rw [e1];clear e1 e2;refine gg ?_;refine zb [X5] ⟨X5, a5, k5, rfl, hX5, rfl⟩
theorem WV (c : Ch) (h1 : c.r.length <= 4000) (h2 : c.n.length <= 4000) (h3 : c.o.length <= 4000) : Meets prog 35 [.agg (encC c).toArray] []
  fun v A => v = .tuple #[.string (str (qh c).1), .int .i64 (qh c).2] /\ A = [] := by
 have hcl := ch_len c;have hcb := ch_bound h1 h2 h3;obtain ⟨cr, cn, co, cs⟩ := c;simp only at h1 h2 h3;have hct : qh ⟨cr, cn, co, cs⟩ = if sizB cn = false then ([], 4) else xO (ki ⟨cr, cn, co, cs⟩) := rfl;have hcp : ki ⟨cr, cn, co, cs⟩ = [⟨nRealm, cr, true⟩, ⟨nNonce, cn, true⟩] ++ opqP co ++ [⟨nAlg, nSum, false⟩] ++ staP cs ++ [⟨nQop, nAuth, true⟩] := rfl;rw [hct];refine eN func35 ntmps35 results35 fun F => ?_
 refine gg ?_;refine oB fun b1 => ?_
 refine gg ?_;refine oT [(0, .string ⟨#[114, 101, 97, 108, 109]⟩), (1, (.string (str cr))), (2, .bool true)] (encP ⟨nRealm, cr, true⟩).toArray ?_;refine gg ?_;refine oT [(0, .string ⟨#[110, 111, 110, 99, 101]⟩), (1, (.string (str cn))), (2, .bool true)] (encP ⟨nNonce, cn, true⟩).toArray ?_;refine gg ?_;refine zf fun K hK => ?_; refine wQ (n := 2) (e := 210) (s := 3) (hs := inferInstance) [encP ⟨nRealm, cr, true⟩, encP ⟨nNonce, cn, true⟩] (by rfl) rfl (by decide) (by decide) (by decide) (by intro r hr; simp only [bA, aX, or_false] at hr; rcases hr with rfl | rfl <;> rfl) (fun b2 C2 ho2 => ?_); refine hK _ _ ?_; clear hK K
 have hX2 : OwnP C2 (some ⟨b2, 0, none⟩) 2 [⟨nRealm, cr, true⟩, ⟨nNonce, cn, true⟩] := ho2;clear ho2;rw [show Value.slice (some ⟨b2, 0, none⟩) 2 2 = .slice (some ⟨b2, 0, none⟩) ([⟨nRealm, cr, true⟩, ⟨nNonce, cn, true⟩] : List Par).length 2 from rfl];have hl0 : ([⟨nRealm, cr, true⟩, ⟨nNonce, cn, true⟩] : List Par).length = 2 := rfl;generalize ([⟨nRealm, cr, true⟩, ⟨nNonce, cn, true⟩] : List Par) = l0 at *;generalize (some ⟨b2, 0, none⟩ : Option Addr) = a2 at *;refine gg ?_;refine cA (We hX2 (by omega) co) ?_; rintro v A ⟨X3, a3, k3, rfl, hX3, rfl⟩; refine gA ?_;have hl3 : (l0 ++ opqP co).length <= 3 := by rw [aA]; unfold opqP; split <;> simp <;> omega
 generalize l0 ++ opqP co = l1 at *;refine gg ?_;refine oT [(0, .string ⟨#[97, 108, 103, 111, 114, 105, 116, 104, 109]⟩), (1, (.string ⟨#[83, 72, 65, 45, 50, 53, 54]⟩)), (2, .bool false)] (encP ⟨nAlg, nSum, false⟩).toArray ?_;refine zf fun K hK => ?_; refine zN (e := 210) (s := 3) (hs := inferInstance) (vs := encP (⟨nAlg, nSum, false⟩ : Par)) (by rfl) (by decide) (by decide) rfl (fun b6 C6 ho6 => ?_); refine hK _ _ ?_; clear hK K
 refine zf fun K hK => ?_; refine zn (e := 210) (s := 3) (hs := inferInstance) (by rfl) (by decide) hX3 (.inr pkA) (ho6.rd mmA) (zP _) (by simp only [maxLen]; omega) (by omega) (fun X6 a6 k6 hX6 => ?_); refine hK _ _ ?_; clear hK K
 have e1 : (l1).length + 1 = (l1 ++ [(⟨nAlg, nSum, false⟩ : Par)]).length := by simp
 have e2 : (l1).flatMap encP ++ encP (⟨nAlg, nSum, false⟩ : Par) = (l1 ++ [(⟨nAlg, nSum, false⟩ : Par)]).flatMap encP := by simp
 rw [e1, e2] at hX6;rw [e1];clear e1 e2;have hl6 : (l1 ++ [(⟨nAlg, nSum, false⟩ : Par)]).length <= 4 := by rw [aA, aI]; omega
 generalize l1 ++ [(⟨nAlg, nSum, false⟩ : Par)] = l2 at *;refine gg ?_;refine zQ (fun D L S => ∃ (X7 : Chunk) (a7 : Option Addr) (k7 : Nat), OwnP X7 a7 k7 (l2 ++ staP cs) /\ D = [] /\ L = [(4, .slice a7 (l2 ++ staP cs).length k7), (1, .pointer (some ⟨b1, 0, none⟩))] /\ S = [X7, [(b1, .cells (encC ⟨cr, cn, co, cs⟩).toArray 119 (0, 0))], F]) ?_ ?_
 ·cases cs with
  | false =>
   rw [show staP false = [] from rfl, aL];refine gg ?_;exact mid ⟨X6, a6, k6, hX6, rfl, rfl, rfl⟩
  | true =>
   rw [show staP true = [⟨nStale, nTrue, false⟩] from rfl];refine gg ?_;refine oT [(0, .string ⟨#[115, 116, 97, 108, 101]⟩), (1, (.string ⟨#[116, 114, 117, 101]⟩)), (2, .bool false)] (encP ⟨nStale, nTrue, false⟩).toArray ?_;refine zf fun K hK => ?_; refine zN (e := 210) (s := 3) (hs := inferInstance) (vs := encP (⟨nStale, nTrue, false⟩ : Par)) (by rfl) (by decide) (by decide) rfl (fun b7 C7 ho7 => ?_); refine hK _ _ ?_; clear hK K
   refine zf fun K hK => ?_; refine zn (e := 210) (s := 3) (hs := inferInstance) (by rfl) (by decide) hX6 (.inr pkA) (ho7.rd mmA) (zP _) (by simp only [maxLen]; omega) (by omega) (fun X7 a7 k7 hX7 => ?_); refine hK _ _ ?_; clear hK K
   have e1 : (l2).length + 1 = (l2 ++ [(⟨nStale, nTrue, false⟩ : Par)]).length := by simp
   have e2 : (l2).flatMap encP ++ encP (⟨nStale, nTrue, false⟩ : Par) = (l2 ++ [(⟨nStale, nTrue, false⟩ : Par)]).flatMap encP := by simp
   rw [e1, e2] at hX7;rw [e1];clear e1 e2;refine gg ?_;exact mid ⟨X7, a7, k7, hX7, rfl, rfl, rfl⟩
 rintro D L S ⟨X7, a7, k7, hX7, rfl, rfl, rfl⟩;have hl7 : (l2 ++ staP cs).length <= 5 := by rw [aA]; unfold staP; split <;> simp <;> omega
 generalize l2 ++ staP cs = l3 at *;refine gg ?_;refine cA (UZ cn) ?_; rintro v A ⟨rfl, rfl⟩; refine gA ?_
 cases hz : sizB cn with
 | false =>
  rw [if_pos rfl];refine gg ?_;refine ze (vs := [.string (str []), .int .i64 4]) [] ⟨rfl, rfl⟩
 | true =>
  rw [if_neg (by simp)];refine gg ?_;refine oT [(0, .string ⟨#[113, 111, 112]⟩), (1, (.string ⟨#[97, 117, 116, 104]⟩)), (2, .bool true)] (encP ⟨nQop, nAuth, true⟩).toArray ?_;refine zf fun K hK => ?_; refine zN (e := 210) (s := 3) (hs := inferInstance) (vs := encP (⟨nQop, nAuth, true⟩ : Par)) (by rfl) (by decide) (by decide) rfl (fun b8 C8 ho8 => ?_); refine hK _ _ ?_; clear hK K
  refine zf fun K hK => ?_; refine zn (e := 210) (s := 3) (hs := inferInstance) (by rfl) (by decide) hX7 (.inr pkA) (ho8.rd mmA) (zP _) (by simp only [maxLen]; omega) (by omega) (fun X8 a8 k8 hX8 => ?_); refine hK _ _ ?_; clear hK K
  have e1 : (l3).length + 1 = (l3 ++ [(⟨nQop, nAuth, true⟩ : Par)]).length := by simp
  have e2 : (l3).flatMap encP ++ encP (⟨nQop, nAuth, true⟩ : Par) = (l3 ++ [(⟨nQop, nAuth, true⟩ : Par)]).flatMap encP := by simp
  rw [e1, e2] at hX8;rw [e1];clear e1 e2;rw [<- hcp] at hX8 ⊢;refine cA (Oy hX8 hcl hcb) ?_; rintro v A ⟨rfl, rfl⟩; refine gA ?_;refine ze (vs := [.string (str (xO (ki ⟨cr, cn, co, cs⟩)).1), .int .i64 (xO (ki ⟨cr, cn, co, cs⟩)).2]) [] ⟨rfl, rfl⟩
open Go.Sha
theorem Ia (x : W) : Meets prog 106 [b32 x] [] fun v A => v = .string (str (hex (zW x))) /\ A = [] := by
 refine eN func106 ntmps106 results106 fun F => ?_
 refine gg ?_;refine zf fun K hK => ?_; refine zX ([aH (x >>> 24).toNat, aH (x >>> 16).toNat, aH (x >>> 8).toNat, aH x.toNat]) (by decide) rfl (rfl) (fun b7 C7 ho7 => ?_); refine hK _ _ ?_; clear hK K
 rw [VH] at ho7;have hb := wT C7 (some ⟨b7, 0, none⟩) 4 (zW x) (by rw [show (zW x).length = 4 from rfl]; decide) (ho7.rd (by simp));rw [show (zW x).length = 4 from rfl] at hb;refine gg ?_;refine cA (hb) ?_; rintro v A ⟨rfl, rfl⟩; refine gA ?_;refine zb [] ?_; exact ⟨rfl, rfl⟩
theorem kV (A : Chunk) (a : Option Addr) (c : Nat) (ls : List (List UInt8)) (h : Rd 1 [A] a ls.length (ls.map fun l => Value.string (str l))) (hne : ls ≠ []) (hnc : ls.length <= c) (hn : ls.length <= 1000000) (hlen : ((([58] : List UInt8)).intercalate ls).length <= 100000) :
  Meets prog 104 [.slice a ls.length c] [A] (New8 5 ((([58] : List UInt8)).intercalate ls) [A]) := by
 have s58 : Value.string ⟨#[58]⟩ = .string (str [58]) := rfl;refine eN func104 ntmps104 results104 fun F => ?_
 refine gg ?_;rw [s58];refine cA (UY [A] a c ls [58] h hne hnc hn (by omega)) ?_; rintro v A ⟨rfl, rfl⟩; refine gA ?_;refine zf fun K hK => ?_; refine zK (by simp only [maxLen]; omega) (fun X xa xc hX => ?_); refine hK _ _ ?_; clear hK K
 refine gg ?_;refine zb ([X, A]) ?_; exact ⟨_, _, _, rfl, hX, rfl⟩
theorem ha1_spec {G : Chunk} (hg : jj G) {C : Chunk} {b : Nat} {x : BX} (hC : qL C b x) (hts : x.ts.length <= 1000) (u r p : List UInt8) (hu : u.length <= 1000) (hr : r.length <= 1000) (hp : p.length <= 1000) :
  Meets prog 40 [.pointer (some ⟨b, 0, none⟩), .string (str u), .string (str r), .string (str p)] [C, G] (Out b (xl x (xq u r p)) [G]) := by
 have e : (([58] : List UInt8)).intercalate [u, r, p] = xq u r p := by simp [List.intercalate, xq]
 have hl : (xq u r p).length <= 4000 := by unfold xq; simp only [aA, aI]; omega
 refine eN func40 ntmps40 results40 fun F => ?_
 refine gg ?_;refine zf fun K hK => ?_; refine xZ rfl [.string (str u), .string (str r), .string (str p)] (by decide) rfl rfl (by simp [Value.cell1]) (fun b13 C13 ho13 => ?_); refine hK _ _ ?_; clear hK K
 refine gg ?_;have hj := kV C13 (some ⟨b13, 0, none⟩) 3 [u, r, p] (ho13.rd (aB ..)) (by simp) (aR _) (by show 3 <= 1000000; decide) (by rw [e]; omega);rw [e] at hj;refine cA (hj) ?_; rintro v A ⟨J, ja, jc, rfl, hJ, rfl⟩; refine gA ?_;refine zf fun K hK => ?_; refine xZ rfl [.slice ja (xq u r p).length jc] (by decide) rfl rfl (by simp [Value.cell1]) (fun b15 C15 ho15 => ?_); refine hK _ _ ?_; clear hK K
 refine gg ?_;have hp4 : Part1 C15 J (some ⟨b15, 0, none⟩) ja jc (xq u r p) := ⟨ho15.rd (aB ..), hJ.1, hJ.rd (aB ..), by omega⟩;refine cA (vr hg hp4 hC hts) ?_; rintro v A ⟨O, C', oa, oc, rfl, hO, hC', rfl⟩; refine gA ?_;refine zb [O, C', G] ?_;exact ⟨O, C', oa, oc, rfl, hO, hC', rfl⟩
def ha2T (m uri : List UInt8) : List UInt8 := m ++ [58] ++ uri
def resT (h1 n : List UInt8) (nc : W) (cn h2 : List UInt8) : List UInt8 := hex h1 ++ [58] ++ n ++ [58] ++ hex (zW nc) ++ [58] ++ cn ++ [58, 97, 117, 116, 104, 58] ++ hex h2
def xS (x : BX) (h1 m : List UInt8) (a : An) : List UInt8 × BX :=
 let k := xl x (ha2T m a.uri)
 xl k.2 (resT h1 a.n a.nc a.cn k.1)
theorem Jv (x : BX) (h1 m : List UInt8) (a : An) : (xS x h1 m a).2.ts.length <= x.ts.length + 2 /\ (xS x h1 m a).2.sym = x.sym := by
 unfold xS;simp only;have k1 := xU x (ha2T m a.uri);generalize xl x (ha2T m a.uri) = k at *;have k2 := xU k.2 (resT h1 a.n a.nc a.cn k.1);exact ⟨by omega, by rw [k2.2, k1.2]⟩
theorem wz (x : BX) (h1 m : List UInt8) (a : An) : (xS x h1 m a).1.length = 32 := jH _ _
theorem QG {G : Chunk} (hg : jj G) {C H : Chunk} {b : Nat} {x : BX} (hC : qL C b x) (hts : x.ts.length <= 900) {ha : Option Addr} {hc : Nat} (h1 m : List UInt8) (hl1 : h1.length <= 1000) (hm : m.length <= 1000) (hH : Rd 1 [H] ha h1.length (h1.map b8)) (a : An) (hn : a.n.length <= 4096) (huri : a.uri.length <= 4096) (hcn : a.cn.length <= 4096) (pa : Option Addr) (pk : Nat) :
  Meets prog 39 [.pointer (some ⟨b, 0, none⟩), .slice ha h1.length hc, .string (str m), .agg (encA a pa pk).toArray] [C, G, H] (Out b (xS x h1 m a) [G, H]) := by
 obtain ⟨au, ar, an, ai, ak, ao, ac, ap⟩ := a;simp only at hn huri hcn;have e2 : (([58] : List UInt8)).intercalate [m, ai] = ha2T m ai := by simp [List.intercalate, ha2T]
 have l2 : (ha2T m ai).length <= 6000 := by unfold ha2T; simp only [aA, aI]; omega
 refine eN func39 ntmps39 results39 fun F => ?_
 refine gg ?_;refine oB fun b7 => ?_
 refine gg ?_;refine zf fun K hK => ?_; refine xZ rfl [.string (str m), .string (str ai)] (by decide) rfl rfl (by simp [Value.cell1]) (fun b14 C14 ho14 => ?_); refine hK _ _ ?_; clear hK K
 refine gg ?_;have hj := kV C14 (some ⟨b14, 0, none⟩) 2 [m, ai] (ho14.rd (aB ..)) (by simp) (aR _) (by show 2 <= 1000000; decide) (by rw [e2]; omega);rw [e2] at hj;refine cA (hj) ?_; rintro v A ⟨J, ja, jc, rfl, hJ, rfl⟩; refine gA ?_;refine zf fun K hK => ?_; refine xZ rfl [.slice ja (ha2T m ai).length jc] (by decide) rfl rfl (by simp [Value.cell1]) (fun b16 C16 ho16 => ?_); refine hK _ _ ?_; clear hK K
 refine gg ?_;have hp4 : Part1 C16 J (some ⟨b16, 0, none⟩) ja jc (ha2T m ai) := ⟨ho16.rd (aB ..), hJ.1, hJ.rd (aB ..), by omega⟩;have kl := jH x (ha2T m ai);have kt := xU x (ha2T m ai);refine cA (vr hg hp4 hC (by omega)) ?_; rintro v A ⟨K1, C1, ka, kc, rfl, hK1, hC1, rfl⟩; refine gA ?_;unfold xS;simp only;generalize xl x (ha2T m ai) = k at *;have hx1 : (hex h1).length <= 3000 := by rw [hex_len]; omega
 have hx2 : (hex k.1).length <= 3000 := by rw [hex_len]; omega
 have hx3 : (hex (zW ac)).length <= 8 := by rw [hex_len]; exact aR _
 have e6 : (([58] : List UInt8)).intercalate [hex h1, an, hex (zW ac), ak, [97, 117, 116, 104], hex k.1] = resT h1 an ac ak k.1 := by simp [List.intercalate, resT]
 have l6 : (resT h1 an ac ak k.1).length <= 20000 := by unfold resT; simp only [aA, aI, aJ, aV]; omega
 refine cdL [[0], [1], [3], [4], [5], [6], [8], [9], [10], [2, 0, 4, 6, 9], [7, 0, 4, 9], [11, 0, 4, 9], [12, 0], [13, 0], [14, 0], [15, 0], [16, 0]] ?_;refine gg ?_;refine zg fun K hK => ?_; refine zo (wT H ha hc h1 (by omega) hH) ?_; rintro v A ⟨rfl, rfl⟩; refine pA hK ?_; clear hK K
 refine gg ?_;refine zg fun K hK => ?_; refine zo (Ia ac) ?_; rintro v A ⟨rfl, rfl⟩; refine pA hK ?_; clear hK K
 refine gg ?_;refine zg fun K hK => ?_; refine zo (wT K1 ka kc k.1 (by omega) (hK1.rd (aB ..))) ?_; rintro v A ⟨rfl, rfl⟩; refine pA hK ?_; clear hK K
 refine gg ?_;refine zg fun K hK => ?_; refine xZ rfl [.string (str (hex h1)), .string (str an), .string (str (hex (zW ac))), .string (str ak), .string (str [97, 117, 116, 104]), .string (str (hex k.1))] (by decide) rfl rfl (by simp [Value.cell1]) (fun b30 C30 ho30 => ?_); refine hK _ _ ?_; clear hK K
 refine gg ?_;have hj6 := kV C30 (some ⟨b30, 0, none⟩) 6 [hex h1, an, hex (zW ac), ak, [97, 117, 116, 104], hex k.1] (ho30.rd (aB ..)) (by simp) (aR _) (by show 6 <= 1000000; decide) (by rw [e6]; omega);rw [e6] at hj6;refine zg fun K hK => ?_; refine zo (hj6) ?_; rintro v A ⟨J6, j6, q6, rfl, hJ6, rfl⟩; refine pA hK ?_; clear hK K
 refine gg ?_;refine zg fun K hK => ?_; refine xZ rfl [.slice j6 (resT h1 an ac ak k.1).length q6] (by decide) rfl rfl (by simp [Value.cell1]) (fun b32 C32 ho32 => ?_); refine hK _ _ ?_; clear hK K
 refine gg ?_;have hp6 : Part1 C32 J6 (some ⟨b32, 0, none⟩) j6 q6 (resT h1 an ac ak k.1) := ⟨ho32.rd (aB ..), hJ6.1, hJ6.rd (aB ..), by omega⟩;refine zg fun K hK => ?_; refine zo (vr hg hp6 hC1 (by omega)) ?_; rintro v A ⟨O, C', oa, oc, rfl, hO, hC', rfl⟩; refine pA hK ?_; clear hK K
 refine gg ?_
 (try (try (refine zg fun K hK => ?_; refine hK _ _ ?_; clear hK K)))
 (try refine gg ?_)
 refine zb [O, C', G, H] ?_;exact ⟨O, C', oa, oc, rfl, hO, hC', rfl⟩
end Go.Proofs.YtebikhhoppiapaaGreatDoor
namespace Go.Proofs.YtebikhhoppiapaaGreatDoor
open Go Go.Ost Tryz
theorem print_no (l : List Par) (i : Nat) (h : i < l.length) (hg : jD (l.getD i p0) = false) : xO l = ([], 4) := by
 unfold xO;rw [if_pos (by rw [Yl h hg]; simp)]
theorem Vi {p : Par} (h : Vn p = false) : jD p = false := by unfold jD; rw [h]; rfl
theorem good_tok {p : Par} (h : tokB p.n = false) : jD p = false := by unfold jD; rw [h]; simp
theorem good_low {p : Par} (h : (lowL p.n == p.n) = false) : jD p = false := by unfold jD; rw [h]; simp
theorem Zq {X : Chunk} {xa : Option Addr} {xc : Nat} {l : List Par} (hX : OwnR X xa xc l) (hl : l.length <= 20) (hb : ∀ p ∈ l, p.n.length + p.v.length <= 5000) :
  Meets prog 54 [.slice xa l.length xc] [X] fun v A => v = .tuple #[.string (str (xO l).1), .int .i64 (xO l).2] /\ A = [X] := by
 have hs := vI;have s7 : Value.string ⟨#[68, 105, 103, 101, 115, 116, 32]⟩ = .string (str hdr) := rfl;have s2 : Value.string ⟨#[44, 32]⟩ = .string (str [44, 32]) := rfl;have s1 : Value.string ⟨#[61]⟩ = .string (str [61]) := rfl;refine eN func54 ntmps54 results54 fun F => ?_
 refine gg ?_;have e0 : hdr = hdr ++ xo (l.take 0) := by simp [xo]
 rw [s7, show Value.string (str hdr) = .string (str (hdr ++ xo (l.take 0))) from by rw [<- e0]]
 refine zz (fun q D L S => ∃ i : Nat, i <= l.length /\ (l.take i).all jD = true /\ q = l.length - i /\ D = [] /\
  L = [(13, .int .i64 i), (12, .int .i64 l.length), (11, .slice xa l.length xc), (4, .string (str (hdr ++ xo (l.take i)))), (0, .slice xa l.length xc)] /\ S = [X, F])
  ⟨0, by omega, by simp, rfl, rfl, rfl, rfl⟩ ?_
 rintro q D L S ⟨i, hi, hall, rfl, rfl, rfl, rfl⟩;have hjl := Up (l.take i) fun p hp => hb p (List.mem_of_mem_take hp)
 have htl : (l.take i).length <= 20 := by rw [aU]; omega
 have hh7 : hdr.length = 7 := rfl;have hjl2 : (xo (l.take i)).length <= 240000 := dN hjl (by omega);have hol : (hdr ++ xo (l.take i)).length <= 240007 := by rw [aA]; omega
 clear hjl;refine gg ?_;refine if_d (fun hc => ?_) (fun hc => ?_)
 ·have hil : i < l.length := by omega
  have hx := jI l i hil;have hjn := Vg l i hil;have han := all_par (f := jD) l i hil;have hpb := hb _ (List.mem_of_getElem? hx);have hvl := VS (l.getD i p0);have hpn := print_no l i hil;rw [hall, dM] at han;generalize l.getD i p0 = x at *;obtain ⟨n, v, qq⟩ := x;simp only at hpb hvl;refine gg ?_;refine zf fun K hK => ?_; refine zT hX hs hx (by decide) mmA ?_; refine hK _ _ ?_; clear hK K
  refine oA (encP p0).toArray fun b6 => ?_
  refine gg ?_;refine oS (encP ⟨n, v, qq⟩) rfl (zP _) ?_;refine gg ?_
  refine zQ (fun D L S => Vn ⟨n, v, qq⟩ = true /\ D = [] /\ L = [(7, .string (str (valP ⟨n, v, qq⟩))), (6, .pointer (some ⟨b6, 0, none⟩)), (5, .int .i64 i), (13, .int .i64 i), (12, .int .i64 l.length), (11, .slice xa l.length xc), (4, .string (str (hdr ++ xo (l.take i)))), (0, .slice xa l.length xc)] /\
   S = [X, rpB b6 ⟨n, v, qq⟩, F]) ?_ ?_
  ·cases qq with
   | true =>
    refine gg ?_;refine cA (KD v (by omega)) ?_; rintro v A ⟨rfl, rfl⟩; refine gA ?_
    cases hq : (quoE v).2 with
    | true =>
     refine gg ?_;exact mid ⟨hq, rfl, rfl, rfl⟩
    | false =>
     rw [hpn (Vi hq)];refine gg ?_;refine ze (vs := [.string (str []), .int .i64 4]) [X] ⟨rfl, rfl⟩
   | false =>
    refine gg ?_;refine cA (Zm v (by omega)) ?_; rintro v A ⟨rfl, rfl⟩; refine gA ?_
    cases hq : tokB v with
    | true =>
     refine gg ?_;exact mid ⟨hq, rfl, rfl, rfl⟩
    | false =>
     rw [hpn (Vi hq)];refine gg ?_;refine ze (vs := [.string (str []), .int .i64 4]) [X] ⟨rfl, rfl⟩
  rintro D L S ⟨hfine, rfl, rfl, rfl⟩
  (with_reducible refine zY ?_); refine zQ (fun D L S => jD ⟨n, v, qq⟩ = true /\ D = [] /\ L = [(7, .string (str (valP ⟨n, v, qq⟩))), (6, .pointer (some ⟨b6, 0, none⟩)), (5, .int .i64 i), (13, .int .i64 i), (12, .int .i64 l.length), (11, .slice xa l.length xc), (4, .string (str (hdr ++ xo (l.take i)))), (0, .slice xa l.length xc)] /\
   S = [X, rpB b6 ⟨n, v, qq⟩, F]) ?_ ?_
  ·(try (with_reducible refine zp ?_))
   (try (with_reducible refine zY ?_))
   refine cdL [[0], [1], [2, 0], [3], [4], [5], [6], [8], [9], [7, 0, 9], [10], [11]] ?_;refine gg ?_;refine zg fun K hK => ?_; refine zo (Zm n (by omega)) ?_; rintro v A ⟨rfl, rfl⟩; refine pA hK ?_; clear hK K
   refine gg ?_
   cases ht : tokB n with
   | false =>
    rw [hpn (good_tok ht)];refine gg ?_;refine ze (vs := [.string (str []), .int .i64 4]) [X] ⟨rfl, rfl⟩
   | true =>
    refine gg ?_;refine zg fun K hK => ?_; refine zo (wx n (by omega)) ?_; rintro v A ⟨rfl, rfl⟩; refine pA hK ?_; clear hK K
    refine gg ?_
    by_cases hlo : lowL n = n
    ·rw [bne_eq_false_iff_eq.2 hlo];refine gg ?_;exact mid ⟨by unfold jD; rw [hfine, ht, beq_iff_eq.2 hlo]; rfl, rfl, rfl, rfl⟩
    ·rw [bne_iff_ne.2 hlo, hpn (good_low (beq_eq_false_iff_ne.2 hlo))];refine gg ?_;refine ze (vs := [.string (str []), .int .i64 4]) [X] ⟨rfl, rfl⟩
  rintro D L S ⟨hgood, rfl, rfl, rfl⟩;rw [hgood] at han
  (with_reducible refine zY ?_); refine zQ (fun D L S => D = [] /\ L = [(4, .string (str (hdr ++ (xo (l.take i) ++ (if 0 < i then [44, 32] else []))))), (7, .string (str (valP ⟨n, v, qq⟩))), (6, .pointer (some ⟨b6, 0, none⟩)), (13, .int .i64 i), (12, .int .i64 l.length), (11, .slice xa l.length xc), (0, .slice xa l.length xc)] /\
   S = [X, rpB b6 ⟨n, v, qq⟩, F]) ?_ ?_
  ·refine gg ?_
   by_cases h0 : 0 < i
   ·rw [decide_eq_true (show (0 : Int) < i by omega), if_pos h0, <- aM];refine gg ?_;rw [s2];refine zf fun K hK => ?_; rw [zF (by rw [show ([44, 32] : List UInt8).length = 2 from rfl]; omega)]; refine hK _ _ ?_; clear hK K
    refine gg ?_;exact mid ⟨rfl, rfl, rfl⟩
   ·rw [decide_eq_false (show ¬ (0 : Int) < i by omega), if_neg h0, aL];refine gg ?_;exact mid ⟨rfl, rfl, rfl⟩
  rintro D L S ⟨rfl, rfl, rfl⟩
  have hol2 : (hdr ++ (xo (l.take i) ++ (if 0 < i then [44, 32] else []))).length <= 240009 := by
   rw [aA, aA];have : (if 0 < i then [44, 32] else [] : List UInt8).length <= 2 := by split <;> simp
   omega
  have hfin : hdr ++ (xo (l.take i) ++ (if 0 < i then [44, 32] else [])) ++ (n ++ [61] ++ valP ⟨n, v, qq⟩) = hdr ++ xo (l.take (i + 1)) := by
   rw [hjn]; simp [vQ]
  generalize valP ⟨n, v, qq⟩ = w at *;have hnl : (n ++ [61] ++ w).length <= 20000 /\ 1 <= (n ++ [61] ++ w).length := by rw [aA, aA, aI]; omega
  refine gg ?_;rw [s1];refine zf fun K hK => ?_; rw [zF (by rw [aI]; omega)]; refine hK _ _ ?_; clear hK K
  refine gg ?_;refine zf fun K hK => ?_; rw [zF (by rw [aA, aI]; omega)]; refine hK _ _ ?_; clear hK K
  refine gg ?_;refine zf fun K hK => ?_; rw [zF (by omega), hfin]; refine hK _ _ ?_; clear hK K
  refine gg ?_;exact zv ⟨i + 1, by omega, han, rfl, rfl, rfl, rfl⟩
 ·obtain rfl : i = l.length := by omega
  rw [bF] at hall hol ⊢;unfold xO;refine gg ?_
  by_cases h1 : l.length = 0
  ·rw [beq_iff_eq.2 (show (l.length : Int) = 0 by omega), if_pos (by rw [decide_eq_false (by omega)]; rfl)];refine gg ?_;refine ze (vs := [.string (str []), .int .i64 4]) [X] ⟨rfl, rfl⟩
  ·rw [beq_eq_false_iff_ne.2 (show (l.length : Int) ≠ 0 by omega), if_neg (by rw [hall, decide_eq_true (show 0 < l.length by omega)]; simp)];refine gg ?_
   by_cases h2 : 4096 < (hdr ++ xo l).length
   ·rw [if_pos h2, decide_eq_true (show (4096 : Int) < ((hdr ++ xo l).length : Nat) by omega)];refine gg ?_;refine ze (vs := [.string (str []), .int .i64 3]) [X] ⟨rfl, rfl⟩
   ·rw [if_neg h2, decide_eq_false (show ¬ (4096 : Int) < ((hdr ++ xo l).length : Nat) by omega)];refine gg ?_;refine cA (wA hX (by omega)) ?_; rintro v A ⟨rfl, rfl⟩; refine gA ?_
    by_cases h3 : cntE l = 0
    ·rw [if_neg (by simp [h3]), h3];refine gg ?_;refine ze (vs := [.string (str (hdr ++ xo l)), .int .i64 0]) [X] ⟨rfl, rfl⟩
    ·rw [if_pos h3, bne_iff_ne.2 h3];refine gg ?_;refine ze (vs := [.string (str []), .int .i64 (cntE l)]) [X] ⟨rfl, rfl⟩
instance tprChal : zH prog 70 [(0, 1), (1, 1), (2, 1), (3, 1)] := ⟨by kernel_rfl⟩
theorem rch_len (c : Ch) : (ki c).length <= 20 := by
 unfold ki opqP staP;simp only [aA, aJ, aV]
 split <;> split <;> simp
theorem rch_bound {c : Ch} (h1 : c.r.length <= 4000) (h2 : c.n.length <= 4000) (h3 : c.o.length <= 4000) : ∀ p ∈ ki c, p.n.length + p.v.length <= 5000 := by
 intro p hp;unfold ki opqP staP at hp;simp only [List.mem_append, bA, aX, or_false] at hp
 rcases hp with (((hp | hp) | rfl) | hp) | rfl
 ·rcases hp with rfl | rfl
  ·show nRealm.length + c.r.length <= _; have : nRealm.length = 5 := rfl; omega
  ·show nNonce.length + c.n.length <= _; have : nNonce.length = 5 := rfl; omega
 ·split at hp
  ·cases hp
  ·simp only [bA, aX, or_false] at hp;subst hp
   show nOpaque.length + c.o.length <= _; have : nOpaque.length = 6 := rfl; omega
 ·decide
 ·split at hp
  ·simp only [bA, aX, or_false] at hp;subst hp; decide
  ·cases hp
 ·decide
theorem vU (s : List UInt8) : Meets prog 50 [.string (str s)] [] fun v A => v = .bool (sizB s) /\ A = [] := by
 have hb : sizB s = (decide ((1 : Int) <= s.length) && decide ((s.length : Int) <= 64)) := by
  unfold sizB
  congr 1
  cases s with
  | nil => rfl
  | cons a l => rw [aJ, decide_eq_true (by omega)]; rfl
 rw [hb];refine eN func50 ntmps50 results50 fun F => ?_
 refine gg ?_
 cases hb : decide ((1 : Int) <= s.length) with
 | false =>
  refine gg ?_;refine zb [] ?_; exact ⟨rfl, rfl⟩
 | true =>
  refine gg ?_;refine zb [] ?_; exact ⟨rfl, rfl⟩
theorem QL (c : Ch) (h1 : c.r.length <= 4000) (h2 : c.n.length <= 4000) (h3 : c.o.length <= 4000) : Meets prog 37 [.agg (encC c).toArray] []
  fun v A => v = .tuple #[.string (str (qh c).1), .int .i64 (qh c).2] /\ A = [] := by
 have hcl := rch_len c;have hcb := rch_bound h1 h2 h3;obtain ⟨cr, cn, co, cs⟩ := c;simp only at h1 h2 h3;have hct : qh ⟨cr, cn, co, cs⟩ = if sizB cn = false then ([], 4) else xO (ki ⟨cr, cn, co, cs⟩) := rfl;have hcp : ki ⟨cr, cn, co, cs⟩ = [⟨nRealm, cr, true⟩, ⟨nNonce, cn, true⟩] ++ opqP co ++ [⟨nAlg, nSum, false⟩] ++ staP cs ++ [⟨nQop, nAuth, true⟩] := rfl;rw [hct];refine eN func37 ntmps37 results37 fun F => ?_
 refine gg ?_;refine oB fun b1 => ?_
 refine gg ?_;refine oT [(0, .string ⟨#[114, 101, 97, 108, 109]⟩), (1, (.string (str cr))), (2, .bool true)] (encP ⟨nRealm, cr, true⟩).toArray ?_;refine gg ?_;refine oT [(0, .string ⟨#[110, 111, 110, 99, 101]⟩), (1, (.string (str cn))), (2, .bool true)] (encP ⟨nNonce, cn, true⟩).toArray ?_;refine gg ?_;refine zf fun K hK => ?_; refine wQ (n := 2) (e := 137) (s := 3) (hs := inferInstance) [encP ⟨nRealm, cr, true⟩, encP ⟨nNonce, cn, true⟩] (by rfl) rfl (by decide) (by decide) (by decide) (by intro r hr; simp only [bA, aX, or_false] at hr; rcases hr with rfl | rfl <;> rfl) (fun b2 C2 ho2 => ?_); refine hK _ _ ?_; clear hK K
 have hX2 : OwnR C2 (some ⟨b2, 0, none⟩) 2 [⟨nRealm, cr, true⟩, ⟨nNonce, cn, true⟩] := ho2;clear ho2;rw [show Value.slice (some ⟨b2, 0, none⟩) 2 2 = .slice (some ⟨b2, 0, none⟩) ([⟨nRealm, cr, true⟩, ⟨nNonce, cn, true⟩] : List Par).length 2 from rfl];have hl0 : ([⟨nRealm, cr, true⟩, ⟨nNonce, cn, true⟩] : List Par).length = 2 := rfl;generalize ([⟨nRealm, cr, true⟩, ⟨nNonce, cn, true⟩] : List Par) = l0 at *;generalize (some ⟨b2, 0, none⟩ : Option Addr) = a2 at *;refine gg ?_;refine zQ (fun D L S => ∃ (X3 : Chunk) (a3 : Option Addr) (k3 : Nat), OwnR X3 a3 k3 (l0 ++ opqP co) /\ D = [] /\ L = [(4, .slice a3 (l0 ++ opqP co).length k3), (1, .pointer (some ⟨b1, 0, none⟩))] /\ S = [X3, [(b1, .cells (encC ⟨cr, cn, co, cs⟩).toArray 70 (0, 0))], F]) ?_ ?_
 ·by_cases hs : co = []
  ·have ho : opqP co = [] := if_pos hs;rw [ho, aL, bne_eq_false_iff_eq.2 hs];refine gg ?_;exact mid ⟨C2, a2, 2, hX2, rfl, rfl, rfl⟩
  ·have ho : opqP co = [⟨nOpaque, co, true⟩] := if_neg hs;rw [ho, bne_iff_ne.2 hs];refine gg ?_;refine oT [(0, .string ⟨#[111, 112, 97, 113, 117, 101]⟩), (1, (.string (str co))), (2, .bool true)] (encP ⟨nOpaque, co, true⟩).toArray ?_;refine zf fun K hK => ?_; refine zN (e := 137) (s := 3) (hs := inferInstance) (vs := encP (⟨nOpaque, co, true⟩ : Par)) (by rfl) (by decide) (by decide) rfl (fun b5 C5 ho5 => ?_); refine hK _ _ ?_; clear hK K
   refine zf fun K hK => ?_; refine zn (e := 137) (s := 3) (hs := inferInstance) (by rfl) (by decide) hX2 (.inr pkA) (ho5.rd mmA) (zP _) (by simp only [maxLen]; omega) (by omega) (fun X5 a5 k5 hX5 => ?_); refine hK _ _ ?_; clear hK K
   have e1 : (l0).length + 1 = (l0 ++ [(⟨nOpaque, co, true⟩ : Par)]).length := by simp
   have e2 : (l0).flatMap encP ++ encP (⟨nOpaque, co, true⟩ : Par) = (l0 ++ [(⟨nOpaque, co, true⟩ : Par)]).flatMap encP := by simp
   rw [e1, e2] at hX5;rw [e1];clear e1 e2;refine gg ?_;exact mid ⟨X5, a5, k5, hX5, rfl, rfl, rfl⟩
 rintro D L S ⟨X3, a3, k3, hX3, rfl, rfl, rfl⟩;have hl3 : (l0 ++ opqP co).length <= 3 := by rw [aA]; unfold opqP; split <;> simp <;> omega
 generalize l0 ++ opqP co = l1 at *;refine gg ?_;refine oT [(0, .string ⟨#[97, 108, 103, 111, 114, 105, 116, 104, 109]⟩), (1, (.string ⟨#[83, 72, 65, 45, 50, 53, 54]⟩)), (2, .bool false)] (encP ⟨nAlg, nSum, false⟩).toArray ?_;refine zf fun K hK => ?_; refine zN (e := 137) (s := 3) (hs := inferInstance) (vs := encP (⟨nAlg, nSum, false⟩ : Par)) (by rfl) (by decide) (by decide) rfl (fun b6 C6 ho6 => ?_); refine hK _ _ ?_; clear hK K
 refine zf fun K hK => ?_; refine zn (e := 137) (s := 3) (hs := inferInstance) (by rfl) (by decide) hX3 (.inr pkA) (ho6.rd mmA) (zP _) (by simp only [maxLen]; omega) (by omega) (fun X6 a6 k6 hX6 => ?_); refine hK _ _ ?_; clear hK K
 have e1 : (l1).length + 1 = (l1 ++ [(⟨nAlg, nSum, false⟩ : Par)]).length := by simp
 have e2 : (l1).flatMap encP ++ encP (⟨nAlg, nSum, false⟩ : Par) = (l1 ++ [(⟨nAlg, nSum, false⟩ : Par)]).flatMap encP := by simp
 rw [e1, e2] at hX6;rw [e1];clear e1 e2;have hl6 : (l1 ++ [(⟨nAlg, nSum, false⟩ : Par)]).length <= 4 := by rw [aA, aI]; omega
 generalize l1 ++ [(⟨nAlg, nSum, false⟩ : Par)] = l2 at *;refine gg ?_;refine zQ (fun D L S => ∃ (X7 : Chunk) (a7 : Option Addr) (k7 : Nat), OwnR X7 a7 k7 (l2 ++ staP cs) /\ D = [] /\ L = [(4, .slice a7 (l2 ++ staP cs).length k7), (1, .pointer (some ⟨b1, 0, none⟩))] /\ S = [X7, [(b1, .cells (encC ⟨cr, cn, co, cs⟩).toArray 70 (0, 0))], F]) ?_ ?_
 ·cases cs with
  | false =>
   rw [show staP false = [] from rfl, aL];refine gg ?_;exact mid ⟨X6, a6, k6, hX6, rfl, rfl, rfl⟩
  | true =>
   rw [show staP true = [⟨nStale, nTrue, false⟩] from rfl];refine gg ?_;refine oT [(0, .string ⟨#[115, 116, 97, 108, 101]⟩), (1, (.string ⟨#[116, 114, 117, 101]⟩)), (2, .bool false)] (encP ⟨nStale, nTrue, false⟩).toArray ?_;refine zf fun K hK => ?_; refine zN (e := 137) (s := 3) (hs := inferInstance) (vs := encP (⟨nStale, nTrue, false⟩ : Par)) (by rfl) (by decide) (by decide) rfl (fun b7 C7 ho7 => ?_); refine hK _ _ ?_; clear hK K
   refine zf fun K hK => ?_; refine zn (e := 137) (s := 3) (hs := inferInstance) (by rfl) (by decide) hX6 (.inr pkA) (ho7.rd mmA) (zP _) (by simp only [maxLen]; omega) (by omega) (fun X7 a7 k7 hX7 => ?_); refine hK _ _ ?_; clear hK K
   have e1 : (l2).length + 1 = (l2 ++ [(⟨nStale, nTrue, false⟩ : Par)]).length := by simp
   have e2 : (l2).flatMap encP ++ encP (⟨nStale, nTrue, false⟩ : Par) = (l2 ++ [(⟨nStale, nTrue, false⟩ : Par)]).flatMap encP := by simp
   rw [e1, e2] at hX7;rw [e1];clear e1 e2;refine gg ?_;exact mid ⟨X7, a7, k7, hX7, rfl, rfl, rfl⟩
 rintro D L S ⟨X7, a7, k7, hX7, rfl, rfl, rfl⟩;have hl7 : (l2 ++ staP cs).length <= 5 := by rw [aA]; unfold staP; split <;> simp <;> omega
 generalize l2 ++ staP cs = l3 at *;refine gg ?_;refine cA (vU cn) ?_; rintro v A ⟨rfl, rfl⟩; refine gA ?_
 cases hz : sizB cn with
 | false =>
  rw [if_pos rfl];refine gg ?_;refine ze (vs := [.string (str []), .int .i64 4]) [] ⟨rfl, rfl⟩
 | true =>
  rw [if_neg (by simp)];refine gg ?_;refine oT [(0, .string ⟨#[113, 111, 112]⟩), (1, (.string ⟨#[97, 117, 116, 104]⟩)), (2, .bool true)] (encP ⟨nQop, nAuth, true⟩).toArray ?_;refine zf fun K hK => ?_; refine zN (e := 137) (s := 3) (hs := inferInstance) (vs := encP (⟨nQop, nAuth, true⟩ : Par)) (by rfl) (by decide) (by decide) rfl (fun b8 C8 ho8 => ?_); refine hK _ _ ?_; clear hK K
  refine zf fun K hK => ?_; refine zn (e := 137) (s := 3) (hs := inferInstance) (by rfl) (by decide) hX7 (.inr pkA) (ho8.rd mmA) (zP _) (by simp only [maxLen]; omega) (by omega) (fun X8 a8 k8 hX8 => ?_); refine hK _ _ ?_; clear hK K
  have e1 : (l3).length + 1 = (l3 ++ [(⟨nQop, nAuth, true⟩ : Par)]).length := by simp
  have e2 : (l3).flatMap encP ++ encP (⟨nQop, nAuth, true⟩ : Par) = (l3 ++ [(⟨nQop, nAuth, true⟩ : Par)]).flatMap encP := by simp
  rw [e1, e2] at hX8;rw [e1];clear e1 e2;rw [<- hcp] at hX8 ⊢;refine cA (Zq hX8 hcl hcb) ?_; rintro v A ⟨rfl, rfl⟩; refine gA ?_;refine ze (vs := [.string (str (xO (ki ⟨cr, cn, co, cs⟩)).1), .int .i64 (xO (ki ⟨cr, cn, co, cs⟩)).2]) [] ⟨rfl, rfl⟩
open Go.Sha
theorem dv_at : ∀ j < 16, dv (digits.getD j 0) = j := by decide +kernel
theorem dv_no {c : UInt8} (h : ∀ j < 16, digits.getD j 0 ≠ c) : dv c = -1 := by
 have key : ∀ l : List UInt8, (∀ x ∈ l, x ≠ c) -> Lib.indexByte l c = -1 := by
  intro l
  induction l with
  | nil => intro _; rfl
  | cons b l ih =>
   intro h;have e : Lib.indexByte (b :: l) c = if (b == c) = true then (0 : Int) else if (Lib.indexByte l c == -1) = true then -1 else Lib.indexByte l c + 1 := rfl;rw [e, if_neg (by simpa using h b (aB ..)), ih fun x hx => h x (aK _ hx)]; rfl
 refine key digits fun x hx => ?_
 obtain ⟨j, hj⟩ := List.mem_iff_getElem?.1 hx;have hlt := (List.getElem?_eq_some_iff.1 hj).1;have := h j hlt;rw [aS, hj] at this;exact this
theorem Yp {a b : UInt8} (ha : 0 <= dv a) (hb : 0 <= dv b) : ∀ (k : Nat) (t l : List UInt8), t.length <= k -> uhF t = some l -> uhF (t ++ [a, b]) = some (l ++ [aH (16 * (dv a).toNat + (dv b).toNat)])
 | _, [], l, _, h => by
  simp [uhF] at h; subst h
  show (if dv a < 0 ∨ dv b < 0 then none else _) = _
  rw [if_neg (by omega)]; rfl
 | _, [x], l, _, h => by simp [uhF] at h
 | 0, x :: y :: t, l, hk, h => by simp at hk
 | k + 1, x :: y :: t, l, hk, h => by
  simp only [uhF] at h
  show (if dv x < 0 ∨ dv y < 0 then none else _) = _
  split at h
  ·cases h
  ·rename_i hxy
   rw [if_neg hxy]
   cases hr : uhF t with
   | none => rw [hr] at h; cases h
   | some m =>
    rw [hr] at h; cases h
    have ih := Yp ha hb k t m (by simp only [aJ] at hk; omega) hr;rw [List.append_eq] at *;rw [ih]; rfl
theorem uhF_no {c : UInt8} (hc : dv c < 0) : ∀ (k : Nat) (s : List UInt8), s.length <= k -> c ∈ s -> uhF s = none
 | _, [], _, h => by cases h
 | _, [x], _, h => rfl
 | 0, x :: y :: t, hk, h => by simp at hk
 | k + 1, x :: y :: t, hk, h => by
  rw [uhF]
  rcases List.mem_cons.1 h with rfl | h
  ·rw [if_pos (.inl hc)]
  ·rcases List.mem_cons.1 h with rfl | h
   ·rw [if_pos (.inr hc)]
   ·rw [uhF_no hc k t (by simp only [aJ] at hk; omega) h]
    split <;> rfl
theorem Zk (s : List UInt8) (hs : s.length <= 100000) : Meets prog 47 [.string (str s)] []
  fun v A => ∃ X a k, v = .tuple #[.slice a (uhE s).1.length k, .int .i64 (uhE s).2] /\ Own8 5 X a (uhE s).1.length k (uhE s).1 /\ A = [X] := by
 have eD : Value.string ⟨#[48, 49, 50, 51, 52, 53, 54, 55, 56, 57, 97, 98, 99, 100, 101, 102]⟩ = .string (str digits) := rfl;have hdl : digits.length = 16 := rfl;refine eN func47 ntmps47 results47 fun F => ?_
 refine zB ?_;refine gg ?_
 by_cases h2 : s.length % 2 = 0
 ·rw [bne_eq_false_iff_eq.2 (show (s.length : Int) % 2 = 0 by omega)];refine gg ?_
  refine zz (fun q D L S => ∃ (i : Nat) (out : List UInt8) (X : Chunk) (xa : Option Addr) (xc : Nat), i <= s.length /\ out.length <= i /\
   ((i % 2 = 0 /\ uhF (s.take i) = some out) ∨ (i % 2 = 1 /\ ∃ o1, uhF (s.take (i - 1)) = some o1 /\ 0 <= dv (s.getD (i - 1) 0) /\ out = o1 ++ [aH (16 * (dv (s.getD (i - 1) 0)).toNat)])) /\
   Own8 5 X xa out.length xc out /\ q = s.length - i /\ D = [] /\ L = [(5, .int .i64 i), (4, .slice xa out.length xc), (0, .string (str s))] /\ S = [X, F])
   ⟨0, [], [], none, 0, by omega, by simp, .inl ⟨rfl, rfl⟩, own_nil, rfl, rfl, rfl, rfl⟩ ?_
  rintro q D L S ⟨i, out, X, xa, xc, hi, hol, hcase, hX, rfl, rfl, rfl, rfl⟩;refine gg ?_;refine if_d (fun hc => ?_) (fun hc => ?_)
  ·have hil : i < s.length := by omega
   have hmem : s.getD i 0 ∈ s := by
    rw [aS, aF hil]; exact dD hil
   have htk : s.take (i + 1) = s.take i ++ [s.getD i 0] := by
    rw [cC, aS, aF hil]; rfl
   refine gg ?_
   refine zz (fun q D L S => ∃ (n : Nat) (w : Int), n <= 16 /\ ((w = -1 /\ ∀ j < n, digits.getD j 0 ≠ s.getD i 0) ∨ (w = dv (s.getD i 0) /\ 0 <= w)) /\ q = 16 - n /\ D = [] /\
    L = [(7, .int .i64 n), (6, .int .i64 w), (5, .int .i64 i), (4, .slice xa out.length xc), (0, .string (str s))] /\ S = [X, F])
    ⟨0, -1, by omega, .inl ⟨rfl, fun j hj => absurd hj (Nat.not_lt_zero j)⟩, rfl, rfl, rfl, rfl⟩ ?_
   rintro q D L S ⟨n, w, hn, hw, rfl, rfl, rfl, rfl⟩;refine gg ?_;refine if_d (fun hc => ?_) (fun hc => ?_)
   ·have hnl : n < 16 := by omega
    have hdat := dv_at n hnl;refine gg ?_;refine cdL [[0], [1], [2], [3], [4], [5]] ?_;refine gg ?_;refine qO fun K hK => ?_; rw [eD, sidx (by omega) (by show (n : Int) < (16 : Nat); omega)]; refine hK _ _ ?_; clear hK K
    (try rw [show ((n : Int)).toNat = n from by omega])
    refine gg ?_
    cases he : (digits.getD n 0 == s.getD i 0) with
    | true =>
     have heq := eq_of_beq he
     (try rw [he])
     (try rw [show (((digits.getD n 0).toNat : Int) == ((s.getD i 0).toNat : Int)) = true from by rw [heq]; simp])
     refine gg ?_;exact zv ⟨n + 1, n, by omega, .inr ⟨by rw [<- heq, hdat], by omega⟩, rfl, rfl, rfl, rfl⟩
    | false =>
     have hne := beq_eq_false_iff_ne.1 he
     (try rw [he])
     refine gg ?_;refine zv ⟨n + 1, w, by omega, ?_, rfl, rfl, rfl, rfl⟩
     rcases hw with ⟨h1, h3⟩ | h1
     ·refine .inl ⟨h1, fun j hj => ?_⟩
      rcases Nat.lt_or_ge j n with h | h
      ·exact h3 j h
      ·obtain rfl : j = n := by omega
       exact hne
     ·exact .inr h1
   ·obtain rfl : n = 16 := by omega
    have hwd : w = dv (s.getD i 0) := by
     rcases hw with ⟨h1, h3⟩ | ⟨h1, _⟩
     ·rw [h1, dv_no h3]
     ·exact h1
    have hdr := yS (s.getD i 0);clear hw;generalize hcc : s.getD i 0 = cc at *;refine gg ?_
    by_cases hw0 : 0 <= w
    ·rw [decide_eq_false (show ¬ w < 0 by omega)];refine gg ?_
     by_cases hev : i % 2 = 0
     ·obtain ⟨_, hu⟩ | ⟨h, _⟩ := hcase
      ·rw [beq_iff_eq.2 (show (i : Int) % 2 = 0 by omega)];refine gg ?_
       have e1 : Value.int .u8 (16 * w) = b8 (aH (16 * (dv cc).toNat)) := by
        simp only [b8, bL]
        congr 1; omega
       rw [e1];refine zf fun K hK => ?_; refine zX ([aH (16 * (dv cc).toNat)]) (by decide) rfl (rfl) (fun b7 C7 ho7 => ?_); refine hK _ _ ?_; clear hK K
       refine gg ?_;refine zf fun K hK => ?_; refine app8 (hX) pkA ((ho7.rd (aB ..)).mem mmA) (by omega) (fun C9 a9 cap9 ho9 => ?_); refine hK _ _ ?_; clear hK K
       rw [show out.length + 1 = (out ++ [aH (16 * (dv cc).toNat)]).length from by simp] at ho9 ⊢;refine gg ?_;exact zv ⟨i + 1, out ++ [aH (16 * (dv cc).toNat)], C9, a9, cap9, by omega, by simp; omega, .inr ⟨by omega, out, by rw [dK]; exact hu, by rw [dK, hcc]; omega, by rw [dK, hcc]⟩, ho9, rfl, rfl, rfl, rfl⟩
      ·omega
     ·obtain ⟨h, _⟩ | ⟨_, o1, hu, hv0, hout⟩ := hcase
      ·omega
      have hr1 := yS (s.getD (i - 1) 0)
      have htk2 : s.take (i + 1) = s.take (i - 1) ++ [s.getD (i - 1) 0, cc] := by
       have e1 : s.take i = s.take (i - 1) ++ [s.getD (i - 1) 0] := by
        have h1 : i - 1 < s.length := by omega
        have h3 : i = i - 1 + 1 := by omega
        rw [show s.take i = s.take (i - 1 + 1) from by rw [<- h3], cC, aS, aF h1]; rfl
       rw [htk, e1]; simp
      have hsn := Yp (a := s.getD (i - 1) 0) (b := cc) hv0 (by omega) _ _ _ (aR _) hu;rw [<- htk2] at hsn;generalize dv (s.getD (i - 1) 0) = v1 at *;have hol1 : out.length = o1.length + 1 := by rw [hout]; simp
      have hgo : out.getD o1.length 0 = aH (16 * v1.toNat) := by rw [hout]; simp
      have hset : out.set o1.length (aH (16 * v1.toNat + (dv cc).toNat)) = o1 ++ [aH (16 * v1.toNat + (dv cc).toNat)] := by rw [hout]; simp
      rw [beq_eq_false_iff_ne.2 (show (i : Int) % 2 ≠ 0 by omega)];refine gg ?_
      (try rw [show ((out.length : Int) - 1).toNat = o1.length from by omega])
      (try rw [hgo, show b8 (aH (16 * v1.toNat)) = .int .u8 (16 * v1) from by simp only [b8, bL]; congr 1; omega])
      refine gg ?_
      (try rw [show ((out.length : Int) - 1).toNat = o1.length from by omega])
      have e1 : Value.int .u8 (16 * v1 + w) = b8 (aH (16 * v1.toNat + (dv cc).toNat)) := by
       simp only [b8, bL]
       congr 1; omega
      refine zf fun K hK => ?_; rw [e1]; refine jA hX pkA (by omega) (fun X2 hX2 => ?_); refine hK _ _ ?_; clear hK K
      rw [hset, show out.length = (o1 ++ [aH (16 * v1.toNat + (dv cc).toNat)]).length from by rw [hol1]; simp] at hX2;rw [show Value.slice xa out.length xc = .slice xa (o1 ++ [aH (16 * v1.toNat + (dv cc).toNat)]).length xc from by rw [hol1]; simp];refine gg ?_;exact zv ⟨i + 1, o1 ++ [aH (16 * v1.toNat + (dv cc).toNat)], X2, xa, xc, by omega, by rw [aA, aI]; omega, .inl ⟨by omega, hsn⟩, hX2, rfl, rfl, rfl, rfl⟩
    ·have hno : uhE s = ([], 5) := by
      unfold uhE;rw [if_neg (by omega), uhF_no (c := cc) (by omega) _ s (aR _) hmem]
     rw [decide_eq_true (show w < 0 by omega), hno];refine zB ?_;refine gg ?_;refine ze (vs := [.slice none 0 0, .int .i64 5]) [[]] ⟨[], none, 0, rfl, own_nil, rfl⟩
  ·obtain rfl : i = s.length := by omega
   rw [bF] at hcase
   have hfin : uhE s = (out, 0) := by
    rcases hcase with ⟨_, h⟩ | ⟨h, _⟩
    ·unfold uhE; rw [if_neg (by omega), h]
    ·omega
   rw [hfin];refine gg ?_;refine ze (vs := [.slice xa out.length xc, .int .i64 0]) [X] ⟨X, xa, xc, rfl, hX, rfl⟩
 ·have hodd : uhE s = ([], 2) := by unfold uhE; rw [if_pos h2]
  rw [hodd, bne_iff_ne.2 (show (s.length : Int) % 2 ≠ 0 by omega)];refine gg ?_;refine ze (vs := [.slice none 0 0, .int .i64 2]) [[]] ⟨[], none, 0, rfl, own_nil, rfl⟩
instance tprAnT : zH prog 56 [(0, 1), (1, 1), (2, 1), (3, 1), (4, 1), (5, 1), (6, 1), (7, 1)] := ⟨by kernel_rfl⟩
theorem yz (a : An) (h1 : a.u.length <= 4000) (h2 : a.r.length <= 4000) (h3 : a.n.length <= 4000) (h4 : a.uri.length <= 4000) (h5 : a.cn.length <= 4000) (h6 : a.o.length <= 4000) (h7 : a.pf.length <= 1000)
  {P : Chunk} {pa : Option Addr} {pk : Nat} (hP : Rd 1 [P] pa a.pf.length (a.pf.map b8)) : Meets prog 14 [.agg (encA a pa pk).toArray] [P]
  fun v A => v = .tuple #[.string (str (qi a).1), .int .i64 (qi a).2] /\ A = [P] := by
 have hcl := an_len a;have hcb := an_bound h1 h2 h3 h4 h5 h6 h7;obtain ⟨au, ar, an, ai, ak, ao, ac, ap⟩ := a;simp only at h1 h2 h3 h4 h5 h6 h7 hP;have hx64 := ac.isLt;have hct : qi ⟨au, ar, an, ai, ak, ao, ac, ap⟩ = if (sizB an && (sizB ak && decide ((ap.length : Int) = 32))) = false then ([], 4) else xO (vM ⟨au, ar, an, ai, ak, ao, ac, ap⟩) := rfl;have hcp : vM ⟨au, ar, an, ai, ak, ao, ac, ap⟩ = [(⟨nUser, au, true⟩ : Par), ⟨nRealm, ar, true⟩, ⟨nNonce, an, true⟩, ⟨nUri, ai, true⟩, ⟨nQop, nAuth, false⟩, ⟨nNc, hex (zW ac), false⟩, ⟨nCnonce, ak, true⟩, ⟨nResp, hex ap, true⟩] ++ opqP ao ++ [⟨nAlg, nSum, false⟩] := rfl;rw [hct];refine eN func14 ntmps14 results14 fun F => ?_
 refine gg ?_;refine oB fun b1 => ?_
 refine gg ?_;refine cA (vU an) ?_; rintro v A ⟨rfl, rfl⟩; refine gA ?_
 cases hz1 : sizB an with
 | false =>
  rw [if_pos (by rfl)];refine gg ?_;refine ze (vs := [.string (str []), .int .i64 4]) [P] ⟨rfl, rfl⟩
 | true =>
  refine gg ?_;refine cA (vU ak) ?_; rintro v A ⟨rfl, rfl⟩; refine gA ?_
  cases hz2 : sizB ak with
  | false =>
   rw [if_pos (by rfl)];refine gg ?_;refine ze (vs := [.string (str []), .int .i64 4]) [P] ⟨rfl, rfl⟩
  | true =>
   refine gg ?_
   by_cases hz3 : (ap.length : Int) = 32
   ·rw [bne_eq_false_iff_eq.2 hz3, if_neg (by rw [decide_eq_true hz3]; simp)];refine gg ?_;refine cdL [[0], [1], [2], [3], [4], [5], [6], [7], [8], [9], [10], [11], [12], [13], [14], [15], [19], [20], [21], [22], [23], [16, 0, 1, 4, 7, 10, 20, 23], [17, 0, 1, 4, 7, 10, 20, 23], [18], [24, 0, 1, 4, 7, 10, 20], [25], [26, 0], [27, 0]] ?_;refine gg ?_;refine qO fun K hK => ?_; rw [zV (ps := [(0, .string ⟨#[117, 115, 101, 114, 110, 97, 109, 101]⟩), (1, .string (str au)), (2, .bool true)]) (cs := (encP ⟨nUser, au, true⟩).toArray) rfl]; refine hK _ _ ?_; clear hK K
    refine gg ?_;refine qO fun K hK => ?_; rw [zV (ps := [(0, .string ⟨#[114, 101, 97, 108, 109]⟩), (1, .string (str ar)), (2, .bool true)]) (cs := (encP ⟨nRealm, ar, true⟩).toArray) rfl]; refine hK _ _ ?_; clear hK K
    refine gg ?_;refine qO fun K hK => ?_; rw [zV (ps := [(0, .string ⟨#[110, 111, 110, 99, 101]⟩), (1, .string (str an)), (2, .bool true)]) (cs := (encP ⟨nNonce, an, true⟩).toArray) rfl]; refine hK _ _ ?_; clear hK K
    refine gg ?_;refine qO fun K hK => ?_; rw [zV (ps := [(0, .string ⟨#[117, 114, 105]⟩), (1, .string (str ai)), (2, .bool true)]) (cs := (encP ⟨nUri, ai, true⟩).toArray) rfl]; refine hK _ _ ?_; clear hK K
    refine gg ?_;refine qO fun K hK => ?_; rw [zV (ps := [(0, .string ⟨#[113, 111, 112]⟩), (1, .string ⟨#[97, 117, 116, 104]⟩), (2, .bool false)]) (cs := (encP ⟨nQop, nAuth, false⟩).toArray) rfl]; refine hK _ _ ?_; clear hK K
    refine gg ?_;refine qO fun K hK => ?_; rw [zV (ps := [(0, .string ⟨#[99, 110, 111, 110, 99, 101]⟩), (1, .string (str ak)), (2, .bool true)]) (cs := (encP ⟨nCnonce, ak, true⟩).toArray) rfl]; refine hK _ _ ?_; clear hK K
    refine gg ?_;have hbb := xT ac.toNat 4 (by omega) (by decide);rw [wP] at hbb;refine zg fun K hK => ?_; refine zo (hbb) ?_; rintro v A ⟨B, ba, bk, rfl, hB, rfl⟩; refine pA hK ?_; clear hK K
    refine gg ?_;refine zg fun K hK => ?_; refine zo (jN B ba bk (zW ac) (by rw [show (zW ac).length = 4 from rfl]; decide) (hB.rd (aB ..))) ?_; rintro v A ⟨rfl, rfl⟩; refine pA hK ?_; clear hK K
    refine gg ?_;refine qO fun K hK => ?_; rw [zV (ps := [(0, .string ⟨#[110, 99]⟩), (1, .string (str (hex (zW ac)))), (2, .bool false)]) (cs := (encP ⟨nNc, hex (zW ac), false⟩).toArray) rfl]; refine hK _ _ ?_; clear hK K
    refine gg ?_;refine zg fun K hK => ?_; refine zo (jN P pa pk ap (by omega) hP) ?_; rintro v A ⟨rfl, rfl⟩; refine pA hK ?_; clear hK K
    refine gg ?_;refine qO fun K hK => ?_; rw [zV (ps := [(0, .string ⟨#[114, 101, 115, 112, 111, 110, 115, 101]⟩), (1, .string (str (hex ap))), (2, .bool true)]) (cs := (encP ⟨nResp, hex ap, true⟩).toArray) rfl]; refine hK _ _ ?_; clear hK K
    refine gg ?_;refine zg fun K hK => ?_; refine wQ (n := 8) (e := 137) (s := 3) (hs := inferInstance) [encP ⟨nUser, au, true⟩, encP ⟨nRealm, ar, true⟩, encP ⟨nNonce, an, true⟩, encP ⟨nUri, ai, true⟩, encP ⟨nQop, nAuth, false⟩, encP ⟨nNc, hex (zW ac), false⟩, encP ⟨nCnonce, ak, true⟩, encP ⟨nResp, hex ap, true⟩] (by rfl) rfl (by decide) (by decide) (by decide) (by intro r hr; simp only [bA, aX, or_false] at hr; rcases hr with rfl | rfl | rfl | rfl | rfl | rfl | rfl | rfl <;> rfl) (fun b2 C2 ho2 => ?_); refine pBk hK ?_; clear hK K
    have hX2 : OwnR C2 (some ⟨b2, 0, none⟩) 8 [(⟨nUser, au, true⟩ : Par), ⟨nRealm, ar, true⟩, ⟨nNonce, an, true⟩, ⟨nUri, ai, true⟩, ⟨nQop, nAuth, false⟩, ⟨nNc, hex (zW ac), false⟩, ⟨nCnonce, ak, true⟩, ⟨nResp, hex ap, true⟩] := ho2;clear ho2;rw [show Value.slice (some ⟨b2, 0, none⟩) 8 8 = .slice (some ⟨b2, 0, none⟩) ([(⟨nUser, au, true⟩ : Par), ⟨nRealm, ar, true⟩, ⟨nNonce, an, true⟩, ⟨nUri, ai, true⟩, ⟨nQop, nAuth, false⟩, ⟨nNc, hex (zW ac), false⟩, ⟨nCnonce, ak, true⟩, ⟨nResp, hex ap, true⟩] : List Par).length 8 from rfl];have hl0 : ([(⟨nUser, au, true⟩ : Par), ⟨nRealm, ar, true⟩, ⟨nNonce, an, true⟩, ⟨nUri, ai, true⟩, ⟨nQop, nAuth, false⟩, ⟨nNc, hex (zW ac), false⟩, ⟨nCnonce, ak, true⟩, ⟨nResp, hex ap, true⟩] : List Par).length = 8 := rfl;generalize ([(⟨nUser, au, true⟩ : Par), ⟨nRealm, ar, true⟩, ⟨nNonce, an, true⟩, ⟨nUri, ai, true⟩, ⟨nQop, nAuth, false⟩, ⟨nNc, hex (zW ac), false⟩, ⟨nCnonce, ak, true⟩, ⟨nResp, hex ap, true⟩] : List Par) = l0 at *;generalize (some ⟨b2, 0, none⟩ : Option Addr) = a2 at *;refine gg ?_;refine zQ (fun D L S => ∃ (X3 : Chunk) (a3 : Option Addr) (k3 : Nat), OwnR X3 a3 k3 (l0 ++ opqP ao) /\ D = [] /\ L = [(4, .slice a3 (l0 ++ opqP ao).length k3), (1, .pointer (some ⟨b1, 0, none⟩))] /\ S = [X3, [(b1, .cells (encA ⟨au, ar, an, ai, ak, ao, ac, ap⟩ pa pk).toArray 56 (0, 0))], F, P]) ?_ ?_
    ·by_cases hs : ao = []
     ·have ho : opqP ao = [] := if_pos hs;rw [ho, aL, bne_eq_false_iff_eq.2 hs];refine gg ?_;exact mid ⟨C2, a2, 8, hX2, rfl, rfl, rfl⟩
     ·have ho : opqP ao = [⟨nOpaque, ao, true⟩] := if_neg hs;rw [ho, bne_iff_ne.2 hs];refine gg ?_;refine oT [(0, .string ⟨#[111, 112, 97, 113, 117, 101]⟩), (1, (.string (str ao))), (2, .bool true)] (encP ⟨nOpaque, ao, true⟩).toArray ?_;refine gg ?_;refine zf fun K hK => ?_; refine zN (e := 137) (s := 3) (hs := inferInstance) (vs := encP (⟨nOpaque, ao, true⟩ : Par)) (by rfl) (by decide) (by decide) rfl (fun b5 C5 ho5 => ?_); refine hK _ _ ?_; clear hK K
      refine zf fun K hK => ?_; refine zn (e := 137) (s := 3) (hs := inferInstance) (by rfl) (by decide) hX2 (.inr pkA) (ho5.rd mmA) (zP _) (by simp only [maxLen]; omega) (by omega) (fun X5 a5 k5 hX5 => ?_); refine hK _ _ ?_; clear hK K
      have e1 : (l0).length + 1 = (l0 ++ [(⟨nOpaque, ao, true⟩ : Par)]).length := by simp
      have e2 : (l0).flatMap encP ++ encP (⟨nOpaque, ao, true⟩ : Par) = (l0 ++ [(⟨nOpaque, ao, true⟩ : Par)]).flatMap encP := by simp
      rw [e1, e2] at hX5;rw [e1];clear e1 e2;refine gg ?_;exact mid ⟨X5, a5, k5, hX5, rfl, rfl, rfl⟩
    rintro D L S ⟨X3, a3, k3, hX3, rfl, rfl, rfl⟩;have hl3 : (l0 ++ opqP ao).length <= 9 := by rw [aA]; unfold opqP; split <;> simp <;> omega
    generalize l0 ++ opqP ao = l1 at *;refine gg ?_;refine oT [(0, .string ⟨#[97, 108, 103, 111, 114, 105, 116, 104, 109]⟩), (1, (.string ⟨#[83, 72, 65, 45, 50, 53, 54]⟩)), (2, .bool false)] (encP ⟨nAlg, nSum, false⟩).toArray ?_;refine gg ?_;refine zf fun K hK => ?_; refine zN (e := 137) (s := 3) (hs := inferInstance) (vs := encP (⟨nAlg, nSum, false⟩ : Par)) (by rfl) (by decide) (by decide) rfl (fun b6 C6 ho6 => ?_); refine hK _ _ ?_; clear hK K
    refine zf fun K hK => ?_; refine zn (e := 137) (s := 3) (hs := inferInstance) (by rfl) (by decide) hX3 (.inr pkA) (ho6.rd mmA) (zP _) (by simp only [maxLen]; omega) (by omega) (fun X6 a6 k6 hX6 => ?_); refine hK _ _ ?_; clear hK K
    have e1 : (l1).length + 1 = (l1 ++ [(⟨nAlg, nSum, false⟩ : Par)]).length := by simp
    have e2 : (l1).flatMap encP ++ encP (⟨nAlg, nSum, false⟩ : Par) = (l1 ++ [(⟨nAlg, nSum, false⟩ : Par)]).flatMap encP := by simp
    rw [e1, e2] at hX6;rw [e1];clear e1 e2;rw [<- hcp] at hX6 ⊢;refine cA (Zq hX6 hcl hcb) ?_; rintro v A ⟨rfl, rfl⟩; refine gA ?_;refine ze (vs := [.string (str (xO (vM ⟨au, ar, an, ai, ak, ao, ac, ap⟩)).1), .int .i64 (xO (vM ⟨au, ar, an, ai, ak, ao, ac, ap⟩)).2]) [P] ⟨rfl, rfl⟩
   ·rw [bne_iff_ne.2 hz3, if_pos (by rw [decide_eq_false hz3]; rfl)];refine gg ?_;refine ze (vs := [.string (str []), .int .i64 4]) [P] ⟨rfl, rfl⟩
theorem Od {G : Chunk} (hg : qJ G) {C H : Chunk} {b : Nat} {x : BX} (hC : RBox C b x) (hts : x.ts.length <= 900) {ha : Option Addr} {hc : Nat} (h1 m : List UInt8) (hl1 : h1.length <= 1000) (hm : m.length <= 1000) (hH : Rd 1 [H] ha h1.length (h1.map b8)) (a : An) (hn : a.n.length <= 4096) (huri : a.uri.length <= 4096) (hcn : a.cn.length <= 4096) (pa : Option Addr) (pk : Nat) :
  Meets prog 69 [.pointer (some ⟨b, 0, none⟩), .slice ha h1.length hc, .string (str m), .agg (encA a pa pk).toArray] [C, G, H] (ROut b (xS x h1 m a) [G, H]) := by
 obtain ⟨au, ar, an, ai, ak, ao, ac, ap⟩ := a;simp only at hn huri hcn;have hx64 := ac.isLt;have l2 : (ha2T m ai).length <= 6000 := by unfold ha2T; simp only [aA, aI]; omega
 have s58 : Value.string ⟨#[58]⟩ = .string (str [58]) := rfl;have s5a : Value.string ⟨#[58, 97, 117, 116, 104, 58]⟩ = .string (str [58, 97, 117, 116, 104, 58]) := rfl;refine eN func69 ntmps69 results69 fun F => ?_
 refine gg ?_;refine oB fun b7 => ?_
 refine gg ?_;rw [s58];refine zf fun K hK => ?_; rw [zF (by rw [aI]; omega)]; refine hK _ _ ?_; clear hK K
 refine gg ?_;refine zf fun K hK => ?_; rw [zF (by rw [aA, aI]; omega)]; refine hK _ _ ?_; clear hK K
 refine gg ?_;rw [show m ++ [58] ++ ai = ha2T m ai from rfl];refine zf fun K hK => ?_; refine zK (by simp only [maxLen]; omega) (fun J ja jc hJ => ?_); refine hK _ _ ?_; clear hK K
 refine gg ?_;have kl := jH x (ha2T m ai);have kt := xU x (ha2T m ai);refine cA (qZ hg (by omega) (hJ.rd (aB ..)) hC (by omega)) ?_; rintro v A ⟨K1, C1, ka, kc, rfl, hK1, hC1, rfl⟩; refine gA ?_;unfold xS;simp only;generalize xl x (ha2T m ai) = k at *;have hx1 : (hex h1).length <= 3000 := by rw [hex_len]; omega
 have hx2 : (hex k.1).length <= 3000 := by rw [hex_len]; omega
 have hx3 : (hex (zW ac)).length <= 8 := by rw [hex_len]; exact aR _
 have l6 : (resT h1 an ac ak k.1).length <= 20000 := by unfold resT; simp only [aA, aI, aJ, aV]; omega
 refine cdL [[0], [1], [4], [5], [8], [9], [10], [15], [16], [19], [2, 0, 5, 9, 16], [3], [6], [7], [11, 0, 5, 16], [12, 0, 5, 16], [13], [14], [17], [18], [20, 0, 5, 16], [21], [22, 0], [23, 0], [24, 0]] ?_;refine gg ?_;refine zg fun K hK => ?_; refine zo (jN H ha hc h1 (by omega) hH) ?_; rintro v A ⟨rfl, rfl⟩; refine pA hK ?_; clear hK K
 refine gg ?_;refine qO fun K hK => ?_; (try rw [s58]); (try rw [s5a]); rw [zF (by simp only [aA, aI, aJ, aV]; omega)]; refine hK _ _ ?_; clear hK K
 refine gg ?_;refine qO fun K hK => ?_; (try rw [s58]); (try rw [s5a]); rw [zF (by simp only [aA, aI, aJ, aV]; omega)]; refine hK _ _ ?_; clear hK K
 refine gg ?_;refine qO fun K hK => ?_; (try rw [s58]); (try rw [s5a]); rw [zF (by simp only [aA, aI, aJ, aV]; omega)]; refine hK _ _ ?_; clear hK K
 refine gg ?_;have hbb := xT ac.toNat 4 (by omega) (by decide);rw [wP] at hbb;refine zg fun K hK => ?_; refine zo (hbb) ?_; rintro v A ⟨B, ba, bk, rfl, hB, rfl⟩; refine pA hK ?_; clear hK K
 refine gg ?_;refine zg fun K hK => ?_; refine zo (jN B ba bk (zW ac) (by rw [show (zW ac).length = 4 from rfl]; decide) (hB.rd (aB ..))) ?_; rintro v A ⟨rfl, rfl⟩; refine pA hK ?_; clear hK K
 refine gg ?_;refine qO fun K hK => ?_; (try rw [s58]); (try rw [s5a]); rw [zF (by simp only [aA, aI, aJ, aV]; omega)]; refine hK _ _ ?_; clear hK K
 refine gg ?_;refine qO fun K hK => ?_; (try rw [s58]); (try rw [s5a]); rw [zF (by simp only [aA, aI, aJ, aV]; omega)]; refine hK _ _ ?_; clear hK K
 refine gg ?_;refine qO fun K hK => ?_; (try rw [s58]); (try rw [s5a]); rw [zF (by simp only [aA, aI, aJ, aV]; omega)]; refine hK _ _ ?_; clear hK K
 refine gg ?_;refine qO fun K hK => ?_; (try rw [s58]); (try rw [s5a]); rw [zF (by simp only [aA, aI, aJ, aV]; omega)]; refine hK _ _ ?_; clear hK K
 refine gg ?_;refine zg fun K hK => ?_; refine zo (jN K1 ka kc k.1 (by omega) (hK1.rd (aB ..))) ?_; rintro v A ⟨rfl, rfl⟩; refine pA hK ?_; clear hK K
 refine gg ?_;refine qO fun K hK => ?_; (try rw [s58]); (try rw [s5a]); rw [zF (by simp only [aA, aI, aJ, aV]; omega)]; refine hK _ _ ?_; clear hK K
 refine gg ?_;rw [show hex h1 ++ [58] ++ an ++ [58] ++ hex (zW ac) ++ [58] ++ ak ++ [58, 97, 117, 116, 104, 58] ++ hex k.1 = resT h1 an ac ak k.1 from rfl];refine zg fun K hK => ?_; refine zK (by simp only [maxLen]; omega) (fun Z za zc hZ => ?_); refine hK _ _ ?_; clear hK K
 refine gg ?_;refine zg fun K hK => ?_; refine zo (qZ hg (by omega) (hZ.rd (aB ..)) hC1 (by omega)) ?_; rintro v A ⟨O, C', oa, oc, rfl, hO, hC', rfl⟩; refine pA hK ?_; clear hK K
 refine gg ?_
 (try (try (refine zg fun K hK => ?_; refine hK _ _ ?_; clear hK K)))
 (try refine gg ?_)
 refine zb [O, C', G, H] ?_;exact ⟨O, C', oa, oc, rfl, hO, hC', rfl⟩
abbrev ofB (o b u n : Nat) (iter : Int) : Chunk := [(o, .cells #[.pointer (some ⟨b, 0, none⟩), .pointer (some ⟨u, 0, none⟩), .pointer (some ⟨n, 0, none⟩), .int .i64 iter] 79 (0, 0))]
abbrev ryB (y o : Nat) (t : List UInt8) (ch : Int) : Chunk := [(y, .cells #[.pointer (some ⟨o, 0, none⟩), .string (str t), .int .u64 ch] 88 (0, 0))]
instance tpRAn : zH prog 56 [(0, 1), (1, 1), (2, 1), (3, 1), (4, 1), (5, 1), (6, 1), (7, 1)] := ⟨by kernel_rfl⟩
theorem cella (a : An) (pa : Option Addr) (pk : Nat) : ∀ v ∈ encA a pa pk, Value.cell1 v := by
 intro v hv;simp only [encA, bA, aX, or_false] at hv
 rcases hv with rfl | rfl | rfl | rfl | rfl | rfl | rfl | rfl <;> simp [Value.cell1, b32]
abbrev anC (u n uri cn : List UInt8) (nc : W) (pf : List UInt8) : An := ⟨u, [116], n, uri, cn, [], nc, pf⟩
def qX (x : BX) (u p m uri n cn : List UInt8) (nc : W) : (List UInt8 × Int) × BX :=
 let h := xl x (xq u [116] p)
 let r := xS h.2 h.1 m (anC u n uri cn nc [])
 (qi (anC u n uri cn nc r.1), r.2)
theorem QK {G : Chunk} (hg : qJ G) {C : Chunk} {b y o us ns : Nat} {iter ch : Int} {x : BX} (hC : RBox C b x) (hts : x.ts.length <= 800) (u p m uri n cn : List UInt8) (nc : W) (hu : u.length <= 1000) (hp : p.length <= 1000) (hm : m.length <= 1000) (huri : uri.length <= 1000) (hn : n.length <= 1000) (hcn : cn.length <= 1000) :
  Meets prog 38 [.pointer (some ⟨y, 0, none⟩), .string (str u), .string (str p), .string (str m), .string (str uri), .string (str n), .string (str cn), b32 nc] [C, G, ryB y o [116] ch, ofB o b us ns iter]
  fun v A => ∃ C', v = .tuple #[.string (str (qX x u p m uri n cn nc).1.1), .int .i64 (qX x u p m uri n cn nc).1.2] /\ RBox C' b (qX x u p m uri n cn nc).2 /\ A = [C', G, ryB y o [116] ch, ofB o b us ns iter] := by
 have s58 : Value.string ⟨#[58]⟩ = .string (str [58]) := rfl;have hcl : (xq u [116] p).length <= 3000 := by unfold xq; simp only [aA, aI]; omega
 refine eN func38 ntmps38 results38 fun F => ?_
 refine gg ?_;refine oT [(0, .string (str u)), (1, .string (str [116])), (2, .string (str n)), (3, .string (str uri)), (4, .string (str cn)), (6, b32 nc)] (encA (anC u n uri cn nc []) none 0).toArray ?_;refine gg ?_;refine oA (encA a0 none 0).toArray fun b18 => ?_
 refine gg ?_;refine oS (encA (anC u n uri cn nc []) none 0) rfl (cella _ _ _) ?_;refine gg ?_;refine cdL [[0], [1], [2], [3], [4], [5], [6], [7], [8], [9], [10], [11], [12], [13], [14], [15], [16], [17], [18], [19], [20], [21], [22], [23], [26], [27], [24, 0, 3, 6, 10, 13, 27], [25, 0, 3, 6, 27], [28, 0], [29], [30, 0]] ?_;refine gg ?_;refine qO fun K hK => ?_; (try rw [s58]); rw [zF (by simp only [aA, aI, aJ, aV]; omega)]; refine hK _ _ ?_; clear hK K
 refine gg ?_;refine qO fun K hK => ?_; (try rw [s58]); rw [zF (by simp only [aA, aI, aJ, aV]; omega)]; refine hK _ _ ?_; clear hK K
 refine gg ?_;refine qO fun K hK => ?_; (try rw [s58]); rw [zF (by simp only [aA, aI, aJ, aV]; omega)]; refine hK _ _ ?_; clear hK K
 refine gg ?_;refine qO fun K hK => ?_; (try rw [s58]); rw [zF (by simp only [aA, aI, aJ, aV]; omega)]; refine hK _ _ ?_; clear hK K
 refine gg ?_;refine qO fun K hK => ?_; refine zi (vs := encA (anC u n uri cn nc []) none 0) lkA rfl ?_; refine hK _ _ ?_; clear hK K
 refine gg ?_;rw [show u ++ [58] ++ [116] ++ [58] ++ p = xq u [116] p from rfl];refine zg fun K hK => ?_; refine zK (by simp only [maxLen]; omega) (fun Z za zc hZ => ?_); refine pend ?_; refine pend ?_; refine pend ?_; refine pend ?_; refine pend ?_ (zi (vs := encA (anC u n uri cn nc []) none 0) lkA rfl rfl); refine hK _ _ ?_; clear hK K
 refine gg ?_;have hl1 := jH x (xq u [116] p);have ht := xU x (xq u [116] p);refine zg fun K hK => ?_; refine zo (qZ hg (by omega) (hZ.rd (aB ..)) hC (by omega)) ?_; rintro v A ⟨O, C1, oa, oc, rfl, hO, hC1, rfl⟩; (try simp only [aD, aC]); refine pend ?_; refine pend ?_; refine pend ?_ (zi (vs := encA (anC u n uri cn nc []) none 0) lkA rfl rfl); refine hK _ _ ?_; clear hK K
 refine gg ?_;unfold qX;simp only;generalize xl x (xq u [116] p) = h at *;have rl := wz h.2 h.1 m (anC u n uri cn nc []);refine zg fun K hK => ?_; refine zo (Od hg hC1 (by omega) h.1 m (by omega) hm (hO.rd (aB ..)) (anC u n uri cn nc []) (by show n.length <= 4096; omega) (by show uri.length <= 4096; omega) (by show cn.length <= 4096; omega) none 0) ?_; rintro v A ⟨O2, C2, qa, qc, rfl, hO2, hC2, rfl⟩; refine pA hK ?_; clear hK K
 refine gg ?_;generalize xS h.2 h.1 m (anC u n uri cn nc []) = r at *
 (try (refine zg fun K hK => ?_; (first | refine zZ trivial upA ?_ | refine zJ trivial upA (by simp) ?_); refine pBk hK ?_; clear hK K; refine gg ?_))
 (try simp only [encA, anC])
 refine gM ?_;refine oL (encA (anC u n uri cn nc r.1) qa qc) rfl ?_;refine gg ?_;refine cA (yz (a := anC u n uri cn nc r.1) (by show u.length <= 4000; omega) (by show 1 <= 4000; decide) (by show n.length <= 4000; omega) (by show uri.length <= 4000; omega) (by show cn.length <= 4000; omega) (by show 0 <= 4000; decide) (by show r.1.length <= 1000; omega) (hO2.rd (aB ..))) ?_; rintro v A ⟨rfl, rfl⟩; refine gA ?_;refine ze (vs := [.string (str (qi (anC u n uri cn nc r.1)).1), .int .i64 (qi (anC u n uri cn nc r.1)).2]) [C2, G, ryB y o [116] ch, ofB o b us ns iter] ?_;exact ⟨C2, rfl, hC2, rfl⟩
end Go.Proofs.YtebikhhoppiapaaGreatDoor
namespace Go.Proofs.YtebikhhoppiapaaGreatDoor
open Go Go.Ost Go.Tab Tryz
structure V where
 non : List UInt8
 draw : List UInt8
 at_ : Int
 sp : Bool
 cnt : Int
def encV (v : V) : List Value := [.string (str v.non), .int .u64 v.at_, .bool v.sp, .int .u32 v.cnt]
abbrev valV (v : V) : Value := .agg (encV v).toArray
def v0 : V := ⟨[], [], 0, false, 0⟩
theorem jC (v : V) : ∀ u ∈ encV v, Value.cell1 u := by simp [encV, Value.cell1]
instance iWV_1 : zH prog 244 [(0, 1), (1, 4), (5, 1), (6, 1)] := ⟨by kernel_rfl⟩
abbrev tabO (room : Int) (la : Option Addr) (ll lc : Nat) (fa : Option Addr) (fl fc r : Nat) (first last : Int) : Obj :=
 .cells #[.int .i64 room, .slice la ll lc, .slice fa fl fc, .map (some r), .int .i64 first, .int .i64 last] 248 (0, 0)
def encE (e : En V) : List Value := .string (str e.key) :: (encV e.v ++ [.int .i64 e.ahead, .int .i64 e.next])
theorem qR (e : En V) : (encE e).length = 7 := rfl
abbrev OwnE (C : Chunk) (a : Option Addr) (cap : Nat) (l : List (En V)) : Prop := Ost.Own 7 244 C a l.length cap (l.flatMap encE)
abbrev nat64 (i : Nat) : Value := .int .i64 i
abbrev IsAt (C : Chunk) (r : Nat) (m : List (List UInt8 × Nat)) : Prop := xK C r (mval nat64 m)
theorem jn (b : Nat) (room : Int) (la : Option Addr) (ll lc : Nat) (fa : Option Addr) (fl fc r : Nat) (first last : Int) (M : Chunk) (m : List (List UInt8 × Nat)) (hm : IsAt M r m) (k : List UInt8) :
  Meets prog 125 [.pointer (some ⟨b, 0, none⟩), .string (str k)] [[(b, tabO room la ll lc fa fl fc r first last)], M]
   fun v A => v = .int .i64 (match mget m k with | some i => (i : Int) | none => -1) /\ A = [[(b, tabO room la ll lc fa fl fc r first last)], M] := by
 refine eN func125 ntmps125 results125 fun F => ?_
 refine gg ?_;rw [Ug]
 cases hg : mget m k with
 | none =>
  refine gg ?_;refine zb [[(b, tabO room la ll lc fa fl fc r first last)], M] ?_; exact ⟨rfl, rfl⟩
 | some i =>
  refine gg ?_;refine zb [[(b, tabO room la ll lc fa fl fc r first last)], M] ?_; exact ⟨rfl, rfl⟩
theorem yb {α : Type} (l : List α) (i : Nat) (x : α) (f : α -> α) (h : l[i]? = some x) : l.set i (f x) = l.modify i f := by
 apply List.ext_getElem?
 intro j;rw [List.getElem?_set, dC];have hi := (List.getElem?_eq_some_iff.1 h).1
 by_cases hj : i = j
 ·subst hj;rw [if_pos rfl, if_pos hi, h]; simp
 ·simp [hj]
theorem YH {l : List (En V)} {i : Nat} {e : En V} (a : Int) (h : l[i]? = some e) : l.set i { e with ahead := a } = setA l i a := yb l i e (fun e => { e with ahead := a }) h
theorem Jp {l : List (En V)} {i : Nat} {e : En V} (a : Int) (h : l[i]? = some e) : l.set i { e with next := a } = setN l i a := yb l i e (fun e => { e with next := a }) h
theorem setV_set {l : List (En V)} {i : Nat} {e : En V} (a : V) (h : l[i]? = some e) : l.set i { e with v := a } = setV l i a := yb l i e (fun e => { e with v := a }) h
theorem hang_spec (b : Nat) (room : Int) (la : Option Addr) (lc : Nat) (fa : Option Addr) (fl fc r : Nat) (first last : Int) (C : Chunk) (l : List (En V)) (ho : OwnE C la lc l) (i : Nat) (hi : i < l.length) (hl : last = -1 ∨ ∃ j : Nat, last = j /\ j < l.length) :
  Meets prog 145 [.pointer (some ⟨b, 0, none⟩), .int .i64 i] [[(b, tabO room la l.length lc fa fl fc r first last)], C]
   fun v A => ∃ C', OwnE C' la lc (haL l i last) /\ A = [[(b, tabO room la l.length lc fa fl fc r (haF first last i) i)], C'] := by
 have hs := qR;have hx : l[i]? = some l[i] := aF hi;refine eN func145 ntmps145 results145 fun F => ?_
 refine gg ?_;refine cdL [[0], [1], [2], [3], [4], [5], [6], [7], [8], [9], [10], [11], [12], [13], [14], [15], [16, 0], [17], [18], [19, 0]] ?_;refine gg ?_;refine zg fun K hK => ?_; refine wl ho pkA hs hx trivial (x' := { l[i] with ahead := last }) rfl (by decide) (fun C1 ho1 => ?_); (repeat refine Xf ?_); refine hK _ _ ?_; clear hK K
 rw [YH last hx] at ho1;have ho1' : OwnE C1 la lc (setA l i last) := by unfold OwnE; rw [jM]; exact ho1
 have hx1 := Kr l last hx;have hll := jM l i last;refine gg ?_;refine zg fun K hK => ?_; refine wl ho1 pkA hs hx1 trivial (x' := { l[i] with ahead := last, next := -1 }) rfl (by decide) (fun C2 ho2 => ?_); (repeat refine Xf ?_); refine hK _ _ ?_; clear hK K
 have e2 : (setA l i last).set i { l[i] with ahead := last, next := -1 } = setN (setA l i last) i (-1) := Jp (-1) hx1;rw [e2] at ho2;refine gg ?_
 rcases hl with rfl | ⟨j, rfl, hj⟩
 ·refine gg ?_;refine zL [[(b, tabO room la l.length lc fa fl fc r i i)], C2] ⟨C2, ?_, rfl⟩;unfold OwnE; rw [qr]; exact ho2
 ·refine gg ?_;refine cdL [[0], [1], [2], [3], [4], [5], [6], [7], [8], [9], [10], [11, 0]] ?_;have hlj : j < (setN (setA l i j) i (-1)).length := by rw [qx, jM]; exact hj
  have hxj : (setN (setA l i j) i (-1))[j]? = some (setN (setA l i j) i (-1))[j] := aF hlj;refine gg ?_;refine zg fun K hK => ?_; refine wl ho2 pkA hs hxj trivial (x' := { (setN (setA l i j) i (-1))[j] with next := i }) rfl (by decide) (fun C3 ho3 => ?_); (repeat refine Xf ?_); refine hK _ _ ?_; clear hK K
  rw [Jp i hxj] at ho3;refine gg ?_;refine zL [[(b, tabO room la l.length lc fa fl fc r (haF first j i) i)], C3] ⟨C3, ?_, rfl⟩ (hs := ?_)
  ·have e : haL l i j = setN (setN (setA l i j) i (-1)) j i := by
    unfold haL; rw [if_neg (by omega)]; simp
   unfold OwnE; rw [qr, e]; exact ho3
  ·have e : haF first j i = first := by unfold haF; rw [if_neg (by omega)]
   rw [e]; first | ((repeat (first | with_reducible exact Among.nil _ | with_reducible exact Pick.head _ _ | with_reducible apply Pick.tail | with_reducible apply Among.cons)); done) | ((repeat (first | exact Among.nil _ | exact Pick.head _ _ | apply Pick.tail | apply Among.cons)); done)
end Go.Proofs.YtebikhhoppiapaaGreatDoor
