/- Texts in a row: the walk's rules and contracts, as each says. Conditions: as each says. -/
import Derived.Test.YtebikhhoppiapaaGreatDoorMeb4cd2aa
import Derived.Test.YtebikhhoppiapaaGreatDoorM99eb9719
import Derived.Test.YtebikhhoppiapaaGreatDoorM0ce5150a
import Derived.Test.YtebikhhoppiapaaGreatDoorMabaad0e2
set_option linter.unusedSimpArgs false
set_option linter.defProp false
set_option linter.unusedVariables false
set_option maxRecDepth 100000
set_option maxHeartbeats 8000000
open List renaming length_append -> aA, mem_cons_self -> aB, cons_append -> aC, nil_append -> aD, getElem?_eq_getElem -> aF, length_singleton -> aI, length_cons -> aJ, mem_cons_of_mem -> aK, append_nil -> aL, append_assoc -> aM, flatten_cons -> aO, replicate -> aQ, getD_eq_getElem?_getD -> aS, length_drop -> aT, length_take -> aU, length_nil -> aV, length_replicate -> aW, not_mem_nil -> aX, map_cons -> aZ, mem_cons -> bA, range -> bC, mem_append_left -> bD, length_map -> bE, take_length -> bF, flatten_append -> bG, getElem?_cons_succ -> bJ, drop_eq_getElem_cons -> bK, flatten_nil -> bO, flatMap_cons -> bP, getElem?_append_right -> bR, take_of_length_le -> bS, take_add_one -> cC, getElem?_cons_zero -> cE, perm_append_comm -> cG, flatMap_append -> cH, map_append -> cL, getElem?_toArray -> cM, getElem?_map -> cN, dropWhile_cons -> cQ, take_append_drop -> cR, getElem?_append_left -> cT, length -> cV, getElem?_take_of_lt -> cX, getD -> cY, drop_eq_nil_of_le -> dA, getElem?_modify -> dC, getElem_mem -> dD, length_set -> dF, toList_toArray -> dG, mem_singleton -> dH, all_cons -> dI, drop_drop -> dL, drop_length -> dR, map_nil -> dS
open And renaming intro -> aE
open Nat renaming reduceBEq -> aG, reduceEqDiff -> aP, le_refl -> aR, reduceSub -> bH, sub_zero -> bI, reduceLT -> bM, reduceAdd -> bQ, zero_add -> cD, mul_le_mul_right -> cF, add_mul -> cP, mod_eq_of_lt -> cU, shiftLeft_eq -> dJ, add_sub_cancel -> dK, le_trans -> dN, add_zero -> dQ, sub_self -> dT
open UInt8 renaming ofNat -> aH, toNat_ofNat' -> bL
open Bool renaming and_eq_true -> aN, true_and -> dM, false_or -> dO, or_eq_true -> dP
open Int renaming toNat_natCast -> aY, reduceToNat -> bN, reduceBEq -> bT, reduceBNe -> bU, reduceAdd -> bV, reduceSub -> bW, reduceMul -> bX, reduceDiv -> bY, reduceMod -> bZ, reducePow -> cB, reduceLT -> cJ, reduceLE -> cK
open BitVec renaming ofInt -> bB, toNat_ofNat -> cW, ofNat -> cZ
open Option renaming getD_some -> cI, map_some -> dE
open Array renaming getElem?_setIfInBounds_ne -> cO, ext' -> cS
namespace Go.Proofs.YtebikhhoppiapaaGreatDoor
open Go Go.Ost _root_.Go.Proofs.Tryz
theorem low_tc {c : UInt8} (h : 97 <= (low1 c).toNat /\ (low1 c).toNat <= 122) : tcB c = true := by
 unfold low1 at h;unfold tcB
 split at h
 ·rename_i hc
  rw [decide_eq_true hc]; simp
 ·rw [decide_eq_true h]; simp
theorem Qy {a : List UInt8} (h : lowL a = scheme) : a.all tcB = true /\ a.length = 6 := by
 have hl : (lowL a).length = a.length := by unfold lowL; simp
 refine ⟨?_, by rw [<- hl, h]; rfl⟩;rw [List.all_eq_true];intro c hc;refine low_tc ?_;have hm : low1 c ∈ scheme := by rw [<- h]; exact List.mem_map.2 ⟨c, hc, rfl⟩
 simp only [scheme, bA, aX, or_false] at hm
 rcases hm with e | e | e | e | e | e <;> rw [e] <;> decide
theorem head_yes {s : List UInt8} (h0 : 7 <= s.length) (h1 : lowL (s.take 6) = scheme) (h2 : s.getD 6 0 = 32) : lowL (tokL s) = scheme /\ (zG (tokR s) 32).1 = true /\ jh s = (s.drop 6).dropWhile (fun c => c == 32) := by
 have hd : s.drop 6 = 32 :: s.drop 7 := by
  rw [bK (show 6 < s.length by omega)];rw [aS, aF (show 6 < s.length by omega), cI] at h2;rw [h2]
 have e := Za (r := s.drop 6) (Qy h1).1 (by rw [hd]; show (!tcB 32) = true; decide);rw [cR] at e;refine ⟨by rw [e.1]; exact h1, by rw [e.2, hd, sign_yes], ?_⟩;unfold jh;rw [e.2, hd, sign_yes, cQ, if_pos (beq_self_eq_true _)]
theorem head_no {s : List UInt8} (h1 : lowL (tokL s) = scheme) (h2 : (zG (tokR s) 32).1 = true) : 7 <= s.length /\ lowL (s.take 6) = scheme /\ s.getD 6 0 = 32 := by
 have e := yK h2;have hb := Jd s;obtain ⟨_, hl⟩ := Qy h1;generalize (zG (tokR s) 32).2 = r at *;generalize tokL s = a at *;rw [e] at hb;subst hb;refine ⟨by rw [aA, aJ]; omega, by rw [<- hl, List.take_left]; exact h1, ?_⟩;rw [aS, bR (by omega), hl]; rfl
theorem KF {s : List UInt8} (h : 4096 < s.length) : xh s = ([], 3) := by unfold xh; rw [if_pos h]
theorem kN {s : List UInt8} (h : ¬ 4096 < s.length) (h2 : ¬ (7 <= s.length /\ lowL (s.take 6) = scheme /\ s.getD 6 0 = 32)) : xh s = ([], 4) := by
 unfold xh;rw [if_neg h, if_pos]
 by_cases e1 : lowL (tokL s) = scheme
 ·cases e2 : (zG (tokR s) 32).1 with
  | false => exact .inr rfl
  | true => exact (h2 (head_no e1 e2)).elim
 ·exact .inl e1
theorem KG {s : List UInt8} (h : ¬ 4096 < s.length) (h2 : lowL (tokL s) = scheme) (h3 : (zG (tokR s) 32).1 = true) :
  xh s = if (xr (jh s)).2 = false then ([], 4) else if cntE (xr (jh s)).1 ≠ 0 then ([], cntE (xr (jh s)).1) else ((xr (jh s)).1, 0) := by
 unfold xh; rw [if_neg h, if_neg (by rw [not_or]; exact ⟨fun e => e h2, by rw [h3]; simp⟩)]
theorem KE (s : List UInt8) (hs : s.length <= 100000) : Meets prog 45 [.string (str s)] []
  fun v A => ∃ X a k, v = .tuple #[.slice a (xh s).1.length k, .int .i64 (xh s).2] /\ OwnR X a k (xh s).1 /\ A = [X] := by
 refine eN func45 ntmps45 results45 fun F => ?_
 refine zB ?_;refine gg ?_
 by_cases h1 : 4096 < s.length
 ·rw [KF h1, decide_eq_true (show (4096 : Int) < s.length by omega)];refine gg ?_;refine ze (vs := [.slice none 0 0, .int .i64 3]) [[]] ⟨[], none, 0, rfl, own_nil, rfl⟩
 rw [decide_eq_false (show ¬ (4096 : Int) < s.length by omega)];refine gg ?_
 by_cases h7 : 7 <= s.length
 ·rw [decide_eq_false (show ¬ (s.length : Int) < 7 by omega)];refine gg ?_;have ht6 : (s.take 6).length <= 6 := by rw [aU]; omega
  refine cA (wx (s.take 6) (by omega)) ?_; rintro v A ⟨rfl, rfl⟩; refine gA ?_
  by_cases h2 : lowL (s.take 6) = scheme
  ·rw [bne_eq_false_iff_eq.2 (show lowL (s.take 6) = [100, 105, 103, 101, 115, 116] from h2)];refine gg ?_
   by_cases h3 : s.getD 6 0 = 32
   ·obtain ⟨q1, q2, q3⟩ := head_yes h7 h2 h3;rw [bne_eq_false_iff_eq.2 (show ((s.getD 6 0).toNat : Int) = 32 by rw [h3]; rfl), KG h1 q1 q2];have hrl := vA s;have hall := list_len _ (jh s) (aR _)
    have hcn : (xr (jh s)).1.length <= vL (xr (jh s)).1 := by
     generalize (xr (jh s)).1 = l
     induction l with
     | nil => exact aR _
     | cons p l ih => show l.length + 1 <= p.n.length + p.v.length + 1 + vL l; omega
    generalize jh s = r at *;refine gg ?_;refine km (fun D L S => ∃ i : Nat, i <= s.length /\ s.drop i = r /\ D = [] /\ L = [(4, .int .i64 i), (0, .string (str s))] /\ S = [[], F]) ?_ ?_
    ·refine zz (fun q D L S => ∃ i : Nat, i <= s.length /\ (s.drop i).dropWhile (fun c => c == 32) = r /\ q = s.length - i /\ D = [] /\ L = [(4, .int .i64 i), (0, .string (str s))] /\ S = [[], F])
      ⟨6, by omega, q3.symm, rfl, rfl, rfl, rfl⟩ ?_
     rintro q D L S ⟨i, hi, hdr, rfl, rfl, rfl, rfl⟩;refine gg ?_
     by_cases hil : i < s.length
     ·have hdd : s.drop i = s.getD i 0 :: s.drop (i + 1) := by
       rw [bK hil, aS, aF hil]; rfl
      rw [hdd] at hdr;rw [decide_eq_true (show (i : Int) < s.length by omega)];refine gg ?_
      by_cases e : s.getD i 0 = 32
      ·rw [beq_iff_eq.2 (show ((s.getD i 0).toNat : Int) = 32 by rw [e]; rfl)];rw [e, cQ, if_pos (beq_self_eq_true _)] at hdr;refine gg ?_;exact zv ⟨i + 1, by omega, hdr, rfl, rfl, rfl, rfl⟩
      ·rw [beq_eq_false_iff_ne.2 (show ((s.getD i 0).toNat : Int) ≠ 32 from fun h => e (UInt8.toNat_inj.1 (show (s.getD i 0).toNat = 32 by omega)))];rw [cQ, if_neg (by simpa using e), <- hdd] at hdr;refine gg ?_;exact mid ⟨i, hi, hdr, rfl, rfl, rfl⟩
     ·rw [decide_eq_false (show ¬ (i : Int) < s.length by omega)];rw [dA (by omega), List.dropWhile_nil] at hdr;refine gg ?_;exact mid ⟨i, hi, by rw [dA (by omega)]; exact hdr, rfl, rfl, rfl⟩
    rintro D L S ⟨i, hi, hdr, rfl, rfl, rfl⟩;refine gg ?_;rw [hdr];refine cA (Oi r (by omega)) ?_; rintro v A ⟨X, xa, xc, rfl, hX, rfl⟩; refine gA ?_
    cases hok : (xr r).2 with
    | false =>
     rw [if_pos rfl];refine gg ?_;refine ze (vs := [.slice none 0 0, .int .i64 4]) [[]] ⟨[], none, 0, rfl, own_nil, rfl⟩
    | true =>
     rw [if_neg (by simp)];refine gg ?_;refine cA (wA hX (by omega)) ?_; rintro v A ⟨rfl, rfl⟩; refine gA ?_
     by_cases h5 : cntE (xr r).1 = 0
     ·rw [if_neg (by simp [h5]), h5];refine gg ?_;refine ze (vs := [.slice xa (xr r).1.length xc, .int .i64 0]) [X] ⟨X, xa, xc, rfl, hX, rfl⟩
     ·rw [if_pos h5, bne_iff_ne.2 h5];refine gg ?_;refine ze (vs := [.slice none 0 0, .int .i64 (cntE (xr r).1)]) [[]] ⟨[], none, 0, rfl, own_nil, rfl⟩
   ·rw [bne_iff_ne.2 (show ((s.getD 6 0).toNat : Int) ≠ 32 from fun h => h3 (UInt8.toNat_inj.1 (show (s.getD 6 0).toNat = 32 by omega))), kN h1 (fun h => h3 h.2.2)];refine gg ?_;refine ze (vs := [.slice none 0 0, .int .i64 4]) [[]] ⟨[], none, 0, rfl, own_nil, rfl⟩
  ·rw [bne_iff_ne.2 (show lowL (s.take 6) ≠ [100, 105, 103, 101, 115, 116] from h2), kN h1 (fun h => h2 h.2.1)];refine gg ?_;refine ze (vs := [.slice none 0 0, .int .i64 4]) [[]] ⟨[], none, 0, rfl, own_nil, rfl⟩
 ·rw [decide_eq_true (show (s.length : Int) < 7 by omega), kN h1 (fun h => h7 h.1)];refine gg ?_;refine ze (vs := [.slice none 0 0, .int .i64 4]) [[]] ⟨[], none, 0, rfl, own_nil, rfl⟩
theorem rfind_at {l : List Par} {n : List UInt8} {i : Nat} (h : i < l.length) (hno : ((l.take i).find? fun p => p.n == n) = none) (hf : ((l.getD i p0).n == n) = true) : hasB l n = true /\ gotP l n = l.getD i p0 := by
 have e : l = l.take i ++ l.getD i p0 :: l.drop (i + 1) := by
  have h2 : l.drop i = l.getD i p0 :: l.drop (i + 1) := by
   rw [bK h, aS, aF h]; rfl
  rw [<- h2, cR]
 have hfi : (l.find? fun p => p.n == n) = some (l.getD i p0) := by
  generalize l.getD i p0 = x at *;generalize l.take i = a at *;rw [e, List.find?_append, hno, Option.none_or, List.find?_cons, hf]
 unfold hasB gotP;rw [hfi]; exact ⟨rfl, rfl⟩
theorem On {l : List Par} {n : List UInt8} {i : Nat} (h : i < l.length) (hno : ((l.take i).find? fun p => p.n == n) = none) (hf : ((l.getD i p0).n == n) = false) : ((l.take (i + 1)).find? fun p => p.n == n) = none := by
 rw [cC, List.find?_append, hno, Option.none_or, jI l i h]
 show List.find? _ [l.getD i p0] = none
 rw [List.find?_cons, hf]; rfl
theorem Om {l : List Par} {n : List UInt8} (h : (l.find? fun p => p.n == n) = none) : hasB l n = false /\ gotP l n = p0 := by
 unfold hasB gotP; rw [h]; exact ⟨rfl, rfl⟩
abbrev sv (s : List UInt8) : Value := .string (str s)
abbrev OwnT (X : Chunk) (a : Option Addr) (k : Nat) (l : List (List UInt8)) : Prop := Ost.Own 1 9 X a l.length k (l.map sv)
theorem get_sv (l : List (List UInt8)) (i : Nat) (h : i < l.length) : (l.map sv)[i]? = some (sv (l.getD i [])) := by
 rw [cN, aS, aF h]; rfl
theorem all_sv {f : List UInt8 -> Bool} (l : List (List UInt8)) (j : Nat) (h : j < l.length) : (l.take (j + 1)).all f = ((l.take j).all f && f (l.getD j [])) := by
 rw [cC, List.all_append, aS, aF h]; simp
theorem any_sv {f : List UInt8 -> Bool} (l : List (List UInt8)) (j : Nat) (h : j < l.length) : (l.take (j + 1)).any f = ((l.take j).any f || f (l.getD j [])) := by
 rw [cC, List.any_append, aS, aF h]; simp
theorem any_has (l : List (List UInt8)) (n : List UInt8) : (l.any fun x => x == n) = l.contains n := by
 rw [Bool.eq_iff_iff, List.any_eq_true, List.contains_iff_mem]
 constructor
 ·rintro ⟨x, hx, e⟩; rw [<- eq_of_beq e]; exact hx
 ·intro h; exact ⟨n, h, by simp⟩
section f
variable {X : Chunk} {xa : Option Addr} {xc : Nat} {l : List Par}
theorem ye (hX : OwnR X xa xc l) (hl : l.length <= 100000) (n : List UInt8) : Meets prog 57 [.slice xa l.length xc, .string (str n)] [X]
  fun v A => v = .tuple #[.agg (encP (gotP l n)).toArray, .bool (hasB l n)] /\ A = [X] := by
 have hs := vI;refine eN func57 ntmps57 results57 fun F => ?_
 refine gg ?_;refine oA (encP p0).toArray fun b4 => ?_
 refine gg ?_
 refine zz (fun q D L S => ∃ i : Nat, i <= l.length /\ ((l.take i).find? fun p => p.n == n) = none /\ q = l.length - i /\ D = [] /\
  L = [(10, .int .i64 i), (9, .int .i64 l.length), (8, .slice xa l.length xc), (4, .pointer (some ⟨b4, 0, none⟩)), (1, .string (str n))] /\ S = [rpB b4 p0, X, F])
  ⟨0, by omega, rfl, rfl, rfl, rfl, rfl⟩ ?_
 rintro q D L S ⟨i, hi, hno, rfl, rfl, rfl, rfl⟩;refine gg ?_;refine if_d (fun hc => ?_) (fun hc => ?_)
 ·have hil : i < l.length := by omega
  have hx := jI l i hil;refine gg ?_;refine zf fun K hK => ?_; refine zT hX hs hx (by decide) mmA ?_; refine hK _ _ ?_; clear hK K
  refine oA (encP p0).toArray fun b7 => ?_
  refine oS (encP (l.getD i p0)) rfl (zP _) ?_;refine gg ?_
  cases hb : ((l.getD i p0).n == n) with
  | true =>
   obtain ⟨e1, e2⟩ := rfind_at hil hno hb;rw [e1, e2];refine gg ?_;refine oL (encP (l.getD i p0)) rfl ?_;refine oS (encP (l.getD i p0)) rfl (zP _) ?_;refine gg ?_;refine ze (vs := [.agg (encP (l.getD i p0)).toArray, .bool true]) [X] ⟨rfl, rfl⟩ (hr := by (intro κ hκ; simp only [resW, withV, lookT_hit, lookT_miss, aG]; exact zi (vs := encP (l.getD i p0)) lkA rfl hκ))
  | false =>
   refine gg ?_;exact zv ⟨i + 1, by omega, On hil hno hb, rfl, rfl, rfl, rfl⟩
 ·obtain rfl : i = l.length := by omega
  rw [bF] at hno;obtain ⟨e1, e2⟩ := Om hno;rw [e1, e2];refine gg ?_;refine oT [] (encP p0).toArray ?_;refine gg ?_;refine oS (encP p0) rfl (zP _) ?_;refine gg ?_;refine ze (vs := [.agg (encP p0).toArray, .bool false]) [X] ⟨rfl, rfl⟩ (hr := by (intro κ hκ; simp only [resW, withV, lookT_hit, lookT_miss, aG]; exact zi (vs := encP p0) lkA rfl hκ))
theorem xv (hX : OwnR X xa xc l) (hl : l.length <= 100000) (n : List UInt8) : Meets prog 48 [.slice xa l.length xc, .string (str n)] [X]
  fun v A => v = .string (str (gotP l n).v) /\ A = [X] := by
 refine eN func48 ntmps48 results48 fun F => ?_
 refine gg ?_;refine cA (ye hX hl n) ?_; rintro v A ⟨rfl, rfl⟩; refine gA ?_;refine oA (encP p0).toArray fun b7 => ?_
 refine oS (encP (gotP l n)) rfl (zP _) ?_;refine gg ?_;refine zb [X] ?_; exact ⟨rfl, rfl⟩
theorem Oh (hX : OwnR X xa xc l) (hl : l.length <= 100000) {M Q : Chunk} {ma qa : Option Addr} {mc qc : Nat} {ms qs : List (List UInt8)} (hM : OwnT M ma mc ms) (hQ : OwnT Q qa qc qs) (hm : ms.length <= 1000) (hq : qs.length <= 1000) :
  Meets prog 46 [.slice xa l.length xc, .slice ma ms.length mc, .slice qa qs.length qc] [X, M, Q]
  fun v A => v = .tuple #[.bool (Vb l ms qs).1, .bool (Vb l ms qs).2] /\ A = [X, M, Q] := by
 unfold Vb;refine eN func46 ntmps46 results46 fun F => ?_
 refine gg ?_;refine km (fun D L S => D = [] /\ L = [(8, .bool (ms.all (hasB l))), (9, .bool true), (0, .slice xa l.length xc), (1, .slice ma ms.length mc), (2, .slice qa qs.length qc)] /\ S = [X, M, Q, F]) ?_ ?_
 ·refine zz (fun q D L S => ∃ i : Nat, i <= ms.length /\ q = ms.length - i /\ D = [] /\
   L = [(23, .int .i64 i), (22, .int .i64 ms.length), (21, .slice ma ms.length mc), (8, .bool ((ms.take i).all (hasB l))), (9, .bool true), (0, .slice xa l.length xc), (1, .slice ma ms.length mc), (2, .slice qa qs.length qc)] /\ S = [X, M, Q, F])
   ⟨0, by omega, rfl, rfl, rfl, rfl⟩ ?_
  rintro q D L S ⟨i, hi, rfl, rfl, rfl, rfl⟩;refine gg ?_;refine if_d (fun hc => ?_) (fun hc => ?_)
  ·have hil : i < ms.length := by omega
   have hx := get_sv ms i hil;have han := all_sv (f := hasB l) ms i hil;generalize ms.getD i [] = n at *;refine gg ?_;refine cA (ye hX hl n) ?_; rintro v A ⟨rfl, rfl⟩; refine gA ?_;refine oA (encP p0).toArray fun b7 => ?_
   refine oS (encP (gotP l n)) rfl (zP _) ?_;refine gg ?_
   cases hw : (ms.take i).all (hasB l) with
   | true =>
    rw [hw, dM] at han;refine gg ?_;rw [<- han];exact zv ⟨i + 1, by omega, rfl, rfl, rfl, rfl⟩
   | false =>
    rw [hw, Bool.false_and] at han;refine gg ?_;rw [<- han];exact zv ⟨i + 1, by omega, rfl, rfl, rfl, rfl⟩
  ·obtain rfl : i = ms.length := by omega
   rw [bF];refine gg ?_;exact mid ⟨rfl, rfl, rfl⟩
 rintro D L S ⟨rfl, rfl, rfl⟩;generalize ms.all (hasB l) = there
 have hsv : ∀ l : List (List UInt8), ∀ v ∈ l.map sv, Value.cell1 v := fun l v hv => by
  obtain ⟨x, _, rfl⟩ := List.mem_map.1 hv; trivial
 refine gg ?_;refine zf fun K hK => ?_; refine xY (e := 9) (s := 1) (hs := inferInstance) (fun b38 C38 ho38 => ?_); refine hK _ _ ?_; clear hK K
 refine gg ?_;refine zf fun K hK => ?_; refine zn (e := 9) (s := 1) (hs := inferInstance) (by rfl) (by decide) ho38 (.inr pkA) (hM.rd mmA) (hsv ms) (by simp only [maxLen]; omega) (by omega) (fun C3 a3 k3 ho3 => ?_); refine hK _ _ ?_; clear hK K
 refine gg ?_;refine zf fun K hK => ?_; refine xZ rfl [sv nOpaque, sv nStale] (by decide) rfl rfl (by simp [Value.cell1]) (fun b5 C5 ho5 => ?_); refine hK _ _ ?_; clear hK K
 refine gg ?_;refine zf fun K hK => ?_; refine zn (e := 9) (s := 1) (hs := inferInstance) (by rfl) (by decide) ho3 (.inr pkA) (ho5.rd mmA) (hsv [nOpaque, nStale]) (by simp only [maxLen]; omega) (by omega) (fun N na nk hN => ?_); refine hK _ _ ?_; clear hK K
 have e1 : 0 + ms.length + 2 = (ms ++ [nOpaque, nStale]).length := by simp
 have e2 : [] ++ ms.map sv ++ [sv nOpaque, sv nStale] = (ms ++ [nOpaque, nStale]).map sv := by simp
 rw [e1, e2] at hN;rw [e1];clear e1 e2;have hN2 : OwnT N na nk (ms ++ [nOpaque, nStale]) := hN;clear hN ho3;have hnl : (ms ++ [nOpaque, nStale]).length <= 1002 := by simp; omega
 generalize ms ++ [nOpaque, nStale] = ns at *;refine gg ?_
 refine zz (fun q D L S => ∃ i : Nat, i <= ns.length /\ q = ns.length - i /\ D = [] /\
  L = [(44, .int .i64 i), (43, .int .i64 ns.length), (42, .slice na ns.length nk), (8, .bool there), (9, .bool ((ns.take i).all fun n => !(hasB l n && (gotP l n).q != qs.contains n))), (0, .slice xa l.length xc), (2, .slice qa qs.length qc)] /\ S = [N, X, M, Q, F])
  ⟨0, by omega, rfl, rfl, rfl, rfl⟩ ?_
 rintro q D L S ⟨i, hi, rfl, rfl, rfl, rfl⟩;refine gg ?_;refine if_d (fun hc => ?_) (fun hc => ?_)
 ·have hil : i < ns.length := by omega
  have hx := get_sv ns i hil;have han := all_sv (f := fun n => !(hasB l n && (gotP l n).q != qs.contains n)) ns i hil
  (try simp only at han)
  generalize ns.getD i [] = n at *;generalize hacc : ((ns.take i).all fun n => !(hasB l n && (gotP l n).q != qs.contains n)) = acc at *;clear hacc;refine gg ?_;refine cA (ye hX hl n) ?_; rintro v A ⟨rfl, rfl⟩; refine gA ?_;refine oA (encP p0).toArray fun b16 => ?_
  refine oS (encP (gotP l n)) rfl (zP _) ?_;generalize gotP l n = p at *;generalize hasB l n = h at *;refine gg ?_
  refine zz (fun q D L S => ∃ k : Nat, k <= qs.length /\ q = qs.length - k /\ D = [] /\
   L = [(56, .int .i64 k), (55, .int .i64 qs.length), (54, .slice qa qs.length qc), (18, .bool ((qs.take k).any fun x => x == n)), (15, sv n), (16, .pointer (some ⟨b16, 0, none⟩)), (17, .bool h),
    (44, .int .i64 i), (43, .int .i64 ns.length), (42, .slice na ns.length nk), (8, .bool there), (9, .bool acc), (0, .slice xa l.length xc), (2, .slice qa qs.length qc)] /\ S = [rpB b16 p, N, X, M, Q, F])
   ⟨0, by omega, rfl, rfl, rfl, rfl⟩ ?_
  rintro q D L S ⟨k, hk, rfl, rfl, rfl, rfl⟩;refine gg ?_;refine if_d (fun hc => ?_) (fun hc => ?_)
  ·have hkl : k < qs.length := by omega
   have hx2 := get_sv qs k hkl;have han2 := any_sv (f := fun x => x == n) qs k hkl
   (try simp only at han2)
   generalize qs.getD k [] = x at *;refine gg ?_
   cases hw : ((qs.take k).any fun x => x == n) with
   | true =>
    rw [hw, Bool.true_or] at han2;refine gg ?_;rw [show Value.bool true = .bool ((qs.take (k + 1)).any fun x => x == n) from by rw [han2]];exact zv ⟨k + 1, by omega, rfl, rfl, rfl, rfl⟩
   | false =>
    rw [hw, dO] at han2;refine gg ?_;rw [<- han2];exact zv ⟨k + 1, by omega, rfl, rfl, rfl, rfl⟩
  ·obtain rfl : k = qs.length := by omega
   rw [bF, any_has];generalize qs.contains n = w at *;refine gg ?_
   cases h with
   | false =>
    rw [Bool.false_and, Bool.not_false, Bool.and_true] at han;refine gg ?_;rw [<- han];exact zv ⟨i + 1, by omega, rfl, rfl, rfl, rfl⟩
   | true =>
    rw [dM] at han;refine gg ?_
    cases hpw : (p.q != w) with
    | true =>
     rw [hpw, Bool.not_true, Bool.and_false] at han;refine gg ?_;rw [show Value.bool false = .bool ((ns.take (i + 1)).all fun n => !(hasB l n && (gotP l n).q != qs.contains n)) from by rw [han]];exact zv ⟨i + 1, by omega, rfl, rfl, rfl, rfl⟩
    | false =>
     rw [hpw, Bool.not_false, Bool.and_true] at han;refine gg ?_;rw [<- han];exact zv ⟨i + 1, by omega, rfl, rfl, rfl, rfl⟩
 ·obtain rfl : i = ns.length := by omega
  rw [bF];refine gg ?_;refine ze (vs := [.bool there, .bool (ns.all fun n => !(hasB l n && (gotP l n).q != qs.contains n))]) [X, M, Q] ⟨rfl, rfl⟩
end f
end Go.Proofs.YtebikhhoppiapaaGreatDoor
namespace Go.Proofs.YtebikhhoppiapaaGreatDoor
open Go Go.Ost
theorem Or (l : List Par) : l.length <= vL l := by
 induction l with
 | nil => exact aR _
 | cons p l ih => show l.length + 1 <= p.n.length + p.v.length + 1 + vL l; omega
theorem rall_in {l : List Par} {p : Par} (h : p ∈ l) : p.n.length + p.v.length + 1 <= vL l := by
 induction l with
 | nil => cases h
 | cons a l ih =>
  show _ <= a.n.length + a.v.length + 1 + vL l
  rcases List.mem_cons.1 h with rfl | h
  ·omega
  ·have := ih h; omega
theorem QC (s : List UInt8) : (xh s).1.length <= s.length /\ ∀ p ∈ (xh s).1, p.n.length + p.v.length <= s.length := by
 have h1 := list_len _ (jh s) (aR _);have h2 := vA s;have h3 := Or (xr (jh s)).1;unfold xh
 split
 ·exact ⟨by simp, fun p hp => by cases hp⟩
 split
 ·exact ⟨by simp, fun p hp => by cases hp⟩
 split
 ·exact ⟨by simp, fun p hp => by cases hp⟩
 split
 ·exact ⟨by simp, fun p hp => by cases hp⟩
 ·refine ⟨by show (xr (jh s)).1.length <= _; omega, fun p hp => ?_⟩;have := rall_in (l := (xr (jh s)).1) hp;omega
theorem WE {l : List Par} {B : Nat} (h : ∀ p ∈ l, p.v.length <= B) (n : List UInt8) : (gotP l n).v.length <= B := by
 unfold gotP
 cases hf : l.find? fun p => p.n == n with
 | none => show (0 : Nat) <= _; omega
 | some p => exact h p (List.mem_of_find?_eq_some hf)
open Go.Sha _root_.Go.Proofs.Tryz
instance tpRAns : zH prog 56 [(0, 1), (1, 1), (2, 1), (3, 1), (4, 1), (5, 1), (6, 1), (7, 1)] := ⟨by kernel_rfl⟩
theorem JC (a : An) (pa : Option Addr) (pk : Nat) : ∀ v ∈ encA a pa pk, Value.cell1 v := by
 intro v hv;simp only [encA, bA, aX, or_false] at hv
 rcases hv with rfl | rfl | rfl | rfl | rfl | rfl | rfl | rfl <;> simp [Value.cell1, b32]
abbrev raB (b : Nat) (a : An) (pa : Option Addr) (pk : Nat) : Chunk := [(b, .cells (encA a pa pk).toArray 56 (0, 0))]
theorem rnum_spec {X : Chunk} {xa : Option Addr} {xc : Nat} {p : List UInt8} (hX : Own8 5 X xa p.length xc p) (h4 : p.length = 4) : Meets prog 51 [.slice xa p.length xc] [X] fun v A => v = .int .u64 (numN p) /\ A = [X] := by
 refine eN func51 ntmps51 results51 fun F => ?_
 refine gg ?_
 refine zz (fun q D L S => ∃ (i : Nat) (m : Nat), i <= p.length /\ m = numN (p.take i) /\ q = p.length - i /\ D = [] /\
  L = [(8, .int .i64 i), (7, .int .i64 p.length), (6, .slice xa p.length xc), (3, .int .u64 (m : Int))] /\ S = [X, F])
  ⟨0, 0, by omega, by simp [numN], rfl, rfl, rfl, rfl⟩ ?_
 rintro q D L S ⟨i, m, hi, hm, rfl, rfl, rfl, rfl⟩
 have hmb : m < 256 ^ 4 := by
  have h1 := numN_lt i (p.take i) (by rw [aU]; omega);have h2 : 256 ^ i <= 256 ^ 4 := Nat.pow_le_pow_right (by decide) (by omega);omega
 refine gg ?_;refine if_d (fun hc => ?_) (fun hc => ?_)
 ·have hil : i < p.length := by omega
  have hnx := numN_next p i hil;rw [<- hm] at hnx;have hlt := (p.getD i 0).toNat_lt;refine gg ?_;refine zv ⟨i + 1, m * 256 + (p.getD i 0).toNat, by omega, hnx.symm, rfl, rfl, rfl, rfl⟩
 ·obtain rfl : i = p.length := by omega
  rw [bF] at hm;rw [hm];refine gg ?_;refine zb [X] ?_; exact ⟨rfl, rfl⟩
theorem num_wrap (q : List UInt8) : Value.int .u32 (IntKind.u32.wrap ((numN q : Nat) : Int)) = b32 (numW q) := by
 rw [wrap32_mod, <- Ud];exact congrArg (fun n : Nat => Value.int .u32 (n : Int)) (cW (numN q) 32).symm
theorem QF (l : List Par) : (jP l).length <= l.length := List.length_filter_le _ _
theorem keep_next (l : List Par) (i : Nat) (h : i < l.length) : jP (l.take (i + 1)) = jP (l.take i) ++ (if ((l.getD i p0).n != nStale) = true then [l.getD i p0] else []) := by
 unfold jP;rw [cC, List.filter_append, jI l i h]
 congr 1
 show List.filter _ [l.getD i p0] = _
 rw [List.filter_cons]
 split <;> simp
theorem Oe (s : List UInt8) (hs : s.length <= 100000) : Meets prog 13 [.string (str s)] []
  fun v A => ∃ P pa pk, v = .tuple #[.agg (encA (rpaE s).1 pa pk).toArray, .int .i64 (rpaE s).2] /\ Own8 5 P pa (rpaE s).1.pf.length pk (rpaE s).1.pf /\ A = [P] := by
 have hs3 := vI;obtain ⟨hpl, hpb⟩ := QC s;unfold rpaE;refine eN func13 ntmps13 results13 fun F => ?_
 refine zB ?_;refine gg ?_;refine oA (encA a0 none 0).toArray fun b2 => ?_
 refine gg ?_;refine cA (KE s hs) ?_; rintro v A ⟨X, xa, xk, rfl, hX, rfl⟩; refine gA ?_
 by_cases h0 : (xh s).2 = 0
 ·rw [h0, if_neg (by decide)];generalize (xh s).1 = l at *;have hvb0 : ∀ p ∈ l, p.v.length <= 100000 := fun p hp => by have := hpb p hp; omega
  have hl : l.length <= 100000 := by omega
  clear hpl hpb;refine gg ?_;refine zB ?_;refine km (fun D L S => ∃ (Kc : Chunk) (ka : Option Addr) (kc : Nat), OwnR Kc ka kc (jP l) /\ D = [] /\ L = [(6, .slice ka (jP l).length kc), (2, .pointer (some ⟨b2, 0, none⟩))] /\ S = [Kc, X, raB b2 a0 none 0, [], F]) ?_ ?_
  ·refine zz (fun q D L S => ∃ (i : Nat) (Kc : Chunk) (ka : Option Addr) (kc : Nat), i <= l.length /\ OwnR Kc ka kc (jP (l.take i)) /\ q = l.length - i /\ D = [] /\
    L = [(26, .int .i64 i), (25, .int .i64 l.length), (24, .slice xa l.length xk), (6, .slice ka (jP (l.take i)).length kc), (2, .pointer (some ⟨b2, 0, none⟩))] /\ S = [Kc, X, raB b2 a0 none 0, [], F])
    ⟨0, [], none, 0, by omega, own_nil, rfl, rfl, rfl, rfl⟩ ?_
   rintro q D L S ⟨i, Kc, ka, kc, hi, hkc, rfl, rfl, rfl, rfl⟩;have hkl := QF (l.take i);rw [aU] at hkl;refine gg ?_;refine if_d (fun hc => ?_) (fun hc => ?_)
   ·have hil : i < l.length := by omega
    have hx := jI l i hil;have hkn := keep_next l i hil;generalize l.getD i p0 = x at *;refine gg ?_;refine zf fun K hK => ?_; refine zT hX hs3 hx (by decide) mmA ?_; refine hK _ _ ?_; clear hK K
    refine oA (encP p0).toArray fun b8 => ?_
    refine oS (encP x) rfl (zP _) ?_;refine gg ?_
    cases hst : (x.n != nStale) with
    | true =>
     rw [show (x.n != [115, 116, 97, 108, 101]) = true from hst];rw [hst, if_pos rfl] at hkn;refine gg ?_;refine oL (encP x) rfl ?_;refine zf fun K hK => ?_; refine zN (e := 137) (s := 3) (hs := inferInstance) (vs := encP x) (by rfl) (by decide) (by decide) rfl (fun b1 C1 ho1 => ?_); refine hK _ _ ?_; clear hK K
     refine zf fun K hK => ?_; refine zn (e := 137) (s := 3) (hs := inferInstance) (by rfl) (by decide) hkc (.inr pkA) (ho1.rd mmA) (zP _) (by simp only [maxLen]; omega) (by omega) (fun C3 a3 cap3 ho3 => ?_); refine hK _ _ ?_; clear hK K
     have e1 : (jP (l.take i)).length + 1 = (jP (l.take (i + 1))).length := by rw [hkn]; simp
     have e2 : (jP (l.take i)).flatMap encP ++ encP x = (jP (l.take (i + 1))).flatMap encP := by rw [hkn]; simp
     rw [e1, e2] at ho3;rw [e1];refine gg ?_;exact zv ⟨i + 1, C3, a3, cap3, by omega, ho3, rfl, rfl, rfl, rfl⟩
    | false =>
     rw [show (x.n != [115, 116, 97, 108, 101]) = false from hst];rw [hst, if_neg (by simp), aL] at hkn;rw [<- hkn] at hkc ⊢;refine gg ?_;exact zv ⟨i + 1, Kc, ka, kc, by omega, hkc, rfl, rfl, rfl, rfl⟩
   ·obtain rfl : i = l.length := by omega
    rw [bF] at hkc hkl ⊢;refine gg ?_;exact mid ⟨Kc, ka, kc, hkc, rfl, rfl, rfl⟩
  rintro D L S ⟨Kc, ka, kc, hkc, rfl, rfl, rfl⟩;have hkl := QF l;have hvb : ∀ p ∈ jP l, p.v.length <= 100000 := fun p hp => hvb0 p (List.mem_filter.1 hp).1
  generalize jP l = k at *;have hl2 : k.length <= 100000 := by omega
  clear hX hvb0 hl hkl;refine gg ?_;refine zf fun K hK => ?_; refine xZ rfl [sv nUser, sv nRealm, sv nNonce, sv nUri, sv nQop, sv nNc, sv nCnonce, sv nResp, sv nAlg] (by decide) rfl rfl (by simp [Value.cell1]) (fun b21 C21 ho21 => ?_); refine hK _ _ ?_; clear hK K
  refine gg ?_;refine zf fun K hK => ?_; refine xZ rfl [sv nUser, sv nRealm, sv nNonce, sv nUri, sv nCnonce, sv nResp, sv nOpaque] (by decide) rfl rfl (by simp [Value.cell1]) (fun b22 C22 ho22 => ?_); refine hK _ _ ?_; clear hK K
  refine gg ?_;have hM : OwnT C21 (some ⟨b21, 0, none⟩) 9 mustA := ho21;have hQ : OwnT C22 (some ⟨b22, 0, none⟩) 7 quoA := ho22;have hls := Oh hkc hl2 hM hQ (by decide) (by decide);rw [show mustA.length = 9 from rfl, show quoA.length = 7 from rfl] at hls;clear hM hQ ho21 ho22;refine cA (hls) ?_; rintro v A ⟨rfl, rfl⟩; refine gA ?_;clear hls;unfold rpaL;generalize hlk : Vb k mustA quoA = lk at *;obtain ⟨there, right⟩ := lk
  cases there with
  | false =>
   rw [if_pos rfl];refine gg ?_;refine oT [] (encA a0 none 0).toArray ?_;refine gg ?_;refine oS (encA a0 none 0) rfl (JC _ _ _) ?_;refine gg ?_;refine ze (vs := [.agg (encA a0 none 0).toArray, .int .i64 6]) [[]] ⟨[], none, 0, rfl, own_nil, rfl⟩ (hr := by (intro κ hκ; simp only [resW, withV, lookT_hit, lookT_miss, aG]; exact zi (vs := encA a0 none 0) lkA rfl hκ))
  | true =>
   rw [if_neg (by simp)];refine gg ?_;refine cA (xv hkc hl2 nNc) ?_; rintro v A ⟨rfl, rfl⟩; refine gA ?_;refine cA (Zk (gotP k nNc).v (WE hvb nNc)) ?_; rintro v A ⟨Q, qa, qk, rfl, hQ, rfl⟩; refine gA ?_;refine cA (xv hkc hl2 nResp) ?_; rintro v A ⟨rfl, rfl⟩; refine gA ?_;refine cA (Zk (gotP k nResp).v (WE hvb nResp)) ?_; rintro v A ⟨P, pa, pk, rfl, hP, rfl⟩; (try simp only [aD, aC])
   (repeat (first | (with_reducible refine vv ?_) | ((with_reducible refine wq ?_); refine wp ?_)))
   (with_reducible refine Zb ?_)
   (with_reducible refine zY ?_); refine zQ (fun D L S => rpaB k = false /\ D = [] /\ L = [(4, .slice ka k.length kc), (11, .slice qa (uhE (gotP k nNc).v).1.length qk), (13, .slice pa (uhE (gotP k nResp).v).1.length pk), (2, .pointer (some ⟨b2, 0, none⟩))] /\ S = [P, Q, Kc, raB b2 a0 none 0, [], F]) ?_ ?_
   ·(with_reducible refine zY ?_); refine zQ (fun D L S => D = [] /\ L = [(103, .bool (rpaB k)), (4, .slice ka k.length kc), (11, .slice qa (uhE (gotP k nNc).v).1.length qk), (13, .slice pa (uhE (gotP k nResp).v).1.length pk), (2, .pointer (some ⟨b2, 0, none⟩))] /\ S = [P, Q, Kc, raB b2 a0 none 0, [], F]) ?_ ?_
    ·refine code_runc ?_;refine runc_mid3 (fun L S => L = [(63, .bool (!right)), (12, .int .i64 (uhE (gotP k nNc).v).2), (14, .int .i64 (uhE (gotP k nResp).v).2), (4, .slice ka k.length kc), (11, .slice qa (uhE (gotP k nNc).v).1.length qk), (13, .slice pa (uhE (gotP k nResp).v).1.length pk), (2, .pointer (some ⟨b2, 0, none⟩))] /\ S = [P, Q, Kc, raB b2 a0 none 0, [], F]) ?_ ?_
     ·refine gg ?_;exact midr ⟨rfl, rfl⟩
     rintro L S ⟨rfl, rfl⟩;generalize hc1 : (!right) = c1;refine Zl (fun L S => L = [(68, .bool (c1 || ((gotP k nQop).v != nAuth))), (12, .int .i64 (uhE (gotP k nNc).v).2), (14, .int .i64 (uhE (gotP k nResp).v).2), (4, .slice ka k.length kc), (11, .slice qa (uhE (gotP k nNc).v).1.length qk), (13, .slice pa (uhE (gotP k nResp).v).1.length pk), (2, .pointer (some ⟨b2, 0, none⟩))] /\ S = [P, Q, Kc, raB b2 a0 none 0, [], F]) ?_ ?_
     ·cases c1 with
      | true =>
       refine gg ?_;exact midr ⟨rfl, rfl⟩
      | false =>
       refine gg ?_;refine cA (xv hkc hl2 nQop) ?_; rintro v A ⟨rfl, rfl⟩; refine gA ?_
       (try rw [show ((gotP k nQop).v != [97, 117, 116, 104]) = ((gotP k nQop).v != nAuth) from rfl])
       exact midr ⟨rfl, rfl⟩
     rintro L S ⟨rfl, rfl⟩;generalize hc2 : (c1 || ((gotP k nQop).v != nAuth)) = c2;refine Qz (fun L S => L = [(74, .bool (c2 || (lowL (gotP k nAlg).v != nSumL))), (12, .int .i64 (uhE (gotP k nNc).v).2), (14, .int .i64 (uhE (gotP k nResp).v).2), (4, .slice ka k.length kc), (11, .slice qa (uhE (gotP k nNc).v).1.length qk), (13, .slice pa (uhE (gotP k nResp).v).1.length pk), (2, .pointer (some ⟨b2, 0, none⟩))] /\ S = [P, Q, Kc, raB b2 a0 none 0, [], F]) ?_ ?_
     ·cases c2 with
      | true =>
       refine gg ?_;exact midr ⟨rfl, rfl⟩
      | false =>
       refine gg ?_;refine cA (xv hkc hl2 nAlg) ?_; rintro v A ⟨rfl, rfl⟩; refine gA ?_;refine cA (wx (gotP k nAlg).v (WE hvb nAlg)) ?_; rintro v A ⟨rfl, rfl⟩; refine gA ?_
       (try rw [show (lowL (gotP k nAlg).v != [115, 104, 97, 45, 50, 53, 54]) = (lowL (gotP k nAlg).v != nSumL) from rfl])
       exact midr ⟨rfl, rfl⟩
     rintro L S ⟨rfl, rfl⟩;generalize hc3 : (c2 || (lowL (gotP k nAlg).v != nSumL)) = c3;refine QA (fun L S => L = [(78, .bool (c3 || ((uhE (gotP k nNc).v).2 != 0))), (14, .int .i64 (uhE (gotP k nResp).v).2), (4, .slice ka k.length kc), (11, .slice qa (uhE (gotP k nNc).v).1.length qk), (13, .slice pa (uhE (gotP k nResp).v).1.length pk), (2, .pointer (some ⟨b2, 0, none⟩))] /\ S = [P, Q, Kc, raB b2 a0 none 0, [], F]) ?_ ?_
     ·cases c3 with
      | true =>
       refine gg ?_;exact midr ⟨rfl, rfl⟩
      | false =>
       refine gg ?_;exact midr ⟨rfl, rfl⟩
     rintro L S ⟨rfl, rfl⟩;generalize hc4 : (c3 || ((uhE (gotP k nNc).v).2 != 0)) = c4;refine Zl (fun L S => L = [(83, .bool (c4 || (((uhE (gotP k nNc).v).1.length : Int) != 4))), (14, .int .i64 (uhE (gotP k nResp).v).2), (4, .slice ka k.length kc), (11, .slice qa (uhE (gotP k nNc).v).1.length qk), (13, .slice pa (uhE (gotP k nResp).v).1.length pk), (2, .pointer (some ⟨b2, 0, none⟩))] /\ S = [P, Q, Kc, raB b2 a0 none 0, [], F]) ?_ ?_
     ·cases c4 with
      | true =>
       refine gg ?_;exact midr ⟨rfl, rfl⟩
      | false =>
       refine gg ?_;exact midr ⟨rfl, rfl⟩
     rintro L S ⟨rfl, rfl⟩;generalize hc5 : (c4 || (((uhE (gotP k nNc).v).1.length : Int) != 4)) = c5;refine QA (fun L S => L = [(87, .bool (c5 || ((uhE (gotP k nResp).v).2 != 0))), (4, .slice ka k.length kc), (11, .slice qa (uhE (gotP k nNc).v).1.length qk), (13, .slice pa (uhE (gotP k nResp).v).1.length pk), (2, .pointer (some ⟨b2, 0, none⟩))] /\ S = [P, Q, Kc, raB b2 a0 none 0, [], F]) ?_ ?_
     ·cases c5 with
      | true =>
       refine gg ?_;exact midr ⟨rfl, rfl⟩
      | false =>
       refine gg ?_;exact midr ⟨rfl, rfl⟩
     rintro L S ⟨rfl, rfl⟩;generalize hc6 : (c5 || ((uhE (gotP k nResp).v).2 != 0)) = c6;refine Zl (fun L S => L = [(92, .bool (c6 || (((uhE (gotP k nResp).v).1.length : Int) != 32))), (4, .slice ka k.length kc), (11, .slice qa (uhE (gotP k nNc).v).1.length qk), (13, .slice pa (uhE (gotP k nResp).v).1.length pk), (2, .pointer (some ⟨b2, 0, none⟩))] /\ S = [P, Q, Kc, raB b2 a0 none 0, [], F]) ?_ ?_
     ·cases c6 with
      | true =>
       refine gg ?_;exact midr ⟨rfl, rfl⟩
      | false =>
       refine gg ?_;exact midr ⟨rfl, rfl⟩
     rintro L S ⟨rfl, rfl⟩;generalize hc7 : (c6 || (((uhE (gotP k nResp).v).1.length : Int) != 32)) = c7;refine Qz (fun L S => L = [(98, .bool (c7 || !sizB (gotP k nNonce).v)), (4, .slice ka k.length kc), (11, .slice qa (uhE (gotP k nNc).v).1.length qk), (13, .slice pa (uhE (gotP k nResp).v).1.length pk), (2, .pointer (some ⟨b2, 0, none⟩))] /\ S = [P, Q, Kc, raB b2 a0 none 0, [], F]) ?_ ?_
     ·cases c7 with
      | true =>
       refine gg ?_;exact midr ⟨rfl, rfl⟩
      | false =>
       refine gg ?_;refine cA (xv hkc hl2 nNonce) ?_; rintro v A ⟨rfl, rfl⟩; refine gA ?_;refine cA (vU (gotP k nNonce).v) ?_; rintro v A ⟨rfl, rfl⟩; refine gA ?_;exact midr ⟨rfl, rfl⟩
     rintro L S ⟨rfl, rfl⟩;generalize hc8 : (c7 || !sizB (gotP k nNonce).v) = c8;refine runc_run ?_;rw [show rpaB k = (c8 || !sizB (gotP k nCnonce).v) from by subst hc8 hc7 hc6 hc5 hc4 hc3 hc2 hc1; unfold rpaB; rw [hlk]; simp only [Bool.and_assoc, Bool.or_assoc]]
     cases c8 with
     | true =>
      refine gg ?_;exact mid ⟨rfl, rfl, rfl⟩
     | false =>
      refine gg ?_;refine cA (xv hkc hl2 nCnonce) ?_; rintro v A ⟨rfl, rfl⟩; refine gA ?_;refine cA (vU (gotP k nCnonce).v) ?_; rintro v A ⟨rfl, rfl⟩; refine gA ?_;exact mid ⟨rfl, rfl, rfl⟩
    rintro D L S ⟨rfl, rfl, rfl⟩
    cases hb : rpaB k with
    | true =>
     rw [if_pos rfl];refine gg ?_;refine oT [] (encA a0 none 0).toArray ?_;refine gg ?_;refine oS (encA a0 none 0) rfl (JC _ _ _) ?_;refine gg ?_;refine ze (vs := [.agg (encA a0 none 0).toArray, .int .i64 4]) [[]] ⟨[], none, 0, rfl, own_nil, rfl⟩ (hr := by (intro κ hκ; simp only [resW, withV, lookT_hit, lookT_miss, aG]; exact zi (vs := encA a0 none 0) lkA rfl hκ))
    | false =>
     refine gg ?_;exact mid ⟨rfl, rfl, rfl, rfl⟩
   rintro D L S ⟨hgood, rfl, rfl, rfl⟩;rw [if_neg (by rw [hgood]; simp)]
   have hl4 : (uhE (gotP k nNc).v).1.length = 4 := by
    unfold rpaB at hgood;simp only [Bool.or_eq_false_iff] at hgood;have := hgood.2.2.2.2.1
    simp at this; omega
   refine gg ?_;refine cA (xv hkc hl2 nUser) ?_; rintro v A ⟨rfl, rfl⟩; refine gA ?_;refine cA (xv hkc hl2 nRealm) ?_; rintro v A ⟨rfl, rfl⟩; refine gA ?_;refine cA (xv hkc hl2 nNonce) ?_; rintro v A ⟨rfl, rfl⟩; refine gA ?_;refine cA (xv hkc hl2 nUri) ?_; rintro v A ⟨rfl, rfl⟩; refine gA ?_;refine cA (xv hkc hl2 nCnonce) ?_; rintro v A ⟨rfl, rfl⟩; refine gA ?_;refine cA (xv hkc hl2 nOpaque) ?_; rintro v A ⟨rfl, rfl⟩; refine gA ?_;refine cA (rnum_spec hQ hl4) ?_; rintro v A ⟨rfl, rfl⟩; refine gA ?_;rw [num_wrap];refine oT [(0, .string (str (gotP k nUser).v)), (1, .string (str (gotP k nRealm).v)), (2, .string (str (gotP k nNonce).v)), (3, .string (str (gotP k nUri).v)), (4, .string (str (gotP k nCnonce).v)), (5, .string (str (gotP k nOpaque).v)), (6, b32 (numW (uhE (gotP k nNc).v).1)), (7, .slice pa (uhE (gotP k nResp).v).1.length pk)] (encA (anL k) pa pk).toArray ?_;refine gg ?_;refine oS (encA (anL k) pa pk) rfl (JC _ _ _) ?_;refine gg ?_;refine ze (vs := [.agg (encA (anL k) pa pk).toArray, .int .i64 0]) [P] ⟨P, pa, pk, rfl, hP, rfl⟩ (hr := by (intro κ hκ; simp only [resW, withV, lookT_hit, lookT_miss, aG]; exact zi (vs := encA (anL k) pa pk) lkA rfl hκ))
 ·rw [bne_iff_ne.2 h0, if_pos h0];refine gg ?_;refine oT [] (encA a0 none 0).toArray ?_;refine gg ?_;refine oS (encA a0 none 0) rfl (JC _ _ _) ?_;refine gg ?_;refine ze (vs := [.agg (encA a0 none 0).toArray, .int .i64 (xh s).2]) [[]] ⟨[], none, 0, rfl, own_nil, rfl⟩ (hr := by (intro κ hκ; simp only [resW, withV, lookT_hit, lookT_miss, aG]; exact zi (vs := encA a0 none 0) lkA rfl hκ))
open Go.Nam Go.Tab
instance tpRCh8 : zH prog 70 [(0, 1), (1, 1), (2, 1), (3, 1)] := ⟨by kernel_rfl⟩
theorem rqchal {RT : Chunk} {y o rb us rn : Nat} {it ch : Int} {n : NS} (h : Im (some ⟨rn, 0, none⟩) RT (some n)) (hser : n.ser < 1000) (d : List UInt8) (hd : d.length <= 1000) (st : Bool) (now : Int) (hn : now < 18446744073709551616) (hn0 : 0 <= now) (hln : (zC n d now).1.1.length <= 4000) :
  Meets prog 9 [.pointer (some ⟨y, 0, none⟩), .string (str d), .bool st, .int .u64 now] [RT, ryB y o [116] ch, ofB o rb us rn it]
  fun v A => ∃ RT', v = (if (zC n d now).1.2 = 0 then .tuple #[.string (str (qh ⟨[116], (zC n d now).1.1, [], st⟩).1), .int .i64 (qh ⟨[116], (zC n d now).1.1, [], st⟩).2] else .tuple #[.string (str []), .int .i64 (zC n d now).1.2]) /\ Im (some ⟨rn, 0, none⟩) RT' (some (zC n d now).2) /\ A = [RT', ryB y o [116] ch, ofB o rb us rn it] := by
 have hx := xIssue h hser d hd now hn0 hn;simp only [Uc] at hx;refine eN func9 ntmps9 results9 fun F => ?_
 refine gg ?_;refine cA (hx) ?_; rintro v A ⟨rfl, RT', hRT', rfl⟩; refine gA ?_
 by_cases h0 : (zC n d now).1.2 = 0
 ·rw [if_pos h0, h0];refine gg ?_;refine oT [(0, .string (str [116])), (1, .string (str (zC n d now).1.1)), (3, .bool st)] (encC ⟨[116], (zC n d now).1.1, [], st⟩).toArray ?_;refine gg ?_;refine cA (QL ⟨[116], (zC n d now).1.1, [], st⟩ (by show 1 <= 4000; decide) hln (by show 0 <= 4000; decide)) ?_; rintro v A ⟨rfl, rfl⟩; refine gA ?_;refine ze (vs := [.string (str (qh ⟨[116], (zC n d now).1.1, [], st⟩).1), .int .i64 (qh ⟨[116], (zC n d now).1.1, [], st⟩).2]) [RT', ryB y o [116] ch, ofB o rb us rn it] ?_;exact ⟨RT', rfl, hRT', rfl⟩
 ·rw [if_neg h0, bne_iff_ne.2 h0];refine gg ?_;refine ze (vs := [.string (str []), .int .i64 (zC n d now).1.2]) [RT', ryB y o [116] ch, ofB o rb us rn it] ?_;exact ⟨RT', rfl, hRT', rfl⟩
theorem qform {k b s q : Nat} {iter ch : Int} (t hd mt tgt : List UInt8) (a : An) (hpa : paE hd = (a, 0)) (hdl : hd.length <= 100000) (hne : a.r ≠ t ∨ a.uri ≠ tgt) (now : Int) :
  Meets prog 12 [.pointer (some ⟨k, 0, none⟩), .agg #[.string (str mt), .string (str tgt), .string (str hd)], .int .u64 now] [quB k b s q iter t ch] fun v A => v = .tuple #[.agg zRes.toArray, .int .i64 4] /\ A = [quB k b s q iter t ch] := by
 have hps := QS hd hdl;rw [hpa] at hps;refine eN func12 ntmps12 results12 fun F => ?_
 refine gg ?_;refine oB fun b4 => ?_
 refine gg ?_;refine oA ([.string ⟨#[]⟩, .string ⟨#[]⟩, .slice none 0 0, .int .i64 0, .slice none 0 0, .slice none 0 0, .slice none 0 0, .int .u64 0, .slice none 0 0, .bool false, .string ⟨#[]⟩, .int .u32 0] : List Value).toArray fun b6 => ?_
 refine gg ?_;refine cA (hps) ?_; rintro v A ⟨P, pa, pk, rfl, hP, rfl⟩; refine gA ?_;simp only at hP;refine oA (encA a0 none 0).toArray fun b8 => ?_
 refine gg ?_;refine oS (encA a pa pk) rfl (wO _ _ _) ?_;refine gg ?_;refine zQ (fun D L S => D = [] /\ L = [(28, .bool true), (6, .pointer (some ⟨b6, 0, none⟩))] /\ S = [[(b6, .cells ([.string ⟨#[]⟩, .string ⟨#[]⟩, .slice none 0 0, .int .i64 0, .slice none 0 0, .slice none 0 0, .slice none 0 0, .int .u64 0, .slice none 0 0, .bool false, .string ⟨#[]⟩, .int .u32 0] : List Value).toArray 50 (0, 0))], quB k b s q iter t ch, F]) ?_ ?_
 ·refine cdL [[0], [1], [2], [3], [4], [5], [6], [7], [8], [9], [10], [11], [12], [13], [14, 0]] ?_;refine gg ?_
  by_cases h1 : a.r = t
  ·have h2 : a.uri ≠ tgt := hne.resolve_left (fun e => e h1);rw [show (a.r != t) = false by simp [h1]];refine gg ?_;rw [show (a.uri != tgt) = true by simpa using h2];refine gg ?_
   (try (try (refine zg fun K hK => ?_; refine hK _ _ ?_; clear hK K)))
   (try refine gg ?_)
   exact mid ⟨rfl, rfl, rfl⟩
  ·rw [show (a.r != t) = true by simpa using h1];refine gg ?_
   (try (try (refine zg fun K hK => ?_; refine hK _ _ ?_; clear hK K)))
   (try refine gg ?_)
   exact mid ⟨rfl, rfl, rfl⟩
 rintro D L S ⟨rfl, rfl, rfl⟩;refine gg ?_;refine oT [] ([.string ⟨#[]⟩, .string ⟨#[]⟩, .slice none 0 0, .int .i64 0, .slice none 0 0, .slice none 0 0, .slice none 0 0, .int .u64 0, .slice none 0 0, .bool false, .string ⟨#[]⟩, .int .u32 0] : List Value).toArray ?_;refine gg ?_;refine oS [.string ⟨#[]⟩, .string ⟨#[]⟩, .slice none 0 0, .int .i64 0, .slice none 0 0, .slice none 0 0, .slice none 0 0, .int .u64 0, .slice none 0 0, .bool false, .string ⟨#[]⟩, .int .u32 0] rfl (by simp [Value.cell1]) ?_;refine gg ?_;refine ze (vs := [.agg zRes.toArray, .int .i64 4]) [quB k b s q iter t ch] ?_ (hr := by (intro κ hκ; simp only [resW, withV, lookT_hit, lookT_miss, aG]; exact zi (vs := zRes) lkA rfl hκ));exact ⟨rfl, rfl⟩
theorem u8_shl1 {P : Program} {t : TypeId} {x y : Operand} {j : IntKind} {n : Int} {κ : Value -> Prop} (h0 : 0 <= n) (h1 : n < 8) : PureW P (do eqGuard .shl t x y (.int .u8 1) (.int j n); binOp .shl t (.int .u8 1) (.int j n)) κ = κ (b8 (aH (2 ^ n.toNat))) :=
 zm (fun w => by
  have e : min n.toNat IntKind.u8.bits = n.toNat := by show min n.toNat 8 = n.toNat; omega
  have h3 : ¬ n < 0 := by omega
  show (Op.shift .shl .u8 1 j n).run P w = _
  rw [Op.shift, if_neg h3, e]
  show Result.ok (Value.int .u8 (IntKind.u8.wrap (1 * 2 ^ n.toNat))) w = _
  rw [Int.one_mul, <- yY]
  simp) κ
theorem Ip (a : UInt8) (k : Nat) (hk : k < 8) : a ^^^ aH (2 ^ k) ≠ a := by
 intro h;have h2 : (a ^^^ aH (2 ^ k)) ^^^ a = 0 := by rw [h]; simp
 rw [UInt8.xor_comm a, UInt8.xor_assoc] at h2;simp only [UInt8.xor_self, UInt8.xor_zero] at h2;have : ∀ i : Fin 8, aH (2 ^ i.val) ≠ 0 := by decide
 exact this ⟨k, hk⟩ h2
theorem rpa_same (s : List UInt8) : rpaE s = paE s := by
 unfold rpaE paE
 split
 ·rfl
 ·exact (pa_same _).symm
theorem IW {l : List UInt8} {i : Nat} (hi : i < l.length) {x : UInt8} (hx : x ≠ l.getD i 0) : l ≠ l.set i x := by
 intro h;have e : (l.set i x).getD i 0 = x := by simp [cY, hi]
 rw [<- h] at e;exact hx e.symm
theorem ans_no {x : BX} {n : NS} {s : Sec} {m : List UInt8} {a : An} {now : Int} (h : (xS x s.ha m a).1 ≠ a.pf) : ansE x n s m a now = 13 /\ ansN x n s m a now = n := by
 unfold ansE ansN;rw [if_neg h, if_neg h]; exact ⟨rfl, rfl⟩
theorem Xi (C : Chunk) (h7 : Globs7 C) (method : List UInt8) (_ : (str method).size <= maxLen) (target : List UInt8) (_ : (str target).size <= maxLen) (bit : Int) (hbit : (Lit.int .u8 bit).wf = true) :
  Meets prog 3 [.string (str method), .string (str target), .int .u8 bit] [C] fun v A => v = .bool true /\ A = [C] := by
 obtain ⟨hg, hn⟩ := h7;have hbit : 0 <= bit /\ bit <= 255 := by simp only [Lit.wf, aN, decide_eq_true_eq] at hbit; exact ⟨hbit.1, hbit.2⟩
 have hl1 : (method.take 10).length <= 10 := List.length_take_le _ _;have hl2 : (target.take 30).length <= 30 := List.length_take_le _ _;refine eN func3 ntmps3 results3 fun F => ?_
 refine gg ?_;refine cA (yG hg hn) ?_; rintro v A ⟨rfl, rfl⟩; refine gA ?_;refine cA (JQ hg hn true 4 100 (by decide) (by decide) (by decide) (by decide)) ?_; rintro v A ⟨b, s, q, k, o, y, rb, rs, rn, B, R, Ks, RKs, NT, RT, rfl, hB, hR, hSt, hRs, hNT, hRT, rfl⟩; refine gA ?_;obtain ⟨hxt, _⟩ := lx_ts true 2;have hxs := lx_sym true;have hcl := XU (Grows.refl (lx true 2).2) mGet [47, 120] nonA [99] 1;have hts := Jv (lx true 2).2 (annS true).ha mGet (anC (uN 0) nonA [47, 120] [99] 1 []);have hrl := wz (lx true 2).2 (annS true).ha mGet (anC (uN 0) nonA [47, 120] [99] 1 [])
 have hstay : ∀ (y : BX) (pf : List UInt8), Grows (xS (lx true 2).2 (annS true).ha mGet (anC (uN 0) nonA [47, 120] [99] 1 [])).2 y -> xS y (annS true).ha mGet (anC (uN 0) nonA [47, 120] [99] 1 pf) = ((xS (lx true 2).2 (annS true).ha mGet (anC (uN 0) nonA [47, 120] [99] 1 [])).1, y) :=
  fun y pf g => Zt (a := anC (uN 0) nonA [47, 120] [99] 1 []) (b := anC (uN 0) nonA [47, 120] [99] 1 pf) ⟨rfl, rfl, rfl, rfl⟩ g
 have hmeth : ∀ (y : BX) (m pf : List UInt8), Grows (xS (lx true 2).2 (annS true).ha mGet (anC (uN 0) nonA [47, 120] [99] 1 [])).2 y -> y.ts.length < 99990 -> (xS y (annS true).ha m (anC (uN 0) nonA [47, 120] [99] 1 pf)).1 = (xS (lx true 2).2 (annS true).ha mGet (anC (uN 0) nonA [47, 120] [99] 1 [])).1 -> m = mGet :=
  fun y m pf g hy e => QH (a := anC (uN 0) nonA [47, 120] [99] 1 []) (b := anC (uN 0) nonA [47, 120] [99] 1 pf) hxs ⟨rfl, rfl, rfl, rfl⟩ g hy e
 have hcs := ZU hg hB hR (k := k) (y := y) (o := o) (s := s) (q := q) (us := rs) (ns := rn) (iter := 2) (it2 := 2) (ch := 0) (by omega) (uN 0) (uP 0) mGet [47, 120] nonA [99] 1 (by decide) (by decide) (by decide) (by decide) (by decide) (by decide);rw [hcl] at hcs;generalize xS (lx true 2).2 (annS true).ha mGet (anC (uN 0) nonA [47, 120] [99] 1 []) = r at *;have hq := qchal2 (k := k) (b := b) (s := s) (iter := 2) (ch := 0) hNT (by decide) [100] (by decide) false 5 (by decide) (by decide) (by rw [iss1]; decide);rw [iss1, if_pos rfl, ch1] at hq;have hrq := rqchal (y := y) (o := o) (rb := rb) (us := rs) (it := 2) (ch := 0) hRT (by decide) [100] (by decide) false 5 (by decide) (by decide) (by rw [iss1]; decide);rw [iss1, if_pos rfl, ch1] at hrq;have hf := Yk (uN 0) nonA [47, 120] [99] r.1 1 (by decide) (by decide) (by decide) (by decide) (by decide) (by decide) (by decide) (by decide) (by decide) (by decide) hrl (by decide);obtain ⟨hpa, hpl⟩ := Wc hf;generalize hhd : (qi (anC (uN 0) nonA [47, 120] [99] 1 r.1)).1 = hd at *;generalize hns : (zC (ns0 4 100) [100] 5).2 = ns at *;have hu1 : (useN ns nonA 1 6).1 = 0 := by rw [<- hns]; exact use1
 refine oA ([.pointer none, .pointer none, .pointer none, .int .i64 0, .pointer none, .pointer none, .pointer none] : List Value).toArray fun b7 => ?_
 refine gg ?_;refine oS (botV b s q 2 o k y) rfl (by simp [Value.cell1]) ?_;refine gg ?_;refine gM ?_;refine cA (hq) ?_; rintro v A ⟨NT', rfl, hNT', rfl⟩; refine gA ?_;refine gM ?_;refine cA (hrq) ?_; rintro v A ⟨RT', rfl, hRT', rfl⟩; refine gA ?_;refine cA (qS method 10) ?_; rintro v A ⟨rfl, rfl⟩; refine gA ?_;refine cA (qS target 30) ?_; rintro v A ⟨rfl, rfl⟩; refine gA ?_;generalize method.take 10 = me at *;generalize target.take 30 = tg at *;refine oL (botV b s q 2 o k y) rfl ?_;refine gg ?_;refine cA (hcs) ?_; rintro v A ⟨B', R', rfl, hB', hR', rfl⟩; refine gA ?_;refine zQ (fun D L S => ∃ (B : Chunk) (x : BX) (Ks NT : Chunk) (ch rd : Int), qL B b x /\ Grows r.2 x /\ x.ts.length <= 14 /\ IsSt Ks s (lx true 2).1 2 rd /\ (0 <= rd /\ rd <= 1) /\ Qi (some ⟨q, 0, none⟩) NT (some ns) /\ (0 <= ch /\ ch <= 1) /\ D = [] /\ L = [(9, .string (str hd)), (7, .pointer (some ⟨b7, 0, none⟩)), (1, .string (str tg)), (2, .int .u8 bit)] /\ S = [B, C, quB k b s q 2 [116] ch, NT, [(b7, .cells (botV b s q 2 o k y).toArray 32 (0, 0))], Ks, F]) ?_ ?_
 ·refine if_nb (fun hc => ?_) (fun hc => ?_)
  ·refine gg ?_;refine gM ?_;refine oT [(0, .string (str me)), (1, .string ⟨#[47, 120]⟩), (2, .string (str hd))] ([.string (str me), .string (str [47, 120]), .string (str hd)] : List Value).toArray ?_;refine gg ?_;refine cA (Qf (sym := true) (x := r.2) (ch := 0) (reads := 0) hg.1 hn hB' (by omega) hSt hNT' (by decide) (by decide) (by decide) (by decide) hd [47, 120] r.1 me hpa (by omega) (by decide) (by omega) (by omega)) ?_; rintro v A ⟨B2, Ks2, NT2, vs', rv, rfl, ⟨hv1, hv2⟩, _, _, hB2, hSt2, hNT2, rfl⟩; refine gA ?_;have hx2 := Jv r.2 (annS true).ha me (anC (uN 0) nonA [47, 120] [99] 1 r.1);have hgr := Zu r.2 (annS true).ha me (anC (uN 0) nonA [47, 120] [99] 1 r.1);obtain ⟨e1, e2⟩ := ans_no (n := ns) (now := 6) (show (xS r.2 (annS true).ha me (anC (uN 0) nonA [47, 120] [99] 1 r.1)).1 ≠ (anC (uN 0) nonA [47, 120] [99] 1 r.1).pf from fun e => hc (hmeth r.2 me r.1 (Grows.refl _) (by omega) e));rw [e1];rw [e2] at hNT2;refine oA ([.string ⟨#[]⟩, .string ⟨#[]⟩, .slice none 0 0, .int .i64 0, .slice none 0 0, .slice none 0 0, .slice none 0 0, .int .u64 0, .slice none 0 0, .bool false, .string ⟨#[]⟩, .int .u32 0] : List Value).toArray fun b10 => ?_
   refine gg ?_;refine oS rv hv1 hv2 ?_;refine gg ?_;exact mid ⟨B2, _, Ks2, NT2, 1, 1, hB2, hgr, by omega, hSt2, by decide, hNT2, by decide, rfl, rfl, rfl⟩
  ·refine gg ?_;exact mid ⟨B', r.2, Ks, NT', 0, 0, hB', Grows.refl _, by omega, hSt, by decide, hNT', by decide, rfl, rfl, rfl⟩
 clear hB' hSt hNT' hB hNT;rintro D L S ⟨B, x, Ks, NT, ch, rd, hB, hgx, hxl, hSt, hrd, hNT, hch, rfl, rfl, rfl⟩;refine gg ?_;refine zQ (fun D L S => D = [] /\ L = [(9, .string (str hd)), (7, .pointer (some ⟨b7, 0, none⟩)), (2, .int .u8 bit)] /\ S = [B, C, quB k b s q 2 [116] ch, NT, [(b7, .cells (botV b s q 2 o k y).toArray 32 (0, 0))], Ks, F]) ?_ ?_
 ·refine if_nb (fun hc => ?_) (fun hc => ?_)
  ·refine gg ?_;refine gM ?_;refine oT [(0, .string ⟨#[71, 69, 84]⟩), (1, .string (str tg)), (2, .string (str hd))] ([.string (str mGet), .string (str tg), .string (str hd)] : List Value).toArray ?_;refine gg ?_;refine cA (qform [116] hd mGet tg _ hpa (by omega) (.inr (fun e => hc e.symm)) 6) ?_; rintro v A ⟨rfl, rfl⟩; refine gA ?_;refine oA ([.string ⟨#[]⟩, .string ⟨#[]⟩, .slice none 0 0, .int .i64 0, .slice none 0 0, .slice none 0 0, .slice none 0 0, .int .u64 0, .slice none 0 0, .bool false, .string ⟨#[]⟩, .int .u32 0] : List Value).toArray fun b12 => ?_
   refine gg ?_;refine oS zRes rfl (by simp [Value.cell1]) ?_;refine gg ?_;exact mid ⟨rfl, rfl, rfl⟩
  ·refine gg ?_;exact mid ⟨rfl, rfl, rfl⟩
 rintro D L S ⟨rfl, rfl, rfl⟩;refine gg ?_;have hrp := Oe hd (by omega);rw [rpa_same, hpa] at hrp;refine cA (hrp) ?_; rintro v A ⟨P, pa, pk, rfl, hP, rfl⟩; refine gA ?_;simp only at hP;refine oA (encA a0 none 0).toArray fun b14 => ?_
 refine gg ?_;refine oS (encA (anC (uN 0) nonA [47, 120] [99] 1 r.1) pa pk) rfl (wO _ _ _) ?_;refine gg ?_;refine gM ?_;have hik : (bit % 32).toNat < r.1.length := by omega
 have hkk : (bit / 32 % 8).toNat < 8 := by omega
 refine zf fun K hK => ?_; rw [u8_shl1 (by omega) (by omega)]; refine hK _ _ ?_; clear hK K
 refine gg ?_;have hne := Ip (r.1.getD (bit % 32).toNat 0) _ hkk;generalize (r.1.getD (bit % 32).toNat 0) ^^^ aH (2 ^ (bit / 32 % 8).toNat) = w at *;refine zf fun K hK => ?_; refine jA hP pkA hik fun P' hP' => ?_; refine hK _ _ ?_; clear hK K
 refine gg ?_;have hne2 := IW hik hne;have hsl : (r.1.set (bit % 32).toNat w).length = r.1.length := dF;rw [<- hsl] at hP';generalize r.1.set (bit % 32).toNat w = pf at *;refine oL (encA (anC (uN 0) nonA [47, 120] [99] 1 r.1) pa pk) rfl ?_;refine gg ?_;have hpfl : pf.length = 32 := by omega
 have hat := yz (anC (uN 0) nonA [47, 120] [99] 1 pf) (show (uN 0).length <= 4000 by decide) (show 1 <= 4000 by decide) (show nonA.length <= 4000 by decide) (show 2 <= 4000 by decide) (show 1 <= 4000 by decide) (show 0 <= 4000 by decide) (show pf.length <= 1000 by omega) (pa := pa) (pk := pk) (hP'.rd (aB ..))
 have hag : (encA (anC (uN 0) nonA [47, 120] [99] 1 pf) pa pk) = encA (anC (uN 0) nonA [47, 120] [99] 1 r.1) pa pk := by
  show [_, _, _, _, _, _, _, Value.slice pa pf.length pk] = _
  rw [hsl]
 rw [hag] at hat;have hf2 := Yk (uN 0) nonA [47, 120] [99] pf 1 (by decide) (by decide) (by decide) (by decide) (by decide) (by decide) (by decide) (by decide) (by decide) (by decide) hpfl (by decide);obtain ⟨hpa2, hpl2⟩ := Wc hf2;refine cA (hat) ?_; rintro v A ⟨rfl, rfl⟩; refine gA ?_;generalize (qi (anC (uN 0) nonA [47, 120] [99] 1 pf)).1 = hd2 at *;refine gM ?_;refine oT [(0, .string ⟨#[71, 69, 84]⟩), (1, .string ⟨#[47, 120]⟩), (2, .string (str hd2))] ([.string (str mGet), .string (str [47, 120]), .string (str hd2)] : List Value).toArray ?_;refine gg ?_;refine cA (Qf (sym := true) (x := x) (ch := ch) (reads := rd) hg.1 hn hB (by omega) hSt hNT (by omega) (by omega) (by omega) (by omega) hd2 [47, 120] pf mGet hpa2 (by omega) (by decide) (by omega) (by decide)) ?_; rintro v A ⟨B2, Ks2, NT2, vs', rv, rfl, ⟨hv1, hv2⟩, _, _, hB2, hSt2, hNT2, rfl⟩; refine gA ?_;have hy := hstay x pf hgx;rw [hy] at hB2;obtain ⟨e1, e2⟩ := ans_no (n := ns) (now := 6) (show (xS x (annS true).ha mGet (anC (uN 0) nonA [47, 120] [99] 1 pf)).1 ≠ (anC (uN 0) nonA [47, 120] [99] 1 pf).pf from by rw [hy]; exact hne2);rw [e1];rw [e2] at hNT2;refine oA ([.string ⟨#[]⟩, .string ⟨#[]⟩, .slice none 0 0, .int .i64 0, .slice none 0 0, .slice none 0 0, .slice none 0 0, .int .u64 0, .slice none 0 0, .bool false, .string ⟨#[]⟩, .int .u32 0] : List Value).toArray fun b18 => ?_
 refine gg ?_;refine oS rv hv1 hv2 ?_;refine gg ?_;refine zf fun K hK => ?_; refine vD (vs := botV b s q 2 o k y) (o := 0) (ws := offV b s q 2) lkA (by show 0 + 4 <= 7; decide) rfl ?_; refine hK _ _ ?_; clear hK K
 refine gg ?_;refine cA (KU b s q 2 (by decide) [117] (by decide) (by decide)) ?_; rintro v A ⟨k2, rfl, rfl⟩; refine gA ?_;refine oT [(0, .string ⟨#[71, 69, 84]⟩), (1, .string ⟨#[47, 120]⟩), (2, .string (str hd))] ([.string (str mGet), .string (str [47, 120]), .string (str hd)] : List Value).toArray ?_;refine gg ?_;refine cA (qform (k := k2) (ch := 0) [117] hd mGet [47, 120] _ hpa (by omega) (.inl (show ([116] : List UInt8) ≠ [117] by decide)) 6) ?_; rintro v A ⟨rfl, rfl⟩; refine gA ?_;refine oA ([.string ⟨#[]⟩, .string ⟨#[]⟩, .slice none 0 0, .int .i64 0, .slice none 0 0, .slice none 0 0, .slice none 0 0, .int .u64 0, .slice none 0 0, .bool false, .string ⟨#[]⟩, .int .u32 0] : List Value).toArray fun b22 => ?_
 refine gg ?_;refine oS zRes rfl (by simp [Value.cell1]) ?_;refine gg ?_;refine gM ?_;refine oT [(0, .string ⟨#[71, 69, 84]⟩), (1, .string ⟨#[47, 120]⟩), (2, .string (str hd))] ([.string (str mGet), .string (str [47, 120]), .string (str hd)] : List Value).toArray ?_;refine gg ?_;refine cA (Qf (sym := true) (x := x) (ch := ch + 1) (reads := rd + 1) hg.1 hn hB2 (by omega) hSt2 hNT2 (by omega) (by omega) (by omega) (by omega) hd [47, 120] r.1 mGet hpa (by omega) (by decide) (by omega) (by decide)) ?_; rintro v A ⟨B3, Ks3, NT3, vs3, rv3, rfl, ⟨hv3, hv4⟩, _, _, hB3, hSt3, hNT3, rfl⟩; refine gA ?_
 have he : ansE x ns (annS true) mGet (anC (uN 0) nonA [47, 120] [99] 1 r.1) 6 = 0 := by
  unfold ansE;rw [hstay x r.1 hgx, if_pos rfl];exact hu1
 rw [he];refine oA ([.string ⟨#[]⟩, .string ⟨#[]⟩, .slice none 0 0, .int .i64 0, .slice none 0 0, .slice none 0 0, .slice none 0 0, .int .u64 0, .slice none 0 0, .bool false, .string ⟨#[]⟩, .int .u32 0] : List Value).toArray fun b24 => ?_
 refine gg ?_;refine oS rv3 hv3 hv4 ?_;refine gg ?_;refine zb [C] ?_; exact ⟨rfl, rfl⟩
end Go.Proofs.YtebikhhoppiapaaGreatDoor
