/- Texts in a row: the walk's rules and contracts, as each says. Conditions: as each says. -/
import Derived.Test.YtebikhhoppiapaaGreatDoorMeb4cd2aa
import Derived.Test.YtebikhhoppiapaaGreatDoorMabaad0e2
import Derived.Test.YtebikhhoppiapaaGreatDoorM0ce5150a
import Derived.Test.YtebikhhoppiapaaGreatDoorM73c2a561
import Derived.Test.YtebikhhoppiapaaGreatDoorCards
import Derived.Test.YtebikhhoppiapaaGreatDoorTie
import Derived.WalkKit
import Derived.ProofKit
import Derived.OpenShut
import Derived.Deep.DeepHandedRow
import Derived.Lib.LaidTab
set_option linter.unusedSimpArgs false
set_option linter.defProp false
set_option linter.unusedVariables false
set_option maxRecDepth 100000
set_option maxHeartbeats 8000000
open List renaming length_append -> aA, mem_cons_self -> aB, cons_append -> aC, nil_append -> aD, getElem?_eq_getElem -> aF, length_singleton -> aI, length_cons -> aJ, mem_cons_of_mem -> aK, append_nil -> aL, append_assoc -> aM, flatten_cons -> aO, replicate -> aQ, getD_eq_getElem?_getD -> aS, length_drop -> aT, length_take -> aU, length_nil -> aV, length_replicate -> aW, not_mem_nil -> aX, map_cons -> aZ, mem_cons -> bA, range -> bC, mem_append_left -> bD, length_map -> bE, take_length -> bF, flatten_append -> bG, getElem?_cons_succ -> bJ, drop_eq_getElem_cons -> bK, flatten_nil -> bO, flatMap_cons -> bP, getElem?_append_right -> bR, take_of_length_le -> bS, take_add_one -> cC, getElem?_cons_zero -> cE, perm_append_comm -> cG, flatMap_append -> cH, map_append -> cL, getElem?_toArray -> cM, getElem?_map -> cN, dropWhile_cons -> cQ, take_append_drop -> cR, getElem?_append_left -> cT, length -> cV, getElem?_take_of_lt -> cX, getD -> cY, drop_eq_nil_of_le -> dA, getElem?_modify -> dC, getElem_mem -> dD, length_set -> dF, toList_toArray -> dG, mem_singleton -> dH, all_cons -> dI, drop_drop -> dL, drop_length -> dR, map_nil -> dS
open And renaming intro -> aE
open Nat renaming reduceBEq -> aG, reduceEqDiff -> aP, le_refl -> aR, reduceSub -> bH, sub_zero -> bI, reduceLT -> bM, reduceAdd -> bQ, zero_add -> cD, mul_le_mul_right -> cF, add_mul -> cP, mod_eq_of_lt -> cU, shiftLeft_eq -> dJ, add_sub_cancel -> dK, le_trans -> dN, add_zero -> dQ, sub_self -> dT
open UInt8 renaming ofNat -> aH, toNat_ofNat' -> bL
open Bool renaming and_eq_true -> aN, true_and -> dM, false_or -> dO, or_eq_true -> dP
open Int renaming toNat_natCast -> aY, reduceToNat -> bN, reduceBEq -> bT, reduceBNe -> bU, reduceAdd -> bV, reduceSub -> bW, reduceMul -> bX, reduceDiv -> bY, reduceMod -> bZ, reducePow -> cB, reduceLT -> cJ, reduceLE -> cK
open BitVec renaming ofInt -> bB, toNat_ofNat -> cW, ofNat -> cZ
open Option renaming getD_some -> cI, map_some -> dE
open Array renaming getElem?_setIfInBounds_ne -> cO, ext' -> cS
namespace Go.Proofs.YtebikhhoppiapaaGreatDoor
open Go Go.Ost Go.Tab _root_.Go.Proofs.Tryz
theorem VU (b : Nat) (room : Int) (la : Option Addr) (lc : Nat) (fa : Option Addr) (fl fc r : Nat) (first last : Int) (C : Chunk) (l : List (En V)) (ho : OwnE C la lc l) (i : Nat) (e : En V) (hx : l[i]? = some e)
  (ha : e.ahead = -1 ∨ ∃ j : Nat, e.ahead = j /\ j < l.length) (hn : e.next = -1 ∨ ∃ j : Nat, e.next = j /\ j < l.length) :
  Meets prog 200 [.pointer (some ⟨b, 0, none⟩), .int .i64 i] [[(b, tabO room la l.length lc fa fl fc r first last)], C]
   fun v A => ∃ C', OwnE C' la lc (unL l e.ahead e.next) /\ A = [[(b, tabO room la l.length lc fa fl fc r (unF first e.ahead e.next) (unE last e.ahead e.next))], C'] := by
 have hs := qR;have hi := (List.getElem?_eq_some_iff.1 hx).1;obtain ⟨key, v, a, n⟩ := e;simp only at ha hn ⊢;refine eN func200 ntmps200 results200 fun F => ?_
 refine gg ?_;refine cdL [[0], [1], [2], [3], [4], [5], [6], [7], [8], [9], [10], [11], [12], [13], [14], [15], [16, 0, 11, 15], [17, 0]] ?_;refine gg ?_;refine zQ (fun D L S => ∃ C1 l1, l1 = (if a = -1 then l else setN l a.toNat n) /\ OwnE C1 la lc l1 /\ l1.length = l.length /\ D = [] /\ L = [(0, .pointer (some ⟨b, 0, none⟩)), (4, .int .i64 a), (5, .int .i64 n)] /\ S = [C1, [(b, tabO room la l.length lc fa fl fc r (unF first a n) last)], F]) ?_ ?_
 ·rcases ha with rfl | ⟨j, rfl, hj⟩
  ·refine gg ?_;exact mid ⟨C, l, rfl, ho, rfl, rfl, rfl, rfl⟩
  ·have hxj : l[j]? = some l[j] := aF hj;refine gg ?_;refine zf fun K hK => ?_; refine wl ho pkA hs hxj trivial (x' := { l[j] with next := n }) rfl (by decide) (fun C3 ho3 => ?_); refine hK _ _ ?_; clear hK K
   rw [Jp n hxj] at ho3;refine gg ?_;have e1 : unF first (j : Int) n = first := by unfold unF; rw [if_neg (by omega)]
   rw [e1];exact mid ⟨C3, setN l j n, by rw [if_neg (by omega)]; simp, by unfold OwnE; rw [qx]; exact ho3, qx _ _ _, rfl, rfl, rfl⟩
 ·rintro D L S ⟨C1, l1, hl1, ho1, hll, rfl, rfl, rfl⟩;rw [<- hll]
  rcases hn with rfl | ⟨j, rfl, hj⟩
  ·refine gg ?_;refine zL [[(b, tabO room la l1.length lc fa fl fc r (unF first a (-1)) a)], C1] ⟨C1, ?_, rfl⟩;have : unL l a (-1) = l1 := by unfold unL; rw [if_pos rfl, <- hl1]
   rw [this]; exact ho1
  ·have hxj : l1[j]? = some l1[j] := aF (by omega);refine gg ?_;refine zf fun K hK => ?_; refine wl ho1 pkA hs hxj trivial (x' := { l1[j] with ahead := a }) rfl (by decide) (fun C3 ho3 => ?_); refine hK _ _ ?_; clear hK K
   rw [YH a hxj] at ho3;refine gg ?_;have e1 : unE last a (j : Int) = last := by unfold unE; rw [if_neg (by omega)]
   rw [e1];refine zL [[(b, tabO room la l1.length lc fa fl fc r (unF first a j) last)], C3] ⟨C3, ?_, rfl⟩;have : unL l a j = setA l1 j a := by unfold unL; rw [if_neg (by omega), <- hl1]; simp
   rw [this]; unfold OwnE; rw [jM]; exact ho3
theorem room_core (b : Nat) (room : Nat) (hr : room <= 4096) (la : Option Addr) (ll lc : Nat) (fa : Option Addr) (fl fc r : Nat) (first last : Int) (M : Chunk) (m : List (List UInt8 × Nat)) (hm : IsAt M r m) (hml : m.length <= room) :
  Meets prog 196 [.pointer (some ⟨b, 0, none⟩)] [[(b, tabO room la ll lc fa fl fc r first last)], M] fun v A => v = .int .i64 (room - m.length : Nat) /\ A = [[(b, tabO room la ll lc fa fl fc r first last)], M] := by
 have hl : (mval nat64 m).length = m.length := by simp [mval]
 refine eN func196 ntmps196 results196 fun F => ?_
 refine gg ?_;refine cdL [[0], [1], [2], [3], [4], [5], [6], [7], [8], [9], [10, 0]] ?_;refine gg ?_;refine zb [[(b, tabO room la ll lc fa fl fc r first last)], M] ?_;exact ⟨by rw [hl]; congr 1; first | omega | (rw [ko (by omega) (by omega)]; omega), rfl⟩
theorem ZJ (b : Nat) (room : Nat) (hr : room <= 4096) (la : Option Addr) (ll lc : Nat) (fa : Option Addr) (fl fc r : Nat) (first last : Int) (M : Chunk) (m : List (List UInt8 × Nat)) (hm : IsAt M r m) (hml : m.length <= room) :
  Meets prog 141 [.pointer (some ⟨b, 0, none⟩)] [[(b, tabO room la ll lc fa fl fc r first last)], M] fun v A => v = .bool (decide (m.length = room)) /\ A = [[(b, tabO room la ll lc fa fl fc r first last)], M] := by
 refine eN func141 ntmps141 results141 fun F => ?_
 refine gg ?_;refine cA (room_core b room hr la ll lc fa fl fc r first last M m hm hml) ?_; rintro v A ⟨rfl, rfl⟩; refine gA ?_;refine zb [[(b, tabO room la ll lc fa fl fc r first last)], M] ?_;refine ⟨?_, rfl⟩
 congr 1
 by_cases h : m.length = room
 ·rw [decide_eq_true h, h]; simp
 ·rw [decide_eq_false h, beq_eq_false_iff_ne]; omega
abbrev OwnF (C : Chunk) (a : Option Addr) (cap : Nat) (free : List Nat) : Prop := Ost.Own 1 3 C a free.length cap (free.map nat64)
structure Lies4 (room : Nat) (la : Option Addr) (lc : Nat) (l : List (En V)) (fa : Option Addr) (fc : Nat) (free : List Nat) (r : Nat) (m : List (List UInt8 × Nat)) (pl : List Nat) (es : List (List UInt8 × V)) (Cl Cf Cm : Chunk) : Prop where
 ol : OwnE Cl la lc l
 ofr : OwnF Cf fa fc free
 im : IsAt Cm r m
 rep : Rep l free m pl es
 big : room <= 4096
 fits : es.length <= room
 all : l.length = es.length + free.length
 ll : l.length <= room
def IsTab (C : Chunk) (b room : Nat) (es : List (List UInt8 × V)) : Prop := ∃ la lc l fa fc free r m pl Cl Cf Cm, Lies4 room la lc l fa fc free r m pl es Cl Cf Cm /\
 C = [(b, tabO room la l.length lc fa free.length fc r (hd pl (-1)) (lst (-1) pl))] ++ (Cl ++ (Cf ++ Cm))
theorem IsTab.keys {C : Chunk} {b room : Nat} {es : List (List UInt8 × V)} (h : IsTab C b room es) : (es.map (·.1)).Nodup := by
 obtain ⟨la, lc, l, fa, fc, free, r, m, pl, Cl, Cf, Cm, h, rfl⟩ := h; exact h.rep.keys
theorem IsTab.fits {C : Chunk} {b room : Nat} {es : List (List UInt8 × V)} (h : IsTab C b room es) : es.length <= room := by
 obtain ⟨la, lc, l, fa, fc, free, r, m, pl, Cl, Cf, Cm, h, rfl⟩ := h; exact h.fits
theorem VG (e : En V) : ∀ u ∈ encE e, Value.cell1 u := by simp [encE, encV, Value.cell1]
section put
variable {b room : Nat} {la : Option Addr} {lc : Nat} {l : List (En V)} {fa : Option Addr} {fc : Nat} {free : List Nat} {r : Nat} {m : List (List UInt8 × Nat)} {pl : List Nat} {es : List (List UInt8 × V)} {Cl Cf Cm : Chunk}
theorem Ow (h : Lies4 room la lc l fa fc free r m pl es Cl Cf Cm) (k : List UInt8) (v : V) (hk : mget es k ≠ none) :
  Meets prog 98 [.pointer (some ⟨b, 0, none⟩),   .string (str k), valV v] [[(b, tabO room la l.length lc fa free.length fc r (hd pl (-1)) (lst (-1) pl))], Cm]
   fun v A => v = .int .i64 7 /\ A = [[(b, tabO room la l.length lc fa free.length fc r (hd pl (-1)) (lst (-1) pl))], Cm] := by
 cases hm : mget m k with
 | none => exact absurd (h.rep.miss.1 hm) hk
 | some i =>
  refine eN func98 ntmps98 results98 fun F => ?_
  refine gg ?_;refine oB fun b5 => ?_
  refine gg ?_;refine cA (jn b room la l.length lc fa free.length fc r _ _ Cm m h.im k) ?_; rintro v A ⟨rfl, rfl⟩; refine gA ?_;rw [hm];refine gg ?_;refine zb [[(b, tabO room la l.length lc fa free.length fc r (hd pl (-1)) (lst (-1) pl))], Cm] ?_; exact ⟨rfl, rfl⟩
theorem put_full (h : Lies4 room la lc l fa fc free r m pl es Cl Cf Cm) (k : List UInt8) (v : V) (hk : mget es k = none) (hf : es.length = room) :
  Meets prog 98 [.pointer (some ⟨b, 0, none⟩),   .string (str k), valV v] [[(b, tabO room la l.length lc fa free.length fc r (hd pl (-1)) (lst (-1) pl))], Cm]
   fun v A => v = .int .i64 8 /\ A = [[(b, tabO room la l.length lc fa free.length fc r (hd pl (-1)) (lst (-1) pl))], Cm] := by
 have hm := h.rep.miss.2 hk;have hml := h.rep.mlen;refine eN func98 ntmps98 results98 fun F => ?_
 refine gg ?_;refine oB fun b5 => ?_
 refine gg ?_;refine cA (jn b room la l.length lc fa free.length fc r _ _ Cm m h.im k) ?_; rintro v A ⟨rfl, rfl⟩; refine gA ?_;rw [hm];refine gg ?_;refine cA (ZJ b room h.big la l.length lc fa free.length fc r _ _ Cm m h.im (by omega)) ?_; rintro v A ⟨rfl, rfl⟩; refine gA ?_;rw [decide_eq_true (show m.length = room by omega)];refine gg ?_;refine zb [[(b, tabO room la l.length lc fa free.length fc r (hd pl (-1)) (lst (-1) pl))], Cm] ?_; exact ⟨rfl, rfl⟩
theorem put_ok (h : Lies4 room la lc l fa fc free r m pl es Cl Cf Cm) (k : List UInt8) (v : V) (hk : mget es k = none) (hf : es.length < room) :
  Meets prog 98 [.pointer (some ⟨b, 0, none⟩), .string (str k), valV v] [[(b, tabO room la l.length lc fa free.length fc r (hd pl (-1)) (lst (-1) pl))], Cl, Cf, Cm]
   fun v' A => v' = .int .i64 0 /\ ∃ la lc l fa fc free m pl Cl Cf Cm, Lies4 room la lc l fa fc free r m pl (es ++ [(k, v)]) Cl Cf Cm /\ A = [[(b, tabO room la l.length lc fa free.length fc r (hd pl (-1)) (lst (-1) pl))], Cl, Cf, Cm] := by
 have hm := h.rep.miss.2 hk;have hml := h.rep.mlen;have hs := qR;have hol := h.ol;have hof := h.ofr;have him := h.im;have hll := h.ll;have hbig := h.big;refine eN func98 ntmps98 results98 fun F => ?_
 refine gg ?_;refine oB fun b5 => ?_
 refine gg ?_;refine cA (jn b room la l.length lc fa free.length fc r _ _ Cm m h.im k) ?_; rintro v A ⟨rfl, rfl⟩; refine gA ?_;rw [hm];refine gg ?_;refine cA (ZJ b room h.big la l.length lc fa free.length fc r _ _ Cm m h.im (by omega)) ?_; rintro v A ⟨rfl, rfl⟩; refine gA ?_;rw [decide_eq_false (show ¬ m.length = room by omega)];refine gg ?_
 refine zQ (fun D L S => ∃ (i : Nat) (la' : Option Addr) (lc' : Nat) (l' : List (En V)) (Cl' : Chunk) (fa' : Option Addr) (fc' : Nat) (free' : List Nat) (Cf' : Chunk), OwnE Cl' la' lc' l' /\ OwnF Cf' fa' fc' free' /\ (∀ j ∈ pl, l'[j]? = l[j]?) /\ kv l' i = some (k, v) /\
   (pl ++ i :: free').Nodup /\ (∀ j ∈ free', j < l'.length) /\ l'.length = es.length + 1 + free'.length /\ l'.length <= room /\ D = [] /\ L = [(0, .pointer (some ⟨b, 0, none⟩)), (1, .string (str k)), (7, .int .i64 i)] /\
   S = [[(b, tabO room la' l'.length lc' fa' free'.length fc' r (hd pl (-1)) (lst (-1) pl))], Cl', Cf', Cm, F]) ?_ ?_
 ·rcases List.eq_nil_or_concat free with rfl | ⟨f, i, rfl⟩
  ·refine gg ?_;have hall := h.all;simp only [aV, dQ] at hall;refine cdL [[0], [1], [2], [3], [4], [5], [6], [7], [8, 0, 4], [9, 0], [10], [11], [12, 0]] ?_;refine gg ?_;refine qO fun K hK => ?_; refine zi (vs := encV v) lkA rfl ?_; refine hK _ _ ?_; clear hK K
   refine qO fun K hK => ?_; rw [zV (ps := [(0, .string (str k)), (1, valV v)]) (cs := (encE ⟨k, v, 0, 0⟩).toArray) rfl]; refine hK _ _ ?_; clear hK K
   refine zg fun K hK => ?_; refine zN (e := 244) (s := 7) (hs := inferInstance) (vs := encE ⟨k, v, 0, 0⟩) (by rfl) (by decide) (by decide) rfl (fun b1 C1 ho1 => ?_); (repeat refine Xf ?_); refine hK _ _ ?_; clear hK K
   refine gg ?_;refine zg fun K hK => ?_; refine zn (e := 244) (s := 7) (hs := inferInstance) (by rfl) (by decide) hol (.inr pkA) (ho1.rd mmA) (VG _) (by simp only [maxLen]; omega) (by omega) (fun C2 a2 cap2 ho2 => ?_); (repeat refine Xf ?_); refine hK _ _ ?_; clear hK K
   have e2 : l.flatMap encE ++ encE ⟨k, v, 0, 0⟩ = (l ++ [(⟨k, v, 0, 0⟩ : En V)]).flatMap encE := by simp
   have e3 : l.length + 1 = (l ++ [(⟨k, v, 0, 0⟩ : En V)]).length := by simp
   rw [e2, e3] at ho2;rw [e3];refine gg ?_;refine mid ⟨l.length, a2, cap2, l ++ [⟨k, v, 0, 0⟩], C2, fa, fc, [], Cf, ho2, hof, ?_, ?_, ?_, by simp, by simp; omega, by simp; omega, rfl, rfl, rfl⟩
   ·intro j hj;exact cT (lk_lt _ _ _ h.rep.lk j hj)
   ·simp [kv]
   ·have hnd := h.rep.nd;rw [aL] at hnd;rw [List.nodup_append]
    exact ⟨hnd, by simp, fun x hx y hy e => by
     simp at hy; subst hy; subst e
     exact absurd (lk_lt _ _ _ h.rep.lk _ hx) (by omega)⟩
  ·rw [List.concat_eq_append] at *;have hfl : (f ++ [i]).length = f.length + 1 := by simp
   have hall := h.all;have hof' : Ost.Own 1 3 Cf fa (f.length + 1) fc ((f ++ [i]).map nat64) := by rw [<- hfl]; exact hof
   have hfc := hof'.1
   have hge : ((f ++ [i]).map nat64)[(((f.length + 1 : Nat) : Int) - 1).toNat]? = some (nat64 i) := by
    rw [show (((f.length + 1 : Nat) : Int) - 1).toNat = f.length from by omega]; simp
   rw [hfl] at hall ⊢;refine if_d (fun _ => ?_) (fun hc => absurd (show (0 : Int) < ((f.length + 1 : Nat) : Int) by omega) hc);refine gg ?_;refine cdL [[0], [1], [2], [3], [4], [5], [6], [7], [8], [9], [10], [11], [12], [13], [14], [15], [16, 0, 12], [17], [18], [19, 0]] ?_;refine gg ?_;refine gM ?_;have hif : i < l.length := h.rep.lt i (by simp);refine cdL [[0], [1], [2], [3], [4], [5], [6], [7], [8], [9, 0]] ?_;refine gg ?_;refine qO fun K hK => ?_; refine zi (vs := encV v) lkA rfl ?_; refine hK _ _ ?_; clear hK K
   refine qO fun K hK => ?_; rw [zV (ps := [(0, .string (str k)), (1, valV v)]) (cs := (encE ⟨k, v, 0, 0⟩).toArray) rfl]; refine hK _ _ ?_; clear hK K
   refine gg ?_;refine zg fun K hK => ?_; refine yw (x' := (⟨k, v, 0, 0⟩ : En V)) hol pkA hs hif (by decide) (VG _) (fun C2 ho2 => ?_); (repeat refine Xf ?_); refine hK _ _ ?_; clear hK K
   refine gg ?_;have hcut := YY hof' (l := 0) (h' := f.length) (m := fc) (by omega) (by omega) (by omega) (aR _);rw [List.drop_zero, bI, bI, List.take_left' rfl] at hcut;rw [show (((f.length + 1 : Nat) : Int) - 1).toNat = f.length from by omega];refine mid ⟨i, la, lc, l.set i ⟨k, v, 0, 0⟩, C2, cutA 1 fa 0 fc, fc, f, Cf, by unfold OwnE; rw [dF]; exact ho2, hcut, ?_, ?_, ?_, ?_, by rw [dF]; omega, by rw [dF]; omega, rfl, rfl, by rw [dF]⟩
   ·intro j hj;rw [List.getElem?_set_ne];rintro rfl;exact (List.nodup_append.1 h.rep.nd).2.2 i hj i (by simp) rfl
   ·simp [kv, hif]
   ·have hnd := h.rep.nd;refine (List.Perm.append_left pl ?_).nodup_iff.1 hnd;exact List.perm_append_singleton i f
   ·intro j hj; rw [dF]; exact h.rep.lt j (by simp [hj])
 ·rintro D L S ⟨i, la', lc', l', Cl', fa', fc', free', Cf', g1, g2, g3, g4, g5, g6, g7, g8, rfl, rfl, rfl⟩
  have hil : i < l'.length := by
   unfold kv at g4
   cases hl : l'[i]? with
   | none => rw [hl] at g4; cases g4
   | some e => exact (List.getElem?_eq_some_iff.1 hl).1
  refine gg ?_;refine zf fun K hK => ?_; refine JL him pkA (fun C9 him9 => ?_); refine hK _ _ ?_; clear hK K
  rw [Ue nat64 m k i] at him9
  have hlast : lst (-1) pl = -1 ∨ ∃ j : Nat, lst (-1) pl = j /\ j < l'.length := by
   rcases Classical.em (pl = []) with rfl | hne
   ·exact .inl rfl
   ·obtain ⟨j, hj, e⟩ := ZA pl (-1) hne;have h1 := lk_lt _ _ _ h.rep.lk j hj;have h2 := g3 j hj;rw [aF h1] at h2;exact .inr ⟨j, e, (List.getElem?_eq_some_iff.1 h2).1⟩
  obtain ⟨q1, q2, q3⟩ := h.rep.put hk g3 g4 g5 g6;refine gg ?_;refine cA (hang_spec b room la' lc' fa' free'.length fc' r (hd pl (-1)) (lst (-1) pl) Cl' l' g1 i hil hlast) ?_; rintro v A ⟨C10, ho10, rfl⟩; refine gA ?_;rw [q2, q3];refine zb [[(b, tabO room la' l'.length lc' fa' free'.length fc' r (hd (pl ++ [i]) (-1)) (lst (-1) (pl ++ [i])))], C10, Cf', C9] ?_;refine ⟨rfl, la', lc', haL l' i (lst (-1) pl), fa', fc', free', mput m k i, pl ++ [i], C10, Cf', C9, ⟨ho10, g2, him9, q1, hbig, by simp; omega, by rw [qr]; simp; omega, by rw [qr]; exact g8⟩, by rw [qr]⟩
end put
section ops
variable {b room : Nat} {la : Option Addr} {lc : Nat} {l : List (En V)} {fa : Option Addr} {fc : Nat} {free : List Nat} {r : Nat} {m : List (List UInt8 × Nat)} {pl : List Nat} {es : List (List UInt8 × V)} {Cl Cf Cm : Chunk}
theorem set_miss (h : Lies4 room la lc l fa fc free r m pl es Cl Cf Cm) (k : List UInt8) (v : V) (hk : mget es k = none) :
  Meets prog 63 [.pointer (some ⟨b, 0, none⟩), .string (str k), valV v] [[(b, tabO room la l.length lc fa free.length fc r (hd pl (-1)) (lst (-1) pl))], Cm]
   fun v A => v = .int .i64 6 /\ A = [[(b, tabO room la l.length lc fa free.length fc r (hd pl (-1)) (lst (-1) pl))], Cm] := by
 have hm := h.rep.miss.2 hk;refine eN func63 ntmps63 results63 fun F => ?_
 refine gg ?_;refine oB fun b5 => ?_
 refine gg ?_;refine cA (jn b room la l.length lc fa free.length fc r _ _ Cm m h.im k) ?_; rintro v A ⟨rfl, rfl⟩; refine gA ?_;rw [hm];refine gg ?_;refine zb [[(b, tabO room la l.length lc fa free.length fc r (hd pl (-1)) (lst (-1) pl))], Cm] ?_; exact ⟨rfl, rfl⟩
theorem get_miss (h : Lies4 room la lc l fa fc free r m pl es Cl Cf Cm) (k : List UInt8) (hk : mget es k = none) :
  Meets prog 123 [.pointer (some ⟨b, 0, none⟩), .string (str k)] [[(b, tabO room la l.length lc fa free.length fc r (hd pl (-1)) (lst (-1) pl))], Cm]
   fun v A => v = .tuple #[valV v0, .bool false] /\ A = [[(b, tabO room la l.length lc fa free.length fc r (hd pl (-1)) (lst (-1) pl))], Cm] := by
 have hm := h.rep.miss.2 hk;refine eN func123 ntmps123 results123 fun F => ?_
 refine gg ?_;refine oA (encV v0).toArray fun b4 => ?_
 refine gg ?_;refine cA (jn b room la l.length lc fa free.length fc r _ _ Cm m h.im k) ?_; rintro v A ⟨rfl, rfl⟩; refine gA ?_;rw [hm];refine gg ?_;refine oA (encV v0).toArray fun b7 => ?_
 refine gg ?_;refine oL (encV v0) rfl ?_;refine oS (encV v0) rfl (jC _) ?_;refine gg ?_;exact ze (vs := [valV v0, .bool false]) [[(b, tabO room la l.length lc fa free.length fc r (hd pl (-1)) (lst (-1) pl))], Cm] ⟨rfl, rfl⟩ (hr := by (intro κ hκ; simp only [resW, withV, lookT_hit, lookT_miss, aG]; exact zi (vs := encV v0) lkA rfl hκ))
theorem drop_miss (h : Lies4 room la lc l fa fc free r m pl es Cl Cf Cm) (k : List UInt8) (hk : mget es k = none) :
  Meets prog 144 [.pointer (some ⟨b, 0, none⟩), .string (str k)] [[(b, tabO room la l.length lc fa free.length fc r (hd pl (-1)) (lst (-1) pl))], Cm]
   fun v A => v = .int .i64 6 /\ A = [[(b, tabO room la l.length lc fa free.length fc r (hd pl (-1)) (lst (-1) pl))], Cm] := by
 have hm := h.rep.miss.2 hk;refine eN func144 ntmps144 results144 fun F => ?_
 refine gg ?_;refine cA (jn b room la l.length lc fa free.length fc r _ _ Cm m h.im k) ?_; rintro v A ⟨rfl, rfl⟩; refine gA ?_;rw [hm];refine gg ?_;refine zb [[(b, tabO room la l.length lc fa free.length fc r (hd pl (-1)) (lst (-1) pl))], Cm] ?_; exact ⟨rfl, rfl⟩
theorem Lies4.place (h : Lies4 room la lc l fa fc free r m pl es Cl Cf Cm) {k : List UInt8} {v : V} (hk : mget es k = some v) : ∃ i, mget m k = some i /\ i < l.length /\ kv l i = some (k, v) := by
 cases hm : mget m k with
 | none => rw [h.rep.miss.1 hm] at hk; cases hk
 | some i =>
  obtain ⟨v', p, q, pre, post, h1, h2, h3, h4, h5, _⟩ := h.rep.at hm;rw [hk] at h5; cases h5
  refine ⟨i, rfl, ?_, h4⟩;unfold kv at h4
  cases hl : l[i]? with
  | none => rw [hl] at h4; cases h4
  | some e => exact (List.getElem?_eq_some_iff.1 hl).1
theorem set_ok (h : Lies4 room la lc l fa fc free r m pl es Cl Cf Cm) (k : List UInt8) (v u : V) (hk : mget es k = some u) :
  Meets prog 63 [.pointer (some ⟨b, 0, none⟩), .string (str k), valV v] [[(b, tabO room la l.length lc fa free.length fc r (hd pl (-1)) (lst (-1) pl))], Cl, Cm]
   fun v' A => v' = .int .i64 0 /\ ∃ l Cl', Lies4 room la lc l fa fc free r m pl (mput es k v) Cl' Cf Cm /\ A = [[(b, tabO room la l.length lc fa free.length fc r (hd pl (-1)) (lst (-1) pl))], Cl', Cm] := by
 obtain ⟨i, hm, hi, hkv⟩ := h.place hk;have hs := qR;have hx : l[i]? = some l[i] := aF hi;have hol := h.ol
 have hlen : (mput es k v).length = es.length := by
  have := congrArg cV (vC k v es (by rw [hk]; simp)); simpa using this
 refine eN func63 ntmps63 results63 fun F => ?_
 refine gg ?_;refine oB fun b5 => ?_
 refine gg ?_;refine cA (jn b room la l.length lc fa free.length fc r _ _ Cm m h.im k) ?_; rintro v A ⟨rfl, rfl⟩; refine gA ?_;rw [hm];refine gg ?_;refine cdL [[0], [1], [2], [3], [4], [5], [6], [7], [8, 0]] ?_;refine gg ?_;refine qO fun K hK => ?_; refine zi (vs := encV v) lkA rfl ?_; refine hK _ _ ?_; clear hK K
 refine gg ?_;refine zg fun K hK => ?_; refine Qt (n := 4) (x' := { l[i] with v := v }) hol pkA hs hx (by decide) rfl (jC v) (by decide) rfl (fun C2 ho2 => ?_); (repeat refine Xf ?_); refine hK _ _ ?_; clear hK K
 rw [setV_set v hx] at ho2;refine gg ?_;refine zb [[(b, tabO room la l.length lc fa free.length fc r (hd pl (-1)) (lst (-1) pl))], C2, Cm] ?_;exact ⟨rfl, setV l i v, C2, ⟨by unfold OwnE; rw [qw]; exact ho2, h.ofr, h.im, h.rep.set hm v, h.big, by rw [hlen]; exact h.fits, by rw [qw, hlen]; exact h.all, by rw [qw]; exact h.ll⟩, by rw [qw]⟩
theorem get_ok (h : Lies4 room la lc l fa fc free r m pl es Cl Cf Cm) (k : List UInt8) (v : V) (hk : mget es k = some v) :
  Meets prog 123 [.pointer (some ⟨b, 0, none⟩), .string (str k)] [[(b, tabO room la l.length lc fa free.length fc r (hd pl (-1)) (lst (-1) pl))], Cl, Cm]
   fun v' A => v' = .tuple #[valV v, .bool true] /\ A = [[(b, tabO room la l.length lc fa free.length fc r (hd pl (-1)) (lst (-1) pl))], Cl, Cm] := by
 obtain ⟨i, hm, hi, hkv⟩ := h.place hk;have hs := qR;have hx : l[i]? = some l[i] := aF hi;have hol := h.ol;have hv : l[i].v = v := by unfold kv at hkv; rw [hx] at hkv; simp at hkv; exact hkv.2
 refine eN func123 ntmps123 results123 fun F => ?_
 refine gg ?_;refine oA (encV v0).toArray fun b4 => ?_
 refine gg ?_;refine cA (jn b room la l.length lc fa free.length fc r _ _ Cm m h.im k) ?_; rintro v A ⟨rfl, rfl⟩; refine gA ?_;rw [hm];refine gg ?_;refine zf fun K hK => ?_; refine Wu (n := 4) (vs := encV v) hol hs hx (by decide) (by decide) (by rw [<- hv]; rfl) mmA ?_; refine hK _ _ ?_; clear hK K
 refine oS (encV v) rfl (jC _) ?_;refine gg ?_;exact ze (vs := [valV v, .bool true]) [[(b, tabO room la l.length lc fa free.length fc r (hd pl (-1)) (lst (-1) pl))], Cl, Cm] ⟨rfl, rfl⟩ (hr := by (intro κ hκ; simp only [resW, withV, lookT_hit, lookT_miss, aG]; exact zi (vs := encV v) lkA rfl hκ))
end ops
section ops
variable {b room : Nat} {la : Option Addr} {lc : Nat} {l : List (En V)} {fa : Option Addr} {fc : Nat} {free : List Nat} {r : Nat} {m : List (List UInt8 × Nat)} {pl : List Nat} {es : List (List UInt8 × V)} {Cl Cf Cm : Chunk}
theorem drop_ok (h : Lies4 room la lc l fa fc free r m pl es Cl Cf Cm) (k : List UInt8) (u : V) (hk : mget es k = some u) :
  Meets prog 144 [.pointer (some ⟨b, 0, none⟩), .string (str k)] [[(b, tabO room la l.length lc fa free.length fc r (hd pl (-1)) (lst (-1) pl))], Cl, Cf, Cm]
   fun v' A => v' = .int .i64 0 /\ ∃ la lc l fa fc free m pl Cl Cf Cm, Lies4 room la lc l fa fc free r m pl (mdel es k) Cl Cf Cm /\ A = [[(b, tabO room la l.length lc fa free.length fc r (hd pl (-1)) (lst (-1) pl))], Cl, Cf, Cm] := by
 obtain ⟨i, hm, hi, hkv⟩ := h.place hk;obtain ⟨a, n, e, hx, rfl, rfl, ha, hn, pl', hrep, q1, q2⟩ := h.rep.drop hm ⟨[], v0, 0, 0⟩;have hs := qR;have hlu := Xn l e.ahead e.next;have hll := h.ll;have hbig := h.big;have hall := h.all;have hml := h.rep.mlen;have hml' := hrep.mlen;have hofr := h.ofr;have him := h.im;have hfits := h.fits
 have hlen : (mdel es k).length + 1 = es.length := by
  obtain ⟨pre, post, c1, _, c3, _⟩ := ve hk;rw [c3, c1]; simp; omega
 refine eN func144 ntmps144 results144 fun F => ?_
 refine gg ?_;refine cA (jn b room la l.length lc fa free.length fc r _ _ Cm m h.im k) ?_; rintro v A ⟨rfl, rfl⟩; refine gA ?_;rw [hm];refine gg ?_;refine cA (VU b room la lc fa free.length fc r _ _ Cl l h.ol i e hx ha hn) ?_; rintro v A ⟨C1, ho1, rfl⟩; refine gA ?_;rw [q1, q2, <- hlu];refine oT [] (encE ⟨[], v0, 0, 0⟩).toArray ?_;refine gg ?_;refine zf fun K hK => ?_; refine yw (x' := (⟨[], v0, 0, 0⟩ : En V)) ho1 pkA hs (by omega) (by decide) (VG _) (fun C2 ho2 => ?_); refine hK _ _ ?_; clear hK K
 refine gg ?_;refine zf fun K hK => ?_; refine xZ rfl [nat64 i] (by decide) rfl rfl (by simp [Value.cell1]) (fun b3 C3 ho3 => ?_); refine hK _ _ ?_; clear hK K
 refine zf fun K hK => ?_; refine app1 rfl hofr (.inr pkA) (ho3.rd mmA) (by simp [Value.cell1]) (by omega) (by decide) (fun C4 a4 cap4 ho4 => ?_); refine hK _ _ ?_; clear hK K
 have e4 : free.map nat64 ++ [nat64 i] = (free ++ [i]).map nat64 := by simp
 have e5 : free.length + 1 = (free ++ [i]).length := by simp
 rw [e4, e5] at ho4;rw [e5];refine gg ?_;refine gM ?_;refine zf fun K hK => ?_; refine map_del him pkA (fun C6 him6 => ?_); refine hK _ _ ?_; clear hK K
 rw [Uk nat64 m k] at him6;refine gg ?_;refine zb [[(b, tabO room la (unL l e.ahead e.next).length lc a4 (free ++ [i]).length cap4 r (hd pl' (-1)) (lst (-1) pl'))], C2, C4, C6] ?_;exact ⟨rfl, la, lc, (unL l e.ahead e.next).set i ⟨[], v0, 0, 0⟩, a4, cap4, free ++ [i], mdel m k, pl', C2, C4, C6, ⟨by unfold OwnE; rw [dF]; exact ho2, ho4, him6, hrep, hbig, by omega, by rw [dF, hlu]; simp; omega, by rw [dF, hlu]; exact hll⟩, by rw [dF]⟩
end ops
theorem lk_at {V : Type} {l : List (En V)} {pre suf : List Nat} {i : Nat} (h : Lk l (-1) (pre ++ i :: suf) (-1)) : ∃ e, l[i]? = some e /\ e.next = hd suf (-1) := by
 obtain ⟨_, ⟨e, h1, _, h3⟩, _⟩ := (kJ l pre (i :: suf) (-1) (-1)).1 h;exact ⟨e, h1, h3⟩
theorem ents_of {V : Type} {l : List (En V)} : ∀ (pl : List Nat) (es : List (List UInt8 × V)), pl.map (kv l) = es.map some -> ∃ ents : List (En V), ents.length = pl.length /\ (∀ (j i : Nat), pl[j]? = some i -> l[i]? = ents[j]?) /\ ents.map (fun e => (e.key, e.v)) = es
 | [], [], _ => ⟨[], rfl, fun j i h => by simp at h, rfl⟩
 | [], _ :: _, h => by cases h
 | _ :: _, [], h => by cases h
 | i :: pl, x :: es, h => by
  simp only [aZ, List.cons.injEq] at h;obtain ⟨ents, h1, h2, h3⟩ := ents_of pl es h.2;have hk := h.1;unfold kv at hk
  cases hl : l[i]? with
  | none => rw [hl] at hk; cases hk
  | some e =>
   rw [hl] at hk;simp only [dE, Option.some.injEq] at hk;refine ⟨e :: ents, by simp [h1], fun j k hj => ?_, by rw [aZ, hk, h3]⟩
   cases j with
   | zero => simp at hj; subst hj; simpa using hl
   | succ j => simp at hj ⊢; exact h2 j k hj
theorem ents_el {V : Type} {ents : List (En V)} {es : List (List UInt8 × V)} (h : ents.map (fun e => (e.key, e.v)) = es) {j : Nat} {e : En V} (he : ents[j]? = some e) : es[j]? = some (e.key, e.v) := by
 rw [<- h, cN, he]; rfl
abbrev tabB (b room : Nat) (la : Option Addr) (l : List (En V)) (lc : Nat) (fa : Option Addr) (free : List Nat) (fc r : Nat) (pl : List Nat) : Chunk :=
 [(b, tabO room la l.length lc fa free.length fc r (hd pl (-1)) (lst (-1) pl))]
section all
variable {b room : Nat} {la : Option Addr} {lc : Nat} {l : List (En V)} {fa : Option Addr} {fc : Nat} {free : List Nat} {r : Nat} {m : List (List UInt8 × Nat)} {pl : List Nat} {es : List (List UInt8 × V)} {Cl Cf Cm : Chunk}
theorem IE (h : Lies4 room la lc l fa fc free r m pl es Cl Cf Cm) :
  Meets prog 193 [.pointer (some ⟨b, 0, none⟩)] [tabB b room la l lc fa free fc r pl, Cl]
   fun v A => ∃ D a c, v = .slice a pl.length c /\ OwnF D a c pl /\ A = [D, tabB b room la l lc fa free fc r pl, Cl] := by
 have hs := qR;have hol := h.ol;have hbig := h.big;have hpl := h.rep.pl_len;have hfit := h.fits;refine eN func193 ntmps193 results193 fun F => ?_
 refine gg ?_;refine zB ?_
 refine zz (fun q D L S => ∃ (pre suf : List Nat) (X : Chunk) (xa : Option Addr) (xc : Nat), pl = pre ++ suf /\ OwnF X xa xc pre /\ q = suf.length /\ D = [] /\
  L = [(4, .int .i64 (hd suf (-1))), (3, .slice xa pre.length xc), (0, .pointer (some ⟨b, 0, none⟩))] /\ S = [X, tabB b room la l lc fa free fc r pl, Cl, F])
  ⟨[], pl, [], none, 0, rfl, own_nil, rfl, rfl, rfl, rfl⟩ ?_
 rintro q D L S ⟨pre, suf, X, xa, xc, e0, hX, rfl, rfl, rfl, rfl⟩
 cases suf with
 | nil =>
  rw [aL] at e0;subst e0;simp only [hd];refine gg ?_;refine zb [X, tabB b room la l lc fa free fc r pl, Cl] ⟨X, xa, xc, rfl, hX, rfl⟩
 | cons i suf =>
  obtain ⟨e, hx, hnext⟩ := lk_at (e0 ▸ h.rep.lk);have hi : i < l.length := (List.getElem?_eq_some_iff.1 hx).1
  have hlen : pre.length + 1 <= 4096 := by
   have := congrArg cV e0;rw [aA, aJ] at this;omega
  simp only [hd];refine gg ?_;refine zf fun K hK => ?_; refine xZ rfl [nat64 i] (by decide) rfl rfl (by simp [Value.cell1]) (fun b3 C3 ho3 => ?_); refine hK _ _ ?_; clear hK K
  refine zf fun K hK => ?_; refine app1 rfl hX (.inr pkA) (ho3.rd mmA) (by simp [Value.cell1]) (by omega) (by decide) (fun C4 a4 cap4 ho4 => ?_); refine hK _ _ ?_; clear hK K
  have e4 : pre.map nat64 ++ [nat64 i] = (pre ++ [i]).map nat64 := by simp
  have e5 : pre.length + 1 = (pre ++ [i]).length := by simp
  rw [e4, e5] at ho4;rw [e5];refine gg ?_;rw [hnext];exact zv ⟨pre ++ [i], suf, C4, a4, cap4, by rw [e0]; simp, ho4, rfl, rfl, rfl, rfl⟩ (hm := by simp)
def encX (x : List UInt8 × V) : List Value := [.string (str x.1), valV x.2]
abbrev NextX (es pre : List (List UInt8 × V)) (x : List UInt8 × V) : Prop := ∃ suf, es = pre ++ x :: suf
theorem Qh (c : Nat) (b room : Nat) (es : List (List UInt8 × V)) :
  vJ prog 192 [] [.pointer (some ⟨c, 0, none⟩)] encX [bx c (.pointer (some ⟨b, 0, none⟩)) 166]
   (fun T => IsTab T b room es) noH noH noH (NextX es) (fun pre => pre = es)
   (fun _ A => A = [bx c (.pointer (some ⟨b, 0, none⟩)) 166]) (fun _ A => A = [bx c (.pointer (some ⟨b, 0, none⟩)) 166]) false := by
 refine jQ (by kernel_rfl) fun l0 J Jx hN hT hY C hC => ?_
 obtain ⟨T, R, ⟨la, lc, l, fa, fc, free, r, m, pl, Cl, Cf, Cm, h, hTC⟩, hperm⟩ := hT C hC;have hs := qR;have hol := h.ol;have hbig := h.big;have hpl := h.rep.pl_len;have hfit := h.fits;obtain ⟨ents, en1, en2, en3⟩ := ents_of pl es h.rep.row;refine eN func192 ntmps192 results192 fun F => ?_
 have hp0 : [F, C, bx c (.pointer (some ⟨b, 0, none⟩)) 166].flatten.Perm [F, tabB b room la l lc fa free fc r pl, Cl, Cf, Cm, R, bx c (.pointer (some ⟨b, 0, none⟩)) 166].flatten := by
  simp only [aO, bO, aL];refine List.Perm.append_left F ?_;have h2 := (hTC ▸ hperm).append_right (bx c (.pointer (some ⟨b, 0, none⟩)) 166)
  simpa only [aM] using h2
 refine qg hp0 ?_;refine gg ?_;refine cA (IE h) ?_; rintro v A ⟨D1, a1, c1, rfl, ho1, rfl⟩; refine gA ?_;refine zB ?_
 refine zz (fun q D L S => ∃ (j : Nat) (X : Chunk) (xa : Option Addr) (xc : Nat), j <= pl.length /\ Ost.Own 7 244 X xa j xc ((ents.take j).flatMap encE) /\ q = pl.length - j /\ D = [] /\
  L = [(11, .int .i64 j), (10, .int .i64 pl.length), (9, .slice a1 pl.length c1), (3, .slice xa j xc), (0, .func (.yield l0) #[] #[]), (1, .pointer (some ⟨c, 0, none⟩))] /\
  S = [X, D1, F, tabB b room la l lc fa free fc r pl, Cl, Cf, Cm, R, bx c (.pointer (some ⟨b, 0, none⟩)) 166])
  ⟨0, [], none, 0, by omega, own_nil, rfl, rfl, rfl, rfl⟩ ?_
 rintro q D L S ⟨j, X, xa, xc, hj, hX, rfl, rfl, rfl, rfl⟩;refine gg ?_;refine if_d (fun hc => ?_) (fun hc => ?_)
 ·have hjp : j < pl.length := by omega
  have hpj : pl[j]? = some pl[j] := aF hjp;have hus : (pl.map nat64)[j]? = some (nat64 pl[j]) := by rw [cN, hpj]; rfl
  have hx := en2 j _ hpj;have hej : ents[j]? = some ents[j] := aF (by omega);rw [hej] at hx;have hi : pl[j] < l.length := (List.getElem?_eq_some_iff.1 hx).1;generalize pl[j] = i at *;refine gg ?_;refine zf fun K hK => ?_; refine zT hol hs hx (by decide) mmA ?_; refine hK _ _ ?_; clear hK K
  refine zf fun K hK => ?_; refine zN (e := 244) (s := 7) (hs := inferInstance) (vs := encE ents[j]) (by rfl) (by decide) (by decide) rfl (fun b2 C2 ho2 => ?_); refine hK _ _ ?_; clear hK K
  refine zf fun K hK => ?_; refine zn (e := 244) (s := 7) (hs := inferInstance) (by rfl) (by decide) hX (.inr pkA) (ho2.rd mmA) (VG _) (by simp only [maxLen]; omega) (by omega) (fun C3 a3 cap3 ho3 => ?_); refine hK _ _ ?_; clear hK K
  have e3 : (ents.take j).flatMap encE ++ encE ents[j] = (ents.take (j + 1)).flatMap encE := by
   rw [List.take_succ_eq_append_getElem (by omega), cH]; simp
  rw [e3] at ho3;refine gg ?_;exact zv ⟨j + 1, C3, a3, cap3, by omega, ho3, rfl, rfl, rfl, rfl⟩
 ·obtain rfl : j = pl.length := by omega
  rw [bS (by omega)] at hX;have hX2 : OwnE X xa xc ents := by unfold OwnE; rw [en1]; exact hX
  rw [<- en1];refine gg ?_;refine qg (S' := [X, C, F, bx c (.pointer (some ⟨b, 0, none⟩)) 166, D1]) ?_ ?_
  ·simp only [aO, bO, aL] at hp0 ⊢
   have h2 : (D1 ++ (F ++ (tabB b room la l lc fa free fc r pl ++ (Cl ++ (Cf ++ (Cm ++ (R ++ bx c (.pointer (some ⟨b, 0, none⟩)) 166))))))).Perm (C ++ (F ++ (bx c (.pointer (some ⟨b, 0, none⟩)) 166 ++ D1))) := by
    refine (List.Perm.append_left D1 hp0.symm).trans ?_;refine List.perm_append_comm.trans ?_;rw [<- aM C, <- aM, <- aM];refine List.Perm.append_right _ ?_;rw [aM, aM]
    have : (F ++ (C ++ bx c (.pointer (some ⟨b, 0, none⟩)) 166)).Perm (C ++ (F ++ bx c (.pointer (some ⟨b, 0, none⟩)) 166)) := by
     rw [<- aM, <- aM]; exact List.Perm.append_right _ cG
    simpa only [aM] using this
   exact List.Perm.append_left X h2
  refine zz (fun q D L S => ∃ (j : Nat) (C : Chunk), j <= ents.length /\ J (es.take j) C /\ q = ents.length - j /\ D = [] /\
   L = [(28, .int .i64 j), (27, .int .i64 ents.length), (26, .slice xa ents.length xc), (0, .func (.yield l0) #[] #[]), (1, .pointer (some ⟨c, 0, none⟩))] /\
   S = [X, C, F, bx c (.pointer (some ⟨b, 0, none⟩)) 166])
   ⟨0, C, by omega, hC, rfl, rfl, rfl, rfl⟩ ?_
  rintro q D L S ⟨j, C', hj, hJ, rfl, rfl, rfl, rfl⟩;refine gg ?_;refine if_d (fun hc => ?_) (fun hc => ?_)
  ·have hje : j < ents.length := by omega
   have hx : ents[j]? = some ents[j] := aF hje;have hjs : j < es.length := by omega
   have hee : es[j] = (ents[j].key, ents[j].v) := by
    have := ents_el en3 hx;rw [aF hjs] at this;exact Option.some.inj this
   have hnx : NextX es (es.take j) (ents[j].key, ents[j].v) := ⟨es.drop (j + 1), by rw [<- hee, <- bK, cR]⟩;have htk : es.take j ++ [(ents[j].key, ents[j].v)] = es.take (j + 1) := by rw [List.take_succ_eq_append_getElem hjs, hee]
   have hY' := hY _ _ hnx;rw [htk] at hY';refine gg ?_;refine zf fun K hK => ?_; refine zT hX2 hs hx (by decide) mmA ?_; refine hK _ _ ?_; clear hK K
   refine zf fun K hK => ?_; refine zu fun b7 => ?_; (try simp only [Value.cells]); refine hK _ _ ?_; clear hK K
   refine zf fun K hK => ?_; refine xG rfl (VG _) upA (by rfl) ?_; refine hK _ _ ?_; clear hK K
   refine gg ?_;refine zf fun K hK => ?_; refine vD (vs := encE ents[j]) (ws := encV ents[j].v) lkA (by simp [encE, encV]) rfl ?_; refine hK _ _ ?_; clear hK K
   refine gg ?_;refine zf fun K hK => ?_
   refine xF hY' hJ rfl tkA (fun C4 H4 hJ4 hH4 => ?_) (fun C4 H4 hJ4 hH4 => ?_)
   ·subst hH4
    (try simp only [aD])
    refine hK _ _ ?_; clear hK K;refine gg ?_;exact zv ⟨j + 1, C4, by omega, hJ4, rfl, rfl, rfl, rfl⟩
   ·subst hH4
    (try simp only [aD])
    refine hK _ _ ?_; clear hK K;refine gg ?_;exact xP [C4, bx c (.pointer (some ⟨b, 0, none⟩)) 166] ⟨C4, [bx c (.pointer (some ⟨b, 0, none⟩)) 166], rfl, .inr ⟨_, _, hnx, by rw [htk]; exact hJ4, rfl⟩⟩
  ·obtain rfl : j = ents.length := by omega
   rw [bS (by omega)] at hJ;refine gg ?_;exact zL [C', bx c (.pointer (some ⟨b, 0, none⟩)) 166] ⟨C', [bx c (.pointer (some ⟨b, 0, none⟩)) 166], rfl, .inl ⟨es, rfl, hJ, rfl⟩⟩
theorem Qg (p : Option Addr) : Meets prog 139 [.pointer p] []
  fun u A => ∃ c, u = .func (.func 192) #[] #[.pointer (some ⟨c, 0, none⟩)] /\ A = [bx c (.pointer p) 166] := by
 refine eN func139 ntmps139 results139 fun F => ?_
 refine gg ?_;refine oB fun p1 => ?_
 refine gg ?_;refine zb [bx p1 (.pointer p) 166] ⟨p1, rfl, rfl⟩
end all
instance iWH_1 : zH prog 248 [(0, 1), (1, 1), (2, 1), (3, 1), (4, 1), (5, 1)] := ⟨by kernel_rfl⟩
theorem new_core (room : Nat) (h1 : 1 <= room) (h2 : room <= 4096) : Meets prog 71 [.int .i64 room] [] fun v A => ∃ b r Cm, v = .tuple #[.pointer (some ⟨b, 0, none⟩), .int .i64 0] /\ xK Cm r [] /\ A = [[(b, tabO room none 0 0 none 0 0 r (-1) (-1))], Cm] := by
 refine eN func71 ntmps71 results71 fun F => ?_
 refine gg ?_;rw [decide_eq_false (show ¬ (room : Int) < 1 by omega)];refine gg ?_;rw [decide_eq_false (show ¬ 4096 < (room : Int) by omega)];refine gg ?_;refine zf fun K hK => ?_; refine JM fun r Cm hm => ?_; refine hK _ _ ?_; clear hK K
 refine gg ?_;refine oT [(0, .int .i64 room), (3, .map (some r)), (4, .int .i64 (-1)), (5, .int .i64 (-1))] #[.int .i64 room, .slice none 0 0, .slice none 0 0, .map (some r), .int .i64 (-1), .int .i64 (-1)] ?_;refine gg ?_;refine oB fun b => ?_
 refine gg ?_;refine ze [[(b, tabO room none 0 0 none 0 0 r (-1) (-1))], Cm] ⟨b, r, Cm, rfl, hm, rfl⟩
theorem new_yes (room : Nat) (h1 : 1 <= room) (h2 : room <= 4096) : Meets prog 71 [.int .i64 room] [] fun v A => ∃ b T, v = .tuple #[.pointer (some ⟨b, 0, none⟩), .int .i64 0] /\ IsTab T b room [] /\ A = [T] := by
 refine Meets.conv [] (new_core room h1 h2) rfl (.nil _) ?_;rintro v A ⟨b, r, Cm, rfl, hm, rfl⟩;exact ⟨[[(b, tabO room none 0 0 none 0 0 r (-1) (-1))] ++ Cm], [[(b, tabO room none 0 0 none 0 0 r (-1) (-1))], Cm], by simp, Among.refl _, b, _, rfl, ⟨none, 0, [], none, 0, [], r, [], [], [], [], Cm, ⟨own_nil, own_nil, hm, Rep.new, h2, by simp, rfl, by simp⟩, rfl⟩, rfl⟩
def putE (room : Nat) (es : List (List UInt8 × V)) (k : List UInt8) (v : V) : Int × List (List UInt8 × V) := if mget es k ≠ none then (7, es) else if room <= es.length then (8, es) else (0, es ++ [(k, v)])
def setE (es : List (List UInt8 × V)) (k : List UInt8) (v : V) : Int × List (List UInt8 × V) := match mget es k with | none => (6, es) | some _ => (0, mput es k v)
def Xg (es : List (List UInt8 × V)) (k : List UInt8) : Int × List (List UInt8 × V) := match mget es k with | none => (6, es) | some _ => (0, mdel es k)
section one
variable {T : Chunk} {b room : Nat} {es : List (List UInt8 × V)}
theorem tput (h : IsTab T b room es) (k : List UInt8) (v : V) : Meets prog 98 [.pointer (some ⟨b, 0, none⟩), .string (str k), valV v] [T]
  fun r A => r = .int .i64 (putE room es k v).1 /\ ∃ T', IsTab T' b room (putE room es k v).2 /\ A = [T'] := by
 have h0 := h;obtain ⟨la, lc, l, fa, fc, free, r, m, pl, Cl, Cf, Cm, h, rfl⟩ := h
 cases hm : mget es k with
 | some u =>
  have e : putE room es k v = (7, es) := by unfold putE; rw [hm]; rfl
  rw [e];refine Meets.conv [tabB b room la l lc fa free fc r pl, Cl, Cf, Cm] (Ow h k v (by rw [hm]; simp)) flA tkA ?_; rintro v A ⟨rfl, rfl⟩;exact ⟨[tabB b room la l lc fa free fc r pl ++ (Cl ++ (Cf ++ Cm))], [tabB b room la l lc fa free fc r pl, Cl, Cf, Cm], flA, amA, rfl, _, h0, rfl⟩
 | none =>
  by_cases hf : room <= es.length
  ·have e : putE room es k v = (8, es) := by unfold putE; rw [hm, if_neg (by simp), if_pos hf]
   have hfit := h.fits;rw [e];refine Meets.conv [tabB b room la l lc fa free fc r pl, Cl, Cf, Cm] (put_full h k v hm (by omega)) flA tkA ?_; rintro v A ⟨rfl, rfl⟩;exact ⟨[tabB b room la l lc fa free fc r pl ++ (Cl ++ (Cf ++ Cm))], [tabB b room la l lc fa free fc r pl, Cl, Cf, Cm], flA, amA, rfl, _, h0, rfl⟩
  ·have e : putE room es k v = (0, es ++ [(k, v)]) := by unfold putE; rw [hm, if_neg (by simp), if_neg hf]
   rw [e];refine Meets.conv [tabB b room la l lc fa free fc r pl, Cl, Cf, Cm] (put_ok h k v hm (by omega)) flA tkA ?_; rintro v A ⟨rfl, la', lc', l', fa', fc', free', m', pl', Cl', Cf', Cm', h', rfl⟩;exact ⟨[tabB b room la' l' lc' fa' free' fc' r pl' ++ (Cl' ++ (Cf' ++ Cm'))], [tabB b room la' l' lc' fa' free' fc' r pl', Cl', Cf', Cm'], flA, amA, rfl, _, ⟨la', lc', l', fa', fc', free', r, m', pl', Cl', Cf', Cm', h', rfl⟩, rfl⟩
theorem tset (h : IsTab T b room es) (k : List UInt8) (v : V) : Meets prog 63 [.pointer (some ⟨b, 0, none⟩), .string (str k), valV v] [T]
  fun r A => r = .int .i64 (setE es k v).1 /\ ∃ T', IsTab T' b room (setE es k v).2 /\ A = [T'] := by
 have h0 := h;obtain ⟨la, lc, l, fa, fc, free, r, m, pl, Cl, Cf, Cm, h, rfl⟩ := h
 cases hm : mget es k with
 | none =>
  have e : setE es k v = (6, es) := by unfold setE; rw [hm]
  rw [e];refine Meets.conv [tabB b room la l lc fa free fc r pl, Cl, Cf, Cm] (set_miss h k v hm) flA tkA ?_; rintro v A ⟨rfl, rfl⟩;exact ⟨[tabB b room la l lc fa free fc r pl ++ (Cl ++ (Cf ++ Cm))], [tabB b room la l lc fa free fc r pl, Cl, Cf, Cm], flA, amA, rfl, _, h0, rfl⟩
 | some u =>
  have e : setE es k v = (0, mput es k v) := by unfold setE; rw [hm]
  rw [e];refine Meets.conv [tabB b room la l lc fa free fc r pl, Cl, Cf, Cm] (set_ok h k v u hm) flA tkA ?_; rintro v A ⟨rfl, l', Cl', h', rfl⟩;exact ⟨[tabB b room la l' lc fa free fc r pl ++ (Cl' ++ (Cf ++ Cm))], [tabB b room la l' lc fa free fc r pl, Cl', Cf, Cm], flA, amA, rfl, _, ⟨la, lc, l', fa, fc, free, r, m, pl, Cl', Cf, Cm, h', rfl⟩, rfl⟩
theorem tdrop (h : IsTab T b room es) (k : List UInt8) : Meets prog 144 [.pointer (some ⟨b, 0, none⟩), .string (str k)] [T]
  fun r A => r = .int .i64 (Xg es k).1 /\ ∃ T', IsTab T' b room (Xg es k).2 /\ A = [T'] := by
 have h0 := h;obtain ⟨la, lc, l, fa, fc, free, r, m, pl, Cl, Cf, Cm, h, rfl⟩ := h
 cases hm : mget es k with
 | none =>
  have e : Xg es k = (6, es) := by unfold Xg; rw [hm]
  rw [e];refine Meets.conv [tabB b room la l lc fa free fc r pl, Cl, Cf, Cm] (drop_miss h k hm) flA tkA ?_; rintro v A ⟨rfl, rfl⟩;exact ⟨[tabB b room la l lc fa free fc r pl ++ (Cl ++ (Cf ++ Cm))], [tabB b room la l lc fa free fc r pl, Cl, Cf, Cm], flA, amA, rfl, _, h0, rfl⟩
 | some u =>
  have e : Xg es k = (0, mdel es k) := by unfold Xg; rw [hm]
  rw [e];refine Meets.conv [tabB b room la l lc fa free fc r pl, Cl, Cf, Cm] (drop_ok h k u hm) flA tkA ?_; rintro v A ⟨rfl, la', lc', l', fa', fc', free', m', pl', Cl', Cf', Cm', h', rfl⟩;exact ⟨[tabB b room la' l' lc' fa' free' fc' r pl' ++ (Cl' ++ (Cf' ++ Cm'))], [tabB b room la' l' lc' fa' free' fc' r pl', Cl', Cf', Cm'], flA, amA, rfl, _, ⟨la', lc', l', fa', fc', free', r, m', pl', Cl', Cf', Cm', h', rfl⟩, rfl⟩
theorem tget (h : IsTab T b room es) (k : List UInt8) : Meets prog 123 [.pointer (some ⟨b, 0, none⟩), .string (str k)] [T]
  fun r A => r = (match mget es k with | none => .tuple #[valV v0, .bool false] | some u => .tuple #[valV u, .bool true]) /\ A = [T] := by
 obtain ⟨la, lc, l, fa, fc, free, r, m, pl, Cl, Cf, Cm, h, rfl⟩ := h
 cases hm : mget es k with
 | none =>
  refine Meets.conv [tabB b room la l lc fa free fc r pl, Cl, Cf, Cm] (get_miss h k hm) flA tkA ?_; rintro v A ⟨rfl, rfl⟩;exact ⟨[tabB b room la l lc fa free fc r pl ++ (Cl ++ (Cf ++ Cm))], [tabB b room la l lc fa free fc r pl, Cl, Cf, Cm], flA, amA, rfl, rfl⟩
 | some u =>
  refine Meets.conv [tabB b room la l lc fa free fc r pl, Cl, Cf, Cm] (get_ok h k u hm) flA tkA ?_; rintro v A ⟨rfl, rfl⟩;exact ⟨[tabB b room la l lc fa free fc r pl ++ (Cl ++ (Cf ++ Cm))], [tabB b room la l lc fa free fc r pl, Cl, Cf, Cm], flA, amA, rfl, rfl⟩
theorem tfull (h : IsTab T b room es) : Meets prog 141 [.pointer (some ⟨b, 0, none⟩)] [T] fun v A => v = .bool (decide (es.length = room)) /\ A = [T] := by
 obtain ⟨la, lc, l, fa, fc, free, r, m, pl, Cl, Cf, Cm, h, rfl⟩ := h;have hml := h.rep.mlen;have hfit := h.fits;refine Meets.conv [tabB b room la l lc fa free fc r pl, Cl, Cf, Cm] (ZJ b room h.big la l.length lc fa free.length fc r _ _ Cm m h.im (by omega)) flA tkA ?_; rintro v A ⟨rfl, rfl⟩;rw [hml];exact ⟨[tabB b room la l lc fa free fc r pl ++ (Cl ++ (Cf ++ Cm))], [tabB b room la l lc fa free fc r pl, Cl, Cf, Cm], flA, amA, rfl, rfl⟩
end one
theorem Ul {α : Type} {k : List UInt8} {v : α} : ∀ (a b : List (List UInt8 × α)), ((a ++ (k, v) :: b).map (·.1)).Nodup -> mdel (a ++ (k, v) :: b) k = a ++ b /\ mget (a ++ (k, v) :: b) k = some v
 | [], b, _ => by simp [mdel, mget]
 | (k', u) :: a, b, h => by
  simp only [aC, aZ, List.nodup_cons] at h;obtain ⟨h1, h2⟩ := Ul a b h.2
  have hne : k ≠ k' := by
   rintro rfl;exact h.1 (by simp)
  simp only [aC, mdel, mget];rw [if_neg hne, if_neg hne, h1];exact ⟨rfl, h2⟩
def QP (p : List UInt8 × V -> Bool) (es : List (List UInt8 × V)) : Int × List (List UInt8 × V) := ((es.filter p).length, es.filter fun x => !p x)
theorem Ox {T : Chunk} {b room : Nat} {es : List (List UInt8 × V)} (h : IsTab T b room es) {f : FuncId} {captured : Array Value} {G : Chunk} (p : List UInt8 × V -> Bool)
  (hg : ∀ x ∈ es, Meets prog f (.string (str x.1) :: valV x.2 :: captured.toList) [G] fun v A => v = .bool (p x) /\ A = [G]) :
  Meets prog 197 [.pointer (some ⟨b, 0, none⟩), .func (.func f) #[] captured] [T, G]
   fun v A => v = .int .i64 (QP p es).1 /\ ∃ T', IsTab T' b room (QP p es).2 /\ A = [T', G] := by
 have hlen := h.fits;have hbig : room <= 4096 := by obtain ⟨_, _, _, _, _, _, _, _, _, _, _, _, h, _⟩ := h; exact h.big
 refine eN func197 ntmps197 results197 fun F => ?_
 refine gg ?_;refine oB fun b2 => ?_
 refine gg ?_;refine oB fun b3 => ?_
 refine gg ?_;refine zf fun K hK => ?_; refine zu fun b5 => ?_; (try simp only [Value.cells]); refine hK _ _ ?_; clear hK K
 refine gg ?_;refine cA (Qg _) ?_; rintro v A ⟨c, rfl, rfl⟩; refine gA ?_
 refine xW (by (try simp only [evT, lookT_hit, lookT_miss, aG]); (first | done | exact rfl)) (Qh c b room es) (by (repeat (first | exact Take.nil _ | with_reducible exact Pick.head _ _ | with_reducible apply Pick.tail | with_reducible apply Take.cons))) (fun pre C => ∃ suf T', es = pre ++ suf /\ IsTab T' b room (pre.filter (fun x => !p x) ++ suf) /\
   C = [bx b5 (.int .i64 ((pre.filter p).length : Nat)) 3, bx b3 (.func (.func f) #[] captured) 326, bx b2 (.pointer (some ⟨b, 0, none⟩)) 166, F, T', G])
  (fun c pre C => False) (fun h => by cases h) (fun C hC => ?_) (fun _ => rfl) ⟨es, T, rfl, h, rfl⟩ ?_ ?_ ?_
 ·obtain ⟨suf, T', e, hT', rfl⟩ := hC;rw [aD] at e;subst e;exact Yn hT' pkA
 ·rintro l F1 C H r pre x ⟨suf1, hx⟩ ⟨suf, T', e, hT', rfl⟩ rfl
  obtain rfl : suf = x :: suf1 := by
   rw [e] at hx; exact List.append_cancel_left hx
  obtain ⟨k, v⟩ := x;have hnd := hT'.keys;have hplen : (pre.filter p).length <= pre.length := List.length_filter_le _ _;have hprl : pre.length <= es.length := by rw [e]; simp
  (try simp only [aD, aC, aL, encX])
  (try simp only [jz, putT, bM, if_true, reduceIte, Array.toList, dG])
  refine gg ?_;refine zf fun K hK => ?_; refine zu fun b7 => ?_; (try simp only [Value.cells]); refine hK _ _ ?_; clear hK K
  refine oS (encV v) rfl (jC v) ?_;refine gg ?_;refine ⟨_, .cons (.tail _ (.head _ _)) (Among.refl _), fun r' _ => ?_⟩;refine gg ?_;refine oL (encV v) rfl ?_;refine cA (hg (k, v) (by rw [hx]; simp)) ?_; rintro v A ⟨rfl, rfl⟩; refine gA ?_
  cases hp : p (k, v) with
  | false =>
   refine gg ?_;have e1 : (pre ++ [(k, v)]).filter p = pre.filter p := by simp [hp]
   have e2 : (pre ++ [(k, v)]).filter (fun x => !p x) ++ suf1 = pre.filter (fun x => !p x) ++ (k, v) :: suf1 := by simp [hp]
   refine ⟨_, ⟨_, [], rfl, ⟨suf1, T', by simp [e], by rw [e2]; exact hT', rfl⟩, rfl⟩, ?_⟩;rw [e1]
   (try simp only [aL])
   first | ((repeat (first | with_reducible exact Among.nil _ | with_reducible exact Pick.head _ _ | with_reducible apply Pick.tail | with_reducible apply Among.cons)); done) | ((repeat (first | exact Among.nil _ | exact Pick.head _ _ | apply Pick.tail | apply Among.cons)); done)
  | true =>
   obtain ⟨d1, d2⟩ := Ul _ _ hnd;have e0 : Xg (pre.filter (fun x => !p x) ++ (k, v) :: suf1) k = (0, pre.filter (fun x => !p x) ++ suf1) := by unfold Xg; rw [d2]; simp only [d1]
   have hdr := tdrop hT' k;rw [e0] at hdr;refine gg ?_;refine cA (hdr) ?_; rintro v A ⟨rfl, T2, hT2, rfl⟩; refine gA ?_;have e1 : ((pre ++ [(k, v)]).filter p).length = (pre.filter p).length + 1 := by simp [hp]
   have e2 : (pre ++ [(k, v)]).filter (fun x => !p x) ++ suf1 = pre.filter (fun x => !p x) ++ suf1 := by simp [hp]
   refine ⟨_, ⟨_, [], rfl, ⟨suf1, T2, by simp [e], by rw [e2]; exact hT2, rfl⟩, rfl⟩, ?_⟩;rw [e1]
   (try simp only [aL, Int.natCast_add, Int.cast_ofNat_Int])
   first | ((repeat (first | with_reducible exact Among.nil _ | with_reducible exact Pick.head _ _ | with_reducible apply Pick.tail | with_reducible apply Among.cons)); done) | ((repeat (first | exact Among.nil _ | exact Pick.head _ _ | apply Pick.tail | apply Among.cons)); done)
 ·rintro d pre C A rfl ⟨suf, T', e, hT', rfl⟩ rfl
  obtain rfl : suf = [] := by
   have := congrArg cV e;rw [aA] at this;exact List.length_eq_zero_iff.1 (by omega)
  rw [aL] at hT'
  (try simp only [aD, aC])
  refine gg ?_;refine ze [T', G] ⟨rfl, T', hT', rfl⟩
 ·rintro d c pre x C A hx hI;exact hI.elim
end Go.Proofs.YtebikhhoppiapaaGreatDoor
namespace Go.Proofs.YtebikhhoppiapaaGreatDoor
open Go Go.Ost Go.Tab Go.Sha
abbrev Es := List (List UInt8 × V)
structure NS where
 room : Nat
 win : Int
 es : Es
 ser : Nat
 last : Int
 mark : Int
 mrk : Bool
def oldB (s : NS) (now : Int) (x : List UInt8 × V) : Bool := (decide (x.2.at_ < now) && decide (s.win < now - x.2.at_)) || (s.mrk && decide (x.2.at_ <= s.mark))
def jx (s : NS) (now : Int) : Int × NS := ((QP (oldB s now) s.es).1, { s with es := (QP (oldB s now) s.es).2 })
def maxI (a b : Int) : Int := if a < b then b else a
def WJ (s : NS) : NS := match s.es with
 | [] => s
 | x :: es => { s with es := es, mark := maxI s.mark x.2.at_, mrk := true }
def vz (s : NS) (now : Int) : NS := if s.es.length = s.room then (if 0 < (jx s now).1 then (jx s now).2 else WJ s) else s
def nonN (d : List UInt8) (n : Nat) : List UInt8 := d ++ 46 :: hx n
def addN (s : NS) (d : List UInt8) (now : Int) : NS := { s with es := s.es ++ [(nonN d (s.ser + 1), ⟨nonN d (s.ser + 1), d, now, false, 0⟩)], ser := s.ser + 1, last := now }
def hasD (d : List UInt8) (es : Es) : Bool := es.any fun x => decide (x.2.draw = d)
def zC (s : NS) (d : List UInt8) (now : Int) : (List UInt8 × Int) × NS :=
 if yq d = false then (([], 4), s) else if now < s.last then (([], 9), s) else if hasD d s.es then (([], 7), s) else ((nonN d (s.ser + 1), 0), addN (vz s now) d now)
def JR (s : NS) (now : Int) (v : V) : Bool := !decide (v.at_ <= now /\ now - v.at_ <= s.win) || (s.mrk && decide (v.at_ <= s.mark))
def yn (s : NS) (n : List UInt8) (now : Int) : Int × V := match mget s.es n with
 | none => (6, v0)
 | some v => if JR s now v then (9, v0) else (0, v)
def useN (s : NS) (n : List UInt8) (c now : Int) : Int × NS :=
 if (yn s n now).1 = 0 then (if c = 0 then (1, s) else if (yn s n now).2.sp || decide (c <= (yn s n now).2.cnt) then (10, s) else (0, { s with es := mput s.es n { (yn s n now).2 with cnt := c } })) else ((yn s n now).1, s)
theorem ym (s : NS) (n : List UInt8) (now : Int) : (yn s n now = (6, v0) /\ mget s.es n = none) ∨ ∃ v, mget s.es n = some v /\ ((yn s n now = (9, v0) /\ JR s now v = true) ∨ (yn s n now = (0, v) /\ JR s now v = false)) := by
 unfold yn
 cases mget s.es n with
 | none => exact .inl ⟨rfl, rfl⟩
 | some v =>
  refine .inr ⟨v, rfl, ?_⟩
  cases h : JR s now v with
  | true => exact .inl ⟨by simp [h], rfl⟩
  | false => exact .inr ⟨by simp [h], rfl⟩
theorem dig_inj : ∀ i < 16, ∀ j < 16, digits.getD i 0 = digits.getD j 0 -> i = j := by decide
theorem dig_dot : ∀ i < 16, digits.getD i 0 ≠ 46 := by decide
theorem hex2_inj {x y : UInt8} (h : hex2 x = hex2 y) : x = y := by
 simp only [hex2, List.cons.injEq, and_true] at h;have hx := x.toNat_lt;have hy := y.toNat_lt;have h1 := dig_inj _ (by omega) _ (by omega) h.1;have h2 := dig_inj _ (by omega) _ (by omega) h.2;exact UInt8.toNat_inj.1 (by omega)
theorem WA : ∀ {a b : List UInt8}, hex a = hex b -> a = b
 | [], [], _ => rfl
 | [], y :: b, h => by simp [hex, hex2] at h
 | x :: a, [], h => by simp [hex, hex2] at h
 | x :: a, y :: b, h => by
  simp only [hex, bP] at h;obtain ⟨h1, h2⟩ := List.append_inj h (by simp [hex2]);rw [hex2_inj h1, WA (a := a) (b := b) h2]
theorem hx_inj {n m : Nat} (hn : n < 65536) (hm : m < 65536) (h : hx n = hx m) : n = m := by
 have h1 := WA h;have e6 := XY 8 n 6 (by decide);have e7 := XY 8 n 7 (by decide);have f6 := XY 8 m 6 (by decide);have f7 := XY 8 m 7 (by decide);rw [h1] at e6 e7;have g6 := congrArg UInt8.toNat (e6.symm.trans f6);have g7 := congrArg UInt8.toNat (e7.symm.trans f7);simp only [bL, show 8 - 1 - 6 = 1 from rfl, show 8 - 1 - 7 = 0 from rfl, Nat.pow_one, Nat.pow_zero, Nat.div_one] at g6 g7;omega
theorem hx_dot (n : Nat) : ∀ c ∈ hx n, c ≠ 46 := by
 intro c hc;unfold hx hex at hc;obtain ⟨x, _, hx⟩ := List.mem_flatMap.1 hc;have hlt := x.toNat_lt;simp only [hex2, bA, aX, or_false] at hx
 rcases hx with rfl | rfl
 ·exact dig_dot _ (by omega)
 ·exact dig_dot _ (by omega)
theorem non_inj {d e : List UInt8} {n m : Nat} (hn : n < 65536) (hm : m < 65536) (h : nonN d n = nonN e m) : d = e /\ n = m := by
 unfold nonN at h;obtain ⟨h1, h2⟩ := List.append_inj' h (by simp [hx_len]);exact ⟨h1, hx_inj hn hm (List.cons.inj h2).2⟩
structure EnOk (ser : Nat) (x : List UInt8 × V) : Prop where
 key : x.1 = x.2.non
 draw : x.2.draw.length <= 40
 num : ∃ n, n <= ser /\ x.2.non = nonN x.2.draw n
 at0 : 0 <= x.2.at_
 c0 : 0 <= x.2.cnt
structure NOk (s : NS) : Prop where
 r1 : 1 <= s.room
 r2 : s.room <= 64
 w1 : 1 <= s.win
 w2 : s.win <= 1099511627776
 ser : s.ser <= 1000
 fit : s.es.length <= s.room
 mk0 : s.mrk = false -> s.mark = 0
 mark0 : 0 <= s.mark
 last0 : 0 <= s.last
 en : ∀ x ∈ s.es, EnOk s.ser x
theorem EnOk.le {a b : Nat} {x : List UInt8 × V} (h : EnOk a x) (hab : a <= b) : EnOk b x := by
 obtain ⟨h1, h2, ⟨n, hn, h3⟩, h4, h5⟩ := h;exact ⟨h1, h2, ⟨n, by omega, h3⟩, h4, h5⟩
theorem kU {es : Es} {s : List UInt8} {v : V} (h : mget es s = some v) : (s, v) ∈ es := by
 obtain ⟨pre, post, h1, _⟩ := ve h;rw [h1]; simp
theorem NOk.fresh {s : NS} (h : NOk s) (d : List UInt8) : mget s.es (nonN d (s.ser + 1)) = none := by
 cases hm : mget s.es (nonN d (s.ser + 1)) with
 | none => rfl
 | some v =>
  exfalso
  obtain ⟨h1, _, ⟨n, hn, h3⟩, _⟩ := h.en _ (kU hm);have := h.ser;simp only at h1 h3;rw [<- h1] at h3;have := (non_inj (by omega) (by omega) h3).2;omega
theorem Xs {s : NS} {now : Int} (h : ¬ 0 < (jx s now).1) : (QP (oldB s now) s.es).2 = s.es := by
 have h0 : (s.es.filter (oldB s now)).length = 0 := by
  have h1 : ¬ (0 : Int) < ((s.es.filter (oldB s now)).length : Nat) := h;omega
 show s.es.filter (fun x => !oldB s now x) = s.es
 rw [List.filter_eq_self];intro x hx
 cases ho : oldB s now x with
 | false => rfl
 | true =>
  have := List.mem_filter.2 ⟨hx, ho⟩;rw [List.length_eq_zero_iff.1 h0] at this
  cases this
theorem ok_sub {s : NS} (h : NOk s) {es : Es} (hs : ∀ x ∈ es, x ∈ s.es) (hl : es.length <= s.es.length) : NOk { s with es := es } := by
 obtain ⟨h1, h2, h3, h4, h5, h6, h7, h8, h9, h10⟩ := h;exact ⟨h1, h2, h3, h4, h5, dN hl h6, h7, h8, h9, fun x hx => h10 x (hs x hx)⟩
theorem ok_sweep {s : NS} (h : NOk s) (now : Int) : NOk (jx s now).2 :=
 ok_sub h (fun x hx => (List.mem_filter.1 hx).1) (List.length_filter_le _ _)
theorem max_ge (a b : Int) : a <= maxI a b /\ b <= maxI a b := by unfold maxI; split <;> omega
theorem ok_drop {s : NS} (h : NOk s) : NOk (WJ s) := by
 obtain ⟨room, win, es, ser, last, mark, mk⟩ := s;obtain ⟨h1, h2, h3, h4, h5, h6, h7, h8, h9, h10⟩ := h
 cases es with
 | nil => exact ⟨h1, h2, h3, h4, h5, h6, h7, h8, h9, h10⟩
 | cons x es =>
  have h11 := max_ge mark x.2.at_;have h12 : 0 <= mark := h8;have h13 : es.length + 1 <= room := h6;exact ⟨h1, h2, h3, h4, h5, by show es.length <= room; omega, (fun h => by cases h), by show 0 <= maxI mark x.2.at_; omega, h9, fun y hy => h10 y (aK _ hy)⟩
theorem Wh {s : NS} (h : NOk s) (now : Int) : NOk (vz s now) := by
 unfold vz
 split
 ·split
  ·exact ok_sweep h now
  ·exact ok_drop h
 ·exact h
theorem Jt (s : NS) (now : Int) : (vz s now).ser = s.ser := by
 unfold vz
 split
 ·split
  ·rfl
  ·unfold WJ; split <;> rfl
 ·rfl
theorem ww (s : NS) (now : Int) : (vz s now).room = s.room := by
 unfold vz
 split
 ·split
  ·rfl
  ·unfold WJ; split <;> rfl
 ·rfl
theorem OT {α : Type} (p : α -> Bool) (l : List α) : (l.filter p).length + (l.filter fun x => !p x).length = l.length := by
 induction l with
 | nil => rfl
 | cons x l ih =>
  simp only [List.filter_cons, aJ]
  cases p x <;> simp <;> omega
theorem Ju {s : NS} (h : NOk s) (now : Int) : (vz s now).es.length < s.room := by
 have hr := h.r1;have hf := h.fit;unfold vz
 split
 ·rename_i he
  split
  ·rename_i hp
   have h1 : (0 : Int) < ((s.es.filter (oldB s now)).length : Nat) := hp;have h2 := OT (oldB s now) s.es
   show (s.es.filter fun x => !oldB s now x).length < s.room
   omega
  ·unfold WJ
   split
   ·rename_i h0
    rw [h0] at he; simp at he; omega
   ·rename_i x es h0
    rw [h0] at he; simp at he ⊢; omega
 ·omega
theorem ok_add {s : NS} (h : NOk s) (hf : s.es.length < s.room) (hser : s.ser < 1000) (d : List UInt8) (hd : d.length <= 40) (now : Int) (hn : 0 <= now) : NOk (addN s d now) := by
 obtain ⟨h1, h2, h3, h4, h5, h6, h7, h8, h9, h10⟩ := h;refine ⟨h1, h2, h3, h4, by show s.ser + 1 <= 1000; omega, by show (s.es ++ [_]).length <= s.room; simp; omega, h7, h8, hn, fun x hx => ?_⟩
 rcases List.mem_append.1 hx with hx | hx
 ·exact (h10 x hx).le (Nat.le_succ _)
 ·rw [List.mem_singleton.1 hx];exact ⟨rfl, hd, ⟨s.ser + 1, aR _, rfl⟩, hn, by show (0 : Int) <= 0; omega⟩
theorem UC {d : List UInt8} (h : ¬ yq d = false) : d.length <= 40 := by
 have h' : yq d = true := by cases hb : yq d <;> simp_all
 simp only [yq, aN, decide_eq_true_eq] at h';exact h'.2.2
theorem Ua {s : NS} (h : NOk s) (hser : s.ser < 1000) (d : List UInt8) (now : Int) (hn : 0 <= now) : NOk (zC s d now).2 := by
 unfold zC
 split
 ·exact h
 ·rename_i hd
  split
  ·exact h
  ·split
   ·exact h
   ·exact ok_add (Wh h now) (by rw [ww]; exact Ju h now) (by rw [Jt]; exact hser) d (UC hd) now hn
theorem ok_put {s : NS} (h : NOk s) {n : List UInt8} {v w : V} (hm : mget s.es n = some v) (h1 : w.non = v.non) (h2 : w.draw = v.draw) (h3 : w.at_ = v.at_) (h4 : 0 <= w.cnt) : NOk { s with es := mput s.es n w } := by
 obtain ⟨pre, post, e1, e2, _, _⟩ := ve hm;obtain ⟨k1, k2, k3, k4, k5, k6, k7, k8, k9, k10⟩ := h;refine ⟨k1, k2, k3, k4, k5, ?_, k7, k8, k9, fun x hx => ?_⟩
 ·show (mput s.es n w).length <= s.room
  rw [e2]; rw [e1] at k6; simpa using k6
 ·have hx' : x ∈ mput s.es n w := hx;rw [e2] at hx';rw [e1] at k10
  rcases List.mem_append.1 hx' with hx' | hx'
  ·exact k10 x (by simp [hx'])
  ·rcases List.mem_cons.1 hx' with rfl | hx'
   ·obtain ⟨q1, q2, ⟨m, hm, q3⟩, q4, q5⟩ := k10 (n, v) (by simp);exact ⟨q1.trans h1.symm, by show w.draw.length <= 40; rw [h2]; exact q2, ⟨m, hm, by show w.non = nonN w.draw m; rw [h1, h2]; exact q3⟩, by show 0 <= w.at_; rw [h3]; exact q4, h4⟩
   ·exact k10 x (by simp [hx'])
theorem ok_use {s : NS} (h : NOk s) (n : List UInt8) (c : Int) (hc : 0 <= c) (now : Int) : NOk (useN s n c now).2 := by
 unfold useN
 rcases ym s n now with ⟨e, _⟩ | ⟨v, hm, ⟨e, _⟩ | ⟨e, _⟩⟩
 ·rw [e]; exact h
 ·rw [e]; exact h
 ·rw [e, if_pos rfl]
  split
  ·exact h
  ·split
   ·exact h
   ·exact ok_put h hm rfl rfl rfl hc
open _root_.Go.Proofs.Tryz
abbrev nB (q b : Nat) (s : NS) : Chunk := [(q, .cells #[.int .i64 s.room, .int .u64 s.win, .pointer (some ⟨b, 0, none⟩), .int .u64 s.ser, .int .u64 s.last, .int .u64 s.mark, .bool s.mrk] 168 (0, 0))]
abbrev ZF (v : V) : List Value := [.string (str v.non), .int .u64 v.at_, .bool v.sp, .int .u32 v.cnt]
instance iKA_1 : zH prog 163 [(0, 1), (1, 1), (2, 1), (3, 1)] := ⟨by kernel_rfl⟩
instance iKA_2 : zH prog 168 [(0, 2), (2, 1), (3, 1), (4, 1), (5, 1), (6, 1)] := ⟨by kernel_rfl⟩
theorem use_of {s : NS} {n : List UInt8} {c now : Int} {v : V} (e : yn s n now = (0, v)) : useN s n c now = if c = 0 then (1, s) else if (v.sp || decide (c <= v.cnt)) = true then (10, s) else (0, { s with es := mput s.es n { v with cnt := c } }) := by
 unfold useN; rw [e]; rfl
theorem use_no {s : NS} {n : List UInt8} {c now E : Int} {v : V} (e : yn s n now = (E, v)) (hE : E ≠ 0) : useN s n c now = (E, s) := by
 unfold useN; rw [e, if_neg hE]
theorem Xc (n f d : Int) (hf : 0 <= f) (hn2 : n < 18446744073709551616) :
  Meets prog 124 [.int .u64 n, .int .u64 f, .int .u64 d] [] fun v A => v = .bool (decide (f <= n /\ n - f <= d)) /\ A = [] := by
 refine eN func124 ntmps124 results124 fun F => ?_
 refine gg ?_
 by_cases h : f <= n
 ·rw [decide_eq_true h];refine gg ?_;refine zb [] ?_; exact ⟨by simp [h], rfl⟩
 ·rw [decide_eq_false h];refine gg ?_;refine zb [] ?_; exact ⟨by simp [h], rfl⟩
theorem old_spec {q b : Nat} (s : NS) (v : V) (hv : 0 <= v.at_) (now : Int) (hn : now < 18446744073709551616) (k : List UInt8) :
  Meets prog 199 [.pointer (some ⟨q, 0, none⟩), valV v, .int .u64 now] [nB q b s] fun r A => r = .bool (oldB s now (k, v)) /\ A = [nB q b s] := by
 have hB : oldB s now (k, v) = (decide (v.at_ < now) && decide (s.win < now - v.at_) || (s.mrk && decide (v.at_ <= s.mark))) := rfl;rw [hB];refine eN func199 ntmps199 results199 fun F => ?_
 refine gg ?_;refine oB fun b4 => ?_
 simp only [encV];refine gg ?_;refine cdL [[0], [1], [2], [3], [4], [5], [6], [7], [8], [9], [10], [11], [12], [13], [14], [15], [16], [17], [18], [19], [20], [21], [22], [23], [24], [25], [26], [27], [28], [29], [30], [31, 0]] ?_;refine gg ?_
 by_cases h1 : v.at_ < now
 ·rw [decide_eq_true h1];refine gg ?_
  by_cases h2 : s.win < now - v.at_
  ·rw [decide_eq_true h2];refine gg ?_;refine zb [nB q b s] ?_; exact ⟨rfl, rfl⟩
  ·rw [decide_eq_false h2];refine gg ?_
   cases hm : s.mrk with
   | true =>
    refine gg ?_;refine zb [nB q b s] ?_; exact ⟨rfl, rfl⟩
   | false =>
    refine gg ?_;refine zb [nB q b s] ?_; exact ⟨rfl, rfl⟩
 ·rw [decide_eq_false h1];refine gg ?_
  cases hm : s.mrk with
  | true =>
   refine gg ?_;refine zb [nB q b s] ?_; exact ⟨rfl, rfl⟩
  | false =>
   refine gg ?_;refine zb [nB q b s] ?_; exact ⟨rfl, rfl⟩
theorem OI {T : Chunk} {b q : Nat} {s : NS} (hs : NOk s) (hT : IsTab T b s.room s.es) (n : List UInt8) (now : Int) (hn : now < 18446744073709551616) :
  Meets prog 62 [.pointer (some ⟨q, 0, none⟩), .string (str n), .int .u64 now] [nB q b s, T] fun v A => v = .tuple #[valV (yn s n now).2, .int .i64 (yn s n now).1] /\ A = [nB q b s, T] := by
 have htg := tget hT n;refine eN func62 ntmps62 results62 fun F => ?_
 refine gg ?_;refine oA (encV v0).toArray fun b4 => ?_
 refine gg ?_
 rcases ym s n now with ⟨e, hm⟩ | ⟨v, hm, h⟩
 ·rw [hm] at htg;rw [e];refine cA (htg) ?_; rintro v A ⟨rfl, rfl⟩; refine gA ?_;refine oA (encV v0).toArray fun b6 => ?_
  refine oS (encV v0) rfl (jC _) ?_;refine gg ?_;refine oT [] (encV v0).toArray ?_;refine oS (encV v0) rfl (jC _) ?_;refine gg ?_;exact ze (vs := [valV v0, .int .i64 6]) [nB q b s, T] ⟨rfl, rfl⟩ (hr := by (intro κ hκ; simp only [resW, withV, lookT_hit, lookT_miss, aG]; exact zi (vs := encV v0) lkA rfl hκ))
 ·have hv0 := (hs.en _ (kU hm)).at0;rw [hm] at htg;have key : JR s now v = (!decide (v.at_ <= now /\ now - v.at_ <= s.win) || (s.mrk && decide (v.at_ <= s.mark))) := rfl;refine cA (htg) ?_; rintro v A ⟨rfl, rfl⟩; refine gA ?_;refine oA (encV v0).toArray fun b6 => ?_
  refine oS (ZF v) rfl (jC v) ?_;refine gg ?_;refine cdL [[0], [1], [2], [3], [4], [5], [6], [7], [8, 0], [9], [10], [11], [12], [13], [14], [15], [16], [17], [18], [19], [20], [21], [22], [23], [24], [25, 0]] ?_;refine gg ?_;refine zg fun K hK => ?_; refine zo (Xc now v.at_ s.win hv0 hn) ?_; rintro v A ⟨rfl, rfl⟩; refine pA hK ?_; clear hK K
  refine gg ?_
  by_cases h1 : v.at_ <= now /\ now - v.at_ <= s.win
  ·rw [decide_eq_true h1] at key ⊢;refine gg ?_
   cases hm2 : s.mrk with
   | true =>
    rw [hm2] at key;refine gg ?_
    by_cases h3 : v.at_ <= s.mark
    ·rw [decide_eq_true h3] at key ⊢;have hB : JR s now v = true := key;refine gg ?_;have e := h.elim (fun h => h.1) (fun h => by rw [hB] at h; cases h.2);refine oT [] (encV v0).toArray ?_;refine oS (encV v0) rfl (jC _) ?_;refine gg ?_;exact ze (vs := [valV v0, .int .i64 9]) [nB q b s, T] ⟨by rw [e]; rfl, rfl⟩ (hr := by (intro κ hκ; simp only [resW, withV, lookT_hit, lookT_miss, aG]; exact zi (vs := encV v0) lkA rfl hκ))
    ·rw [decide_eq_false h3] at key ⊢;have hB : JR s now v = false := key;refine gg ?_;have e := h.elim (fun h => by rw [hB] at h; cases h.2) (fun h => h.1);refine oL (ZF v) rfl ?_;refine oS (ZF v) rfl (jC v) ?_;refine gg ?_;exact ze (vs := [valV v, .int .i64 0]) [nB q b s, T] ⟨by rw [e]; rfl, rfl⟩ (hr := by (intro κ hκ; simp only [resW, withV, lookT_hit, lookT_miss, aG]; exact zi (vs := ZF v) lkA rfl hκ))
   | false =>
    rw [hm2] at key;have hB : JR s now v = false := key;refine gg ?_;have e := h.elim (fun h => by rw [hB] at h; cases h.2) (fun h => h.1);refine oL (ZF v) rfl ?_;refine oS (ZF v) rfl (jC v) ?_;refine gg ?_;exact ze (vs := [valV v, .int .i64 0]) [nB q b s, T] ⟨by rw [e]; rfl, rfl⟩ (hr := by (intro κ hκ; simp only [resW, withV, lookT_hit, lookT_miss, aG]; exact zi (vs := ZF v) lkA rfl hκ))
  ·rw [decide_eq_false h1] at key ⊢;have hB : JR s now v = true := key;refine gg ?_;have e := h.elim (fun h => h.1) (fun h => by rw [hB] at h; cases h.2);refine oT [] (encV v0).toArray ?_;refine oS (encV v0) rfl (jC _) ?_;refine gg ?_;exact ze (vs := [valV v0, .int .i64 9]) [nB q b s, T] ⟨by rw [e]; rfl, rfl⟩ (hr := by (intro κ hκ; simp only [resW, withV, lookT_hit, lookT_miss, aG]; exact zi (vs := encV v0) lkA rfl hκ))
theorem nuse_spec {T : Chunk} {b q : Nat} {s : NS} (hs : NOk s) (hT : IsTab T b s.room s.es) (n : List UInt8) (c now : Int) (hc : 0 <= c) (hn : now < 18446744073709551616) :
  Meets prog 44 [.pointer (some ⟨q, 0, none⟩), .string (str n), .int .u32 c, .int .u64 now] [nB q b s, T]
   fun v A => v = .int .i64 (useN s n c now).1 /\ ∃ T', IsTab T' b s.room (useN s n c now).2.es /\ A = [nB q b (useN s n c now).2, T'] := by
 have hf := OI (q := q) hs hT n now hn;refine eN func44 ntmps44 results44 fun F => ?_
 refine gg ?_
 rcases ym s n now with ⟨e, hm⟩ | ⟨v, hm, ⟨e, _⟩ | ⟨e, _⟩⟩
 ·rw [e] at hf;rw [use_no e (by decide)];refine cA (hf) ?_; rintro v A ⟨rfl, rfl⟩; refine gA ?_;refine oA (encV v0).toArray fun b7 => ?_
  refine oS (encV v0) rfl (jC _) ?_;refine gg ?_;refine zb [nB q b s, T] ⟨rfl, T, hT, rfl⟩
 ·rw [e] at hf;rw [use_no e (by decide)];refine cA (hf) ?_; rintro v A ⟨rfl, rfl⟩; refine gA ?_;refine oA (encV v0).toArray fun b7 => ?_
  refine oS (encV v0) rfl (jC _) ?_;refine gg ?_;refine zb [nB q b s, T] ⟨rfl, T, hT, rfl⟩
 ·have hc0 := (hs.en _ (kU hm)).c0;simp only at hc0;rw [e] at hf;rw [use_of e];refine cA (hf) ?_; rintro v A ⟨rfl, rfl⟩; refine gA ?_;refine oA (encV v0).toArray fun b7 => ?_
  refine oS (ZF v) rfl (jC v) ?_;refine gg ?_;refine if_b (fun hc => ?_) (fun hc => ?_)
  ·subst hc;rw [if_pos rfl];refine gg ?_;refine zb [nB q b s, T] ⟨rfl, T, hT, rfl⟩
  ·rw [if_neg hc];refine gg ?_
   cases hsp : v.sp with
   | true =>
    refine gg ?_;refine zb [nB q b s, T] ⟨rfl, T, hT, rfl⟩
   | false =>
    refine gg ?_
    by_cases h0 : c <= v.cnt
    ·rw [decide_eq_true h0];refine gg ?_;refine zb [nB q b s, T] ⟨rfl, T, hT, rfl⟩
    ·rw [decide_eq_false h0, Bool.or_false, if_neg (by simp)];refine gg ?_;refine cdL [[0], [1], [2], [3], [4], [5], [6, 0], [7, 0]] ?_;refine gg ?_;refine qO fun K hK => ?_; refine zi (vs := [.string (str v.non), .int .u64 v.at_, .bool v.sp, .int .u32 c]) lkA rfl ?_; refine hK _ _ ?_; clear hK K
     have hts := tset hT n { v with cnt := c };rw [show setE s.es n { v with cnt := c } = (0, mput s.es n { v with cnt := c }) from by unfold setE; rw [hm]] at hts;refine zg fun K hK => ?_; refine zo (hts) ?_; rintro v A ⟨rfl, T', hT', rfl⟩; refine pA hK ?_; clear hK K
     refine gg ?_;refine zb [nB q b s, T'] ⟨rfl, T', by rw [hsp] at hT'; exact hT', rfl⟩
end Go.Proofs.YtebikhhoppiapaaGreatDoor
namespace Go.Proofs.YtebikhhoppiapaaGreatDoor
open Go Go.Ost Go.Tab _root_.Go.Proofs.Tryz
abbrev vB (b : Nat) (v : V) : Chunk := [(b, .cells (encV v).toArray 163 (0, 0))]
def oldE (es : List (List UInt8 × V)) : List Value := match es with | [] => [.string (str []), valV v0, .bool false] | x :: _ => [.string (str x.1), valV x.2, .bool true]
theorem Wg {b room : Nat} {es : List (List UInt8 × V)} (T : Chunk) (h : IsTab T b room es) : Meets prog 143 [.pointer (some ⟨b, 0, none⟩)] [T]
  fun v A => v = .tuple (oldE es).toArray /\ A = [T] := by
 refine eN func143 ntmps143 results143 fun F => ?_
 refine gg ?_;refine zf fun K hK => ?_; refine zu fun b2 => ?_; (try simp only [Value.cells]); refine hK _ _ ?_; clear hK K
 refine gg ?_;refine oA (encV v0).toArray fun b3 => ?_
 refine gg ?_;refine zf fun K hK => ?_; refine zu fun b4 => ?_; (try simp only [Value.cells]); refine hK _ _ ?_; clear hK K
 refine gg ?_;refine cA (Qg _) ?_; rintro v A ⟨c, rfl, rfl⟩; refine gA ?_
 refine xW (by (try simp only [evT, lookT_hit, lookT_miss, aG]); (first | done | exact rfl)) (Qh c b room es) (by (repeat (first | exact Take.nil _ | with_reducible exact Pick.head _ _ | with_reducible apply Pick.tail | with_reducible apply Take.cons))) (fun pre C => pre = [] /\ C = [bx b4 (.bool false) 4, vB b3 v0, bx b2 (.string (str [])) 9, F, T])
  (fun c pre C => ∃ x suf, c = .ret /\ es = x :: suf /\ C = [bx b4 (.bool true) 4, vB b3 x.2, bx b2 (.string (str x.1)) 9, F, T]) (fun h => by cases h)
  (fun C hC => by obtain ⟨_, rfl⟩ := hC; exact Yn h pkA) (fun _ => rfl) ⟨rfl, rfl⟩ ?_ ?_ ?_
 ·rintro l F1 C H r pre x ⟨suf, hx⟩ ⟨rfl, rfl⟩ rfl
  (try simp only [aD, aC, aL, encX])
  (try simp only [jz, putT, bM, if_true, reduceIte, Array.toList, dG])
  refine gg ?_;refine oA (encV v0).toArray fun b6 => ?_
  refine oS (encV x.2) rfl (jC _) ?_;refine gg ?_;refine ⟨_, .cons (.tail _ (.head _ _)) (Among.refl _), fun r' _ => ?_⟩;refine gg ?_;refine cdL [[0], [1], [2, 0, 1], [3, 0], [4, 0]] ?_;refine gg ?_;refine qO fun K hK => ?_; refine zi (vs := encV x.2) lkA rfl ?_; refine hK _ _ ?_; clear hK K
  refine zg fun K hK => ?_; refine zJ trivial upA (by simp) ?_; refine pend ?_ (zi (vs := encV x.2) lkA rfl rfl); refine hK _ _ ?_; clear hK K
  refine zg fun K hK => ?_; refine xG (vs := encV x.2) rfl (jC _) upA (by rfl) ?_; refine pBk hK ?_; clear hK K
  refine zg fun K hK => ?_; refine zJ trivial upA (by simp) ?_; refine pBk hK ?_; clear hK K
  refine gg ?_;exact ⟨[bx b4 (.bool true) 4, vB b3 x.2, bx b2 (.string (str x.1)) 9, F, T], ⟨_, [], rfl, ⟨x, suf, rfl, hx, rfl⟩, rfl⟩, amA⟩
 ·rintro d pre C A rfl ⟨rfl, rfl⟩ rfl
  (try simp only [aD, aC])
  refine gg ?_;refine oA (encV v0).toArray fun b7 => ?_
  refine gg ?_;refine cdL [[0], [1, 0, 0], [2, 0], [3, 0]] ?_;refine gg ?_;refine qO fun K hK => ?_; refine zi (vs := encV v0) lkA rfl ?_; refine hK _ _ ?_; clear hK K
  refine zg fun K hK => ?_; refine zJ trivial upA (by simp) ?_; refine pend ?_ (zi (vs := encV v0) lkA rfl rfl); refine hK _ _ ?_; clear hK K
  refine zg fun K hK => ?_; refine xG (vs := encV v0) rfl (jC _) upA (by rfl) ?_; refine pBk hK ?_; clear hK K
  refine zg fun K hK => ?_; refine zJ trivial upA (by simp) ?_; refine pBk hK ?_; clear hK K
  refine gg ?_;exact ze (vs := oldE []) [T] ⟨rfl, rfl⟩ (hr := by (intro κ hκ; simp only [resW, withV, lookT_hit, lookT_miss, aG]; refine zE lkA rfl ?_; refine zi (vs := encV v0) lkA rfl ?_; refine zE lkA rfl ?_; exact hκ))
 ·rintro d c pre x C A hx ⟨y, suf, rfl, rfl, rfl⟩ rfl
  (try simp only [aD, aC])
  refine gg ?_;exact ze (vs := oldE (y :: suf)) [T] ⟨rfl, rfl⟩ (hr := by (intro κ hκ; simp only [resW, withV, lookT_hit, lookT_miss, aG]; refine zE lkA rfl ?_; refine zi (vs := encV y.2) lkA rfl ?_; refine zE lkA rfl ?_; exact hκ))
open Go.Sha
theorem UR {q b p p2 : Nat} (s : NS) (now : Int) (hn : now < 18446744073709551616) (x : List UInt8 × V) (hx : 0 <= x.2.at_) :
  Meets prog 198 [.string (str x.1), valV x.2, .pointer (some ⟨p, 0, none⟩), .pointer (some ⟨p2, 0, none⟩)] [bx p (.pointer (some ⟨q, 0, none⟩)) 25, bx p2 (.int .u64 now) 34, nB q b s]
   fun r A => r = .bool (oldB s now x) /\ A = [bx p (.pointer (some ⟨q, 0, none⟩)) 25, bx p2 (.int .u64 now) 34, nB q b s] := by
 refine eN func198 ntmps198 results198 fun F => ?_
 refine gg ?_;refine oB fun b5 => ?_
 refine gg ?_;refine oL (encV x.2) rfl ?_;refine gg ?_;refine cA (old_spec s x.2 hx now hn x.1) ?_; rintro v A ⟨rfl, rfl⟩; refine gA ?_;refine zb [bx p (.pointer (some ⟨q, 0, none⟩)) 25, bx p2 (.int .u64 now) 34, nB q b s] ?_; exact ⟨rfl, rfl⟩
theorem Kb {q b p p2 : Nat} (s : NS) (now : Int) (hn : now < 18446744073709551616) (x : List UInt8 × V) (hx : 0 <= x.2.at_) :
  Meets prog 198 [.string (str x.1), valV x.2, .pointer (some ⟨p, 0, none⟩), .pointer (some ⟨p2, 0, none⟩)] [bx p (.pointer (some ⟨q, 0, none⟩)) 25 ++ (bx p2 (.int .u64 now) 34 ++ nB q b s)]
   fun r A => r = .bool (oldB s now x) /\ A = [bx p (.pointer (some ⟨q, 0, none⟩)) 25 ++ (bx p2 (.int .u64 now) 34 ++ nB q b s)] := by
 refine Meets.conv [bx p (.pointer (some ⟨q, 0, none⟩)) 25, bx p2 (.int .u64 now) 34, nB q b s] (UR s now hn x hx) flA tkA ?_; rintro v A ⟨rfl, rfl⟩;exact ⟨[bx p (.pointer (some ⟨q, 0, none⟩)) 25 ++ (bx p2 (.int .u64 now) 34 ++ nB q b s)], [bx p (.pointer (some ⟨q, 0, none⟩)) 25, bx p2 (.int .u64 now) 34, nB q b s], flA, amA, rfl, rfl⟩
theorem Wj {T : Chunk} {b q : Nat} {s : NS} (hs : NOk s) (hT : IsTab T b s.room s.es) (now : Int) (hn : now < 18446744073709551616) :
  Meets prog 142 [.pointer (some ⟨q, 0, none⟩), .int .u64 now] [nB q b s, T]
   fun v A => v = .int .i64 (jx s now).1 /\ ∃ T', IsTab T' b s.room (jx s now).2.es /\ A = [nB q b s, T'] := by
 refine eN func142 ntmps142 results142 fun F => ?_
 refine gg ?_;refine oB fun b2 => ?_
 refine gg ?_;refine oB fun b3 => ?_
 refine gg ?_;refine zf fun K hK => ?_
 refine zo (?_ : Meets prog 197 _ [T, bx b2 (.pointer (some ⟨q, 0, none⟩)) 25, bx b3 (.int .u64 now) 34, nB q b s] fun v A => v = .int .i64 (jx s now).1 /\ ∃ T', IsTab T' b s.room (jx s now).2.es /\ A = [T', bx b2 (.pointer (some ⟨q, 0, none⟩)) 25, bx b3 (.int .u64 now) 34, nB q b s]) ?_
 ·refine Meets.conv [T, bx b2 (.pointer (some ⟨q, 0, none⟩)) 25 ++ (bx b3 (.int .u64 now) 34 ++ nB q b s)] (Ox hT (captured := #[.pointer (some ⟨b2, 0, none⟩), .pointer (some ⟨b3, 0, none⟩)]) (oldB s now) (fun x hx => Kb s now hn x (hs.en x hx).at0)) flA tkA ?_; rintro v A ⟨rfl, T', hT', rfl⟩;exact ⟨[T', bx b2 (.pointer (some ⟨q, 0, none⟩)) 25, bx b3 (.int .u64 now) 34, nB q b s], [T', bx b2 (.pointer (some ⟨q, 0, none⟩)) 25 ++ (bx b3 (.int .u64 now) 34 ++ nB q b s)], flA, amA, rfl, T', hT', rfl⟩
 rintro v A ⟨rfl, T', hT', rfl⟩
 (try simp only [aD, aC])
 refine hK _ _ ?_; clear hK K;refine gg ?_;refine zb [nB q b s, T'] ⟨rfl, T', hT', rfl⟩
theorem OH {T : Chunk} {b q : Nat} {s : NS} (hs : NOk s) (hT : IsTab T b s.room s.es) (now : Int) (hn : now < 18446744073709551616) :
  Meets prog 96 [.pointer (some ⟨q, 0, none⟩), .int .u64 now] [nB q b s, T]
   fun v A => v = .tuple #[] /\ ∃ T', IsTab T' b s.room (vz s now).es /\ A = [nB q b (vz s now), T'] := by
 have htf := tfull hT;have hr := hs.r1;unfold vz;refine eN func96 ntmps96 results96 fun F => ?_
 refine gg ?_
 by_cases hl : s.es.length = s.room
 ·rw [decide_eq_true hl] at htf;rw [if_pos hl];refine cA (htf) ?_; rintro v A ⟨rfl, rfl⟩; refine gA ?_;have hsw := Wj (q := q) hs hT now hn
  by_cases h0 : 0 < (jx s now).1
  ·rw [if_pos h0];refine cA (hsw) ?_; rintro v A ⟨rfl, T1, hT1, rfl⟩; refine gA ?_;rw [decide_eq_true h0];refine gg ?_;refine xP [nB q b (jx s now).2, T1] ⟨rfl, T1, hT1, rfl⟩
  ·rw [if_neg h0]
   have he : (jx s now).2 = s := by
    obtain ⟨room, win, es, ser, last, mark, mk⟩ := s
    show (NS.mk room win _ ser last mark mk) = _
    rw [Xs h0]
   rw [he] at hsw;refine cA (hsw) ?_; rintro v A ⟨rfl, T1, hT1, rfl⟩; refine gA ?_;rw [decide_eq_false h0];refine gg ?_;obtain ⟨room, win, es, ser, last, mark, mk⟩ := s
   cases es with
   | nil => simp only [aV] at hl hr; omega
   | cons x es =>
    have hdr := tdrop hT1 x.1;rw [show Xg (x :: es) x.1 = (0, es) from by obtain ⟨k, v⟩ := x; simp [Xg, mget, mdel]] at hdr;simp only at hdr;have hold := Wg T1 hT1;simp only [oldE] at hold;refine cA (hold) ?_; rintro v A ⟨rfl, rfl⟩; refine gA ?_;refine oA (encV v0).toArray fun b5 => ?_
    refine gg ?_;refine oS (ZF x.2) rfl (jC x.2) ?_;refine gg ?_;refine cA (hdr) ?_; rintro v A ⟨rfl, T2, hT2, rfl⟩; refine gA ?_;refine cdL [[0], [1], [2], [3], [4], [5], [6], [7], [8], [9], [10], [11, 0], [12], [13], [14, 0]] ?_;refine gg ?_;refine zL [nB q b (WJ ⟨room, win, x :: es, ser, last, mark, mk⟩), T2] ⟨rfl, T2, hT2, rfl⟩
 ·rw [decide_eq_false hl] at htf;rw [if_neg hl];refine cA (htf) ?_; rintro v A ⟨rfl, rfl⟩; refine gA ?_;refine xP [nB q b s, T] ⟨rfl, T, hT, rfl⟩
def ns0 (room : Nat) (win : Int) : NS := ⟨room, win, [], 0, 0, 0, false⟩
theorem ok_new {room : Nat} {win : Int} (r1 : 1 <= room) (r2 : room <= 64) (w1 : 1 <= win) (w2 : win <= 1099511627776) : NOk (ns0 room win) :=
 ⟨r1, r2, w1, w2, Nat.zero_le _, Nat.zero_le _, fun _ => rfl, Int.le_refl _, Int.le_refl _, fun x hx => by cases hx⟩
theorem nnew_yes (room : Nat) (win : Int) (r1 : 1 <= room) (r2 : room <= 64) (w1 : 1 <= win) (w2 : win <= 1099511627776) : Meets prog 25 [.agg #[.int .i64 room, .int .u64 win]] [] fun v A => ∃ q b T, v = .tuple #[.pointer (some ⟨q, 0, none⟩), .int .i64 0] /\ IsTab T b room [] /\ A = [nB q b (ns0 room win), T] := by
 refine eN func25 ntmps25 results25 fun F => ?_
 refine gg ?_;refine zf fun K hK => ?_; refine yr fun b1' => ?_; (try simp only [Value.cells]); refine hK _ _ ?_; clear hK K
 refine gg ?_;rw [decide_eq_false (show ¬ (room : Int) < 1 by omega)];refine gg ?_;rw [decide_eq_false (show ¬ 64 < (room : Int) by omega)];refine gg ?_;rw [decide_eq_false (show ¬ win < 1 by omega)];refine gg ?_;rw [decide_eq_false (show ¬ 1099511627776 < win by omega)];refine gg ?_;refine cA (new_yes room r1 (by omega)) ?_; rintro v A ⟨b, T, rfl, hT, rfl⟩; refine gA ?_;refine oL [.int .i64 room, .int .u64 win] rfl ?_;refine gg ?_;refine oT [(0, .agg #[.int .i64 room, .int .u64 win]), (1, .pointer (some ⟨b, 0, none⟩))] #[.int .i64 room, .int .u64 win, .pointer (some ⟨b, 0, none⟩), .int .u64 0, .int .u64 0, .int .u64 0, .bool false] ?_;refine gg ?_;refine oB fun q => ?_
 refine gg ?_;refine ze [nB q b (ns0 room win), T] ⟨q, b, T, rfl, hT, rfl⟩
theorem JI (p : Option Addr) : Meets prog 94 [.pointer p] []
  fun u A => ∃ c, u = .func (.func 138) #[] #[.pointer (some ⟨c, 0, none⟩)] /\ A = [bx c (.pointer p) 25] := by
 refine eN func94 ntmps94 results94 fun F => ?_
 refine gg ?_;refine oB fun p1 => ?_
 refine gg ?_;refine zb [bx p1 (.pointer p) 25] ⟨p1, rfl, rfl⟩
def encN_KC (x : List UInt8 × V) : List Value := [valV x.2]
theorem Vs (c1 q b : Nat) (s : NS) :
  vJ prog 138 [] [.pointer (some ⟨c1, 0, none⟩)] encN_KC [bx c1 (.pointer (some ⟨q, 0, none⟩)) 25]
   (fun T => ∃ T1, IsTab T1 b s.room s.es /\ T = nB q b s ++ T1) noH noH noH (NextX s.es) (fun pre => pre = s.es)
   (fun _ A => A = [bx c1 (.pointer (some ⟨q, 0, none⟩)) 25]) (fun _ A => A = [bx c1 (.pointer (some ⟨q, 0, none⟩)) 25]) false := by
 refine jQ (by kernel_rfl) fun l0 J Jx hN hT hY C hC => ?_
 obtain ⟨_, R, ⟨T1, hT1, rfl⟩, hperm⟩ := hT C hC;refine eN func138 ntmps138 results138 fun F => ?_
 refine qg (S' := [F, nB q b s, T1, R, bx c1 (.pointer (some ⟨q, 0, none⟩)) 25]) ?_ ?_
 ·simp only [aO, bO, aL];refine List.Perm.append_left F ?_;have := hperm.append_right (bx c1 (.pointer (some ⟨q, 0, none⟩)) 25)
  simpa only [aM] using this
 refine gg ?_;refine oB fun b2 => ?_
 refine gg ?_;refine cA (Qg _) ?_; rintro v A ⟨cc, rfl, rfl⟩; refine gA ?_;refine qg (S' := [bx cc (.pointer (some ⟨b, 0, none⟩)) 166, bx b2 (.func (.yield l0) #[] #[]) 261, C, F, bx c1 (.pointer (some ⟨q, 0, none⟩)) 25]) ?_ ?_
 ·simp only [aO, bO, aL];refine List.Perm.append_left _ (List.Perm.append_left _ ?_)
  have h1 : (F ++ (nB q b s ++ (T1 ++ (R ++ bx c1 (.pointer (some ⟨q, 0, none⟩)) 25)))).Perm (F ++ (C ++ bx c1 (.pointer (some ⟨q, 0, none⟩)) 25)) := by
   refine List.Perm.append_left F ?_;have := hperm.symm.append_right (bx c1 (.pointer (some ⟨q, 0, none⟩)) 25)
   simpa only [aM] using this
  refine h1.trans ?_;rw [<- aM, <- aM];exact List.Perm.append_right _ cG
 refine xW (by (try simp only [evT, lookT_hit, lookT_miss, aG]); (first | done | exact rfl)) (Qh cc b s.room s.es) (by (repeat (first | exact Take.nil _ | with_reducible exact Pick.head _ _ | with_reducible apply Pick.tail | with_reducible apply Take.cons))) (fun pre S => ∃ Cj, J pre Cj /\ S = [bx b2 (.func (.yield l0) #[] #[]) 261, Cj, F, bx c1 (.pointer (some ⟨q, 0, none⟩)) 25])
  (fun k pre S => k = .ret /\ ∃ Cj, Jx pre Cj /\ S = [bx b2 (.func (.yield l0) #[] #[]) 261, Cj, F, bx c1 (.pointer (some ⟨q, 0, none⟩)) 25]) (fun h => by cases h) (fun S hS => ?_) (fun _ => rfl) ⟨C, hC, rfl⟩ ?_ ?_ ?_
 ·obtain ⟨Cj, hJ, rfl⟩ := hS;obtain ⟨_, R', ⟨T2, hT2, rfl⟩, hp⟩ := hT Cj hJ;refine T0_in (R := nB q b s ++ R') hT2 pkA (hp.trans ?_);rw [<- aM];exact List.Perm.append_right _ cG
 ·rintro l F1 S H r pre x hx ⟨Cj, hJ, rfl⟩ rfl;obtain ⟨k, v⟩ := x
  (try simp only [aD, aC, aL, encX])
  (try simp only [jz, putT, bM, if_true, reduceIte, Array.toList, dG])
  refine gg ?_;refine oA (encV v0).toArray fun b4 => ?_
  refine oS (encV v) rfl (jC v) ?_;refine gg ?_;refine ⟨_, .cons (.tail _ (.head _ _)) (Among.refl _), fun r' _ => ?_⟩;refine gg ?_;refine oL (encV v) rfl ?_;refine zf fun K hK => ?_
  refine xF (hY pre (k, v) hx) hJ rfl tkA (fun C4 H4 hJ4 hH4 => ?_) (fun C4 H4 hJ4 hH4 => ?_)
  ·subst hH4
   (try simp only [aD])
   refine hK _ _ ?_; clear hK K;refine gg ?_;exact ⟨_, ⟨_, [], rfl, ⟨C4, hJ4, rfl⟩, rfl⟩, by (try simp only [aL]); first | ((repeat (first | with_reducible exact Among.nil _ | with_reducible exact Pick.head _ _ | with_reducible apply Pick.tail | with_reducible apply Among.cons)); done) | ((repeat (first | exact Among.nil _ | exact Pick.head _ _ | apply Pick.tail | apply Among.cons)); done)⟩
  ·subst hH4
   (try simp only [aD])
   refine hK _ _ ?_; clear hK K;refine gg ?_;exact ⟨_, ⟨_, [], rfl, ⟨rfl, C4, hJ4, rfl⟩, rfl⟩, by (try simp only [aL]); first | ((repeat (first | with_reducible exact Among.nil _ | with_reducible exact Pick.head _ _ | with_reducible apply Pick.tail | with_reducible apply Among.cons)); done) | ((repeat (first | exact Among.nil _ | exact Pick.head _ _ | apply Pick.tail | apply Among.cons)); done)⟩
 ·rintro d pre S A rfl ⟨Cj, hJ, rfl⟩ rfl
  (try simp only [aD, aC])
  refine gg ?_;refine yF (vs := []) [Cj, bx c1 (.pointer (some ⟨q, 0, none⟩)) 25] ⟨Cj, _, rfl, .inl ⟨_, rfl, hJ, rfl⟩⟩
 ·rintro d k pre x S A hx ⟨rfl, Cj, hJ, rfl⟩ rfl
  (try simp only [aD, aC])
  refine gg ?_;refine ze (vs := []) [Cj, bx c1 (.pointer (some ⟨q, 0, none⟩)) 25] ⟨Cj, _, rfl, .inr ⟨pre, x, hx, hJ, rfl⟩⟩
theorem Uu (d : List UInt8) (a : Es) (x : List UInt8 × V) : hasD d (a ++ [x]) = (hasD d a || decide (x.2.draw = d)) := by
 simp [hasD]
theorem Ut {d : List UInt8} {es : Es} {x : List UInt8 × V} (hx : x ∈ es) (hd : x.2.draw = d) : hasD d es = true := by
 unfold hasD; rw [List.any_eq_true]; exact ⟨x, hx, by simp [hd]⟩
theorem put_new {s : NS} (h : NOk s) (hf : s.es.length < s.room) (d : List UInt8) (v : V) : putE s.room s.es (nonN d (s.ser + 1)) v = (0, s.es ++ [(nonN d (s.ser + 1), v)]) := by
 unfold putE;rw [h.fresh d, if_neg (by simp), if_neg (by omega)]
theorem dot_str : Value.string ⟨#[46]⟩ = .string (str [46]) := rfl
theorem Wk {T : Chunk} {b q : Nat} {s : NS} (hs : NOk s) (hser : s.ser < 1000) (hT : IsTab T b s.room s.es) (d : List UInt8) (hd : d.length <= 1000) (now : Int) (hn : now < 18446744073709551616) :
  Meets prog 34 [.pointer (some ⟨q, 0, none⟩), .string (str d), .int .u64 now] [nB q b s, T]
   fun v A => v = .tuple #[.string (str (zC s d now).1.1), .int .i64 (zC s d now).1.2] /\ ∃ T', IsTab T' b s.room (zC s d now).2.es /\ A = [nB q b (zC s d now).2, T'] := by
 have hdr := OX d (by omega);have hrs := Jt s now;have hrr := ww s now;have hrf := Ju hs now;have hro := Wh hs now;unfold zC;refine eN func34 ntmps34 results34 fun F => ?_
 refine gg ?_;refine oB fun b4 => ?_
 refine gg ?_;refine zf fun K hK => ?_; refine zu fun b6 => ?_; (try simp only [Value.cells]); refine hK _ _ ?_; clear hK K
 refine zf fun K hK => ?_; refine zu fun b7 => ?_; (try simp only [Value.cells]); refine hK _ _ ?_; clear hK K
 refine gg ?_;refine cA (hdr) ?_; rintro v A ⟨rfl, rfl⟩; refine gA ?_
 cases hB : yq d with
 | false =>
  rw [if_pos rfl];refine gg ?_;exact ze (vs := [.string (str []), .int .i64 4]) [nB q b s, T] ⟨rfl, T, hT, rfl⟩ (hr := by (intro κ hκ; simp only [resW, withV, lookT_hit, lookT_miss, aG]; refine zE lkA rfl ?_; refine zE lkA rfl ?_; exact hκ))
 | true =>
  rw [if_neg (by simp)];have hdl : d.length <= 40 := UC (by rw [hB]; simp);refine gg ?_
  by_cases hl : now < s.last
  ·rw [decide_eq_true hl, if_pos hl];refine gg ?_;exact ze (vs := [.string (str []), .int .i64 9]) [nB q b s, T] ⟨rfl, T, hT, rfl⟩ (hr := by (intro κ hκ; simp only [resW, withV, lookT_hit, lookT_miss, aG]; refine zE lkA rfl ?_; refine zE lkA rfl ?_; exact hκ))
  ·rw [decide_eq_false hl, if_neg hl];refine gg ?_;refine cA (JI _) ?_; rintro v A ⟨cc, rfl, rfl⟩; refine gA ?_
   refine qg (S' := [bx cc (.pointer (some ⟨q, 0, none⟩)) 25, bx b7 (.int .i64 0) 35, bx b6 (.string ⟨#[]⟩) 9, bx b4 (.string (str d)) 9, F, nB q b s ++ T]) (by
    classical
    refine List.perm_iff_count.2 fun z => ?_
    simp only [aO, bO, List.count_append, List.count_nil, Ost.bx];omega) ?_
   refine xW (by (try simp only [evT, lookT_hit, lookT_miss, aG]); (first | done | exact rfl)) (Vs cc q b s) (by (repeat (first | exact Take.nil _ | with_reducible exact Pick.head _ _ | with_reducible apply Pick.tail | with_reducible apply Take.cons))) (fun pre C => hasD d pre = false /\ C = [bx b7 (.int .i64 0) 35, bx b6 (.string ⟨#[]⟩) 9, bx b4 (.string (str d)) 9, F, nB q b s ++ T])
    (fun k pre C => k = .ret /\ hasD d s.es = true /\ C = [bx b7 (.int .i64 7) 35, bx b6 (.string ⟨#[]⟩) 9, bx b4 (.string (str d)) 9, F, nB q b s ++ T]) (fun h => by cases h) (fun C hC => ?_) (fun _ => rfl) ⟨rfl, rfl⟩ ?_ ?_ ?_
   ·obtain ⟨_, rfl⟩ := hC;exact Yn ⟨T, hT, rfl⟩ pkA
   ·rintro l F1 C H r pre x ⟨suf1, hxs⟩ ⟨hno, rfl⟩ rfl;have hxm : x ∈ s.es := by rw [hxs]; simp
    obtain ⟨_, hxd, ⟨m, _, hxn⟩, _, _⟩ := hs.en x hxm;have hap := Uu d pre x;rw [hno, dO] at hap;obtain ⟨k, v⟩ := x;simp only at hxd hxn hap;have hdw := OY v.draw (hx m) (by omega) (by rw [hx_len]; omega) (hx_dot m);rw [show v.draw ++ 46 :: hx m = v.non from hxn.symm] at hdw
    (try simp only [aD, aC, aL, encN_KC])
    (try simp only [jz, putT, bM, if_true, reduceIte, Array.toList, dG])
    refine gg ?_;refine oA (encV v0).toArray fun b8 => ?_
    refine oS (ZF v) rfl (jC v) ?_;refine gg ?_;refine ⟨_, .cons (.tail _ (.head _ _)) (Among.refl _), fun r' _ => ?_⟩;refine gg ?_;refine cdL [[0], [1], [3], [2, 0, 3], [4]] ?_;refine gg ?_;refine zg fun K hK => ?_; refine zo (hdw) ?_; rintro v A ⟨rfl, rfl⟩; refine pA hK ?_; clear hK K
    refine gg ?_;refine if_b (fun hc => ?_) (fun hc => ?_)
    ·refine gg ?_;exact ⟨_, ⟨_, [], rfl, ⟨rfl, Ut hxm hc, rfl⟩, rfl⟩, by (try simp only [aL]); first | ((repeat (first | with_reducible exact Among.nil _ | with_reducible exact Pick.head _ _ | with_reducible apply Pick.tail | with_reducible apply Among.cons)); done) | ((repeat (first | exact Among.nil _ | exact Pick.head _ _ | apply Pick.tail | apply Among.cons)); done)⟩
    ·refine gg ?_;exact ⟨_, ⟨_, [], rfl, ⟨by rw [hap]; exact decide_eq_false hc, rfl⟩, rfl⟩, by (try simp only [aL]); first | ((repeat (first | with_reducible exact Among.nil _ | with_reducible exact Pick.head _ _ | with_reducible apply Pick.tail | with_reducible apply Among.cons)); done) | ((repeat (first | exact Among.nil _ | exact Pick.head _ _ | apply Pick.tail | apply Among.cons)); done)⟩
   ·rintro l pre C A rfl ⟨hno, rfl⟩ rfl;rw [hno, if_neg (by simp)]
    refine qg (S' := [bx b7 (.int .i64 0) 35, bx b6 (.string ⟨#[]⟩) 9, bx b4 (.string (str d)) 9, F, nB q b s, T, bx cc (.pointer (some ⟨q, 0, none⟩)) 25, [(l, .deferred (some []))]]) (by
     classical
     refine List.perm_iff_count.2 fun z => ?_
     simp only [bG, aO, bO, List.count_append, List.count_nil, Ost.bx];omega) ?_
    have hroom := OH (q := q) hs hT now hn;generalize vz s now = s1 at *;refine gg ?_;refine cA (hroom) ?_; rintro v A ⟨rfl, T1, hT1, rfl⟩; refine gA ?_;rw [<- hrr] at hT1 hrf ⊢;rw [<- hrs];refine cdL [[0], [1], [2], [3], [4], [5], [6, 0, 0], [7], [8, 0]] ?_;refine gg ?_;refine qO fun K hK => ?_; rw [dot_str, zF (by simp; omega)]; refine hK _ _ ?_; clear hK K
    rw [show ((s1.ser : Int) + 1) = ((s1.ser + 1 : Nat) : Int) from by omega];refine gg ?_;refine zg fun K hK => ?_; refine zo (Kt (s1.ser + 1) (by omega)) ?_; rintro v A ⟨rfl, rfl⟩; refine pA hK ?_; clear hK K
    refine gg ?_;refine qO fun K hK => ?_; rw [zF (by simp [hx_len]; omega)]; refine hK _ _ ?_; clear hK K
    rw [show d ++ [46] ++ hx (s1.ser + 1) = nonN d (s1.ser + 1) from by simp [nonN]];refine gg ?_;refine oT [(0, .string (str (nonN d (s1.ser + 1)))), (1, .int .u64 now)] (ZF ⟨nonN d (s1.ser + 1), d, now, false, 0⟩).toArray ?_;refine gg ?_;have htp := tput hT1 (nonN d (s1.ser + 1)) ⟨nonN d (s1.ser + 1), d, now, false, 0⟩;rw [put_new hro hrf] at htp;refine cA (htp) ?_; rintro v A ⟨rfl, T2, hT2, rfl⟩; refine gA ?_;exact ze (vs := [.string (str (nonN d (s1.ser + 1))), .int .i64 0]) [nB q b (addN s1 d now), T2] ⟨rfl, T2, hT2, rfl⟩ (hr := by (intro κ hκ; simp only [resW, withV, lookT_hit, lookT_miss, aG]; refine zE lkA rfl ?_; refine zE lkA rfl ?_; exact hκ))
   ·rintro l k pre x C A hxs ⟨rfl, hyes, rfl⟩ rfl;rw [hyes, if_pos rfl]
    refine qg (S' := [bx b7 (.int .i64 7) 35, bx b6 (.string ⟨#[]⟩) 9, bx b4 (.string (str d)) 9, F, nB q b s, T, bx cc (.pointer (some ⟨q, 0, none⟩)) 25, [(l, .deferred (some []))]]) (by
     classical
     refine List.perm_iff_count.2 fun z => ?_
     simp only [bG, aO, bO, List.count_append, List.count_nil, Ost.bx];omega) ?_
    refine gg ?_;exact ze (vs := [.string (str []), .int .i64 7]) [nB q b s, T] ⟨rfl, T, hT, rfl⟩ (hr := by (intro κ hκ; simp only [resW, withV, lookT_hit, lookT_miss, aG]; refine zE lkA rfl ?_; refine zE lkA rfl ?_; exact hκ))
open Go.Nam
abbrev offV (b s q : Nat) (iter : Int) : List Value := [.pointer (some ⟨b, 0, none⟩), .pointer (some ⟨s, 0, none⟩), .pointer (some ⟨q, 0, none⟩), .int .i64 iter]
abbrev quB (k b s q : Nat) (iter : Int) (t : List UInt8) (ch : Int) : Chunk := [(k, .cells #[.pointer (some ⟨b, 0, none⟩), .pointer (some ⟨s, 0, none⟩), .pointer (some ⟨q, 0, none⟩), .int .i64 iter, .string (str t), .int .u64 ch] 117 (0, 0))]
instance tpOff : zH prog 27 [(0, 1), (1, 1), (2, 1), (3, 1)] := ⟨by kernel_rfl⟩
instance tpQu : zH prog 117 [(0, 4), (4, 1), (5, 1)] := ⟨by kernel_rfl⟩
instance tpTalk : zH prog 238 [(0, 4), (4, 1), (5, 1), (6, 5), (11, 1), (12, 1), (13, 1), (14, 1), (15, 10), (25, 1), (26, 1)] := ⟨by kernel_rfl⟩
abbrev talkV (b s q : Nat) (iter : Int) (t : List UInt8) : List Value := offV b s q iter ++ [.string (str t), .int .i64 0, .string ⟨#[]⟩, .string ⟨#[]⟩, .string ⟨#[]⟩, .string ⟨#[]⟩, .slice none 0 0, .string ⟨#[]⟩, .string ⟨#[]⟩, .string ⟨#[]⟩, .string ⟨#[]⟩, .string ⟨#[]⟩, .string ⟨#[]⟩, .slice none 0 0, .int .i64 0, .slice none 0 0, .slice none 0 0, .slice none 0 0, .int .u64 0, .slice none 0 0, .bool false, .bool false, .bool false]
theorem IG (b s q : Nat) (iter : Int) (hi : 1 <= iter /\ iter <= 64) (t : List UInt8) : Meets prog 55 [.agg (offV b s q iter).toArray, .string (str t)] [] fun v A => ∃ p, v = .tuple #[.pointer (some p), .int .i64 0] /\ A = [] := by
 refine eN func55 ntmps55 results55 fun F => ?_
 refine gg ?_;refine oB fun b2 => ?_
 refine gg ?_;rw [decide_eq_false (show ¬ iter < 1 by omega)];refine gg ?_;rw [decide_eq_false (show ¬ (64 : Int) < iter by omega)];refine gg ?_;refine oL (offV b s q iter) rfl ?_;refine gg ?_;refine oT [(0, .agg (offV b s q iter).toArray), (1, .string (str t))] (talkV b s q iter t).toArray ?_;refine gg ?_;refine oB fun p => ?_
 refine gg ?_;refine ze (vs := [.pointer (some ⟨p, 0, none⟩), .int .i64 0]) [] ?_;exact ⟨_, rfl, rfl⟩
theorem tnew_arg (b s q : Nat) (iter : Int) (hi : ¬ (1 <= iter /\ iter <= 64)) (t : List UInt8) : Meets prog 55 [.agg (offV b s q iter).toArray, .string (str t)] [] fun v A => v = .tuple #[.pointer none, .int .i64 1] /\ A = [] := by
 refine eN func55 ntmps55 results55 fun F => ?_
 refine gg ?_;refine oB fun b2 => ?_
 refine gg ?_
 by_cases h1 : iter < 1
 ·rw [decide_eq_true h1];refine gg ?_;refine ze (vs := [.pointer none, .int .i64 1]) [] ?_;exact ⟨rfl, rfl⟩
 ·rw [decide_eq_false h1];refine gg ?_;rw [decide_eq_true (show (64 : Int) < iter by omega)];refine gg ?_;refine ze (vs := [.pointer none, .int .i64 1]) [] ?_;exact ⟨rfl, rfl⟩
theorem IH (b q : Nat) (iter : Int) (t : List UInt8) : Meets prog 55 [.agg #[.pointer (some ⟨b, 0, none⟩), .pointer none, .pointer (some ⟨q, 0, none⟩), .int .i64 iter], .string (str t)] [] fun v A => v = .tuple #[.pointer none, .int .i64 6] /\ A = [] := by
 refine eN func55 ntmps55 results55 fun F => ?_
 refine gg ?_;refine oB fun b2 => ?_
 refine gg ?_;refine ze (vs := [.pointer none, .int .i64 6]) [] ?_;exact ⟨rfl, rfl⟩
theorem KU (b s q : Nat) (iter : Int) (hi : 1 <= iter /\ iter <= 64) (t : List UInt8) (hl : t.length <= 1000) (ht : vd t = true) : Meets prog 15 [.agg (offV b s q iter).toArray, .string (str t)] [] fun v A => ∃ k, v = .tuple #[.pointer (some ⟨k, 0, none⟩), .int .i64 0] /\ A = [quB k b s q iter t 0] := by
 refine eN func15 ntmps15 results15 fun F => ?_
 refine gg ?_;refine oB fun b2 => ?_
 refine gg ?_;refine oL (offV b s q iter) rfl ?_;refine gg ?_;refine cA (IG b s q iter hi t) ?_; rintro v A ⟨p, rfl, rfl⟩; refine gA ?_;refine cA (kx t (by omega)) ?_; rintro v A ⟨rfl, rfl⟩; refine gA ?_;rw [ht];refine gg ?_;refine oL (offV b s q iter) rfl ?_;refine gg ?_;refine oT [(0, .agg (offV b s q iter).toArray), (1, .string (str t))] ([.pointer (some ⟨b, 0, none⟩), .pointer (some ⟨s, 0, none⟩), .pointer (some ⟨q, 0, none⟩), .int .i64 iter, .string (str t), .int .u64 0] : List Value).toArray ?_;refine gg ?_;refine oB fun k => ?_
 refine gg ?_;refine ze (vs := [.pointer (some ⟨k, 0, none⟩), .int .i64 0]) [quB k b s q iter t 0] ?_;exact ⟨k, rfl, rfl⟩
theorem qnew_sign (b s q : Nat) (iter : Int) (hi : 1 <= iter /\ iter <= 64) (t : List UInt8) (hl : t.length <= 1000) (ht : vd t = false) : Meets prog 15 [.agg (offV b s q iter).toArray, .string (str t)] [] fun v A => v = .tuple #[.pointer none, .int .i64 5] /\ A = [] := by
 refine eN func15 ntmps15 results15 fun F => ?_
 refine gg ?_;refine oB fun b2 => ?_
 refine gg ?_;refine oL (offV b s q iter) rfl ?_;refine gg ?_;refine cA (IG b s q iter hi t) ?_; rintro v A ⟨p, rfl, rfl⟩; refine gA ?_;refine cA (kx t (by omega)) ?_; rintro v A ⟨rfl, rfl⟩; refine gA ?_;rw [ht];refine gg ?_;refine ze (vs := [.pointer none, .int .i64 5]) [] ?_;exact ⟨rfl, rfl⟩
theorem qnew_arg (b s q : Nat) (iter : Int) (hi : ¬ (1 <= iter /\ iter <= 64)) (t : List UInt8) : Meets prog 15 [.agg (offV b s q iter).toArray, .string (str t)] [] fun v A => v = .tuple #[.pointer none, .int .i64 1] /\ A = [] := by
 refine eN func15 ntmps15 results15 fun F => ?_
 refine gg ?_;refine oB fun b2 => ?_
 refine gg ?_;refine oL (offV b s q iter) rfl ?_;refine gg ?_;refine cA (tnew_arg b s q iter hi t) ?_; rintro v A ⟨rfl, rfl⟩; refine gA ?_;refine ze (vs := [.pointer none, .int .i64 1]) [] ?_;exact ⟨rfl, rfl⟩
theorem qnew_none (b q : Nat) (iter : Int) (t : List UInt8) : Meets prog 15 [.agg #[.pointer (some ⟨b, 0, none⟩), .pointer none, .pointer (some ⟨q, 0, none⟩), .int .i64 iter], .string (str t)] [] fun v A => v = .tuple #[.pointer none, .int .i64 6] /\ A = [] := by
 refine eN func15 ntmps15 results15 fun F => ?_
 refine gg ?_;refine oB fun b2 => ?_
 refine gg ?_;refine oL [.pointer (some ⟨b, 0, none⟩), .pointer none, .pointer (some ⟨q, 0, none⟩), .int .i64 iter] rfl ?_;refine gg ?_;refine cA (IH b q iter t) ?_; rintro v A ⟨rfl, rfl⟩; refine gA ?_;refine ze (vs := [.pointer none, .int .i64 6]) [] ?_;exact ⟨rfl, rfl⟩
theorem qchal_nil (d : List UInt8) (st : Bool) (now : Int) : Meets prog 8 [.pointer none, .string (str d), .bool st, .int .u64 now] [] fun v A => v = .tuple #[.string (str []), .int .i64 6] /\ A = [] := by
 refine eN func8 ntmps8 results8 fun F => ?_
 refine gg ?_;refine ze (vs := [.string (str []), .int .i64 6]) [] ?_;exact ⟨rfl, rfl⟩
theorem kR : Meets prog 16 [.pointer none] [] fun v A => v = .int .u64 0 /\ A = [] := by
 refine eN func16 ntmps16 results16 fun F => ?_
 refine gg ?_;refine zb [] ?_; exact ⟨rfl, rfl⟩
theorem Ov {T : Chunk} {k b s q tb : Nat} {iter ch : Int} {n : NS} (hs : NOk n) (hser : n.ser < 1000) (hT : IsTab T tb n.room n.es) (d : List UInt8) (hd : d.length <= 1000) (st : Bool) (now : Int) (hn : now < 18446744073709551616) (hn0 : 0 <= now) (hln : (zC n d now).1.1.length <= 4000) :
  Meets prog 8 [.pointer (some ⟨k, 0, none⟩), .string (str d), .bool st, .int .u64 now] [quB k b s q iter [116] ch, nB q tb n, T]
  fun v A => ∃ T', v = (if (zC n d now).1.2 = 0 then .tuple #[.string (str (qh ⟨[116], (zC n d now).1.1, [], st⟩).1), .int .i64 (qh ⟨[116], (zC n d now).1.1, [], st⟩).2] else .tuple #[.string (str []), .int .i64 (zC n d now).1.2]) /\ IsTab T' tb n.room (zC n d now).2.es /\ A = [quB k b s q iter [116] ch, nB q tb (zC n d now).2, T'] := by
 refine eN func8 ntmps8 results8 fun F => ?_
 refine gg ?_;refine cA (Wk hs hser hT d hd now hn) ?_; rintro v A ⟨rfl, T', hT', rfl⟩; refine gA ?_
 by_cases h0 : (zC n d now).1.2 = 0
 ·rw [if_pos h0, h0];refine gg ?_;refine oT [(0, .string (str [116])), (1, .string (str (zC n d now).1.1)), (3, .bool st)] (encC ⟨[116], (zC n d now).1.1, [], st⟩).toArray ?_;refine gg ?_;refine cA (WV ⟨[116], (zC n d now).1.1, [], st⟩ (by show 1 <= 4000; decide) hln (by show 0 <= 4000; decide)) ?_; rintro v A ⟨rfl, rfl⟩; refine gA ?_;refine ze (vs := [.string (str (qh ⟨[116], (zC n d now).1.1, [], st⟩).1), .int .i64 (qh ⟨[116], (zC n d now).1.1, [], st⟩).2]) [quB k b s q iter [116] ch, nB q tb (zC n d now).2, T'] ?_;exact ⟨T', rfl, hT', rfl⟩
 ·rw [if_neg h0, bne_iff_ne.2 h0];refine gg ?_;refine ze (vs := [.string (str []), .int .i64 (zC n d now).1.2]) [quB k b s q iter [116] ch, nB q tb (zC n d now).2, T'] ?_;exact ⟨T', rfl, hT', rfl⟩
end Go.Proofs.YtebikhhoppiapaaGreatDoor
namespace Go.Proofs.YtebikhhoppiapaaGreatDoor
open Go Go.Ost Go.Sha _root_.Go.Proofs.Tryz
abbrev botV (b s q : Nat) (iter : Int) (o k y : Nat) : List Value := [.pointer (some ⟨b, 0, none⟩), .pointer (some ⟨s, 0, none⟩), .pointer (some ⟨q, 0, none⟩), .int .i64 iter, .pointer (some ⟨o, 0, none⟩), .pointer (some ⟨k, 0, none⟩), .pointer (some ⟨y, 0, none⟩)]
instance tpDAn : zH prog 126 [(0, 1), (1, 1), (2, 1), (3, 1), (4, 1), (5, 1), (6, 1), (7, 1)] := ⟨by kernel_rfl⟩
theorem ZU {G : Chunk} (hg : qJ G) {C R : Chunk} {b s q k y o rb us ns : Nat} {iter it2 ch : Int} {x : BX} (hC : qL C b x) (hR : RBox R rb x) (hts : x.ts.length <= 800) (u p m uri n cn : List UInt8) (nc : W) (hu : u.length <= 1000) (hp : p.length <= 1000) (hm : m.length <= 1000) (huri : uri.length <= 1000) (hn : n.length <= 1000) (hcn : cn.length <= 1000) :
  Meets prog 11 [.agg (botV b s q iter o k y).toArray, .string (str u), .string (str p), .string (str m), .string (str uri), .string (str n), .string (str cn), b32 nc] [C, R, G, ryB y o [116] ch, ofB o rb us ns it2]
  fun v A => ∃ C' R', v = .string (str (qX x u p m uri n cn nc).1.1) /\ qL C' b (qX x u p m uri n cn nc).2 /\ RBox R' rb (qX x u p m uri n cn nc).2 /\ A = [C', R', G, ryB y o [116] ch, ofB o rb us ns it2] := by
 have hcl := QK (y := y) (o := o) (us := us) (ns := ns) (iter := it2) (ch := ch) hg hR hts u p m uri n cn nc hu hp hm huri hn hcn;refine eN func11 ntmps11 results11 fun F => ?_
 refine gg ?_;refine oB fun b8 => ?_
 refine gg ?_;refine cA (hcl) ?_; rintro v A ⟨R', rfl, hR', rfl⟩; refine gA ?_;have hl1 := jH x (xq u [116] p);have ht := xU x (xq u [116] p);refine cdL [[0], [1], [2], [3], [4], [5], [6], [7], [9], [10], [11], [12], [13], [14], [15], [8, 0, 2], [16, 0]] ?_;refine gg ?_;refine qO fun K hK => ?_; rw [zV (ps := [(0, .string (str u)), (1, .string ⟨#[116]⟩), (2, .string (str n)), (3, .string (str uri)), (4, .string (str cn)), (6, b32 nc)]) (cs := (encA (anC u n uri cn nc []) none 0).toArray) (by kernel_rfl)]; refine hK _ _ ?_; clear hK K
 refine gg ?_;refine zg fun K hK => ?_; refine zo (ha1_spec hg.1 hC (by omega) u [116] p hu (by decide) hp) ?_; rintro v A ⟨O, C1, oa, oc, rfl, hO, hC1, rfl⟩; refine pA hK ?_; clear hK K
 refine gg ?_;unfold qX at *;simp only at *;generalize xl x (xq u [116] p) = h at *;refine zg fun K hK => ?_; refine zo (QG hg.1 hC1 (by omega) h.1 m (by omega) hm (hO.rd (aB ..)) (anC u n uri cn nc []) (by show n.length <= 4096; omega) (by show uri.length <= 4096; omega) (by show cn.length <= 4096; omega) none 0) ?_; rintro v A ⟨O2, C2, qa, qc, rfl, hO2, hC2, rfl⟩; refine pA hK ?_; clear hK K
 refine gg ?_;refine zb [C2, R', G, ryB y o [116] ch, ofB o rb us ns it2] ?_;exact ⟨C2, R', rfl, hC2, hR', rfl⟩
open Go.Tab
def encR (x : List UInt8 × V) : List Value := [.string (str x.2.non), .string (str x.2.draw), .int .u64 x.2.at_, .bool x.2.sp, .int .u32 x.2.cnt]
theorem UA (x : List UInt8 × V) : (encR x).length = 5 := rfl
abbrev wg (C : Chunk) (a : Option Addr) (c : Nat) (es : Es) : Prop := Ost.Own 5 173 C a es.length c (es.flatMap encR)
abbrev xN (r : Nat) (s : NS) (la : Option Addr) (n lc : Nat) : Chunk := [(r, .cells #[.int .i64 s.room, .int .u64 s.win, .slice la n lc, .int .u64 s.ser, .int .u64 s.last, .int .u64 s.mark, .bool s.mrk] 105 (0, 0))]
theorem ZW (x : List UInt8 × V) : ∀ u ∈ encR x, Value.cell1 u := by simp [encR, Value.cell1]
theorem cell_R : ∀ es : Es, ∀ v ∈ es.flatMap encR, Value.cell1 v
 | [], v, h => by cases h
 | x :: es, v, h => by
  rw [bP, List.mem_append] at h
  rcases h with h | h
  ·exact ZW x v h
  ·exact cell_R es v h
instance iKD_1 : zH prog 173 [(0, 1), (1, 1), (2, 1), (3, 1), (4, 1)] := ⟨by kernel_rfl⟩
theorem Oj (d now : Value) : Meets prog 36 [.pointer none, d, now] [] fun v A => v = .tuple #[.string (str []), .int .i64 6] /\ A = [] := by
 refine eN func36 ntmps36 results36 fun F => ?_
 refine gg ?_;refine ze [] ?_; exact ⟨rfl, rfl⟩
section ref
variable {r : Nat} {s : NS} {la : Option Addr} {lc : Nat} {es : Es} {Cl : Chunk}
theorem rold_spec {n : Nat} (x : List UInt8 × V) (hv : 0 <= x.2.at_) (now : Int) (hn : now < 18446744073709551616) :
  Meets prog 152 [.pointer (some ⟨r, 0, none⟩), .agg (encR x).toArray, .int .u64 now] [xN r s la n lc] fun u A => u = .bool (oldB s now x) /\ A = [xN r s la n lc] := by
 obtain ⟨k, v⟩ := x;simp only at hv;have hB : oldB s now (k, v) = (decide (v.at_ < now) && decide (s.win < now - v.at_) || (s.mrk && decide (v.at_ <= s.mark))) := rfl;rw [hB];refine eN func152 ntmps152 results152 fun F => ?_
 refine gg ?_;refine oB fun b4 => ?_
 simp only [encR];refine gg ?_;refine cdL [[0], [1], [2], [3], [4], [5], [6], [7], [8], [9], [10], [11], [12], [13], [14], [15], [16], [17], [18], [19], [20], [21], [22], [23], [24], [25], [26], [27], [28], [29], [30, 0]] ?_;refine gg ?_
 by_cases h1 : v.at_ < now
 ·rw [decide_eq_true h1];refine gg ?_
  by_cases h2 : s.win < now - v.at_
  ·rw [decide_eq_true h2];refine gg ?_;refine zb [xN r s la n lc] ?_; exact ⟨rfl, rfl⟩
  ·rw [decide_eq_false h2];refine gg ?_
   cases hm : s.mrk with
   | true =>
    refine gg ?_;refine zb [xN r s la n lc] ?_; exact ⟨rfl, rfl⟩
   | false =>
    refine gg ?_;refine zb [xN r s la n lc] ?_; exact ⟨rfl, rfl⟩
 ·rw [decide_eq_false h1];refine gg ?_
  cases hm : s.mrk with
  | true =>
   refine gg ?_;refine zb [xN r s la n lc] ?_; exact ⟨rfl, rfl⟩
  | false =>
   refine gg ?_;refine zb [xN r s la n lc] ?_; exact ⟨rfl, rfl⟩
theorem KA (hs : NOk s) (ho : wg Cl la lc s.es) (now : Int) (hn : now < 18446744073709551616) :
  Meets prog 103 [.pointer (some ⟨r, 0, none⟩), .int .u64 now] [xN r s la s.es.length lc, Cl]
   fun v A => v = .int .i64 (jx s now).1 /\ ∃ la lc Cl, wg Cl la lc (jx s now).2.es /\ A = [xN r (jx s now).2 la (jx s now).2.es.length lc, Cl] := by
 have hl := UA;have hb : s.es.length <= 64 := by have := hs.fit; have := hs.r2; omega
 refine eN func103 ntmps103 results103 fun F => ?_
 refine gg ?_;refine zB ?_
 refine zz (fun q D L S => ∃ (i : Nat) (X : Chunk) (xa : Option Addr) (xc : Nat), i <= s.es.length /\ wg X xa xc ((s.es.take i).filter fun x => !oldB s now x) /\ q = s.es.length - i /\ D = [] /\
  L = [(16, .int .i64 i), (15, .int .i64 s.es.length), (14, .slice la s.es.length lc), (6, .int .i64 (((s.es.take i).filter (oldB s now)).length : Nat)), (5, .slice xa ((s.es.take i).filter fun x => !oldB s now x).length xc), (0, .pointer (some ⟨r, 0, none⟩)), (1, .int .u64 now)] /\ S = [X, xN r s la s.es.length lc, Cl, F])
  ⟨0, [], none, 0, by omega, own_nil, rfl, rfl, rfl, rfl⟩ ?_
 rintro q D L S ⟨i, X, xa, xc, hi, hX, rfl, rfl, rfl, rfl⟩;refine gg ?_;refine if_d (fun hc => ?_) (fun hc => ?_)
 ·have hil : i < s.es.length := by omega
  have hx : s.es[i]? = some s.es[i] := aF hil;have htk := List.take_succ_eq_append_getElem hil;have htil := (hs.en _ (dD hil)).at0;have hlen2 : ((s.es.take i).filter fun x => !oldB s now x).length <= 64 := dN (List.length_filter_le _ _) (by rw [aU]; omega);have hlen3 : ((s.es.take i).filter (oldB s now)).length <= 64 := dN (List.length_filter_le _ _) (by rw [aU]; omega);generalize s.es[i] = x at *;refine gg ?_;refine zf fun K hK => ?_; refine zT ho hl hx (by decide) mmA ?_; refine hK _ _ ?_; clear hK K
  refine zf fun K hK => ?_; refine zu fun b6 => ?_; (try simp only [Value.cells]); refine hK _ _ ?_; clear hK K
  refine gg ?_;refine oS (encR x) rfl (ZW x) ?_;refine gg ?_;refine oL (encR x) rfl ?_;refine gg ?_;refine cA (rold_spec (r := r) (s := s) (la := la) (n := s.es.length) (lc := lc) x htil now hn) ?_; rintro v A ⟨rfl, rfl⟩; refine gA ?_
  have eg : ((s.es.take (i + 1)).filter fun x => !oldB s now x) = ((s.es.take i).filter fun x => !oldB s now x) ++ (if oldB s now x = true then [] else [x]) := by
   rw [htk, List.filter_append]; congr 1
   cases h : oldB s now x <;> simp [List.filter_cons, h]
  have ef : ((s.es.take (i + 1)).filter (oldB s now)).length = ((s.es.take i).filter (oldB s now)).length + (if oldB s now x = true then 1 else 0) := by
   rw [htk, List.filter_append, aA]; congr 1
   cases h : oldB s now x <;> simp [List.filter_cons, h]
  cases hB : oldB s now x with
  | true =>
   rw [hB, if_pos rfl] at eg ef;rw [aL] at eg;rw [<- eg] at hX ⊢;refine gg ?_;exact zv ⟨i + 1, X, xa, xc, by omega, hX, rfl, rfl, by rw [ef], rfl⟩
  | false =>
   rw [hB, if_neg (by simp)] at eg ef;simp only [dQ] at ef;refine gg ?_;refine oL (encR x) rfl ?_;refine zf fun K hK => ?_; refine zN (e := 173) (s := 5) (hs := inferInstance) (vs := encR x) (by rfl) (by decide) (by decide) rfl (fun b1 C1 ho1 => ?_); refine hK _ _ ?_; clear hK K
   refine zf fun K hK => ?_; refine zn (e := 173) (s := 5) (hs := inferInstance) (by rfl) (by decide) hX (.inr pkA) (ho1.rd mmA) (ZW _) (by simp only [maxLen]; omega) (by omega) (fun C3 a3 cap3 ho3 => ?_); refine hK _ _ ?_; clear hK K
   have e1 : ((s.es.take i).filter fun x => !oldB s now x).length + 1 = ((s.es.take (i + 1)).filter fun x => !oldB s now x).length := by rw [eg]; simp
   have e2 : ((s.es.take i).filter fun x => !oldB s now x).flatMap encR ++ encR x = ((s.es.take (i + 1)).filter fun x => !oldB s now x).flatMap encR := by rw [eg, cH]; simp
   rw [e1, e2] at ho3;rw [e1, <- ef];refine gg ?_;exact zv ⟨i + 1, C3, a3, cap3, by omega, ho3, rfl, rfl, rfl, rfl⟩
 ·obtain rfl : i = s.es.length := by omega
  rw [bF] at *;refine gg ?_;refine zb [xN r s xa (s.es.filter fun x => !oldB s now x).length xc, X] ⟨rfl, xa, xc, X, hX, rfl⟩
end ref
end Go.Proofs.YtebikhhoppiapaaGreatDoor
namespace Go.Proofs.YtebikhhoppiapaaGreatDoor
open Go Go.Ost Go.Tab Go.Sha
section ref
variable {r : Nat} {s : NS} {la : Option Addr} {lc : Nat} {es : Es} {Cl : Chunk}
end ref
open _root_.Go.Proofs.Tryz
section ref
variable {r : Nat} {s : NS} {la : Option Addr} {lc : Nat} {Cl : Chunk}
theorem drop_of {s : NS} {x : List UInt8 × V} {es : Es} (h : s.es = x :: es) : WJ s = { s with es := es, mark := maxI s.mark x.2.at_, mrk := true } := by
 obtain ⟨room, win, es', ser, last, mark, mk⟩ := s;simp only at h;subst h
 rfl
theorem KI (hs : NOk s) (hser : s.ser < 1000) (ho : wg Cl la lc s.es) (d : List UInt8) (hd : d.length <= 1000) (now : Int) (hn : now < 18446744073709551616) :
  Meets prog 36 [.pointer (some ⟨r, 0, none⟩), .string (str d), .int .u64 now] [xN r s la s.es.length lc, Cl]
   fun v A => v = .tuple #[.string (str (zC s d now).1.1), .int .i64 (zC s d now).1.2] /\ ∃ la lc Cl, wg Cl la lc (zC s d now).2.es /\ A = [xN r (zC s d now).2 la (zC s d now).2.es.length lc, Cl] := by
 have hl := UA;have hb : s.es.length <= 64 := by have := hs.fit; have := hs.r2; omega
 have hrn := KH d (by omega);have hrs := Jt s now;have hrr := ww s now;have hrf := Ju hs now;have hro := Wh hs now;have hr2 := hs.r2;have hr1 := hs.r1;have hB : yq d = (d.all nonB && (decide (1 <= d.length) && decide (d.length <= 40))) := rfl;unfold zC;refine eN func36 ntmps36 results36 fun F => ?_
 refine gg ?_;refine cA (hrn) ?_; rintro v A ⟨rfl, rfl⟩; refine gA ?_
 cases hA : (d.all nonB && (decide (1 <= d.length) && decide (d.length <= 64))) with
 | false =>
  have hB0 : yq d = false := by
   rw [hB]
   by_cases h : d.length <= 40
   ·rw [decide_eq_true h]; rw [decide_eq_true (show d.length <= 64 by omega)] at hA; exact hA
   ·rw [decide_eq_false h]; simp
  rw [if_pos hB0];refine gg ?_;refine ze (vs := [.string (str []), .int .i64 4]) [xN r s la s.es.length lc, Cl] ⟨rfl, la, lc, Cl, ho, rfl⟩
 | true =>
  refine gg ?_
  by_cases h40 : (40 : Int) < d.length
  ·have hB0 : yq d = false := by rw [hB, decide_eq_false (show ¬ d.length <= 40 by omega)]; simp
   rw [if_pos hB0, decide_eq_true h40];refine gg ?_;refine ze (vs := [.string (str []), .int .i64 4]) [xN r s la s.es.length lc, Cl] ⟨rfl, la, lc, Cl, ho, rfl⟩
  ·have hB1 : yq d = true := by
    rw [hB, decide_eq_true (show d.length <= 40 by omega)]; rw [decide_eq_true (show d.length <= 64 by omega)] at hA; exact hA
   rw [if_neg (by rw [hB1]; simp), decide_eq_false h40];refine gg ?_
   by_cases hlt : now < s.last
   ·rw [decide_eq_true hlt, if_pos hlt];refine gg ?_;refine ze (vs := [.string (str []), .int .i64 9]) [xN r s la s.es.length lc, Cl] ⟨rfl, la, lc, Cl, ho, rfl⟩
   rw [decide_eq_false hlt, if_neg hlt];refine gg ?_
   refine zz (fun q D L S => ∃ i : Nat, i <= s.es.length /\ hasD d (s.es.take i) = false /\ q = s.es.length - i /\ D = [] /\
    L = [(33, .int .i64 i), (32, .int .i64 s.es.length), (31, .slice la s.es.length lc), (0, .pointer (some ⟨r, 0, none⟩)), (1, .string (str d)), (2, .int .u64 now)] /\ S = [xN r s la s.es.length lc, Cl, F])
    ⟨0, by omega, rfl, rfl, rfl, rfl, rfl⟩ ?_
   rintro q D L S ⟨i, hi, hno, rfl, rfl, rfl, rfl⟩;refine gg ?_;refine if_d (fun hc => ?_) (fun hc => ?_)
   ·have hil : i < s.es.length := by omega
    have hx : s.es[i]? = some s.es[i] := aF hil;have hxm := dD hil;have htk := List.take_succ_eq_append_getElem hil;generalize s.es[i] = x at *;have hap := Uu d (s.es.take i) x;rw [hno, dO, <- htk] at hap;refine gg ?_;refine zf fun K hK => ?_; refine zT ho hl hx (by decide) mmA ?_; refine hK _ _ ?_; clear hK K
    refine zf fun K hK => ?_; refine zu fun b9 => ?_; (try simp only [Value.cells]); refine hK _ _ ?_; clear hK K
    refine gg ?_;refine oS (encR x) rfl (ZW x) ?_;simp only [encR];refine gg ?_;refine if_b (fun hc => ?_) (fun hc => ?_)
    ·rw [if_pos (Ut hxm hc)];refine gg ?_;refine ze (vs := [.string (str []), .int .i64 7]) [xN r s la s.es.length lc, Cl] ⟨rfl, la, lc, Cl, ho, rfl⟩
    ·refine gg ?_;exact zv ⟨i + 1, by omega, by rw [hap]; exact decide_eq_false hc, rfl, rfl, rfl, rfl⟩
   ·obtain rfl : i = s.es.length := by omega
    rw [bF] at hno;rw [hno, if_neg (by simp)]
    (repeat (first | (with_reducible refine Zb ?_) | (with_reducible refine IK ?_) | (with_reducible refine IL ?_) | (with_reducible refine Ya ?_) | (with_reducible refine WY ?_) | (with_reducible refine Yb ?_) | ((with_reducible refine wd ?_); refine WZ ?_) | (with_reducible refine Kv ?_) | (with_reducible refine Ku ?_) | (with_reducible refine Kw ?_) | (with_reducible refine zI ?_) | (with_reducible refine zU ?_)))
    (with_reducible refine zY ?_); refine zQ (fun D L S => ∃ la lc Cl, wg Cl la lc (vz s now).es /\ D = [] /\ L = [(0, .pointer (some ⟨r, 0, none⟩)), (1, .string (str d)), (2, .int .u64 now)] /\ S = [xN r (vz s now) la (vz s now).es.length lc, Cl, F]) ?_ ?_
    ·refine gg ?_;refine cdL [[0], [1], [2], [3], [4], [5], [6], [7], [8], [9], [10], [11], [12], [13, 0], [14], [15]] ?_;refine gg ?_
     by_cases hf : s.es.length = s.room
     ·rw [decide_eq_true (show (s.room : Int) <= s.es.length by omega)];refine gg ?_;have hsw := KA (r := r) hs ho now hn;unfold vz;rw [if_pos hf]
      by_cases h0 : 0 < (jx s now).1
      ·rw [if_pos h0];refine zg fun K hK => ?_; refine zo (hsw) ?_; rintro v A ⟨rfl, la', lc', Cl', ho', rfl⟩; refine pA hK ?_; clear hK K
       refine gg ?_;rw [beq_eq_false_iff_ne.2 (show (jx s now).1 ≠ 0 by omega)];refine gg ?_;exact mid ⟨la', lc', Cl', ho', rfl, rfl, rfl⟩
      ·rw [if_neg h0]
       have hz : (jx s now).1 = 0 := by
        have : (0 : Int) <= (jx s now).1 := Int.natCast_nonneg _;omega
       have he : (jx s now).2 = s := by
        obtain ⟨room, win, es, ser, last, mark, mk⟩ := s
        show (NS.mk room win _ ser last mark mk) = _
        rw [Xs h0]
       rw [he, hz] at hsw;refine zg fun K hK => ?_; refine zo (hsw) ?_; rintro v A ⟨rfl, la', lc', Cl', ho', rfl⟩; refine pA hK ?_; clear hK K
       have hmk := hs.mk0;have hen := hs.en;have hm0 := hs.mark0
       cases hes : s.es with
       | nil => rw [hes] at hf; simp only [aV] at hf; omega
       | cons x es =>
        have hat := (hen x (by rw [hes]; exact aB ..)).at0;rw [hes] at ho' hb;have hx : (x :: es)[0]? = some x := rfl;have hlc := ho'.1;have hlen1 : 1 <= (x :: es).length := by simp
        have hr := ho'.rd (S := [Cl']) (by simp);rw [aJ] at hb
        have hr3 : Rd 5 [Cl'] (cutA 5 la' 1 lc') es.length (es.flatMap encR) := by
         have q := rd_cutF hl hr (l := 1) (h' := (x :: es).length) (m := lc') (by simp) (by omega) (by omega);rw [show (x :: es).length - 1 = es.length from by simp, List.drop_one, List.tail_cons, bF] at q;exact q
        rw [drop_of hes];refine gg ?_;refine zf fun K hK => ?_; refine xY fun b0 C0 ho0 => ?_; refine hK _ _ ?_; clear hK K
        refine gg ?_;refine gM ?_;refine gg ?_;rw [show (x :: es).length - 1 = es.length from by simp];refine zf fun K hK => ?_; refine zn (e := 173) (s := 5) (hs := inferInstance) (by rfl) (by decide) ho0 (.inr pkA) (hr3.mem mmA) (cell_R _) (by simp only [maxLen]; omega) (by omega) (fun C2 a2 cap2 ho2 => ?_); refine hK _ _ ?_; clear hK K
        rw [aD, cD] at ho2
        (try rw [cD])
        refine gg ?_
        cases hm : s.mrk with
        | false =>
         rw [show maxI s.mark x.2.at_ = x.2.at_ from by rw [hmk hm]; unfold maxI; split <;> omega];refine gg ?_;exact mid ⟨a2, cap2, C2, ho2, rfl, rfl, rfl⟩
        | true =>
         refine gg ?_
         by_cases hg : s.mark < x.2.at_
         ·rw [decide_eq_true hg, show maxI s.mark x.2.at_ = x.2.at_ from if_pos hg];refine gg ?_;exact mid ⟨a2, cap2, C2, ho2, rfl, rfl, rfl⟩
         ·rw [decide_eq_false hg, show maxI s.mark x.2.at_ = s.mark from if_neg hg];refine gg ?_;exact mid ⟨a2, cap2, C2, ho2, rfl, rfl, rfl⟩
     ·rw [decide_eq_false (show ¬ (s.room : Int) <= s.es.length by have := hs.fit; omega)];refine gg ?_;unfold vz;rw [if_neg hf];exact mid ⟨la, lc, Cl, ho, rfl, rfl, rfl⟩
    generalize vz s now = s1 at *;rintro D L S ⟨la1, lc1, Cl1, ho1, rfl, rfl, rfl⟩;have hr := ho1.rd (S := [Cl1]) (by simp);have hd40 : d.length <= 40 := by omega
    rw [<- hrs];refine gg ?_;refine zf fun K hK => ?_; rw [dot_str, zF (by simp; omega)]; refine hK _ _ ?_; clear hK K
    rw [show ((s1.ser : Int) + 1) = ((s1.ser + 1 : Nat) : Int) from by omega];refine gg ?_;refine cA (xT (s1.ser + 1) 8 (by omega) (by omega)) ?_; rintro v A ⟨O, oa, oc, rfl, hO, rfl⟩; refine gA ?_;refine cA (jN O oa oc (be 8 (s1.ser + 1)) (by rw [jb]; omega) (hO.rd (by simp))) ?_; rintro v A ⟨rfl, rfl⟩; refine gA ?_;refine zf fun K hK => ?_; rw [zF (by rw [hex_len, jb]; simp; omega)]; refine hK _ _ ?_; clear hK K
    rw [show d ++ [46] ++ hex (be 8 (s1.ser + 1)) = nonN d (s1.ser + 1) from by simp [nonN, hx]];refine gg ?_;refine zf fun K hK => ?_; refine xY fun b0 C0 ho0 => ?_; refine hK _ _ ?_; clear hK K
    refine gg ?_;refine zf fun K hK => ?_; refine zn (e := 173) (s := 5) (hs := inferInstance) (by rfl) (by decide) ho0 (.inr pkA) (hr.mem mmA) (cell_R _) (by simp only [maxLen]; omega) (by omega) (fun C2 a2 cap2 ho2 => ?_); refine hK _ _ ?_; clear hK K
    refine gg ?_;refine oT [(0, .string (str (nonN d (s1.ser + 1)))), (1, .string (str d)), (2, .int .u64 now)] (encR (nonN d (s1.ser + 1), ⟨nonN d (s1.ser + 1), d, now, false, 0⟩)).toArray ?_;refine gg ?_;refine zf fun K hK => ?_; refine zN (e := 173) (s := 5) (hs := inferInstance) (vs := encR (nonN d (s1.ser + 1), ⟨nonN d (s1.ser + 1), d, now, false, 0⟩)) (by rfl) (by decide) (by decide) rfl (fun b1 C1 hb1 => ?_); refine hK _ _ ?_; clear hK K
    refine gg ?_;refine zf fun K hK => ?_; refine zn (e := 173) (s := 5) (hs := inferInstance) (by rfl) (by decide) ho2 (.inr pkA) (hb1.rd mmA) (ZW _) (by simp only [maxLen]; omega) (by omega) (fun C3 a3 cap3 ho3 => ?_); refine hK _ _ ?_; clear hK K
    have e1 : 0 + s1.es.length + 1 = (s1.es ++ [(nonN d (s1.ser + 1), (⟨nonN d (s1.ser + 1), d, now, false, 0⟩ : V))]).length := by simp
    have e2 : [] ++ s1.es.flatMap encR ++ encR (nonN d (s1.ser + 1), ⟨nonN d (s1.ser + 1), d, now, false, 0⟩) = (s1.es ++ [(nonN d (s1.ser + 1), (⟨nonN d (s1.ser + 1), d, now, false, 0⟩ : V))]).flatMap encR := by simp
    rw [e1, e2] at ho3;rw [e1];refine gg ?_;refine ze (vs := [.string (str (nonN d (s1.ser + 1))), .int .i64 0]) [xN r (addN s1 d now) a3 (s1.es ++ [(nonN d (s1.ser + 1), (⟨nonN d (s1.ser + 1), d, now, false, 0⟩ : V))]).length cap3, C3] ⟨rfl, a3, cap3, C3, ho3, rfl⟩
end ref
def Qi (sp : Option Addr) (T : Chunk) : Option NS -> Prop
 | none => sp = none /\ T = []
 | some s => ∃ q b T1, NOk s /\ IsTab T1 b s.room s.es /\ sp = some ⟨q, 0, none⟩ /\ T = nB q b s ++ T1
def Im (xp : Option Addr) (U : Chunk) : Option NS -> Prop
 | none => xp = none /\ U = []
 | some s => ∃ r la lc Cl, NOk s /\ wg Cl la lc s.es /\ xp = some ⟨r, 0, none⟩ /\ U = xN r s la s.es.length lc ++ Cl
def Uc (st : Option NS) (d : List UInt8) (now : Int) : (List UInt8 × Int) × Option NS := match st with
 | none => (([], 6), none)
 | some s => ((zC s d now).1, some (zC s d now).2)
def oSer (st : Option NS) : Nat := match st with
 | none => 0
 | some s => s.ser
theorem OM (s : NS) (d : List UInt8) (now : Int) : (zC s d now).2.room = s.room := by
 unfold zC
 split
 ·rfl
 ·split
  ·rfl
  ·split
   ·rfl
   ·exact ww s now
theorem use_room (s : NS) (n : List UInt8) (c now : Int) : (useN s n c now).2.room = s.room := by
 unfold useN; split
 ·split
  ·rfl
  ·split <;> rfl
 ·rfl
theorem xIssue {xp : Option Addr} {U : Chunk} {st : Option NS} (h : Im xp U st) (hser : oSer st < 1000) (d : List UInt8) (hd : d.length <= 1000) (now : Int) (hn0 : 0 <= now) (hn : now < 18446744073709551616) :
  Meets prog 36 [.pointer xp, .string (str d), .int .u64 now] [U] fun v A => v = .tuple #[.string (str (Uc st d now).1.1), .int .i64 (Uc st d now).1.2] /\ ∃ U', Im xp U' (Uc st d now).2 /\ A = [U'] := by
 rcases st with _ | s
 ·obtain ⟨rfl, rfl⟩ := h;refine Meets.conv [] (Oj (.string (str d)) (.int .u64 now)) rfl (.nil _) ?_;rintro v A ⟨rfl, rfl⟩;exact ⟨[[]], [], rfl, .nil _, rfl, [], ⟨rfl, rfl⟩, rfl⟩
 ·obtain ⟨r, la, lc, Cl, hs, ho, rfl, rfl⟩ := h;refine Meets.conv [xN r s la s.es.length lc, Cl] (KI hs hser ho d hd now hn) flA tkA ?_; rintro v A ⟨rfl, la', lc', Cl', ho', rfl⟩;exact ⟨[xN r (zC s d now).2 la' (zC s d now).2.es.length lc' ++ Cl'], [xN r (zC s d now).2 la' (zC s d now).2.es.length lc', Cl'], flA, amA, rfl, _, ⟨r, la', lc', Cl', Ua hs hser d now hn0, ho', rfl, rfl⟩, rfl⟩
end Go.Proofs.YtebikhhoppiapaaGreatDoor
namespace Go.Proofs.YtebikhhoppiapaaGreatDoor
open Go Go.Ost Go.Tab Go.Sha
structure Op12 where
 d : Int
 text : List UInt8
 which : Int
 own : Bool
 count : Int
 ticks : Int
 back : Int
structure Op12.Ok (o : Op12) : Prop where
 d0 : 0 <= o.d
 d1 : o.d < 256
 w0 : 0 <= o.which
 w1 : o.which < 256
 c0 : 0 <= o.count
 c1 : o.count < 4294967296
 t0 : 0 <= o.ticks
 t1 : o.ticks < 4294967296
 b0 : 0 <= o.back
 b1 : o.back < 256
def encO (o : Op12) : List Value := [.int .u8 o.d, .string (str o.text), .int .u8 o.which, .bool o.own, .int .u32 o.count, .int .u32 o.ticks, .int .u8 o.back]
open _root_.Go.Proofs.Tryz
structure Script12 (C : Chunk) (v : Value) (ops : List Op12) : Prop where
 out : ∃ a cap, v = .slice a ops.length cap /\ ops.length <= cap /\ cap <= maxLen /\ Rd 7 [C] a ops.length (ops.flatMap encO)
 ok : ∀ o ∈ ops, o.Ok
instance iKR_1 : zH prog 100 [(0, 1), (1, 1)] := ⟨by kernel_rfl⟩
instance iKR_2 : zH prog 105 [(0, 1), (1, 1), (2, 1), (3, 1), (4, 1), (5, 1), (6, 1)] := ⟨by kernel_rfl⟩
theorem nnew_one (room : Nat) (win : Int) (r1 : 1 <= room) (r2 : room <= 64) (w1 : 1 <= win) (w2 : win <= 1099511627776) : Meets prog 25 [.agg #[.int .i64 room, .int .u64 win]] [] fun v A => ∃ q T, v = .tuple #[.pointer (some ⟨q, 0, none⟩), .int .i64 0] /\ Qi (some ⟨q, 0, none⟩) T (some (ns0 room win)) /\ A = [T] := by
 refine Meets.conv [] (nnew_yes room win r1 r2 w1 w2) rfl (.nil _) ?_;rintro v A ⟨q, b, T, rfl, hT, rfl⟩;exact ⟨[nB q b (ns0 room win) ++ T], [nB q b (ns0 room win), T], flA, amA, q, _, rfl, ⟨q, b, T, ok_new r1 r2 w1 w2, hT, rfl, rfl⟩, rfl⟩
open Go.Nam
def uN (i : Nat) : List UInt8 := if i = 0 then [97, 110, 110] else [98, 111, 98]
def uP (i : Nat) : List UInt8 := if i = 0 then [112, 101, 110, 99, 105, 108] else [115, 101, 99, 114, 101, 116]
theorem Xo (i : Nat) : (uN i).length = 3 := by unfold uN; split <;> rfl
theorem Yr (i : Nat) : (uP i).length = 6 := by unfold uP; split <;> rfl
theorem wj (i : Nat) : xR (uN i) 32 = (uN i, 0) := by unfold uN; split <;> decide +kernel
theorem Yq (i : Nat) : xR (uP i) 64 = (uP i, 0) := by unfold uP; split <;> decide +kernel
def lx (sym : Bool) : Nat -> List PU × BX
 | 0 => ([], ⟨sym, []⟩)
 | i + 1 => ((lx sym i).1 ++ [⟨uN i, (qf (lx sym i).2 (uN i) (uP i)).1, (i : Int) + 1, false⟩], (qf (lx sym i).2 (uN i) (uP i)).2)
theorem lx_ts (sym : Bool) : ∀ i, (lx sym i).2.ts.length <= 5 * i /\ (lx sym i).1.length = i
 | 0 => ⟨aR _, rfl⟩
 | i + 1 => by
  have h := lx_ts sym i;have m := JN (lx sym i).2 (uN i) (uP i);simp only [lx, aA, aI];omega
theorem lx_less (sym : Bool) (i : Nat) (hi : i < 2) : ∀ x ∈ (lx sym i).1, x.n ≠ uN i /\ Op.bytesLess x.n (uN i) = true := by
 obtain rfl | rfl : i = 0 ∨ i = 1 := by omega
 ·intro x hx; cases hx
 ·intro x hx;simp only [lx, aD, dH] at hx;subst hx;exact ⟨(by decide : uN 0 ≠ uN 1), (by decide : Op.bytesLess (uN 0) (uN 1) = true)⟩
instance tpBoth : zH prog 32 [(0, 4), (4, 1), (5, 1), (6, 1)] := ⟨by kernel_rfl⟩
instance tpROff : zH prog 79 [(0, 1), (1, 1), (2, 1), (3, 1)] := ⟨by kernel_rfl⟩
instance tpRQu : zH prog 88 [(0, 1), (1, 1), (2, 1)] := ⟨by kernel_rfl⟩
instance tpRBox : zH prog 92 [(0, 1), (1, 1), (2, 1)] := ⟨by kernel_rfl⟩
instance tpRSt : zH prog 95 [(0, 1), (1, 1), (2, 1), (3, 1)] := ⟨by kernel_rfl⟩
def encU (i : Nat) : List Value := [.string (str (uN i)), .string (str (uP i))]
theorem JQ {G : Chunk} (hg : qJ G) (hn : GNam G) (sym : Bool) (room : Nat) (win : Int) (r1 : 1 <= room) (r2 : room <= 64) (w1 : 1 <= win) (w2 : win <= 1099511627776) :
  Meets prog 7 [.bool sym, .int .i64 room, .int .u64 win] [G] fun v A => ∃ (b s q k o y rb rs rn : Nat) (C R K RK NT RT : Chunk), v = .agg (botV b s q 2 o k y).toArray /\ qL C b (lx sym 2).2 /\ RBox R rb (lx sym 2).2 /\ IsSt K s (lx sym 2).1 2 0 /\ IsRs RK rs (lx sym 2).1 2 0 /\
   Qi (some ⟨q, 0, none⟩) NT (some (ns0 room win)) /\ Im (some ⟨rn, 0, none⟩) RT (some (ns0 room win)) /\ A = [C, R, K, RK, NT, RT, quB k b s q 2 [116] 0, ryB y o [116] 0, ofB o rb rs rn 2, G] := by
 refine eN func7 ntmps7 results7 fun F => ?_
 refine gg ?_;refine oA ([.pointer none, .pointer none, .pointer none, .int .i64 0, .pointer none, .pointer none, .pointer none] : List Value).toArray fun b6 => ?_
 refine gg ?_;refine oT [(0, .int .i64 room), (1, .int .u64 win)] #[.int .i64 room, .int .u64 win] ?_;refine gg ?_;refine cA (nnew_one room win r1 r2 w1 w2) ?_; rintro v A ⟨q, NT, rfl, hNT, rfl⟩; refine gA ?_;refine cA (bnew_spec sym) ?_; rintro v A ⟨b, C, rfl, hC, rfl⟩; refine gA ?_;refine cA (cnew_spec) ?_; rintro v A ⟨s, m1, M1, rfl, hM1, rfl⟩; refine gA ?_;refine oT [(0, .pointer (some ⟨b, 0, none⟩)), (1, .pointer (some ⟨s, 0, none⟩)), (2, .pointer (some ⟨q, 0, none⟩)), (3, .int .i64 2)] (offV b s q 2).toArray ?_;refine gg ?_;refine oT [(0, .bool sym)] ([.bool sym, .slice none 0 0, .bool false] : List Value).toArray ?_;refine gg ?_;refine oB fun rb => ?_
 refine gg ?_;refine oT [] ([.slice none 0 0, .slice none 0 0, .int .u64 0, .int .u64 0] : List Value).toArray ?_;refine gg ?_;refine oB fun rs => ?_
 refine gg ?_;refine oT [(0, .int .i64 room), (1, .int .u64 win)] ([.int .i64 room, .int .u64 win, .slice none 0 0, .int .u64 0, .int .u64 0, .int .u64 0, .bool false] : List Value).toArray ?_;refine gg ?_;refine oB fun rn => ?_
 refine gg ?_;refine oT [(0, .pointer (some ⟨rb, 0, none⟩)), (1, .pointer (some ⟨rs, 0, none⟩)), (2, .pointer (some ⟨rn, 0, none⟩)), (3, .int .i64 2)] (offV rb rs rn 2).toArray ?_;refine gg ?_;refine oB fun o => ?_
 refine gg ?_;refine oT [(0, .agg (offV b s q 2).toArray), (1, .pointer (some ⟨o, 0, none⟩))] ([.pointer (some ⟨b, 0, none⟩), .pointer (some ⟨s, 0, none⟩), .pointer (some ⟨q, 0, none⟩), .int .i64 2, .pointer (some ⟨o, 0, none⟩), .pointer none, .pointer none] : List Value).toArray ?_;refine gg ?_;refine oA ([.pointer none, .pointer none, .pointer none, .int .i64 0, .pointer none, .pointer none, .pointer none] : List Value).toArray fun b9 => ?_
 refine gg ?_;refine oS [.pointer (some ⟨b, 0, none⟩), .pointer (some ⟨s, 0, none⟩), .pointer (some ⟨q, 0, none⟩), .int .i64 2, .pointer (some ⟨o, 0, none⟩), .pointer none, .pointer none] rfl (by simp [Value.cell1]) ?_;refine gg ?_;refine gM ?_;refine cA (Ym hM1) ?_; rintro v A ⟨m2, M1', M2, rfl, hM1', hM2, rfl⟩; refine gA ?_;refine gM ?_;refine cA (QN) ?_; rintro v A ⟨T, ta, tc, rfl, hT, rfl⟩; refine gA ?_;refine zf fun K hK => ?_; rw [ZY (ps := [(0, .string ⟨#[97, 110, 110]⟩), (1, .string ⟨#[112, 101, 110, 99, 105, 108]⟩)]) (cs := (encU 0).toArray) (by kernel_rfl)]; refine hK _ _ ?_; clear hK K
 refine zf fun K hK => ?_; rw [ZY (ps := [(0, .string ⟨#[98, 111, 98]⟩), (1, .string ⟨#[115, 101, 99, 114, 101, 116]⟩)]) (cs := (encU 1).toArray) (by kernel_rfl)]; refine hK _ _ ?_; clear hK K
 refine gg ?_;refine zf fun K hK => ?_; refine wQ (n := 2) (e := 108) (s := 2) (hs := inferInstance) [encU 0, encU 1] (by rfl) rfl (by decide) (by decide) (by decide) (by intro r hr; simp only [bA, aX, or_false] at hr; rcases hr with rfl | rfl <;> rfl) (fun ba CA hA => ?_); refine hK _ _ ?_; clear hK K
 refine gg ?_;have hE : Ost.Own 2 108 CA (some ⟨ba, 0, none⟩) 2 2 (([0, 1] : List Nat).flatMap encU) := hA;generalize (some (⟨ba, 0, none⟩ : Addr)) = sa at hE ⊢;refine code_sub (S' := [[(b9, .cells ([.pointer (some ⟨b, 0, none⟩), .pointer (some ⟨s, 0, none⟩), .pointer (some ⟨q, 0, none⟩), .int .i64 2, .pointer (some ⟨o, 0, none⟩), .pointer none, .pointer none] : List Value).toArray 32 (0, 0))], CA, ofB o rb rs rn 2, rbB rb sym none 0 0, stB s m1 0 0, M1', M2, rsB rs ta 1 tc none 0 0 0 0, T, C, NT, xN rn (ns0 room win) none 0 0, [(b6, .cells ([.pointer none, .pointer none, .pointer none, .int .i64 0, .pointer none, .pointer none, .pointer none] : List Value).toArray 32 (0, 0))], F, G]) ?_;refine qg (S' := [[(b9, .cells ([.pointer (some ⟨b, 0, none⟩), .pointer (some ⟨s, 0, none⟩), .pointer (some ⟨q, 0, none⟩), .int .i64 2, .pointer (some ⟨o, 0, none⟩), .pointer none, .pointer none] : List Value).toArray 32 (0, 0))], CA, ofB o rb rs rn 2, rbB rb sym none 0 0 ++ ([] ++ []), stB s m1 0 0 ++ (M1' ++ (M2 ++ [])), rsB rs ta 1 tc none 0 0 0 0 ++ T, C, NT, xN rn (ns0 room win) none 0 0 ++ [], [(b6, .cells ([.pointer none, .pointer none, .pointer none, .int .i64 0, .pointer none, .pointer none, .pointer none] : List Value).toArray 32 (0, 0))], F, G]) (by simp) ?_;have hR : RBox (rbB rb sym none 0 0 ++ ([] ++ [])) rb ⟨sym, []⟩ := ⟨none, 0, [], [], [], rfl, rfl, own_nil, (fun _ h => nomatch h)⟩;have hKs : IsSt (stB s m1 0 0 ++ (M1' ++ (M2 ++ []))) s [] 0 0 := ⟨m1, m2, M1', M2, [], rfl, hM1', hM2, (fun _ h => nomatch h), rfl⟩;have hRK := is_rs0 (s := rs) (last := 0) (reads := 0) hT;have hRN : Im (some ⟨rn, 0, none⟩) (xN rn (ns0 room win) none 0 0 ++ []) (some (ns0 room win)) := ⟨rn, none, 0, [], ok_new r1 r2 w1 w2, own_nil, rfl, rfl⟩;generalize rbB rb sym none 0 0 ++ ([] ++ []) = R at *;generalize stB s m1 0 0 ++ (M1' ++ (M2 ++ [])) = K at *;generalize rsB rs ta 1 tc none 0 0 0 0 ++ T = RK at *;generalize xN rn (ns0 room win) none 0 0 ++ [] = RT at *
 refine zz (fun m D L S => ∃ (i : Nat) (C R K RK : Chunk), i <= 2 /\ qL C b (lx sym i).2 /\ RBox R rb (lx sym i).2 /\ IsSt K s (lx sym i).1 i 0 /\ IsRs RK rs (lx sym i).1 i 0 /\ m = 2 - i /\ D = [] /\
  L = [(54, .int .i64 i), (53, .int .i64 2), (52, .slice sa 2 2), (9, .pointer (some ⟨b9, 0, none⟩)), (6, .pointer (some ⟨b6, 0, none⟩))] /\ S = [[(b9, .cells ([.pointer (some ⟨b, 0, none⟩), .pointer (some ⟨s, 0, none⟩), .pointer (some ⟨q, 0, none⟩), .int .i64 2, .pointer (some ⟨o, 0, none⟩), .pointer none, .pointer none] : List Value).toArray 32 (0, 0))], CA, ofB o rb rs rn 2, R, K, RK, C, NT, RT, [(b6, .cells ([.pointer none, .pointer none, .pointer none, .int .i64 0, .pointer none, .pointer none, .pointer none] : List Value).toArray 32 (0, 0))], F, G])
  ⟨0, C, R, K, RK, by decide, hC, hR, hKs, hRK, rfl, rfl, rfl, rfl⟩ ?_
 clear hC hR hKs hRK hM1 hM1' hM2 hT;rintro m D L S ⟨i, C, R, K, RK, hi, hC, hR, hKs, hRK, rfl, rfl, rfl, rfl⟩;obtain ⟨hxt, hul⟩ := lx_ts sym i;refine gg ?_;refine if_d (fun hc => ?_) (fun hc => ?_)
 ·have hi2 : i < 2 := by omega
  have hx0 : ([0, 1] : List Nat)[i]? = some i := by
   obtain rfl | rfl : i = 0 ∨ i = 1 := by omega
   ·rfl
   ·rfl
  refine gg ?_;refine zf fun K hK => ?_; refine zT hE (fun _ => rfl) hx0 (by decide) mmA ?_; refine hK _ _ ?_; clear hK K
  refine gg ?_;refine oA ([.string ⟨#[]⟩, .string ⟨#[]⟩] : List Value).toArray fun b11 => ?_
  refine gg ?_;refine oS [.string (str (uN i)), .string (str (uP i))] rfl (by simp [Value.cell1]) ?_;refine gg ?_;refine zf fun K hK => ?_; refine zX ([1]) (by decide) rfl (rfl) (fun b66 C66 ho66 => ?_); refine hK _ _ ?_; clear hK K
  refine gg ?_;refine cA (make_spec hg.1 hn hC (by omega) (uN i) (uP i) (uN i) (uP i) (by rw [Xo]; decide) (by rw [Yr]; decide) (by rw [Xo]; decide) (by rw [Yr]; decide) (wj i) (Yq i) (sc := 1) (aR 1) (ho66.rd (aB ..))) ?_; rintro v A ⟨W, C', vs, rfl, hW, hC', rfl⟩; refine gA ?_;have hlx : lx sym (i + 1) = ((lx sym i).1 ++ [⟨uN i, (qf (lx sym i).2 (uN i) (uP i)).1, (i : Int) + 1, false⟩], (qf (lx sym i).2 (uN i) (uP i)).2) := rfl;have hrm {S1 : Chunk} {a1 : Option Addr} {c1 : Nat} (h1 : 1 <= c1) (h2 : Rd 1 [S1] a1 1 (([1] : List UInt8).map b8)) := Of hg hR (by omega) (uN i) (uP i) (uN i) (uP i) (by rw [Xo]; decide) (by rw [Yr]; decide) (by rw [Xo]; decide) (by rw [Yr]; decide) (wj i) (Yq i) h1 h2;generalize qf (lx sym i).2 (uN i) (uP i) = mx at *;have hvs := hW;obtain ⟨e0, e1, e2, e3, f0, f1, f2, f3, rfl, _⟩ := hvs;refine oA ([.slice none 0 0, .int .i64 0, .slice none 0 0, .slice none 0 0, .slice none 0 0] : List Value).toArray fun b12 => ?_
  refine gg ?_;refine oS [.slice e0 1 f0, .int .i64 1, .slice e1 mx.1.st.length f1, .slice e2 mx.1.sv.length f2, .slice e3 mx.1.ha.length f3] rfl (by simp [Value.cell1]) ?_;refine gg ?_
  refine zQ (fun D L S => ∃ (R' W2 : Chunk) (vs2 : List Value) (b14 : Nat), RBox R' rb mx.2 /\ SecW W2 vs2 mx.1 /\ D = [] /\ L = [(54, .int .i64 i), (53, .int .i64 2), (52, .slice sa 2 2), (9, .pointer (some ⟨b9, 0, none⟩)), (6, .pointer (some ⟨b6, 0, none⟩)), (11, .pointer (some ⟨b11, 0, none⟩)), (12, .pointer (some ⟨b12, 0, none⟩)), (14, .pointer (some ⟨b14, 0, none⟩))] /\
   S = [[(b9, .cells ([.pointer (some ⟨b, 0, none⟩), .pointer (some ⟨s, 0, none⟩), .pointer (some ⟨q, 0, none⟩), .int .i64 2, .pointer (some ⟨o, 0, none⟩), .pointer none, .pointer none] : List Value).toArray 32 (0, 0))], CA, ofB o rb rs rn 2, R', K, RK, C', NT, RT, [(b6, .cells ([.pointer none, .pointer none, .pointer none, .int .i64 0, .pointer none, .pointer none, .pointer none] : List Value).toArray 32 (0, 0))], F, G, W, W2, [(b11, .cells ([.string (str (uN i)), .string (str (uP i))] : List Value).toArray 108 (0, 0))], [(b12, .cells ([.slice e0 1 f0, .int .i64 1, .slice e1 mx.1.st.length f1, .slice e2 mx.1.sv.length f2, .slice e3 mx.1.ha.length f3] : List Value).toArray 45 (0, 0))], [(b14, .cells vs2.toArray 82 (0, 0))]]) ?_ ?_
  ·refine kC 9 10 14 [[], [0], [0, 1], [0, 1, 2], [0, 1, 2, 3], [], [5], [], [7], [], [0, 1, 2, 3, 4, 5, 6, 7, 8, 9], [0, 1, 2, 3, 4, 5, 6, 7, 8, 9, 10], [0, 1, 2, 3, 4, 5, 6, 7, 8, 9, 10, 11], [0, 1, 2, 3, 4, 5, 6, 7, 8, 9, 10, 11], [0, 1, 2, 3, 4, 5, 6, 7, 8, 9, 10], [0, 1, 2, 3, 4, 5, 6, 7, 8, 9, 10, 11, 12, 14], [0, 1, 2, 3, 4, 5, 6, 7, 8, 9, 10, 11, 12, 13, 14, 15]] [(0, false, []), (1, false, []), (2, false, []), (3, false, []), (4, false, []), (5, false, []), (6, false, []), (7, false, []), (8, false, []), (9, true, [1, 4, 6, 8]), (10, true, []), (11, false, []), (12, false, []), (13, false, []), (14, true, []), (15, true, []), (16, true, [])] [[], [0], [0, 1], [0, 1, 2], [0, 1, 2, 3], [], [5], [], [7], [], [0, 1, 2, 3, 4, 5, 6, 7, 8, 9, 14], [0, 1, 2, 3, 4, 5, 6, 7, 8, 9, 10, 14], [0, 1, 2, 3, 4, 5, 6, 7, 8, 9, 10, 11, 14], [0, 1, 2, 3, 4, 5, 6, 7, 8, 9, 10, 11, 14], [9], [0, 1, 2, 3, 4, 5, 6, 7, 8, 9, 10, 11, 12, 14], [0, 1, 2, 3, 4, 5, 6, 7, 8, 9, 10, 11, 12, 13, 14, 15]] [(0, false, []), (1, false, []), (2, false, []), (3, false, []), (4, false, []), (5, false, []), (6, false, []), (7, false, []), (8, false, []), (9, true, [1, 4, 6, 8]), (14, true, [1, 4, 6, 8]), (10, true, []), (11, false, []), (12, false, []), (13, false, []), (15, true, []), (16, true, [])] [[], [0], [0, 1], [0, 1, 2], [0, 1, 2, 3], [], [5], [], [7], [14], [0, 1, 2, 3, 4, 5, 6, 7, 8, 9, 14], [0, 1, 2, 3, 4, 5, 6, 7, 8, 9, 10, 14], [0, 1, 2, 3, 4, 5, 6, 7, 8, 9, 10, 11, 14], [0, 1, 2, 3, 4, 5, 6, 7, 8, 9, 10, 11, 14], [], [0, 1, 2, 3, 4, 5, 6, 7, 8, 9, 10, 11, 12, 14], [0, 1, 2, 3, 4, 5, 6, 7, 8, 9, 10, 11, 12, 13, 14, 15]] [(0, false, []), (1, false, []), (2, false, []), (3, false, []), (4, false, []), (5, false, []), (6, false, []), (7, false, []), (8, false, []), (14, true, [1, 4, 6, 8]), (9, true, [1, 4, 6, 8]), (10, true, []), (11, false, []), (12, false, []), (13, false, []), (15, true, []), (16, true, [])] ?_ ?_ ?_
   ·refine gg ?_;refine zg fun K hK => ?_; refine zX ([1]) (by decide) rfl (rfl) (fun b80 C80 ho80 => ?_); refine pBk hK ?_; clear hK K
    refine gg ?_;refine zg fun K hK => ?_; refine zo (hrm (aR 1) (ho80.rd (aB ..))) ?_; rintro v A ⟨W2, R', vs2, rfl, hW2, hR', rfl⟩; refine pA hK ?_; clear hK K
    refine gg ?_;refine zg fun K hK => ?_; refine kE ([.slice none 0 0, .int .i64 0, .slice none 0 0, .slice none 0 0, .slice none 0 0] : List Value).toArray rfl fun b14 => ?_; refine pBk hK ?_; clear hK K
    refine gg ?_;obtain ⟨hvl, hvc⟩ := jF hW2;refine zg fun K hK => ?_; refine xG (vs := vs2) hvl hvc upA (by rfl) ?_; refine pBk hK ?_; clear hK K
    (try refine gg ?_)
    (try (try (refine zg fun K hK => ?_; refine hK _ _ ?_; clear hK K)))
    (try refine gg ?_)
    exact mid ⟨R', W2, vs2, b14, hR', hW2, rfl, rfl, rfl⟩
   ·refine gg ?_;refine zg fun K hK => ?_; refine zX ([1]) (by decide) rfl (rfl) (fun b80 C80 ho80 => ?_); refine pBk hK ?_; clear hK K
    refine gg ?_;refine zg fun K hK => ?_; refine kE ([.slice none 0 0, .int .i64 0, .slice none 0 0, .slice none 0 0, .slice none 0 0] : List Value).toArray rfl fun b14 => ?_; refine pBk hK ?_; clear hK K
    refine gg ?_;refine zg fun K hK => ?_; refine zo (hrm (aR 1) (ho80.rd (aB ..))) ?_; rintro v A ⟨W2, R', vs2, rfl, hW2, hR', rfl⟩; refine pA hK ?_; clear hK K
    refine gg ?_;obtain ⟨hvl, hvc⟩ := jF hW2;refine zg fun K hK => ?_; refine xG (vs := vs2) hvl hvc upA (by rfl) ?_; refine pBk hK ?_; clear hK K
    (try refine gg ?_)
    (try (try (refine zg fun K hK => ?_; refine hK _ _ ?_; clear hK K)))
    (try refine gg ?_)
    exact mid ⟨R', W2, vs2, b14, hR', hW2, rfl, rfl, rfl⟩
   ·refine gg ?_;refine zg fun K hK => ?_; refine kE ([.slice none 0 0, .int .i64 0, .slice none 0 0, .slice none 0 0, .slice none 0 0] : List Value).toArray rfl fun b14 => ?_; refine pBk hK ?_; clear hK K
    refine gg ?_;refine zg fun K hK => ?_; refine zX ([1]) (by decide) rfl (rfl) (fun b80 C80 ho80 => ?_); refine pBk hK ?_; clear hK K
    refine gg ?_;refine zg fun K hK => ?_; refine zo (hrm (aR 1) (ho80.rd (aB ..))) ?_; rintro v A ⟨W2, R', vs2, rfl, hW2, hR', rfl⟩; refine pA hK ?_; clear hK K
    refine gg ?_;obtain ⟨hvl, hvc⟩ := jF hW2;refine zg fun K hK => ?_; refine xG (vs := vs2) hvl hvc upA (by rfl) ?_; refine pBk hK ?_; clear hK K
    (try refine gg ?_)
    (try (try (refine zg fun K hK => ?_; refine hK _ _ ?_; clear hK K)))
    (try refine gg ?_)
    exact mid ⟨R', W2, vs2, b14, hR', hW2, rfl, rfl, rfl⟩
  rintro D L S ⟨R', W2, vs2, b14, hR', hW2, rfl, rfl, rfl⟩;obtain ⟨hvl, hvc⟩ := jF hW2;have hno := lx_less sym i hi2;refine gg ?_;refine oL [.slice e0 1 f0, .int .i64 1, .slice e1 mx.1.st.length f1, .slice e2 mx.1.sv.length f2, .slice e3 mx.1.ha.length f3] rfl ?_;refine gg ?_;refine cA (cadd_spec hn hKs (by omega) (by omega) (by omega) (uN i) (uN i) (by rw [Xo]; decide) (wj i) (fun x hx => (hno x hx).1) hW) ?_; rintro v A ⟨K', rfl, hKs', rfl⟩; refine gA ?_;refine cdL [[0], [1], [2], [3], [4], [5], [6], [7], [8, 0]] ?_;refine gg ?_;refine qO fun K hK => ?_; refine zi (vs := vs2) lkA hvl ?_; refine hK _ _ ?_; clear hK K
  refine gg ?_;refine zg fun K hK => ?_; refine zo (Ij hRK (by omega) (by omega) (by omega) (uN i) (uN i) (by rw [Xo]; decide) (wj i) (fun x hx => (hno x hx).1) (fun x hx => (hno x hx).2) hW2) ?_; rintro v A ⟨RK', rfl, hRK', rfl⟩; refine pA hK ?_; clear hK K
  refine gg ?_;rw [<- Int.natCast_succ] at hKs' hRK';exact zv ⟨i + 1, C', R', K', RK', by omega, by rw [hlx]; exact hC', by rw [hlx]; exact hR', by rw [hlx]; exact hKs', by rw [hlx]; exact hRK', rfl, rfl, rfl, rfl⟩
 obtain rfl : i = 2 := by omega
 refine gg ?_;refine zf fun K hK => ?_; refine vD (vs := [.pointer (some ⟨b, 0, none⟩), .pointer (some ⟨s, 0, none⟩), .pointer (some ⟨q, 0, none⟩), .int .i64 2, .pointer (some ⟨o, 0, none⟩), .pointer none, .pointer none]) (o := 0) (ws := offV b s q 2) lkA (by show 0 + 4 <= 7; decide) rfl ?_; refine hK _ _ ?_; clear hK K
 refine gg ?_;refine cA (KU b s q 2 (by decide) [116] (by decide) (by decide)) ?_; rintro v A ⟨k, rfl, rfl⟩; refine gA ?_;refine gM ?_;refine oT [(0, .pointer (some ⟨o, 0, none⟩)), (1, .string ⟨#[116]⟩)] ([.pointer (some ⟨o, 0, none⟩), .string (str [116]), .int .u64 0] : List Value).toArray ?_;refine gg ?_;refine oB fun y => ?_
 refine gg ?_;refine gM ?_;refine oL (botV b s q 2 o k y) rfl ?_;refine gg ?_;refine oS (botV b s q 2 o k y) rfl (by simp [Value.cell1]) ?_;refine gg ?_;refine ze (vs := [.agg (botV b s q 2 o k y).toArray]) [C, R, K, RK, NT, RT, quB k b s q 2 [116] 0, ryB y o [116] 0, ofB o rb rs rn 2, G] ?_ (hr := by (intro κ hκ; simp only [resW, withV, lookT_hit, lookT_miss, aG]; exact zi (vs := botV b s q 2 o k y) lkA rfl hκ));exact ⟨b, s, q, k, o, y, rb, rs, rn, C, R, K, RK, NT, RT, rfl, hC, hR, hKs, hRK, hNT, hRN, rfl⟩
end Go.Proofs.YtebikhhoppiapaaGreatDoor
namespace Go.Proofs.YtebikhhoppiapaaGreatDoor
open Go Go.Ost Go.Sha Go.Nam _root_.Go.Proofs.Tryz
section
variable {P : Program}
theorem UT {b o : Nat} {e t : TypeId} {z : Value} {s by_ : Nat} {cs cs' : Array Value} {ws : List Value} (p u r : List Value) {S S' : State} {κ : State -> Prop} [hs : zh P t z s by_] (hz : ws.length = s) (hu0 : u.length = s) (hc : ∀ v ∈ ws, Value.cell1 v) (ho : p.length = o)
  (h1 : cs = (p ++ (u ++ r)).toArray) (h2 : cs' = (p ++ (ws ++ r)).toArray) (hu : Upd b (.cells cs e (0, 0)) (.cells cs' e (0, 0)) S S') (k : κ S') : UnitW P (Instr.storeAt t (.pointer (some ⟨b, o, none⟩)) (.agg ws.toArray)) S κ := by
 subst ho h1 h2;have e2 : ws.toArray.toList = ws := by simp
 refine wm (e := e) (cs := (p ++ (u ++ r)).toArray) (by simpa using hz) (by simpa using hc) ?_ (by simp; omega) k;rw [e2, jZ ws p u r (by omega)];exact hu
end
theorem Oc : Meets prog 210 [.slice none 0 0] [] fun v A => v = .slice none 0 0 /\ A = [] := by
 refine eN func210 ntmps210 results210 fun F => ?_
 refine gg ?_;refine zb [] ?_; exact ⟨rfl, rfl⟩
theorem Ii {W : Chunk} {vs : List Value} {s : Sec} (n : List UInt8) (gen : Int) (rev : Bool) (hW : SecW W vs s) : Meets prog 161 [.agg (credV n vs gen rev).toArray] [W]
  fun v A => ∃ (W' : Chunk) (vs' : List Value), v = .agg (credV n vs' gen rev).toArray /\ SecW W' vs' s /\ A = [W', W] := by
 have hsc := Xv hW;obtain ⟨a0, a1, a2, a3, c0, c1, c2, c3, rfl, _⟩ := hW;simp only [credV, aC, aD];refine eN func161 ntmps161 results161 fun F => ?_
 refine gg ?_;refine oB fun b1 => ?_
 refine gg ?_;refine oA ([.string ⟨#[]⟩, .string ⟨#[]⟩, .slice none 0 0, .int .i64 0, .slice none 0 0, .slice none 0 0, .slice none 0 0, .int .u64 0, .slice none 0 0, .bool false] : List Value).toArray fun b2 => ?_
 refine gg ?_;refine cdL [[0], [1], [3], [4], [2, 0, 4], [6], [5, 0], [7, 0], [8], [9, 0]] ?_;refine gg ?_;refine qO fun K hK => ?_; refine vD (vs := [.string (str [116]), .string (str n), .slice a0 1 c0, .int .i64 1, .slice a1 s.st.length c1, .slice a2 s.sv.length c2, .slice a3 s.ha.length c3, .int .u64 gen, .slice none 0 0, .bool rev]) (o := 2) (ws := [.slice a0 1 c0, .int .i64 1, .slice a1 s.st.length c1, .slice a2 s.sv.length c2, .slice a3 s.ha.length c3]) lkA (by show 2 + 5 <= 10; decide) rfl ?_; refine hK _ _ ?_; clear hK K
 refine gg ?_;refine zg fun K hK => ?_; refine zo (hsc) ?_; rintro v A ⟨W', vs', rfl, hW', rfl⟩; refine pA hK ?_; clear hK K
 refine gg ?_;refine zg fun K hK => ?_; refine zo (Oc) ?_; rintro v A ⟨rfl, rfl⟩; refine pA hK ?_; clear hK K
 refine gg ?_;obtain ⟨hvl, hvc⟩ := jF hW';have hW2 := hW';obtain ⟨e0, e1, e2, e3, f0, f1, f2, f3, rfl, _⟩ := hW2;refine zg fun K hK => ?_; refine UT [.string (str [116]), .string (str n)] [.slice a0 1 c0, .int .i64 1, .slice a1 s.st.length c1, .slice a2 s.sv.length c2, .slice a3 s.ha.length c3] [.int .u64 gen, .slice none 0 0, .bool rev] (cs := ([.string (str [116]), .string (str n), .slice a0 1 c0, .int .i64 1, .slice a1 s.st.length c1, .slice a2 s.sv.length c2, .slice a3 s.ha.length c3, .int .u64 gen, .slice none 0 0, .bool rev] : List Value).toArray) (cs' := ([.string (str [116]), .string (str n), .slice e0 1 f0, .int .i64 1, .slice e1 s.st.length f1, .slice e2 s.sv.length f2, .slice e3 s.ha.length f3, .int .u64 gen, .slice none 0 0, .bool rev] : List Value).toArray) rfl rfl hvc rfl rfl rfl upA ?_; refine hK _ _ ?_; clear hK K
 refine gg ?_
 (try (refine zg fun K hK => ?_; (first | refine zZ trivial upA ?_ | refine zJ trivial upA (by simp) ?_); refine pBk hK ?_; clear hK K; refine gg ?_))
 refine gM ?_
 have hc1 : ∀ u ∈ ([.string (str [116]), .string (str n), .slice e0 1 f0, .int .i64 1, .slice e1 s.st.length f1, .slice e2 s.sv.length f2, .slice e3 s.ha.length f3, .int .u64 gen, .slice none 0 0, .bool rev] : List Value), Value.cell1 u := by
  intro u hu;simp only [bA, aX, or_false] at hu
  rcases hu with rfl | rfl | rfl | rfl | rfl | rfl | rfl | rfl | rfl | rfl <;> simp [Value.cell1]
 refine oL [.string (str [116]), .string (str n), .slice e0 1 f0, .int .i64 1, .slice e1 s.st.length f1, .slice e2 s.sv.length f2, .slice e3 s.ha.length f3, .int .u64 gen, .slice none 0 0, .bool rev] rfl ?_;refine oS [.string (str [116]), .string (str n), .slice e0 1 f0, .int .i64 1, .slice e1 s.st.length f1, .slice e2 s.sv.length f2, .slice e3 s.ha.length f3, .int .u64 gen, .slice none 0 0, .bool rev] rfl hc1 ?_;refine gg ?_;refine ze (vs := [.agg ([.string (str [116]), .string (str n), .slice e0 1 f0, .int .i64 1, .slice e1 s.st.length f1, .slice e2 s.sv.length f2, .slice e3 s.ha.length f3, .int .u64 gen, .slice none 0 0, .bool rev] : List Value).toArray]) [W', W] ?_ (hr := by (intro κ hκ; simp only [resW, withV, lookT_hit, lookT_miss, aG]; exact zi (vs := [.string (str [116]), .string (str n), .slice e0 1 f0, .int .i64 1, .slice e1 s.st.length f1, .slice e2 s.sv.length f2, .slice e3 s.ha.length f3, .int .u64 gen, .slice none 0 0, .bool rev]) lkA rfl hκ));exact ⟨W', _, rfl, hW', rfl⟩
theorem If {s r1 r2 p : Nat} {last reads gen : Int} {M1 M2 G B : Chunk} {m : List (List UInt8 × Value)} (hn : GNam G) (h1 : xK M1 r1 (tenM r2)) (h2 : xK M2 r2 m) (hr0 : 0 <= reads) (hr1 : reads < 1000000) (u n : List UInt8) (hu : u.length <= 100000) (hun : xR u 32 = (n, 0)) (hm : mget m n = some (.pointer (some ⟨p, 0, none⟩))) (k : List UInt8) {vs : List Value} {rev : Bool} {sec : Sec} (hW : SecW B vs sec) :
  Meets prog 116 [.pointer (some ⟨s, 0, none⟩), .string (str [116]), .string (str u)] [stB s r1 last reads, M1, M2, G, crB p k vs gen rev, B]
  fun v A => ∃ B' vs', v = .tuple #[.agg (credV k vs' gen rev).toArray, .bool true] /\ SecW B' vs' sec /\ A = [stB s r1 last (reads + 1), M1, M2, G, crB p k vs gen rev, B', B] := by
 have hg := get_spec (s := s) (last := last) (reads := reads + 1) hn h1 h2 u hu;rw [hun, if_pos rfl, hm, cI] at hg;have hcc := Ii k gen rev hW;obtain ⟨a0, a1, a2, a3, c0, c1, c2, c3, rfl, _⟩ := hW;simp only [credV, crB, aC, aD] at hcc ⊢;refine eN func116 ntmps116 results116 fun F => ?_
 refine gg ?_;refine oA ([.string ⟨#[]⟩, .string ⟨#[]⟩, .slice none 0 0, .int .i64 0, .slice none 0 0, .slice none 0 0, .slice none 0 0, .int .u64 0, .slice none 0 0, .bool false] : List Value).toArray fun b6 => ?_
 refine gg ?_;refine cA (hg) ?_; rintro v A ⟨rfl, rfl⟩; refine gA ?_;refine oL [.string (str [116]), .string (str k), .slice a0 1 c0, .int .i64 1, .slice a1 sec.st.length c1, .slice a2 sec.sv.length c2, .slice a3 sec.ha.length c3, .int .u64 gen, .slice none 0 0, .bool rev] rfl ?_;refine gg ?_;refine cA (hcc) ?_; rintro v A ⟨B', vs', rfl, hB', rfl⟩; refine gA ?_;obtain ⟨hvl, hvc⟩ := jF hB';have hW2 := hB';obtain ⟨e0, e1, e2, e3, f0, f1, f2, f3, rfl, _⟩ := hW2
 have hc1 : ∀ u ∈ ([.string (str [116]), .string (str k), .slice e0 1 f0, .int .i64 1, .slice e1 sec.st.length f1, .slice e2 sec.sv.length f2, .slice e3 sec.ha.length f3, .int .u64 gen, .slice none 0 0, .bool rev] : List Value), Value.cell1 u := by
  intro u hu;simp only [bA, aX, or_false] at hu
  rcases hu with rfl | rfl | rfl | rfl | rfl | rfl | rfl | rfl | rfl | rfl <;> simp [Value.cell1]
 refine oS [.string (str [116]), .string (str k), .slice e0 1 f0, .int .i64 1, .slice e1 sec.st.length f1, .slice e2 sec.sv.length f2, .slice e3 sec.ha.length f3, .int .u64 gen, .slice none 0 0, .bool rev] rfl hc1 ?_;refine gg ?_;refine ze (vs := [.agg ([.string (str [116]), .string (str k), .slice e0 1 f0, .int .i64 1, .slice e1 sec.st.length f1, .slice e2 sec.sv.length f2, .slice e3 sec.ha.length f3, .int .u64 gen, .slice none 0 0, .bool rev] : List Value).toArray, .bool true]) [stB s r1 last (reads + 1), M1, M2, G, [(p, .cells ([.string (str [116]), .string (str k), .slice a0 1 c0, .int .i64 1, .slice a1 sec.st.length c1, .slice a2 sec.sv.length c2, .slice a3 sec.ha.length c3, .int .u64 gen, .slice none 0 0, .bool rev] : List Value).toArray 48 (0, 0))], B', B] ?_ (hr := by (intro κ hκ; simp only [resW, withV, lookT_hit, lookT_miss, aG]; exact zi (vs := [.string (str [116]), .string (str k), .slice e0 1 f0, .int .i64 1, .slice e1 sec.st.length f1, .slice e2 sec.sv.length f2, .slice e3 sec.ha.length f3, .int .u64 gen, .slice none 0 0, .bool rev]) lkA rfl hκ));exact ⟨B', _, rfl, hB', rfl⟩
theorem Ou {qk bx_ s q r1 r2 p : Nat} {iter ch last reads gen : Int} {M1 M2 G B : Chunk} {m : List (List UInt8 × Value)} (hn : GNam G) (h1 : xK M1 r1 (tenM r2)) (h2 : xK M2 r2 m) (hr0 : 0 <= reads) (hr1 : reads < 1000000) (u n : List UInt8) (hu : u.length <= 100000) (hun : xR u 32 = (n, 0)) (hst : xR n 32 = (n, 0)) (hnl : n.length <= 32) (hm : mget m n = some (.pointer (some ⟨p, 0, none⟩))) {vs : List Value} {sec : Sec} (hW : SecW B vs sec) :
  Meets prog 42 [.pointer (some ⟨qk, 0, none⟩), .string (str u)] [[(qk, .cells #[.pointer (some ⟨bx_, 0, none⟩), .pointer (some ⟨s, 0, none⟩), .pointer (some ⟨q, 0, none⟩), .int .i64 iter, .string (str [116]), .int .u64 ch] 117 (0, 0))], stB s r1 last reads, M1, M2, G, crB p n vs gen false, B]
  fun v A => ∃ B' vs', v = .tuple #[.agg (credV n vs' gen false).toArray, .bool true] /\ SecW B' vs' sec /\ A = [[(qk, .cells #[.pointer (some ⟨bx_, 0, none⟩), .pointer (some ⟨s, 0, none⟩), .pointer (some ⟨q, 0, none⟩), .int .i64 iter, .string (str [116]), .int .u64 ch] 117 (0, 0))], stB s r1 last (reads + 1), M1, M2, G, crB p n vs gen false, B', B] := by
 have hnm := wE hn u hu;rw [hun] at hnm;have hcf := If (s := s) (last := last) (gen := gen) hn h1 h2 hr0 hr1 n n (by omega) hst hm n (rev := false) hW;refine eN func42 ntmps42 results42 fun F => ?_
 refine gg ?_;refine oA ([.string ⟨#[]⟩, .string ⟨#[]⟩, .slice none 0 0, .int .i64 0, .slice none 0 0, .slice none 0 0, .slice none 0 0, .int .u64 0, .slice none 0 0, .bool false] : List Value).toArray fun b4 => ?_
 refine gg ?_;refine cA (hnm) ?_; rintro v A ⟨rfl, rfl⟩; refine gA ?_;refine Ie 10 14 [[], [0], [0, 1], [0, 1, 2], [0, 1, 2, 3], [], [5], [5, 6], [5, 6, 7], [], [0, 1, 2, 3, 4, 5, 6, 7, 8, 9], [0, 1, 2, 3, 4, 5, 6, 7, 8, 9, 10], [0, 1, 2, 3, 4, 5, 6, 7, 8, 9, 10, 11], [0, 1, 2, 3, 4, 5, 6, 7, 8, 9, 10, 11], [0, 1, 2, 3, 4, 5, 6, 7, 8, 9, 10], [0, 1, 2, 3, 4, 5, 6, 7, 8, 9, 10, 11, 12, 14], [0, 1, 2, 3, 4, 5, 6, 7, 8, 9, 10, 11, 12, 13, 14, 15]] [(0, false, []), (1, false, []), (2, false, []), (3, false, []), (4, false, []), (5, false, []), (6, false, []), (7, false, []), (8, false, []), (9, false, []), (10, true, []), (11, false, []), (12, false, []), (13, false, []), (14, true, []), (15, true, []), (16, true, [])] [[], [0], [0, 1], [0, 1, 2], [0, 1, 2, 3], [], [5], [5, 6], [5, 6, 7], [], [0, 1, 2, 3, 4, 5, 6, 7, 8, 9, 14], [0, 1, 2, 3, 4, 5, 6, 7, 8, 9, 10, 14], [0, 1, 2, 3, 4, 5, 6, 7, 8, 9, 10, 11, 14], [0, 1, 2, 3, 4, 5, 6, 7, 8, 9, 10, 11, 14], [], [0, 1, 2, 3, 4, 5, 6, 7, 8, 9, 10, 11, 12, 14], [0, 1, 2, 3, 4, 5, 6, 7, 8, 9, 10, 11, 12, 13, 14, 15]] [(0, false, []), (1, false, []), (2, false, []), (3, false, []), (4, false, []), (5, false, []), (6, false, []), (7, false, []), (8, false, []), (9, false, []), (14, true, [4, 8]), (10, true, []), (11, false, []), (12, false, []), (13, false, []), (15, true, []), (16, true, [])] ?_ ?_
 ·refine gg ?_;refine zg fun K hK => ?_; refine zo (hcf) ?_; rintro v A ⟨B', vs', rfl, hB', rfl⟩; refine pA hK ?_; clear hK K
  refine gg ?_;refine zg fun K hK => ?_; refine kE ([.string ⟨#[]⟩, .string ⟨#[]⟩, .slice none 0 0, .int .i64 0, .slice none 0 0, .slice none 0 0, .slice none 0 0, .int .u64 0, .slice none 0 0, .bool false] : List Value).toArray rfl fun b8 => ?_; refine pBk hK ?_; clear hK K
  refine gg ?_;obtain ⟨hvl, hvc⟩ := jF hB';have hW2 := hB';obtain ⟨e0, e1, e2, e3, f0, f1, f2, f3, rfl, _⟩ := hW2
  have hc1 : ∀ u ∈ ([.string (str [116]), .string (str n), .slice e0 1 f0, .int .i64 1, .slice e1 sec.st.length f1, .slice e2 sec.sv.length f2, .slice e3 sec.ha.length f3, .int .u64 gen, .slice none 0 0, .bool false] : List Value), Value.cell1 u := by
   intro u hu;simp only [bA, aX, or_false] at hu
   rcases hu with rfl | rfl | rfl | rfl | rfl | rfl | rfl | rfl | rfl | rfl <;> simp [Value.cell1]
  refine zg fun K hK => ?_; refine xG (vs := [.string (str [116]), .string (str n), .slice e0 1 f0, .int .i64 1, .slice e1 sec.st.length f1, .slice e2 sec.sv.length f2, .slice e3 sec.ha.length f3, .int .u64 gen, .slice none 0 0, .bool false]) rfl hc1 upA (by rfl) ?_; refine hK _ _ ?_; clear hK K
  refine gg ?_
  (try (try (refine zg fun K hK => ?_; refine hK _ _ ?_; clear hK K)))
  (try refine gg ?_)
  refine gM ?_;refine oL [.string (str [116]), .string (str n), .slice e0 1 f0, .int .i64 1, .slice e1 sec.st.length f1, .slice e2 sec.sv.length f2, .slice e3 sec.ha.length f3, .int .u64 gen, .slice none 0 0, .bool false] rfl ?_;refine oS [.string (str [116]), .string (str n), .slice e0 1 f0, .int .i64 1, .slice e1 sec.st.length f1, .slice e2 sec.sv.length f2, .slice e3 sec.ha.length f3, .int .u64 gen, .slice none 0 0, .bool false] rfl hc1 ?_;refine gg ?_;refine ze (vs := [.agg ([.string (str [116]), .string (str n), .slice e0 1 f0, .int .i64 1, .slice e1 sec.st.length f1, .slice e2 sec.sv.length f2, .slice e3 sec.ha.length f3, .int .u64 gen, .slice none 0 0, .bool false] : List Value).toArray, .bool true]) [[(qk, .cells #[.pointer (some ⟨bx_, 0, none⟩), .pointer (some ⟨s, 0, none⟩), .pointer (some ⟨q, 0, none⟩), .int .i64 iter, .string (str [116]), .int .u64 ch] 117 (0, 0))], stB s r1 last (reads + 1), M1, M2, G, crB p n vs gen false, B', B] ?_ (hr := by (intro κ hκ; simp only [resW, withV, lookT_hit, lookT_miss, aG]; exact zi (vs := [.string (str [116]), .string (str n), .slice e0 1 f0, .int .i64 1, .slice e1 sec.st.length f1, .slice e2 sec.sv.length f2, .slice e3 sec.ha.length f3, .int .u64 gen, .slice none 0 0, .bool false]) lkA rfl hκ));exact ⟨B', _, rfl, hB', rfl⟩
 ·refine gg ?_;refine zg fun K hK => ?_; refine kE ([.string ⟨#[]⟩, .string ⟨#[]⟩, .slice none 0 0, .int .i64 0, .slice none 0 0, .slice none 0 0, .slice none 0 0, .int .u64 0, .slice none 0 0, .bool false] : List Value).toArray rfl fun b8 => ?_; refine pBk hK ?_; clear hK K
  refine gg ?_;refine zg fun K hK => ?_; refine zo (hcf) ?_; rintro v A ⟨B', vs', rfl, hB', rfl⟩; refine pA hK ?_; clear hK K
  refine gg ?_;obtain ⟨hvl, hvc⟩ := jF hB';have hW2 := hB';obtain ⟨e0, e1, e2, e3, f0, f1, f2, f3, rfl, _⟩ := hW2
  have hc1 : ∀ u ∈ ([.string (str [116]), .string (str n), .slice e0 1 f0, .int .i64 1, .slice e1 sec.st.length f1, .slice e2 sec.sv.length f2, .slice e3 sec.ha.length f3, .int .u64 gen, .slice none 0 0, .bool false] : List Value), Value.cell1 u := by
   intro u hu;simp only [bA, aX, or_false] at hu
   rcases hu with rfl | rfl | rfl | rfl | rfl | rfl | rfl | rfl | rfl | rfl <;> simp [Value.cell1]
  refine zg fun K hK => ?_; refine xG (vs := [.string (str [116]), .string (str n), .slice e0 1 f0, .int .i64 1, .slice e1 sec.st.length f1, .slice e2 sec.sv.length f2, .slice e3 sec.ha.length f3, .int .u64 gen, .slice none 0 0, .bool false]) rfl hc1 upA (by rfl) ?_; refine hK _ _ ?_; clear hK K
  refine gg ?_
  (try (try (refine zg fun K hK => ?_; refine hK _ _ ?_; clear hK K)))
  (try refine gg ?_)
  refine gM ?_;refine oL [.string (str [116]), .string (str n), .slice e0 1 f0, .int .i64 1, .slice e1 sec.st.length f1, .slice e2 sec.sv.length f2, .slice e3 sec.ha.length f3, .int .u64 gen, .slice none 0 0, .bool false] rfl ?_;refine oS [.string (str [116]), .string (str n), .slice e0 1 f0, .int .i64 1, .slice e1 sec.st.length f1, .slice e2 sec.sv.length f2, .slice e3 sec.ha.length f3, .int .u64 gen, .slice none 0 0, .bool false] rfl hc1 ?_;refine gg ?_;refine ze (vs := [.agg ([.string (str [116]), .string (str n), .slice e0 1 f0, .int .i64 1, .slice e1 sec.st.length f1, .slice e2 sec.sv.length f2, .slice e3 sec.ha.length f3, .int .u64 gen, .slice none 0 0, .bool false] : List Value).toArray, .bool true]) [[(qk, .cells #[.pointer (some ⟨bx_, 0, none⟩), .pointer (some ⟨s, 0, none⟩), .pointer (some ⟨q, 0, none⟩), .int .i64 iter, .string (str [116]), .int .u64 ch] 117 (0, 0))], stB s r1 last (reads + 1), M1, M2, G, crB p n vs gen false, B', B] ?_ (hr := by (intro κ hκ; simp only [resW, withV, lookT_hit, lookT_miss, aG]; exact zi (vs := [.string (str [116]), .string (str n), .slice e0 1 f0, .int .i64 1, .slice e1 sec.st.length f1, .slice e2 sec.sv.length f2, .slice e3 sec.ha.length f3, .int .u64 gen, .slice none 0 0, .bool false]) lkA rfl hκ));exact ⟨B', _, rfl, hB', rfl⟩
end Go.Proofs.YtebikhhoppiapaaGreatDoor
namespace Go.Proofs.YtebikhhoppiapaaGreatDoor
open Go Go.Ost _root_.Go.Proofs.Tryz
def seqL (l : List Par) (ok : Bool) : List (Par × Int) := l.map (fun p => (p, 0)) ++ (if ok = true then [] else [(p0, 4)])
abbrev seqE (s : List UInt8) : List (Par × Int) := seqL (xr s).1 (xr s).2
abbrev encS_DI (x : Par × Int) : List Value := [.agg (encP x.1).toArray, .int .i64 x.2]
abbrev NextQ (q pre : List (Par × Int)) (x : Par × Int) : Prop := ∃ suf, q = pre ++ x :: suf
abbrev okay (ps : List Par) : List (Par × Int) := ps.map fun p => (p, 0)
theorem list_head {s r : List UInt8} {p : Par} (h : oneE s = some (p, r)) : ∃ l, (xr s).1 = p :: l := by
 by_cases hr : r = []
 ·subst hr; exact ⟨[], by rw [kg h]⟩
 ·cases hs : (zG (zk r) 44).1
  ·exact ⟨[], by rw [kf h hr hs]⟩
  ·exact ⟨_, by rw [ZD h hr hs]⟩
theorem Qx : ∀ {l ps : List Par} {ok : Bool} {p : Par} {e : Int} {suf : List (Par × Int)}, seqL l ok = okay ps ++ (p, e) :: suf -> (e = 0 /\ ∃ suf', l = ps ++ p :: suf') ∨ (e = 4 /\ ps = l /\ ok = false)
 | [], [], ok, p, e, suf, h => by
  cases ok with
  | true => simp [seqL] at h
  | false => simp [seqL] at h; exact .inr ⟨by rw [<- h.1.2], rfl, rfl⟩
 | [], a :: ps, ok, p, e, suf, h => by
  cases ok <;> simp [seqL] at h
 | q :: l, [], ok, p, e, suf, h => by
  simp [seqL] at h; exact .inl ⟨h.1.2.symm, l, by rw [h.1.1]; rfl⟩
 | q :: l, a :: ps, ok, p, e, suf, h => by
  have h' : (q, (0 : Int)) :: seqL l ok = (a, 0) :: (okay ps ++ (p, e) :: suf) := by simpa [seqL] using h
  rw [List.cons.injEq, Prod.mk.injEq] at h'
  rcases Qx h'.2 with ⟨e0, s', hs'⟩ | ⟨e4, h1, h2⟩
  ·exact .inl ⟨e0, s', by rw [h'.1.1, hs']; rfl⟩
  ·exact .inr ⟨e4, by rw [h'.1.1, h1], h2⟩
theorem YI : ∀ {l ps : List Par} {ok : Bool}, okay ps = seqL l ok -> ps = l /\ ok = true
 | [], [], ok, h => by cases ok with
  | true => exact ⟨rfl, rfl⟩
  | false => simp [seqL] at h
 | [], a :: ps, ok, h => by cases ok <;> simp [seqL] at h
 | q :: l, [], ok, h => by simp [seqL] at h
 | q :: l, a :: ps, ok, h => by
  have h' : (a, (0 : Int)) :: okay ps = (q, 0) :: seqL l ok := by simpa [seqL] using h
  rw [List.cons.injEq, Prod.mk.injEq] at h';obtain ⟨h1, h2⟩ := YI h'.2;exact ⟨by rw [h'.1.1, h1], h2⟩
instance tpScanner : zH prog 285 [(0, 1)] := ⟨by kernel_rfl⟩
theorem OV (s : List UInt8) : Meets prog 157 [.string (str s)] []
  fun u A => ∃ c, u = .func (.func 205) #[] #[.pointer (some ⟨c, 0, none⟩)] /\ A = [bx c (.string (str s)) 9] := by
 refine eN func157 ntmps157 results157 fun F => ?_
 refine gg ?_;refine oB fun c1 => ?_
 refine gg ?_;refine zb [bx c1 (.string (str s)) 9] ⟨c1, rfl, rfl⟩
theorem scan_iter (c : Nat) (s : List UInt8) (hs : s.length <= 100000) :
  vJ prog 205 [] [.pointer (some ⟨c, 0, none⟩)] encS_DI [bx c (.string (str s)) 9]
   (fun T => T = []) noH noH noH (NextQ (seqE s)) (fun pre => pre = seqE s)
   (fun _ A => A = [bx c (.string (str s)) 9]) (fun _ A => A = [bx c (.string (str s)) 9]) false := by
 refine jQ (by kernel_rfl) fun l0 J Jx hN hT hY C hC => ?_
 refine eN func205 ntmps205 results205 fun F => ?_
 refine gg ?_;refine oT [(0, .string (str s))] #[.string (str s)] ?_;refine gg ?_;refine oB fun b3 => ?_
 refine gg ?_
 refine zz (fun q D L S => ∃ (ps : List Par) (t : List UInt8) (C' : Chunk), J (okay ps) C' /\ t.length <= s.length /\ xr s = (ps ++ (xr t).1, (xr t).2) /\ q = t.length /\ D = [] /\
  L = [(3, .pointer (some ⟨b3, 0, none⟩)), (0, .func (.yield l0) #[] #[]), (1, .pointer (some ⟨c, 0, none⟩))] /\ S = [C', scB b3 t, F, bx c (.string (str s)) 9])
  ⟨[], s, C, hC, aR _, rfl, rfl, rfl, rfl, rfl⟩ ?_
 rintro q D L S ⟨ps, t, C', hJ, htl, hls, rfl, rfl, rfl, rfl⟩;refine gg ?_;refine cA (OE b3 t (by omega)) ?_; rintro v A ⟨p, ok, r, rfl, rfl, ho⟩; refine gA ?_;refine oA (encP p0).toArray fun b4 => ?_
 refine oS (encP p) rfl (zP _) ?_;refine gg ?_
 cases ok with
 | false =>
  rw [if_neg (by simp)] at ho;rw [ZE ho, aL] at hls;have hnx : NextQ (seqE s) (okay ps) (p0, 4) := ⟨[], by unfold seqE; rw [hls]; rfl⟩;refine gg ?_;refine oT [] (encP p0).toArray ?_;refine zf fun K hK => ?_
  refine xF (hY (okay ps) (p0, 4) hnx) hJ rfl tkA (fun C4 H4 hJ4 hH4 => ?_) (fun C4 H4 hJ4 hH4 => ?_)
  ·subst hH4
   (try simp only [aD])
   refine hK _ _ ?_; clear hK K;refine gg ?_;refine xP [C4, bx c (.string (str s)) 9] ⟨C4, _, rfl, .inl ⟨_, by unfold seqE; rw [hls]; rfl, hJ4, rfl⟩⟩
  ·subst hH4
   (try simp only [aD])
   refine hK _ _ ?_; clear hK K;refine gg ?_;refine xP [C4, bx c (.string (str s)) 9] ⟨C4, _, rfl, .inr ⟨_, _, hnx, hJ4, rfl⟩⟩
 | true =>
  rw [if_pos rfl] at ho;obtain ⟨l1, hl1⟩ := list_head ho;have h1l := (Zx ho).2.1;have hnx : NextQ (seqE s) (okay ps) (p, 0) := ⟨seqL l1 (xr t).2, by unfold seqE; rw [hls, hl1]; simp [seqL]⟩;refine gg ?_;refine oL (encP p) rfl ?_;refine zf fun K hK => ?_
  refine xF (hY (okay ps) (p, 0) hnx) hJ rfl tkA (fun C4 H4 hJ4 hH4 => ?_) (fun C4 H4 hJ4 hH4 => ?_)
  ·subst hH4
   (try simp only [aD])
   refine hK _ _ ?_; clear hK K;have hJ5 : J (okay (ps ++ [p])) C4 := by rw [show okay (ps ++ [p]) = okay ps ++ [(p, 0)] from by simp]; exact hJ4
   refine gg ?_
   cases hr : r with
   | nil =>
    subst hr;rw [kg ho] at hls
    (try rw [beq_self_eq_true])
    (try refine gg ?_)
    refine xP [C4, bx c (.string (str s)) 9] ⟨C4, _, rfl, .inl ⟨_, by unfold seqE; rw [hls]; simp [seqL], hJ5, rfl⟩⟩
   | cons d r2 =>
    rw [<- hr];have hr0 : r ≠ [] := by rw [hr]; simp
    rw [beq_eq_false_iff_ne.2 hr0];refine gg ?_;have l2 := xM r;refine cA (qp b3 r (by omega)) ?_; rintro v A ⟨rfl, rfl⟩; refine gA ?_
    (try rw [show Value.int .u8 44 = b8 44 from rfl])
    refine cA (jY b3 (zk r) 44 (by omega)) ?_; rintro v A ⟨rfl, rfl⟩; refine gA ?_;have l3 := vu (zk r) 44
    cases h1 : (zG (zk r) 44).1 with
    | false =>
     rw [kf ho hr0 h1] at hls;have hnx2 : NextQ (seqE s) (okay (ps ++ [p])) (p0, 4) := ⟨[], by unfold seqE; rw [hls]; rfl⟩;refine gg ?_;refine oT [] (encP p0).toArray ?_;refine zf fun K hK => ?_
     refine xF (hY (okay (ps ++ [p])) (p0, 4) hnx2) hJ5 rfl tkA (fun C5 H5 hJ6 hH5 => ?_) (fun C5 H5 hJ6 hH5 => ?_)
     ·subst hH5
      (try simp only [aD])
      refine hK _ _ ?_; clear hK K;refine gg ?_;refine xP [C5, bx c (.string (str s)) 9] ⟨C5, _, rfl, .inl ⟨_, by unfold seqE; rw [hls]; rfl, hJ6, rfl⟩⟩
     ·subst hH5
      (try simp only [aD])
      refine hK _ _ ?_; clear hK K;refine gg ?_;refine xP [C5, bx c (.string (str s)) 9] ⟨C5, _, rfl, .inr ⟨_, _, hnx2, hJ6, rfl⟩⟩
    | true =>
     rw [ZD ho hr0 h1] at hls;have l4 := xM (zG (zk r) 44).2;have l5 := jX _ _ h1;refine gg ?_;refine cA (qp b3 (zG (zk r) 44).2 (by omega)) ?_; rintro v A ⟨rfl, rfl⟩; refine gA ?_;exact zv ⟨ps ++ [p], zk (zG (zk r) 44).2, C4, hJ5, by omega, by rw [hls]; simp, rfl, rfl, rfl, rfl⟩
  ·subst hH4
   (try simp only [aD])
   refine hK _ _ ?_; clear hK K;refine gg ?_;refine xP [C4, bx c (.string (str s)) 9] ⟨C4, _, rfl, .inr ⟨_, _, hnx, hJ4, rfl⟩⟩
end Go.Proofs.YtebikhhoppiapaaGreatDoor
namespace Go.Proofs.YtebikhhoppiapaaGreatDoor
open Go Go.Ost
open _root_.Go.Proofs.Tryz
theorem OW {t : List UInt8} (h : (zG t 32).1 = true) : t.dropWhile (fun c => c == 32) = (zG t 32).2.dropWhile (fun c => c == 32) := by
 have e := yK h;generalize (zG t 32).2 = r at *;rw [e, cQ, if_pos (beq_self_eq_true _)]
theorem drop32_no {t : List UInt8} (h : (zG t 32).1 = false) : t.dropWhile (fun c => c == 32) = t := by
 cases t with
 | nil => rfl
 | cons d r =>
  by_cases hd : d = 32
  ·rw [hd, sign_yes] at h; cases h
  ·rw [cQ, if_neg (by simpa using hd)]
theorem VM (l : List Par) : l.length <= vL l := by
 induction l with
 | nil => exact aR _
 | cons p l ih => show l.length + 1 <= p.n.length + p.v.length + 1 + vL l; omega
theorem OC {s : List UInt8} (h : 4096 < s.length) : xh s = ([], 3) := by unfold xh; rw [if_pos h]
theorem XD {s : List UInt8} (h : ¬ 4096 < s.length) (h2 : lowL (tokL s) ≠ scheme ∨ (zG (tokR s) 32).1 = false) : xh s = ([], 4) := by unfold xh; rw [if_neg h, if_pos h2]
theorem OD {s : List UInt8} (h : ¬ 4096 < s.length) (h2 : lowL (tokL s) = scheme) (h3 : (zG (tokR s) 32).1 = true) :
  xh s = if (xr (jh s)).2 = false then ([], 4) else if cntE (xr (jh s)).1 ≠ 0 then ([], cntE (xr (jh s)).1) else ((xr (jh s)).1, 0) := by
 unfold xh; rw [if_neg h, if_neg (by rw [not_or]; exact ⟨fun e => e h2, by rw [h3]; simp⟩)]
theorem OB (s : List UInt8) (hs : s.length <= 100000) : Meets prog 107 [.string (str s)] []
  fun v A => ∃ X a k, v = .tuple #[.slice a (xh s).1.length k, .int .i64 (xh s).2] /\ OwnP X a k (xh s).1 /\ A = [X] := by
 refine eN func107 ntmps107 results107 fun F => ?_
 refine zB ?_;refine gg ?_;refine zf fun K hK => ?_; refine zu fun b2 => ?_; (try simp only [Value.cells]); refine hK _ _ ?_; clear hK K
 refine zf fun K hK => ?_; refine zu fun b3 => ?_; (try simp only [Value.cells]); refine hK _ _ ?_; clear hK K
 refine gg ?_
 by_cases h1 : 4096 < s.length
 ·rw [OC h1, decide_eq_true (show (4096 : Int) < s.length by omega)];refine gg ?_;refine ze (vs := [.slice none 0 0, .int .i64 3]) [[]] ⟨[], none, 0, rfl, own_nil, rfl⟩
 rw [decide_eq_false (show ¬ (4096 : Int) < s.length by omega)];refine gg ?_;refine oT [(0, .string (str s))] #[.string (str s)] ?_;refine gg ?_;refine oB fun b4 => ?_
 refine gg ?_;have l1 := Jg s;have l2 := Jf s;have l3 := vu (tokR s) 32;refine cA (qu b4 s hs) ?_; rintro v A ⟨rfl, rfl⟩; refine gA ?_;refine cA (vh (tokL s) (by omega)) ?_; rintro v A ⟨rfl, rfl⟩; refine gA ?_
 by_cases h2 : lowL (tokL s) = scheme
 ·rw [bne_eq_false_iff_eq.2 (show lowL (tokL s) = [100, 105, 103, 101, 115, 116] from h2)];refine gg ?_
  (try rw [show Value.int .u8 32 = b8 32 from rfl])
  refine cA (jY b4 (tokR s) 32 (by omega)) ?_; rintro v A ⟨rfl, rfl⟩; refine gA ?_
  cases h3 : (zG (tokR s) 32).1 with
  | false =>
   rw [XD h1 (.inr h3)];refine gg ?_;refine ze (vs := [.slice none 0 0, .int .i64 4]) [[]] ⟨[], none, 0, rfl, own_nil, rfl⟩
  | true =>
   rw [OD h1 h2 h3];have hre : jh s = (zG (tokR s) 32).2.dropWhile (fun c => c == 32) := rfl;have hrl := vA s;have hall := list_len _ (jh s) (aR _);have hcn := VM (xr (jh s)).1;generalize jh s = r at *;refine gg ?_
   refine zz (fun q D L S => ∃ t : List UInt8, t.length <= s.length /\ t.dropWhile (fun c => c == 32) = r /\ q = t.length /\ D = [] /\ L = [(4, .pointer (some ⟨b4, 0, none⟩)), (2, .pointer (some ⟨b2, 0, none⟩)), (3, .pointer (some ⟨b3, 0, none⟩))] /\
    S = [scB b4 t, bx b3 (.int .i64 0) 35, bx b2 (.slice none 0 0) 208, [], F])
    ⟨(zG (tokR s) 32).2, by omega, hre.symm, rfl, rfl, rfl, rfl⟩ ?_
   rintro q D L S ⟨t, htl, htr, rfl, rfl, rfl, rfl⟩;refine gg ?_
   (try rw [show Value.int .u8 32 = b8 32 from rfl])
   refine cA (jY b4 t 32 (by omega)) ?_; rintro v A ⟨rfl, rfl⟩; refine gA ?_
   cases h4 : (zG t 32).1 with
   | true =>
    have l5 := jX _ _ h4;rw [OW h4] at htr;refine gg ?_;exact zv ⟨(zG t 32).2, by omega, htr, rfl, rfl, rfl, rfl⟩
   | false =>
    rw [drop32_no h4] at htr;rw [IU _ _ h4, htr];clear htr htl h4 hre l1 l2 l3;refine gg ?_;refine zf fun K hK => ?_; refine zu fun b5 => ?_; (try simp only [Value.cells]); refine hK _ _ ?_; clear hK K
    refine gg ?_;refine cA (OV r) ?_; rintro v A ⟨cc, rfl, rfl⟩; refine gA ?_;refine zB ?_
    refine xW (by (try simp only [evT, lookT_hit, lookT_miss, aG]); (first | done | exact rfl)) (scan_iter cc r (by omega)) (by (repeat (first | exact Take.nil _ | with_reducible exact Pick.head _ _ | with_reducible apply Pick.tail | with_reducible apply Take.cons))) (fun pre C => ∃ (ps : List Par) (X : Chunk) (xa : Option Addr) (xc : Nat), pre = okay ps /\ OwnP X xa xc ps /\
      C = [X, bx b5 (.slice xa ps.length xc) 208, scB b4 r, bx b3 (.int .i64 0) 35, bx b2 (.slice none 0 0) 208, [], F])
     (fun k pre C => k = .ret /\ (xr r).2 = false /\ C = [bx b3 (.int .i64 4) 35, bx b2 (.slice none 0 0) 208, [], F]) (fun h => by cases h) (fun C hC => ⟨[], C.flatten, rfl, by simp⟩) (fun _ => rfl)
     ⟨[], [], none, 0, rfl, own_nil, rfl⟩ ?_ ?_ ?_
    ·rintro l F1 C H r' pre x ⟨suf, hx⟩ ⟨ps, X, xa, xc, rfl, hX, rfl⟩ rfl;obtain ⟨p, e⟩ := x;have hsc := Qx hx
     (try simp only [aD, aC, aL, encS_DI])
     (try simp only [jz, putT, bM, if_true, reduceIte, Array.toList, dG])
     refine gg ?_;refine oA (encP p0).toArray fun b6 => ?_
     refine oS (encP p) rfl (zP _) ?_;refine gg ?_;refine ⟨_, .cons (.tail _ (.head _ _)) (Among.refl _), fun r'' _ => ?_⟩;refine gg ?_
     rcases hsc with ⟨rfl, suf', hl⟩ | ⟨rfl, hl, hok⟩
     ·have hpl : ps.length < (xr r).1.length := by rw [hl]; simp
      refine gg ?_;refine oL (encP p) rfl ?_;refine zf fun K hK => ?_; refine zN (e := 210) (s := 3) (hs := inferInstance) (vs := encP p) (by rfl) (by decide) (by decide) rfl (fun b1 C1 ho1 => ?_); refine hK _ _ ?_; clear hK K
      refine zf fun K hK => ?_; refine zn (e := 210) (s := 3) (hs := inferInstance) (by rfl) (by decide) hX (.inr pkA) (ho1.rd mmA) (zP _) (by simp only [maxLen]; omega) (by omega) (fun C3 a3 cap3 ho3 => ?_); refine hK _ _ ?_; clear hK K
      have e1 : ps.length + 1 = (ps ++ [p]).length := by simp
      have e2 : ps.flatMap encP ++ encP p = (ps ++ [p]).flatMap encP := by simp
      rw [e1, e2] at ho3;rw [e1];refine gg ?_;exact ⟨_, ⟨_, [], rfl, ⟨ps ++ [p], C3, a3, cap3, by simp, ho3, rfl⟩, rfl⟩, by (try simp only [aL]); first | ((repeat (first | with_reducible exact Among.nil _ | with_reducible exact Pick.head _ _ | with_reducible apply Pick.tail | with_reducible apply Among.cons)); done) | ((repeat (first | exact Among.nil _ | exact Pick.head _ _ | apply Pick.tail | apply Among.cons)); done)⟩
     ·refine gg ?_;exact ⟨_, ⟨_, [], rfl, ⟨rfl, hok, rfl⟩, rfl⟩, by (try simp only [aL]); first | ((repeat (first | with_reducible exact Among.nil _ | with_reducible exact Pick.head _ _ | with_reducible apply Pick.tail | with_reducible apply Among.cons)); done) | ((repeat (first | exact Among.nil _ | exact Pick.head _ _ | apply Pick.tail | apply Among.cons)); done)⟩
    ·rintro d pre C A hd ⟨ps, X, xa, xc, rfl, hX, rfl⟩ rfl;obtain ⟨hps, hok⟩ := YI hd;rw [if_neg (by rw [hok]; simp), <- hps];rw [<- hps] at hcn hall
     (try simp only [aD, aC])
     refine gg ?_;refine cA (yC hX (by omega)) ?_; rintro v A ⟨rfl, rfl⟩; refine gA ?_
     by_cases h5 : cntE ps = 0
     ·rw [if_neg (by simp [h5]), h5];refine gg ?_;refine ze (vs := [.slice xa ps.length xc, .int .i64 0]) [X] ⟨X, xa, xc, rfl, hX, rfl⟩
     ·rw [if_pos h5, bne_iff_ne.2 h5];refine gg ?_;refine ze (vs := [.slice none 0 0, .int .i64 (cntE ps)]) [[]] ⟨[], none, 0, rfl, own_nil, rfl⟩
    ·rintro d k pre x C A hx ⟨rfl, hok, rfl⟩ rfl;rw [if_pos hok]
     (try simp only [aD, aC])
     refine gg ?_;refine ze (vs := [.slice none 0 0, .int .i64 4]) [[]] ⟨[], none, 0, rfl, own_nil, rfl⟩
 ·rw [bne_iff_ne.2 (show lowL (tokL s) ≠ [100, 105, 103, 101, 115, 116] from h2), XD h1 (.inl h2)];refine gg ?_;refine ze (vs := [.slice none 0 0, .int .i64 4]) [[]] ⟨[], none, 0, rfl, own_nil, rfl⟩
abbrev fB (b : Nat) (a : Option Addr) (n k : Nat) (f : Fl) : Chunk := [(b, .cells #[.slice a n k, .bool f.1, .bool f.2] 219 (0, 0))]
instance tpFields : zH prog 219 [(0, 1), (1, 1), (2, 1)] := ⟨by kernel_rfl⟩
theorem find_at {l : List Par} {n : List UInt8} {i : Nat} (h : i < l.length) (hno : ((l.take i).find? fun p => p.n == n) = none) (hf : ((l.getD i p0).n == n) = true) : hasB l n = true /\ gotP l n = l.getD i p0 := by
 have e : l = l.take i ++ l.getD i p0 :: l.drop (i + 1) := by
  have h2 : l.drop i = l.getD i p0 :: l.drop (i + 1) := by
   rw [bK h, aS, aF h]; rfl
  rw [<- h2, cR]
 have hfi : (l.find? fun p => p.n == n) = some (l.getD i p0) := by
  generalize l.getD i p0 = x at *;generalize l.take i = a at *;rw [e, List.find?_append, hno, Option.none_or, List.find?_cons, hf]
 unfold hasB gotP;rw [hfi]; exact ⟨rfl, rfl⟩
theorem find_more {l : List Par} {n : List UInt8} {i : Nat} (h : i < l.length) (hno : ((l.take i).find? fun p => p.n == n) = none) (hf : ((l.getD i p0).n == n) = false) : ((l.take (i + 1)).find? fun p => p.n == n) = none := by
 rw [cC, List.find?_append, hno, Option.none_or, jI l i h]
 show List.find? _ [l.getD i p0] = none
 rw [List.find?_cons, hf]; rfl
theorem find_none {l : List Par} {n : List UInt8} (h : (l.find? fun p => p.n == n) = none) : hasB l n = false /\ gotP l n = p0 := by
 unfold hasB gotP; rw [h]; exact ⟨rfl, rfl⟩
section f
variable {X : Chunk} {xa : Option Addr} {xc : Nat} {l : List Par} {b : Nat}
theorem XM (hX : OwnP X xa xc l) (hl : l.length <= 100000) (f : Fl) (n : List UInt8) : Meets prog 158 [.pointer (some ⟨b, 0, none⟩), .string (str n)] [fB b xa l.length xc f, X]
  fun v A => v = .tuple #[.agg (encP (gotP l n)).toArray, .bool (hasB l n)] /\ A = [fB b xa l.length xc f, X] := by
 have hs := vI;refine eN func158 ntmps158 results158 fun F => ?_
 refine gg ?_;refine oA (encP p0).toArray fun b4 => ?_
 refine gg ?_
 refine zz (fun q D L S => ∃ i : Nat, i <= l.length /\ ((l.take i).find? fun p => p.n == n) = none /\ q = l.length - i /\ D = [] /\
  L = [(13, .int .i64 i), (12, .int .i64 l.length), (11, .slice xa l.length xc), (4, .pointer (some ⟨b4, 0, none⟩)), (1, .string (str n))] /\ S = [dpB b4 p0, fB b xa l.length xc f, X, F])
  ⟨0, by omega, rfl, rfl, rfl, rfl, rfl⟩ ?_
 rintro q D L S ⟨i, hi, hno, rfl, rfl, rfl, rfl⟩;refine gg ?_;refine if_d (fun hc => ?_) (fun hc => ?_)
 ·have hil : i < l.length := by omega
  have hx := jI l i hil;refine gg ?_;refine zf fun K hK => ?_; refine zT hX hs hx (by decide) mmA ?_; refine hK _ _ ?_; clear hK K
  refine oA (encP p0).toArray fun b7 => ?_
  refine oS (encP (l.getD i p0)) rfl (zP _) ?_;refine gg ?_
  cases hb : ((l.getD i p0).n == n) with
  | true =>
   obtain ⟨e1, e2⟩ := find_at hil hno hb;rw [e1, e2];refine gg ?_;refine oL (encP (l.getD i p0)) rfl ?_;refine oS (encP (l.getD i p0)) rfl (zP _) ?_;refine gg ?_;refine ze (vs := [.agg (encP (l.getD i p0)).toArray, .bool true]) [fB b xa l.length xc f, X] ⟨rfl, rfl⟩ (hr := by (intro κ hκ; simp only [resW, withV, lookT_hit, lookT_miss, aG]; exact zi (vs := encP (l.getD i p0)) lkA rfl hκ))
  | false =>
   refine gg ?_;exact zv ⟨i + 1, by omega, find_more hil hno hb, rfl, rfl, rfl, rfl⟩
 ·obtain rfl : i = l.length := by omega
  rw [bF] at hno;obtain ⟨e1, e2⟩ := find_none hno;rw [e1, e2];refine gg ?_;refine oT [] (encP p0).toArray ?_;refine gg ?_;refine oS (encP p0) rfl (zP _) ?_;refine gg ?_;refine ze (vs := [.agg (encP p0).toArray, .bool false]) [fB b xa l.length xc f, X] ⟨rfl, rfl⟩ (hr := by (intro κ hκ; simp only [resW, withV, lookT_hit, lookT_miss, aG]; exact zi (vs := encP p0) lkA rfl hκ))
theorem jt (hX : OwnP X xa xc l) (hl : l.length <= 100000) (f : Fl) (n : List UInt8) (q : Bool) : Meets prog 108 [.pointer (some ⟨b, 0, none⟩), .string (str n), .bool q] [fB b xa l.length xc f, X]
  fun v A => v = .string (str (gotP l n).v) /\ A = [fB b xa l.length xc (getF l n q f), X] := by
 obtain ⟨lo, ba⟩ := f;refine eN func108 ntmps108 results108 fun F => ?_
 refine gg ?_;refine cA (XM hX hl (lo, ba) n) ?_; rintro v A ⟨rfl, rfl⟩; refine gA ?_;refine oA (encP p0).toArray fun b7 => ?_
 refine oS (encP (gotP l n)) rfl (zP _) ?_;unfold getF;generalize gotP l n = p;generalize hasB l n = h;refine gg ?_
 cases lo with
 | true =>
  refine gg ?_;refine gM ?_;refine gg ?_
  cases ba with
  | true =>
   refine gg ?_;refine gM ?_;refine gg ?_;refine zb [fB b xa l.length xc (true, true), X] ?_; exact ⟨rfl, rfl⟩
  | false =>
   refine gg ?_;refine gM ?_;refine gg ?_;refine zb [fB b xa l.length xc (true, p.q != q), X] ?_; exact ⟨rfl, rfl⟩
 | false =>
  refine gg ?_;refine gM ?_;refine gg ?_
  cases ba with
  | true =>
   refine gg ?_;refine gM ?_;refine gg ?_;refine zb [fB b xa l.length xc (!h, true), X] ?_; exact ⟨rfl, rfl⟩
  | false =>
   refine gg ?_;refine gM ?_;refine gg ?_;refine zb [fB b xa l.length xc (!h, p.q != q), X] ?_; exact ⟨rfl, rfl⟩
theorem qE (f : Fl) (ok : Bool) : Meets prog 113 [.pointer (some ⟨b, 0, none⟩), .bool ok] [fB b xa l.length xc f] fun v A => v = .tuple #[] /\ A = [fB b xa l.length xc (vl ok f)] := by
 obtain ⟨lo, ba⟩ := f;refine eN func113 ntmps113 results113 fun F => ?_
 refine gg ?_
 cases ba with
 | true =>
  refine gg ?_;refine gM ?_;refine zL [fB b xa l.length xc (lo, true)] ⟨rfl, rfl⟩
 | false =>
  refine gg ?_;refine gM ?_;refine zL [fB b xa l.length xc (lo, !ok)] ⟨rfl, rfl⟩
theorem XJ (f : Fl) (s : List UInt8) : Meets prog 109 [.pointer (some ⟨b, 0, none⟩), .string (str s)] [fB b xa l.length xc f] fun v A => v = .string (str s) /\ A = [fB b xa l.length xc (vl (sizB s) f)] := by
 unfold sizB;refine eN func109 ntmps109 results109 fun F => ?_
 refine gg ?_
 cases hb : (s != []) with
 | false =>
  refine gg ?_;refine cA (qE f false) ?_; rintro v A ⟨rfl, rfl⟩; refine gA ?_;refine zb [fB b xa l.length xc (vl false f)] ?_; exact ⟨rfl, rfl⟩
 | true =>
  refine gg ?_;refine cA (qE f (decide ((s.length : Int) <= 64))) ?_; rintro v A ⟨rfl, rfl⟩; refine gA ?_;refine zb [fB b xa l.length xc (vl (decide ((s.length : Int) <= 64)) f)] ?_; exact ⟨rfl, rfl⟩
theorem fmay_spec (hX : OwnP X xa xc l) (hl : l.length <= 100000) (f : Fl) (n o : List UInt8) (q : Bool) : Meets prog 110 [.pointer (some ⟨b, 0, none⟩), .string (str n), .bool q, .string (str o)] [fB b xa l.length xc f, X]
  fun v A => v = .string (str (if hasB l n = true then (gotP l n).v else o)) /\ A = [fB b xa l.length xc (mayF l n q f), X] := by
 unfold mayF;refine eN func110 ntmps110 results110 fun F => ?_
 refine gg ?_;refine cA (XM hX hl f n) ?_; rintro v A ⟨rfl, rfl⟩; refine gA ?_;refine oA (encP p0).toArray fun b7 => ?_
 refine oS (encP (gotP l n)) rfl (zP _) ?_
 cases hh : hasB l n with
 | false =>
  refine gg ?_;refine zb [fB b xa l.length xc f, X] ?_; exact ⟨rfl, rfl⟩
 | true =>
  refine gg ?_;refine cA (jt hX hl f n q) ?_; rintro v A ⟨rfl, rfl⟩; refine gA ?_;refine zb [fB b xa l.length xc (getF l n q f), X] ?_; exact ⟨rfl, rfl⟩
theorem XO (f : Fl) : Meets prog 115 [.pointer (some ⟨b, 0, none⟩)] [fB b xa l.length xc f] fun v A => v = .int .i64 (endF f) /\ A = [fB b xa l.length xc f] := by
 obtain ⟨lo, ba⟩ := f;refine eN func115 ntmps115 results115 fun F => ?_
 refine gg ?_
 cases lo with
 | true =>
  refine gg ?_;refine zb [fB b xa l.length xc (true, ba)] ?_; exact ⟨rfl, rfl⟩
 | false =>
  refine gg ?_
  cases ba with
  | true =>
   refine gg ?_;refine zb [fB b xa l.length xc (false, true)] ?_; exact ⟨rfl, rfl⟩
  | false =>
   refine gg ?_;refine zb [fB b xa l.length xc (false, false)] ?_; exact ⟨rfl, rfl⟩
theorem WS (hX : OwnP X xa xc l) (hl : l.length <= 100000) (hb : ∀ p ∈ l, p.v.length <= 100000) (f : Fl) (q : Bool) : Meets prog 111 [.pointer (some ⟨b, 0, none⟩), .bool q] [fB b xa l.length xc f, X]
  fun v A => v = .tuple #[] /\ A = [fB b xa l.length xc (comF l q f), X] := by
 have e1 : Value.string ⟨#[113, 111, 112]⟩ = .string (str nQop) := rfl;have e2 : Value.string ⟨#[97, 108, 103, 111, 114, 105, 116, 104, 109]⟩ = .string (str nAlg) := rfl;have e3 : Value.string ⟨#[83, 72, 65, 45, 50, 53, 54]⟩ = .string (str nSum) := rfl
 have hal : (gotP l nAlg).v.length <= 100000 := by
  unfold gotP
  cases hf : l.find? fun p => p.n == nAlg with
  | none => show (0 : Nat) <= _; omega
  | some p => exact hb p (List.mem_of_find?_eq_some hf)
 unfold comF;refine eN func111 ntmps111 results111 fun F => ?_
 refine gg ?_
 (try rw [e1])
 refine cA (jt hX hl f nQop q) ?_; rintro v A ⟨rfl, rfl⟩; refine gA ?_;refine cA (qE (getF l nQop q f) ((gotP l nQop).v == nAuth)) ?_; rintro v A ⟨rfl, rfl⟩; refine gA ?_
 (try rw [e2])
 refine cA (jt hX hl _ nAlg false) ?_; rintro v A ⟨rfl, rfl⟩; refine gA ?_;refine cA (vh (gotP l nAlg).v hal) ?_; rintro v A ⟨rfl, rfl⟩; refine gA ?_
 (try rw [e3])
 refine cA (vh nSum (by decide)) ?_; rintro v A ⟨rfl, rfl⟩; refine gA ?_;refine cA (qE _ (lowL (gotP l nAlg).v == lowL nSum)) ?_; rintro v A ⟨rfl, rfl⟩; refine gA ?_;refine zL [fB b xa l.length xc (comF l q f), X] ⟨rfl, rfl⟩
end f
end Go.Proofs.YtebikhhoppiapaaGreatDoor
namespace Go.Proofs.YtebikhhoppiapaaGreatDoor
open Go Go.Ost
theorem all_in {l : List Par} {p : Par} (h : p ∈ l) : p.n.length + p.v.length + 1 <= vL l := by
 induction l with
 | nil => cases h
 | cons a l ih =>
  show _ <= a.n.length + a.v.length + 1 + vL l
  rcases List.mem_cons.1 h with rfl | h
  ·omega
  ·have := ih h; omega
theorem Wb (s : List UInt8) : (xh s).1.length <= s.length /\ ∀ p ∈ (xh s).1, p.n.length + p.v.length <= s.length := by
 have h1 := list_len _ (jh s) (aR _);have h2 := vA s;have h3 := VM (xr (jh s)).1;unfold xh
 split
 ·exact ⟨by simp, fun p hp => by cases hp⟩
 split
 ·exact ⟨by simp, fun p hp => by cases hp⟩
 split
 ·exact ⟨by simp, fun p hp => by cases hp⟩
 split
 ·exact ⟨by simp, fun p hp => by cases hp⟩
 ·refine ⟨by show (xr (jh s)).1.length <= _; omega, fun p hp => ?_⟩;have := all_in (l := (xr (jh s)).1) hp;omega
open Go.RowKit Go.Sha Go.Shelf _root_.Go.Proofs.Tryz
theorem Vh (d : List UInt8) (c : UInt8) : Meets prog 160 [.string (str d), b8 c] [] fun v A => v = .int .i64 (Lib.indexByte d c) /\ A = [] := by
 have h : Meets prog 160 [.string (str d), b8 c] [] fun v A => v = .int .i64 (Lib.indexByte d c) /\ A = [[]] := by
  refine jU rfl rfl (by kernel_rfl) fun w hw => ?_
  refine (Any.strings_IndexByte laysI ⟨d.toArray⟩ c.toNat w).mono ?_;rintro e w' ⟨rfl, rfl⟩;refine ⟨_, rfl, Below.refl _ _, [], fun k o hm => (by cases hm), by simp, ?_, rfl⟩;rw [show ((c.toNat : Int).toNat.toUInt8) = c from by simp]
 refine Meets.conv [] h rfl (.nil _) ?_;rintro v A ⟨rfl, rfl⟩;exact ⟨[], [[]], rfl, Among.refl _, rfl, rfl⟩
def prs : List UInt8 -> List (List UInt8)
 | [] => []
 | [a] => [[a]]
 | a :: b :: r => [a, b] :: prs r
theorem YX : ∀ (s : List UInt8), s ≠ [] -> prs s = s.take 2 :: prs (s.drop 2)
 | [], h => (h rfl).elim
 | [a], _ => rfl
 | a :: b :: r, _ => rfl
abbrev encG (x : List UInt8) : List Value := [.string (str x)]
abbrev sb (c : Nat) (s : List UInt8) : Chunk := bx c (.string (str s)) 9
abbrev ib (c : Nat) : Chunk := bx c (.int .i64 2) 3
abbrev NextG (q pre : List (List UInt8)) (x : List UInt8) : Prop := ∃ suf, q = pre ++ x :: suf
theorem WC (s : List UInt8) : Meets prog 159 [.string (str s), .int .i64 2] []
  fun u A => ∃ c1 c2, u = .func (.func 208) #[] #[.pointer (some ⟨c1, 0, none⟩), .pointer (some ⟨c2, 0, none⟩)] /\ A = [sb c1 s, ib c2] := by
 refine eN func159 ntmps159 results159 fun F => ?_
 refine gg ?_;refine oB fun c1 => ?_
 refine oB fun c2 => ?_
 refine gg ?_;refine zb [sb c1 s, ib c2] ⟨c1, c2, rfl, rfl⟩
theorem WD (c1 c2 : Nat) (s : List UInt8) (hs : s.length <= 100000) :
  vJ prog 208 [] [.pointer (some ⟨c1, 0, none⟩), .pointer (some ⟨c2, 0, none⟩)] encG [sb c1 s, ib c2]
   (fun T => T = []) noH noH noH (NextG (prs s)) (fun pre => pre = prs s)
   (fun _ A => ∃ r, A = [sb c1 r, ib c2]) (fun _ A => ∃ r, A = [sb c1 r, ib c2]) false := by
 refine jQ (by kernel_rfl) fun l0 J Jx hN hT hY C hC => ?_
 refine eN func208 ntmps208 results208 fun F => ?_
 refine gg ?_
 refine zz (fun q D L S => ∃ (pre : List (List UInt8)) (t : List UInt8) (C' : Chunk), J pre C' /\ t.length <= s.length /\ prs s = pre ++ prs t /\ q = t.length /\ D = [] /\
  L = [(0, .func (.yield l0) #[] #[]), (1, .pointer (some ⟨c1, 0, none⟩)), (2, .pointer (some ⟨c2, 0, none⟩))] /\ S = [C', sb c1 t, ib c2, F])
  ⟨[], s, C, hC, aR _, rfl, rfl, rfl, rfl, rfl⟩ ?_
 rintro q D L S ⟨pre, t, C', hJ, htl, hps, rfl, rfl, rfl, rfl⟩;refine gg ?_
 by_cases ht : t = []
 ·subst ht
  (try rw [decide_eq_false (show ¬ (0 : Int) < (([] : List UInt8).length : Nat) by simp)])
  refine gg ?_;refine zL [C', sb c1 [], ib c2] ⟨C', _, rfl, .inl ⟨pre, by rw [hps]; simp [prs], hJ, [], rfl⟩⟩
 ·have hp : 0 < t.length := List.length_pos_iff.2 ht;rw [decide_eq_true (show (0 : Int) < t.length by omega)];refine gg ?_;have em : (if (2 : Int) < t.length then (2 : Int) else t.length) = ((t.take 2).length : Nat) := by rw [aU]; split <;> omega
  have hl2 : (t.take 2).length <= t.length := by rw [aU]; omega
  have et : t.take (t.take 2).length = t.take 2 := by
   rw [aU]
   rcases Nat.le_total 2 t.length with h | h
   ·rw [Nat.min_eq_left h]
   ·rw [Nat.min_eq_right h, bF, bS h]
  have ed : t.drop (t.take 2).length = t.drop 2 := by
   rw [aU]
   rcases Nat.le_total 2 t.length with h | h
   ·rw [Nat.min_eq_left h]
   ·rw [Nat.min_eq_right h, dR, dA h]
  (try rw [em])
  (try refine gg ?_)
  (try rw [show (((t.take 2).length : Nat) : Int).toNat = (t.take 2).length from by omega])
  rw [et];have hnx : NextG (prs s) pre (t.take 2) := ⟨prs (t.drop 2), by rw [hps, YX t ht]⟩;refine zf fun K hK => ?_
  refine xF (hY pre (t.take 2) hnx) hJ rfl tkA (fun C4 H4 hJ4 hH4 => ?_) (fun C4 H4 hJ4 hH4 => ?_)
  ·subst hH4
   (try simp only [aD])
   refine hK _ _ ?_; clear hK K;refine gg ?_;rw [ed];refine gg ?_;exact zv ⟨pre ++ [t.take 2], t.drop 2, C4, hJ4, by rw [aT]; omega, by rw [hps, YX t ht]; simp, rfl, rfl, rfl, rfl⟩ (by rw [aT]; omega)
  ·subst hH4
   (try simp only [aD])
   refine hK _ _ ?_; clear hK K;refine gg ?_;refine xP [C4, sb c1 t, ib c2] ⟨C4, _, rfl, .inr ⟨pre, _, hnx, hJ4, t, rfl⟩⟩
theorem Uq {P : Program} {t : TypeId} {x y : Operand} {j : IntKind} {a : Int} {κ : Value -> Prop} (a0 : 0 <= a) (a1 : a <= 1000000) : PureW P (do eqGuard .shl t x y (.int .i64 a) (.int j 4); binOp .shl t (.int .i64 a) (.int j 4)) κ = κ (.int .i64 (a * 16)) :=
 zm (fun w => by
  have e : min (4 : Int).toNat IntKind.i64.bits = 4 := rfl
  show (Op.shift .shl .i64 a j 4).run P w = _
  rw [Op.shift, if_neg (by decide), e]
  show Result.ok (Value.int .i64 (IntKind.i64.wrap (a * 2 ^ 4))) w = _
  rw [show (2 : Int) ^ 4 = 16 from rfl, ko (by omega) (by omega)]) κ
theorem Ur {P : Program} {t : TypeId} {x y : Operand} {a b : Int} {κ : Value -> Prop} (a0 : 0 <= a) (a1 : a <= 1000000) (b0 : 0 <= b) (b1 : b < 16) : PureW P (do eqGuard .or t x y (.int .i64 (a * 16)) (.int .i64 b); binOp .or t (.int .i64 (a * 16)) (.int .i64 b)) κ = κ (.int .i64 (a * 16 + b)) :=
 zm (fun w => by
  obtain ⟨m, rfl⟩ : ∃ m : Nat, a = m := ⟨a.toNat, by omega⟩;obtain ⟨k, rfl⟩ : ∃ k : Nat, b = k := ⟨b.toNat, by omega⟩
  show Result.ok (Value.int .i64 (IntKind.i64.wrap ((bB 64 ((m : Int) * 16) ||| bB 64 (k : Int)).toNat : Int))) w = _
  have e : (bB 64 ((m : Int) * 16) ||| bB 64 (k : Int)).toNat = m * 16 + k := by
   rw [show ((m : Int) * 16) = ((m * 16 : Nat) : Int) from by simp, BitVec.ofInt_natCast, BitVec.ofInt_natCast, BitVec.toNat_or, cW, cW, cU (by omega), cU (by omega)];have := Nat.shiftLeft_add_eq_or_of_lt (i := 4) (show k < 2 ^ 4 by omega) m;rw [dJ] at this;exact this.symm
  rw [e, ko (by omega) (by omega)]
  simp) κ
def JT (x : List UInt8) : Bool := match x with
 | [a, b] => decide (0 <= dv a) && decide (0 <= dv b)
 | _ => false
def byteG (x : List UInt8) : UInt8 := match x with
 | [a, b] => aH (16 * (dv a).toNat + (dv b).toNat)
 | _ => 0
theorem prs_two : ∀ (k : Nat) (s : List UInt8), s.length <= k -> s.length % 2 = 0 -> ∀ x ∈ prs s, ∃ a b, x = [a, b]
 | _, [], _, _, x, hx => by cases hx
 | _, [a], _, h, x, hx => by simp at h
 | 0, a :: b :: r, hk, h, x, hx => by simp at hk
 | k + 1, a :: b :: r, hk, h, x, hx => by
  simp only [aJ] at hk h
  rcases List.mem_cons.1 (show x ∈ [a, b] :: prs r from hx) with rfl | hx
  ·exact ⟨a, b, rfl⟩
  ·exact prs_two k r (by omega) (by omega) x hx
theorem VV : ∀ (k : Nat) (s : List UInt8), s.length <= k -> s.length % 2 = 0 -> uhF s = if (prs s).all JT = true then some ((prs s).map byteG) else none
 | _, [], _, _ => rfl
 | _, [a], _, h => by simp at h
 | 0, a :: b :: r, hk, h => by simp at hk
 | k + 1, a :: b :: r, hk, h => by
  simp only [aJ] at hk h;have ih := VV k r (by omega) (by omega);have e : prs (a :: b :: r) = [a, b] :: prs r := rfl;rw [e, dI, aZ, uhF, ih];have hg : JT [a, b] = (decide (0 <= dv a) && decide (0 <= dv b)) := rfl;rw [hg]
  by_cases h1 : 0 <= dv a
  ·by_cases h2 : 0 <= dv b
   ·rw [if_neg (by omega), decide_eq_true h1, decide_eq_true h2];simp only [dM]
    split <;> rfl
   ·rw [if_pos (.inr (by omega)), decide_eq_false h2]
    simp
  ·rw [if_pos (.inl (by omega)), decide_eq_false h1]
   simp
theorem uh_odd {s : List UInt8} (h : s.length % 2 ≠ 0) : uhE s = ([], 2) := by unfold uhE; rw [if_pos h]
theorem uh_good {s : List UInt8} (h : s.length % 2 = 0) (hg : (prs s).all JT = true) : uhE s = ((prs s).map byteG, 0) := by
 unfold uhE; rw [if_neg (by omega), VV _ s (aR _) h, if_pos hg]
theorem uh_bad {s : List UInt8} (h : s.length % 2 = 0) (hg : (prs s).all JT = false) : uhE s = ([], 5) := by
 unfold uhE; rw [if_neg (by omega), VV _ s (aR _) h, if_neg (by rw [hg]; simp)]
theorem prs_len : ∀ (k : Nat) (s : List UInt8), s.length <= k -> (prs s).length <= s.length
 | _, [], _ => aR _
 | _, [a], _ => aR _
 | 0, a :: b :: r, hk => by simp at hk
 | k + 1, a :: b :: r, hk => by
  have := prs_len k r (by simp only [aJ] at hk; omega)
  show (prs r).length + 1 <= r.length + 1 + 1; omega
theorem Xm (s : List UInt8) (hs : s.length <= 100000) : Meets prog 114 [.string (str s)] []
  fun v A => ∃ X a k, v = .tuple #[.slice a (uhE s).1.length k, .int .i64 (uhE s).2] /\ Own8 5 X a (uhE s).1.length k (uhE s).1 /\ A = [X] := by
 have hpl := prs_len _ s (aR _);refine eN func114 ntmps114 results114 fun F => ?_
 refine zB ?_;refine gg ?_;refine zf fun K hK => ?_; refine zu fun b2 => ?_; (try simp only [Value.cells]); refine hK _ _ ?_; clear hK K
 refine zf fun K hK => ?_; refine zu fun b3 => ?_; (try simp only [Value.cells]); refine hK _ _ ?_; clear hK K
 refine gg ?_
 by_cases h2 : s.length % 2 = 0
 ·rw [bne_eq_false_iff_eq.2 (show (s.length : Int) % 2 = 0 by omega)];refine gg ?_;refine zf fun K hK => ?_; refine zu fun b4 => ?_; (try simp only [Value.cells]); refine hK _ _ ?_; clear hK K
  refine gg ?_;refine cA (WC s) ?_; rintro v A ⟨c1, c2, rfl, rfl⟩; refine gA ?_;refine zB ?_
  refine xW (by (try simp only [evT, lookT_hit, lookT_miss, aG]); (first | done | exact rfl)) (WD c1 c2 s hs) (by (repeat (first | exact Take.nil _ | with_reducible exact Pick.head _ _ | with_reducible apply Pick.tail | with_reducible apply Take.cons))) (fun pre C => pre.all JT = true /\ ∃ (X : Chunk) (xa : Option Addr) (xc : Nat), Own8 5 X xa pre.length xc (pre.map byteG) /\
    C = [X, bx b4 (.slice xa pre.length xc) 43, bx b3 (.int .i64 0) 35, bx b2 (.slice none 0 0) 43, [], F])
   (fun k pre C => k = .ret /\ (prs s).all JT = false /\ C = [bx b3 (.int .i64 5) 35, bx b2 (.slice none 0 0) 43, [], F]) (fun h => by cases h) (fun C hC => ⟨[], C.flatten, rfl, by simp⟩) (fun _ => rfl)
   ⟨rfl, [], none, 0, own_nil, rfl⟩ ?_ ?_ ?_
  ·rintro l F1 C H r' pre x ⟨suf, hx⟩ ⟨hg, X, xa, xc, hX, rfl⟩ rfl;obtain ⟨a, b, rfl⟩ := prs_two _ s (aR _) h2 x (by rw [hx]; simp);have hprl : pre.length < (prs s).length := by rw [hx]; simp
   have ra := yS a;have rb := yS b;have hgx : JT [a, b] = (decide (0 <= dv a) && decide (0 <= dv b)) := rfl
   have hbad : JT [a, b] = false -> (prs s).all JT = false := fun h => by
    rw [hx, List.all_append, dI, h]; simp
   have eD : Value.string ⟨#[48, 49, 50, 51, 52, 53, 54, 55, 56, 57, 97, 98, 99, 100, 101, 102]⟩ = .string (str digits) := rfl;have ia := Vh digits a;have ib' := Vh digits b;rw [show Lib.indexByte digits a = dv a from rfl] at ia;rw [show Lib.indexByte digits b = dv b from rfl] at ib';have hby : byteG [a, b] = aH (16 * (dv a).toNat + (dv b).toNat) := rfl;generalize dv a = va at *;generalize dv b = vb at *
   (try simp only [aD, aC, aL, encG])
   (try simp only [jz, putT, bM, if_true, reduceIte, Array.toList, dG])
   refine gg ?_;refine ⟨_, .cons (.head _ _) (Among.refl _), fun r'' _ => ?_⟩;refine gg ?_;refine zf fun K hK => ?_; refine zK (by simp [maxLen]) (fun Y ya yc hY => ?_); refine hK _ _ ?_; clear hK K
   refine gg ?_;rw [show ([a, b] : List UInt8).length = 2 from rfl] at *
   refine zz (fun q D L S => ∃ (k : Nat) (n : Int), ((k = 0 /\ n = 0) ∨ (k = 1 /\ 0 <= va /\ n = va) ∨ (k = 2 /\ 0 <= va /\ 0 <= vb /\ n = va * 16 + vb)) /\ q = 2 - k /\ D = [] /\
    L = [(20, .int .i64 k), (19, .int .i64 2), (18, .slice (some ya) 2 yc), (6, .int .i64 n), (4, .pointer (some ⟨b4, 0, none⟩)), (3, .pointer (some ⟨b3, 0, none⟩)), (2, .pointer (some ⟨b2, 0, none⟩))] /\
    S = [Y, [(l, .loop r'')], F1, X, bx b4 (.slice xa pre.length xc) 43, bx b3 (.int .i64 0) 35, bx b2 (.slice none 0 0) 43, [], F])
    ⟨0, 0, .inl ⟨rfl, rfl⟩, rfl, rfl, rfl, rfl⟩ ?_
   rintro q D L S ⟨k, n, hkn, rfl, rfl, rfl, rfl⟩
   rcases hkn with ⟨rfl, hn⟩ | ⟨rfl, ha, hn⟩ | ⟨rfl, ha, hb, hn⟩
   ·refine gg ?_
    (try rw [show ([a, b] : List UInt8).getD 0 0 = a from rfl])
    (try rw [eD])
    refine cA (ia) ?_; rintro v A ⟨rfl, rfl⟩; refine gA ?_
    by_cases hv : 0 <= va
    ·rw [decide_eq_false (show ¬ va < 0 by omega)];refine gg ?_;refine zf fun K hK => ?_; rw [Uq (by omega) (by omega)]; refine hK _ _ ?_; clear hK K
     refine gg ?_;refine zf fun K hK => ?_; rw [Ur (by omega) (by omega) (by omega) (by omega)]; refine hK _ _ ?_; clear hK K
     refine gg ?_;exact zv ⟨1, n * 16 + va, .inr (.inl ⟨rfl, hv, by omega⟩), rfl, rfl, rfl, rfl⟩
    ·rw [decide_eq_true (show va < 0 by omega)];refine gg ?_;exact ⟨_, ⟨_, [], rfl, ⟨rfl, hbad (by rw [hgx, decide_eq_false hv]; rfl), rfl⟩, rfl⟩, by (try simp only [aL]); first | ((repeat (first | with_reducible exact Among.nil _ | with_reducible exact Pick.head _ _ | with_reducible apply Pick.tail | with_reducible apply Among.cons)); done) | ((repeat (first | exact Among.nil _ | exact Pick.head _ _ | apply Pick.tail | apply Among.cons)); done)⟩
   ·refine gg ?_
    (try rw [show ([a, b] : List UInt8).getD 1 0 = b from rfl])
    (try rw [eD])
    refine cA (ib') ?_; rintro v A ⟨rfl, rfl⟩; refine gA ?_
    by_cases hv : 0 <= vb
    ·rw [decide_eq_false (show ¬ vb < 0 by omega)];refine gg ?_;refine zf fun K hK => ?_; rw [Uq (by omega) (by omega)]; refine hK _ _ ?_; clear hK K
     refine gg ?_;refine zf fun K hK => ?_; rw [Ur (by omega) (by omega) (by omega) (by omega)]; refine hK _ _ ?_; clear hK K
     refine gg ?_;exact zv ⟨2, n * 16 + vb, .inr (.inr ⟨rfl, ha, hv, by omega⟩), rfl, rfl, rfl, rfl⟩
    ·rw [decide_eq_true (show vb < 0 by omega)];refine gg ?_;exact ⟨_, ⟨_, [], rfl, ⟨rfl, hbad (by rw [hgx, decide_eq_false hv]; simp), rfl⟩, rfl⟩, by (try simp only [aL]); first | ((repeat (first | with_reducible exact Among.nil _ | with_reducible exact Pick.head _ _ | with_reducible apply Pick.tail | with_reducible apply Among.cons)); done) | ((repeat (first | exact Among.nil _ | exact Pick.head _ _ | apply Pick.tail | apply Among.cons)); done)⟩
   ·refine gg ?_
    have eb : Value.int .u8 n = b8 (byteG [a, b]) := by
     rw [hby];simp only [b8, bL]
     congr 1; omega
    rw [eb];refine zf fun K hK => ?_; refine zX ([byteG [a, b]]) (by decide) rfl (rfl) (fun b7 C7 ho7 => ?_); refine hK _ _ ?_; clear hK K
    refine gg ?_;refine zf fun K hK => ?_; refine app8 (hX) pkA ((ho7.rd (aB ..)).mem mmA) (by omega) (fun C9 a9 cap9 ho9 => ?_); refine hK _ _ ?_; clear hK K
    have e1 : pre.length + 1 = (pre ++ [[a, b]]).length := by simp
    have e2 : pre.map byteG ++ [byteG [a, b]] = (pre ++ [[a, b]]).map byteG := by simp
    rw [e1, e2] at ho9;rw [e1];refine gg ?_;exact ⟨_, ⟨_, [], rfl, ⟨by rw [List.all_append, hg, dI, hgx, decide_eq_true ha, decide_eq_true hb]; rfl, C9, a9, cap9, ho9, rfl⟩, rfl⟩, by (try simp only [aL]); first | ((repeat (first | with_reducible exact Among.nil _ | with_reducible exact Pick.head _ _ | with_reducible apply Pick.tail | with_reducible apply Among.cons)); done) | ((repeat (first | exact Among.nil _ | exact Pick.head _ _ | apply Pick.tail | apply Among.cons)); done)⟩
  ·rintro d pre C A rfl ⟨hg, X, xa, xc, hX, rfl⟩ ⟨r, rfl⟩;rw [uh_good h2 hg]
   (try simp only [aD, aC])
   refine gg ?_;refine ze (vs := [.slice xa ((prs s).map byteG).length xc, .int .i64 0]) [X] ⟨X, xa, xc, rfl, by rw [bE]; exact hX, rfl⟩ (hr := by (intro κ hκ; simp only [resW, withV, lookT_hit, lookT_miss, aG, bE] at hκ ⊢; (repeat (first | refine xx lkA ?_ | refine zE lkA rfl ?_)); exact hκ))
  ·rintro d k pre x C A hx ⟨rfl, hbad, rfl⟩ ⟨r, rfl⟩;rw [uh_bad h2 hbad]
   (try simp only [aD, aC])
   refine gg ?_;refine ze (vs := [.slice none 0 0, .int .i64 5]) [[]] ⟨[], none, 0, rfl, own_nil, rfl⟩
 ·rw [uh_odd h2, bne_iff_ne.2 (show (s.length : Int) % 2 ≠ 0 by omega)];refine gg ?_;refine ze (vs := [.slice none 0 0, .int .i64 2]) [[]] ⟨[], none, 0, rfl, own_nil, rfl⟩
end Go.Proofs.YtebikhhoppiapaaGreatDoor
namespace Go.Proofs.YtebikhhoppiapaaGreatDoor
open Go Go.Ost Go.Sha _root_.Go.Proofs.Tryz
theorem numW_next (l : List UInt8) (i : Nat) (h : i < l.length) : numW (l.take (i + 1)) = (numW (l.take i) <<< 8) ||| cZ 32 (l.getD i 0).toNat := by
 unfold numW;rw [cC, List.foldl_append, aS, aF h]; rfl
theorem Wi (s : List UInt8) (hs : s.length <= 100000) : Meets prog 112 [.string (str s)] []
  fun v A => v = .tuple #[b32 (numE s).1, .bool (numE s).2] /\ A = [] := by
 have hle := uh_le s;unfold numE;refine eN func112 ntmps112 results112 fun F => ?_
 refine gg ?_;refine cA (Xm s hs) ?_; rintro v A ⟨X, xa, xk, rfl, hX, rfl⟩; refine gA ?_;rw [show Value.int .u32 0 = b32 (numW ((uhE s).1.take 0)) from rfl];generalize (uhE s).1 = p at *;generalize (uhE s).2 = e at *
 refine zz (fun q D L S => ∃ i : Nat, i <= p.length /\ q = p.length - i /\ D = [] /\
  L = [(16, .int .i64 i), (15, .int .i64 p.length), (14, .slice xa p.length xk), (6, b32 (numW (p.take i))), (5, .int .i64 e), (0, .string (str s))] /\ S = [X, F])
  ⟨0, by omega, rfl, rfl, rfl, rfl⟩ ?_
 rintro q D L S ⟨i, hi, rfl, rfl, rfl, rfl⟩;refine gg ?_;refine if_d (fun hc => ?_) (fun hc => ?_)
 ·have hil : i < p.length := by omega
  have hnx := numW_next p i hil;refine gg ?_;rw [<- hnx];exact zv ⟨i + 1, by omega, rfl, rfl, rfl, rfl⟩
 ·obtain rfl : i = p.length := by omega
  rw [bF];refine gg ?_
  by_cases h0 : e = 0
  ·subst h0;refine gg ?_;refine ze (vs := [b32 (numW p), .bool (decide ((s.length : Int) = 8))]) [] ⟨by simp [vK], rfl⟩
  ·rw [beq_eq_false_iff_ne.2 h0];refine gg ?_;refine ze (vs := [b32 (numW p), .bool false]) [] ⟨by simp [vK, h0], rfl⟩
instance tpAns : zH prog 126 [(0, 1), (1, 1), (2, 1), (3, 1), (4, 1), (5, 1), (6, 1), (7, 1)] := ⟨by kernel_rfl⟩
theorem wO (a : An) (pa : Option Addr) (pk : Nat) : ∀ v ∈ encA a pa pk, Value.cell1 v := by
 intro v hv;simp only [encA, bA, aX, or_false] at hv
 rcases hv with rfl | rfl | rfl | rfl | rfl | rfl | rfl | rfl <;> simp [Value.cell1, b32]
theorem got_le {l : List Par} {B : Nat} (h : ∀ p ∈ l, p.v.length <= B) (n : List UInt8) : (gotP l n).v.length <= B := by
 unfold gotP
 cases hf : l.find? fun p => p.n == n with
 | none => show (0 : Nat) <= _; omega
 | some p => exact h p (List.mem_of_find?_eq_some hf)
theorem QS (s : List UInt8) (hs : s.length <= 100000) : Meets prog 41 [.string (str s)] []
  fun v A => ∃ P pa pk, v = .tuple #[.agg (encA (paE s).1 pa pk).toArray, .int .i64 (paE s).2] /\ Own8 5 P pa (paE s).1.pf.length pk (paE s).1.pf /\ A = [P] := by
 obtain ⟨hpl, hpb⟩ := Wb s;unfold paE;refine eN func41 ntmps41 results41 fun F => ?_
 refine zB ?_;refine gg ?_;refine oA (encA a0 none 0).toArray fun b2 => ?_
 refine gg ?_;refine cA (OB s hs) ?_; rintro v A ⟨X, xa, xk, rfl, hX, rfl⟩; refine gA ?_
 by_cases h0 : (xh s).2 = 0
 ·rw [h0, if_neg (by decide)];generalize (xh s).1 = l at *;have hvb : ∀ p ∈ l, p.v.length <= 100000 := fun p hp => by have := hpb p hp; omega
  have hl : l.length <= 100000 := by omega
  clear hpl hpb;refine gg ?_;refine oT [(0, .slice xa l.length xk)] #[.slice xa l.length xk, .bool false, .bool false] ?_;refine gg ?_;refine oB fun b6 => ?_
  refine gg ?_;refine cA (jt hX hl (false, false) nUser true) ?_; rintro v A ⟨rfl, rfl⟩; refine gA ?_;refine cA (jt hX hl _ nRealm true) ?_; rintro v A ⟨rfl, rfl⟩; refine gA ?_;refine cA (jt hX hl _ nNonce true) ?_; rintro v A ⟨rfl, rfl⟩; refine gA ?_;refine cA (XJ _ (gotP l nNonce).v) ?_; rintro v A ⟨rfl, rfl⟩; refine gA ?_;refine cA (jt hX hl _ nUri true) ?_; rintro v A ⟨rfl, rfl⟩; refine gA ?_;refine cA (jt hX hl _ nCnonce true) ?_; rintro v A ⟨rfl, rfl⟩; refine gA ?_;refine cA (XJ _ (gotP l nCnonce).v) ?_; rintro v A ⟨rfl, rfl⟩; refine gA ?_;refine cA (fmay_spec hX hl _ nOpaque [] true) ?_; rintro v A ⟨rfl, rfl⟩; refine gA ?_
  have hop : (if hasB l nOpaque = true then (gotP l nOpaque).v else []) = (gotP l nOpaque).v := by
   split
   ·rfl
   ·rename_i h; rw [got_no (by simpa using h)]; rfl
  rw [hop];refine oT [(0, .string (str (gotP l nUser).v)), (1, .string (str (gotP l nRealm).v)), (2, .string (str (gotP l nNonce).v)), (3, .string (str (gotP l nUri).v)), (4, .string (str (gotP l nCnonce).v)), (5, .string (str (gotP l nOpaque).v))] (encA ⟨(gotP l nUser).v, (gotP l nRealm).v, (gotP l nNonce).v, (gotP l nUri).v, (gotP l nCnonce).v, (gotP l nOpaque).v, 0, []⟩ none 0).toArray ?_;refine gg ?_;refine oA (encA a0 none 0).toArray fun b7 => ?_
  refine oS (encA ⟨(gotP l nUser).v, (gotP l nRealm).v, (gotP l nNonce).v, (gotP l nUri).v, (gotP l nCnonce).v, (gotP l nOpaque).v, 0, []⟩ none 0) rfl (wO _ _ _) ?_;refine gg ?_;refine cA (WS hX hl hvb _ false) ?_; rintro v A ⟨rfl, rfl⟩; refine gA ?_;refine cA (jt hX hl _ nNc false) ?_; rintro v A ⟨rfl, rfl⟩; refine gA ?_;refine cA (Wi (gotP l nNc).v (got_le hvb nNc)) ?_; rintro v A ⟨rfl, rfl⟩; refine gA ?_;refine gM ?_;refine cA (qE _ (numE (gotP l nNc).v).2) ?_; rintro v A ⟨rfl, rfl⟩; refine gA ?_;refine cA (jt hX hl _ nResp true) ?_; rintro v A ⟨rfl, rfl⟩; refine gA ?_;refine cA (Xm (gotP l nResp).v (got_le hvb nResp)) ?_; rintro v A ⟨P, pa, pk, rfl, hP, rfl⟩; refine gA ?_;refine gM ?_;have hpa : paF l = vl (wB l) (getF l nResp true (vl (numE (gotP l nNc).v).2 (getF l nNc false (comF l false (mayF l nOpaque true (vl (sizB (gotP l nCnonce).v) (getF l nCnonce true (getF l nUri true (vl (sizB (gotP l nNonce).v) (getF l nNonce true (getF l nRealm true (getF l nUser true (false, false))))))))))))) := rfl;generalize (getF l nResp true (vl (numE (gotP l nNc).v).2 (getF l nNc false (comF l false (mayF l nOpaque true (vl (sizB (gotP l nCnonce).v) (getF l nCnonce true (getF l nUri true (vl (sizB (gotP l nNonce).v) (getF l nNonce true (getF l nRealm true (getF l nUser true (false, false))))))))))))) = f9 at *;unfold paL
  by_cases hu : (uhE (gotP l nResp).v).2 = 0
  ·have hpb : wB l = decide (((uhE (gotP l nResp).v).1.length : Int) = 32) := by unfold wB; rw [decide_eq_true hu, dM]
   rw [hu];refine gg ?_;refine cA (qE f9 (decide (((uhE (gotP l nResp).v).1.length : Int) = 32))) ?_; rintro v A ⟨rfl, rfl⟩; refine gA ?_;rw [hpb] at hpa;refine gM ?_;rw [<- hpa];refine gg ?_;refine cA (XO (paF l)) ?_; rintro v A ⟨rfl, rfl⟩; refine gA ?_
   by_cases he : endF (paF l) = 0
   ·rw [he, if_neg (by decide)];refine gg ?_;refine oL (encA ⟨(gotP l nUser).v, (gotP l nRealm).v, (gotP l nNonce).v, (gotP l nUri).v, (gotP l nCnonce).v, (gotP l nOpaque).v, (numE (gotP l nNc).v).1, (uhE (gotP l nResp).v).1⟩ pa pk) rfl ?_;refine oS (encA ⟨(gotP l nUser).v, (gotP l nRealm).v, (gotP l nNonce).v, (gotP l nUri).v, (gotP l nCnonce).v, (gotP l nOpaque).v, (numE (gotP l nNc).v).1, (uhE (gotP l nResp).v).1⟩ pa pk) rfl (wO _ _ _) ?_;refine gg ?_;refine ze (vs := [.agg (encA ⟨(gotP l nUser).v, (gotP l nRealm).v, (gotP l nNonce).v, (gotP l nUri).v, (gotP l nCnonce).v, (gotP l nOpaque).v, (numE (gotP l nNc).v).1, (uhE (gotP l nResp).v).1⟩ pa pk).toArray, .int .i64 0]) [P] ⟨P, pa, pk, rfl, hP, rfl⟩ (hr := by (intro κ hκ; simp only [resW, withV, lookT_hit, lookT_miss, aG]; exact zi (vs := encA ⟨(gotP l nUser).v, (gotP l nRealm).v, (gotP l nNonce).v, (gotP l nUri).v, (gotP l nCnonce).v, (gotP l nOpaque).v, (numE (gotP l nNc).v).1, (uhE (gotP l nResp).v).1⟩ pa pk) lkA rfl hκ))
   ·rw [if_pos he, bne_iff_ne.2 he];refine gg ?_;refine oT [] (encA a0 none 0).toArray ?_;refine gg ?_;refine oS (encA a0 none 0) rfl (wO _ _ _) ?_;refine gg ?_;refine ze (vs := [.agg (encA a0 none 0).toArray, .int .i64 (endF (paF l))]) [[]] ⟨[], none, 0, rfl, own_nil, rfl⟩ (hr := by (intro κ hκ; simp only [resW, withV, lookT_hit, lookT_miss, aG]; exact zi (vs := encA a0 none 0) lkA rfl hκ))
  ·have hpb : wB l = false := by unfold wB; rw [decide_eq_false hu, Bool.false_and]
   rw [beq_eq_false_iff_ne.2 hu];refine gg ?_;refine cA (qE f9 false) ?_; rintro v A ⟨rfl, rfl⟩; refine gA ?_;rw [hpb] at hpa;refine gM ?_;rw [<- hpa];refine gg ?_;refine cA (XO (paF l)) ?_; rintro v A ⟨rfl, rfl⟩; refine gA ?_
   by_cases he : endF (paF l) = 0
   ·rw [he, if_neg (by decide)];refine gg ?_;refine oL (encA ⟨(gotP l nUser).v, (gotP l nRealm).v, (gotP l nNonce).v, (gotP l nUri).v, (gotP l nCnonce).v, (gotP l nOpaque).v, (numE (gotP l nNc).v).1, (uhE (gotP l nResp).v).1⟩ pa pk) rfl ?_;refine oS (encA ⟨(gotP l nUser).v, (gotP l nRealm).v, (gotP l nNonce).v, (gotP l nUri).v, (gotP l nCnonce).v, (gotP l nOpaque).v, (numE (gotP l nNc).v).1, (uhE (gotP l nResp).v).1⟩ pa pk) rfl (wO _ _ _) ?_;refine gg ?_;refine ze (vs := [.agg (encA ⟨(gotP l nUser).v, (gotP l nRealm).v, (gotP l nNonce).v, (gotP l nUri).v, (gotP l nCnonce).v, (gotP l nOpaque).v, (numE (gotP l nNc).v).1, (uhE (gotP l nResp).v).1⟩ pa pk).toArray, .int .i64 0]) [P] ⟨P, pa, pk, rfl, hP, rfl⟩ (hr := by (intro κ hκ; simp only [resW, withV, lookT_hit, lookT_miss, aG]; exact zi (vs := encA ⟨(gotP l nUser).v, (gotP l nRealm).v, (gotP l nNonce).v, (gotP l nUri).v, (gotP l nCnonce).v, (gotP l nOpaque).v, (numE (gotP l nNc).v).1, (uhE (gotP l nResp).v).1⟩ pa pk) lkA rfl hκ))
   ·rw [if_pos he, bne_iff_ne.2 he];refine gg ?_;refine oT [] (encA a0 none 0).toArray ?_;refine gg ?_;refine oS (encA a0 none 0) rfl (wO _ _ _) ?_;refine gg ?_;refine ze (vs := [.agg (encA a0 none 0).toArray, .int .i64 (endF (paF l))]) [[]] ⟨[], none, 0, rfl, own_nil, rfl⟩ (hr := by (intro κ hκ; simp only [resW, withV, lookT_hit, lookT_miss, aG]; exact zi (vs := encA a0 none 0) lkA rfl hκ))
 ·rw [bne_iff_ne.2 h0, if_pos h0];refine gg ?_;refine oT [] (encA a0 none 0).toArray ?_;refine gg ?_;refine oS (encA a0 none 0) rfl (wO _ _ _) ?_;refine gg ?_;refine ze (vs := [.agg (encA a0 none 0).toArray, .int .i64 (xh s).2]) [[]] ⟨[], none, 0, rfl, own_nil, rfl⟩ (hr := by (intro κ hκ; simp only [resW, withV, lookT_hit, lookT_miss, aG]; exact zi (vs := encA a0 none 0) lkA rfl hκ))
open Go.Nam Go.Tab
theorem KZ (A B : Chunk) (a b : Option Addr) (ca cb : Nat) (xs ys : List UInt8) (hx : xs.length <= 100000) (hy : ys.length <= 100000) (h1 : Rd 1 [A] a xs.length (xs.map b8)) (h2 : Rd 1 [B] b ys.length (ys.map b8)) :
  Meets prog 43 [.slice a xs.length ca, .slice b ys.length cb] [A, B] fun v S => v = .bool (xs == ys) /\ S = [A, B] := by
 refine eN func43 ntmps43 results43 fun F => ?_
 refine gg ?_;refine cA (JY A B a b ca cb xs ys hx hy h1 h2) ?_; rintro v A ⟨rfl, rfl⟩; refine gA ?_;refine zb [A, B] ?_; exact ⟨rfl, rfl⟩
instance tpRes : zH prog 50 [(0, 10), (10, 1), (11, 1)] := ⟨by kernel_rfl⟩
def ansE (x : BX) (n : NS) (sec : Sec) (m : List UInt8) (a : An) (now : Int) : Int := if (xS x sec.ha m a).1 = a.pf then (useN n a.n a.nc.toNat now).1 else 13
def ansN (x : BX) (n : NS) (sec : Sec) (m : List UInt8) (a : An) (now : Int) : NS := if (xS x sec.ha m a).1 = a.pf then (useN n a.n a.nc.toNat now).2 else n
theorem qans_spec {qk bx_ s q tb r1 r2 p : Nat} {iter ch last reads gen : Int} {C T M1 M2 G B : Chunk} {m : List (List UInt8 × Value)} {x : BX} {ns : NS} (hg : jj G) (hn : GNam G) (hC : qL C bx_ x) (hts : x.ts.length <= 800) (hns : NOk ns) (hT : IsTab T tb ns.room ns.es) (h1 : xK M1 r1 (tenM r2)) (h2 : xK M2 r2 m) (hr0 : 0 <= reads) (hr1 : reads < 1000000) (hch0 : 0 <= ch) (hch1 : ch < 1000000)
  (hd u n nn tgt cn o pf mt : List UInt8) (nc : W) (hpa : paE hd = (⟨u, [116], nn, tgt, cn, o, nc, pf⟩, 0)) (hdl : hd.length <= 100000) (hul : u.length <= 4096) (hnnl : nn.length <= 4096) (htl : tgt.length <= 4096) (hcl : cn.length <= 4096) (hpl : pf.length <= 4096) (hml : mt.length <= 1000)
  (hun : xR u 32 = (n, 0)) (hst : xR n 32 = (n, 0)) (hnl : n.length <= 32) (hm : mget m n = some (.pointer (some ⟨p, 0, none⟩))) {vs : List Value} {sec : Sec} (hW : SecW B vs sec) (now : Int) (hn0 : 0 <= now) (hnow : now < 18446744073709551616) :
  Meets prog 12 [.pointer (some ⟨qk, 0, none⟩), .agg #[.string (str mt), .string (str tgt), .string (str hd)], .int .u64 now] [quB qk bx_ s q iter [116] ch, C, stB s r1 last reads, M1, M2, nB q tb ns, T, G, crB p n vs gen false, B]
  fun v A => ∃ (C' T' B' : Chunk) (vs' rv : List Value), v = .tuple #[.agg rv.toArray, .int .i64 (ansE x ns sec mt ⟨u, [116], nn, tgt, cn, o, nc, pf⟩ now)] /\ (rv.length = 12 /\ ∀ u ∈ rv, Value.cell1 u) /\ (ansE x ns sec mt ⟨u, [116], nn, tgt, cn, o, nc, pf⟩ now = 0 -> rv = credV n vs' gen false ++ [.string (str nn), b32 nc]) /\ vs'.length = 5 /\
   qL C' bx_ (xS x sec.ha mt ⟨u, [116], nn, tgt, cn, o, nc, pf⟩).2 /\ IsTab T' tb ns.room (ansN x ns sec mt ⟨u, [116], nn, tgt, cn, o, nc, pf⟩ now).es /\ A = [quB qk bx_ s q iter [116] (ch + 1), C', stB s r1 last (reads + 1), M1, M2, nB q tb (ansN x ns sec mt ⟨u, [116], nn, tgt, cn, o, nc, pf⟩ now), T', G, crB p n vs gen false, B', B] := by
 have hps := QS hd hdl;rw [hpa] at hps;have hqf := Ou (qk := qk) (bx_ := bx_) (q := q) (iter := iter) (ch := ch) (s := s) (last := last) (gen := gen) hn h1 h2 hr0 hr1 u n (by omega) hun hst hnl hm hW;refine eN func12 ntmps12 results12 fun F => ?_
 refine gg ?_;refine oB fun b4 => ?_
 refine gg ?_;refine oA ([.string ⟨#[]⟩, .string ⟨#[]⟩, .slice none 0 0, .int .i64 0, .slice none 0 0, .slice none 0 0, .slice none 0 0, .int .u64 0, .slice none 0 0, .bool false, .string ⟨#[]⟩, .int .u32 0] : List Value).toArray fun b6 => ?_
 refine gg ?_;refine cA (hps) ?_; rintro v A ⟨P, pa, pk, rfl, hP, rfl⟩; refine gA ?_;simp only at hP;refine oA (encA a0 none 0).toArray fun b8 => ?_
 refine gg ?_;refine oS (encA ⟨u, [116], nn, tgt, cn, o, nc, pf⟩ pa pk) rfl (wO _ _ _) ?_;refine gg ?_;refine cdL [[0], [1], [2], [3], [4], [5], [6], [7], [8], [9], [10], [11], [12], [13], [14, 0]] ?_;refine gg ?_;refine cA (hqf) ?_; rintro v A ⟨B', vs', rfl, hB', rfl⟩; refine gA ?_;obtain ⟨hvl, hvc⟩ := jF hB';have hW2 := hB';obtain ⟨e0, e1, e2, e3, f0, f1, f2, f3, rfl, _, g1, g2, g3, _, _, _, hHA⟩ := hW2
 have hc1 : ∀ u ∈ ([.string (str [116]), .string (str n), .slice e0 1 f0, .int .i64 1, .slice e1 sec.st.length f1, .slice e2 sec.sv.length f2, .slice e3 sec.ha.length f3, .int .u64 gen, .slice none 0 0, .bool false] : List Value), Value.cell1 u := by
  intro u hu;simp only [bA, aX, or_false] at hu
  rcases hu with rfl | rfl | rfl | rfl | rfl | rfl | rfl | rfl | rfl | rfl <;> simp [Value.cell1]
 refine oA ([.string ⟨#[]⟩, .string ⟨#[]⟩, .slice none 0 0, .int .i64 0, .slice none 0 0, .slice none 0 0, .slice none 0 0, .int .u64 0, .slice none 0 0, .bool false] : List Value).toArray fun b10 => ?_
 refine gg ?_;refine oS [.string (str [116]), .string (str n), .slice e0 1 f0, .int .i64 1, .slice e1 sec.st.length f1, .slice e2 sec.sv.length f2, .slice e3 sec.ha.length f3, .int .u64 gen, .slice none 0 0, .bool false] rfl hc1 ?_;refine gg ?_;refine gM ?_;refine cdL [[0], [1], [2], [3], [4], [5], [6], [7], [8], [9], [10], [12], [13], [11, 0, 13], [14, 0], [15, 0]] ?_;refine gg ?_;refine qO fun K hK => ?_; refine zi (vs := encA ⟨u, [116], nn, tgt, cn, o, nc, pf⟩ pa pk) lkA rfl ?_; refine hK _ _ ?_; clear hK K
 refine gg ?_;have rl := wz x sec.ha mt ⟨u, [116], nn, tgt, cn, o, nc, pf⟩;refine zg fun K hK => ?_; refine zo (QG hg hC (by omega) sec.ha mt (by omega) hml hHA ⟨u, [116], nn, tgt, cn, o, nc, pf⟩ hnnl htl hcl pa pk) ?_; rintro v A ⟨O, C', oa, oc, rfl, hO, hC', rfl⟩; refine pA hK ?_; clear hK K
 refine gg ?_;unfold ansE ansN;generalize xS x sec.ha mt ⟨u, [116], nn, tgt, cn, o, nc, pf⟩ = r at *;refine zg fun K hK => ?_; refine zo (KZ O P oa pa oc pk r.1 pf (by omega) (by omega) (hO.rd (aB ..)) (hP.rd (aB ..))) ?_; rintro v A ⟨rfl, rfl⟩; refine pA hK ?_; clear hK K
 refine gg ?_
 (try (try (refine zg fun K hK => ?_; refine hK _ _ ?_; clear hK K)))
 (try refine gg ?_)
 have hz1 : ∀ u ∈ ([.string ⟨#[]⟩, .string ⟨#[]⟩, .slice none 0 0, .int .i64 0, .slice none 0 0, .slice none 0 0, .slice none 0 0, .int .u64 0, .slice none 0 0, .bool false, .string ⟨#[]⟩, .int .u32 0] : List Value), Value.cell1 u := by
  intro u hu;simp only [bA, aX, or_false] at hu
  rcases hu with rfl | rfl | rfl | rfl | rfl | rfl | rfl | rfl | rfl | rfl | rfl | rfl <;> simp [Value.cell1]
 cases hq : (r.1 == pf) with
 | false =>
  have hne : ¬ r.1 = pf := by simpa using hq
  rw [if_neg hne, if_neg hne];refine gg ?_;refine oT [] ([.string ⟨#[]⟩, .string ⟨#[]⟩, .slice none 0 0, .int .i64 0, .slice none 0 0, .slice none 0 0, .slice none 0 0, .int .u64 0, .slice none 0 0, .bool false, .string ⟨#[]⟩, .int .u32 0] : List Value).toArray ?_;refine gg ?_;refine oS [.string ⟨#[]⟩, .string ⟨#[]⟩, .slice none 0 0, .int .i64 0, .slice none 0 0, .slice none 0 0, .slice none 0 0, .int .u64 0, .slice none 0 0, .bool false, .string ⟨#[]⟩, .int .u32 0] rfl hz1 ?_;refine gg ?_;refine ze (vs := [.agg ([.string ⟨#[]⟩, .string ⟨#[]⟩, .slice none 0 0, .int .i64 0, .slice none 0 0, .slice none 0 0, .slice none 0 0, .int .u64 0, .slice none 0 0, .bool false, .string ⟨#[]⟩, .int .u32 0] : List Value).toArray, .int .i64 13]) [quB qk bx_ s q iter [116] (ch + 1), C', stB s r1 last (reads + 1), M1, M2, nB q tb ns, T, G, crB p n vs gen false, B', B] ?_ (hr := by (intro κ hκ; simp only [resW, withV, lookT_hit, lookT_miss, aG]; exact zi (vs := [.string ⟨#[]⟩, .string ⟨#[]⟩, .slice none 0 0, .int .i64 0, .slice none 0 0, .slice none 0 0, .slice none 0 0, .int .u64 0, .slice none 0 0, .bool false, .string ⟨#[]⟩, .int .u32 0]) lkA rfl hκ));exact ⟨C', T, B', _, _, rfl, ⟨rfl, hz1⟩, (fun h => absurd h (show ¬ (13 : Int) = 0 by decide)), hvl, hC', hT, rfl⟩
 | true =>
  have heq : r.1 = pf := by simpa using hq
  rw [if_pos heq, if_pos heq];refine gg ?_;have hu := nuse_spec (q := q) (b := tb) hns hT nn (nc.toNat : Int) now (by omega) hnow;rw [show Value.int .u32 (nc.toNat : Int) = b32 nc from rfl] at hu;refine cdL [[0], [1], [2], [3], [4], [5], [6], [7], [8], [9], [10, 0], [11, 0]] ?_;refine gg ?_;refine zg fun K hK => ?_; refine zo (hu) ?_; rintro v A ⟨rfl, T', hT', rfl⟩; refine pA hK ?_; clear hK K
  refine gg ?_
  (try (try (refine zg fun K hK => ?_; refine hK _ _ ?_; clear hK K)))
  (try refine gg ?_)
  generalize useN ns nn (nc.toNat : Int) now = w at *
  by_cases h0 : w.1 = 0
  ·rw [h0];refine gg ?_;refine oL [.string (str [116]), .string (str n), .slice e0 1 f0, .int .i64 1, .slice e1 sec.st.length f1, .slice e2 sec.sv.length f2, .slice e3 sec.ha.length f3, .int .u64 gen, .slice none 0 0, .bool false] rfl ?_;refine gg ?_;refine oT [(0, .agg ([.string (str [116]), .string (str n), .slice e0 1 f0, .int .i64 1, .slice e1 sec.st.length f1, .slice e2 sec.sv.length f2, .slice e3 sec.ha.length f3, .int .u64 gen, .slice none 0 0, .bool false] : List Value).toArray), (1, .string (str nn)), (2, b32 nc)] ([.string (str [116]), .string (str n), .slice e0 1 f0, .int .i64 1, .slice e1 sec.st.length f1, .slice e2 sec.sv.length f2, .slice e3 sec.ha.length f3, .int .u64 gen, .slice none 0 0, .bool false, .string (str nn), b32 nc] : List Value).toArray ?_;refine gg ?_
   have hz2 : ∀ u ∈ ([.string (str [116]), .string (str n), .slice e0 1 f0, .int .i64 1, .slice e1 sec.st.length f1, .slice e2 sec.sv.length f2, .slice e3 sec.ha.length f3, .int .u64 gen, .slice none 0 0, .bool false, .string (str nn), b32 nc] : List Value), Value.cell1 u := by
    intro u hu;simp only [bA, aX, or_false] at hu
    rcases hu with rfl | rfl | rfl | rfl | rfl | rfl | rfl | rfl | rfl | rfl | rfl | rfl <;> simp [Value.cell1, b32]
   refine oS [.string (str [116]), .string (str n), .slice e0 1 f0, .int .i64 1, .slice e1 sec.st.length f1, .slice e2 sec.sv.length f2, .slice e3 sec.ha.length f3, .int .u64 gen, .slice none 0 0, .bool false, .string (str nn), b32 nc] rfl hz2 ?_;refine gg ?_;refine ze (vs := [.agg ([.string (str [116]), .string (str n), .slice e0 1 f0, .int .i64 1, .slice e1 sec.st.length f1, .slice e2 sec.sv.length f2, .slice e3 sec.ha.length f3, .int .u64 gen, .slice none 0 0, .bool false, .string (str nn), b32 nc] : List Value).toArray, .int .i64 0]) [quB qk bx_ s q iter [116] (ch + 1), C', stB s r1 last (reads + 1), M1, M2, nB q tb w.2, T', G, crB p n vs gen false, B', B] ?_ (hr := by (intro κ hκ; simp only [resW, withV, lookT_hit, lookT_miss, aG]; exact zi (vs := [.string (str [116]), .string (str n), .slice e0 1 f0, .int .i64 1, .slice e1 sec.st.length f1, .slice e2 sec.sv.length f2, .slice e3 sec.ha.length f3, .int .u64 gen, .slice none 0 0, .bool false, .string (str nn), b32 nc]) lkA rfl hκ));exact ⟨C', T', B', _, _, rfl, ⟨rfl, hz2⟩, (fun _ => rfl), hvl, hC', hT', rfl⟩
  ·rw [bne_iff_ne.2 h0];refine gg ?_;refine oT [] ([.string ⟨#[]⟩, .string ⟨#[]⟩, .slice none 0 0, .int .i64 0, .slice none 0 0, .slice none 0 0, .slice none 0 0, .int .u64 0, .slice none 0 0, .bool false, .string ⟨#[]⟩, .int .u32 0] : List Value).toArray ?_;refine gg ?_;refine oS [.string ⟨#[]⟩, .string ⟨#[]⟩, .slice none 0 0, .int .i64 0, .slice none 0 0, .slice none 0 0, .slice none 0 0, .int .u64 0, .slice none 0 0, .bool false, .string ⟨#[]⟩, .int .u32 0] rfl hz1 ?_;refine gg ?_;refine ze (vs := [.agg ([.string ⟨#[]⟩, .string ⟨#[]⟩, .slice none 0 0, .int .i64 0, .slice none 0 0, .slice none 0 0, .slice none 0 0, .int .u64 0, .slice none 0 0, .bool false, .string ⟨#[]⟩, .int .u32 0] : List Value).toArray, .int .i64 w.1]) [quB qk bx_ s q iter [116] (ch + 1), C', stB s r1 last (reads + 1), M1, M2, nB q tb w.2, T', G, crB p n vs gen false, B', B] ?_ (hr := by (intro κ hκ; simp only [resW, withV, lookT_hit, lookT_miss, aG]; exact zi (vs := [.string ⟨#[]⟩, .string ⟨#[]⟩, .slice none 0 0, .int .i64 0, .slice none 0 0, .slice none 0 0, .slice none 0 0, .int .u64 0, .slice none 0 0, .bool false, .string ⟨#[]⟩, .int .u32 0]) lkA rfl hκ));exact ⟨C', T', B', _, _, rfl, ⟨rfl, hz1⟩, (fun h => absurd h h0), hvl, hC', hT', rfl⟩
end Go.Proofs.YtebikhhoppiapaaGreatDoor
namespace Go.Proofs.YtebikhhoppiapaaGreatDoor
open Go Go.Ost _root_.Go.Proofs.Tryz
theorem print_len {l : List Par} (h : (xO l).2 = 0) : (xO l).1.length <= 4096 := by
 unfold xO at h ⊢
 split
 ·simp
 rename_i h1
 rw [if_neg h1] at h
 split
 ·simp
 rename_i h2
 rw [if_neg h2] at h
 split
 ·simp
 ·show (hdr ++ xo l).length <= 4096; omega
instance teqRCh : TEq prog 70 [.s, .s, .s, .b] := ⟨by kernel_rfl⟩
end Go.Proofs.YtebikhhoppiapaaGreatDoor
namespace Go.Proofs.YtebikhhoppiapaaGreatDoor
open Go Go.Ost
open Go.Sha
def numN (p : List UInt8) : Nat := p.foldl (fun n b => n * 256 + b.toNat) 0
theorem QV (p : List UInt8) (b : UInt8) : numN (p ++ [b]) = numN p * 256 + b.toNat := by unfold numN; rw [List.foldl_append]; rfl
theorem numN_next (p : List UInt8) (i : Nat) (h : i < p.length) : numN (p.take (i + 1)) = numN (p.take i) * 256 + (p.getD i 0).toNat := by
 rw [<- QV, cC, aS, aF h]; rfl
theorem numN_lt : ∀ (k : Nat) (p : List UInt8), p.length = k -> numN p < 256 ^ k
 | 0, p, h => by
  obtain rfl : p = [] := List.length_eq_zero_iff.1 h
  decide
 | k + 1, p, h => by
  have hne : p ≠ [] := fun e => by rw [e] at h; cases h
  have e := (List.dropLast_concat_getLast hne).symm;have hl : p.dropLast.length = k := by rw [List.length_dropLast]; omega
  have ih := numN_lt k p.dropLast hl;rw [e, QV];have := (p.getLast hne).toNat_lt;rw [Nat.pow_succ];omega
theorem or_low (x : W) (b : UInt8) : (x <<< 8) ||| cZ 32 b.toNat = cZ 32 (x.toNat * 256 + b.toNat) := by
 have hb := b.toNat_lt
 apply BitVec.eq_of_toNat_eq
 rw [BitVec.toNat_or, BitVec.toNat_shiftLeft, cW, cW, cU (show b.toNat < 2 ^ 32 by omega)]
 have h1 : x.toNat <<< 8 % 2 ^ 32 = (x.toNat % 2 ^ 24) <<< 8 := by
  rw [dJ, dJ]; omega
 rw [h1, <- Nat.shiftLeft_add_eq_or_of_lt (show b.toNat < 2 ^ 8 by omega), dJ];omega
theorem Ud (p : List UInt8) : cZ 32 (numN p) = numW p := by
 have key : ∀ (l : List UInt8) (n : Nat) (w : W), cZ 32 n = w -> cZ 32 (l.foldl (fun (n : Nat) (b : UInt8) => n * 256 + b.toNat) n) = l.foldl (fun (n : W) (b : UInt8) => (n <<< 8) ||| cZ 32 b.toNat) w := by
  intro l
  induction l with
  | nil => intro n w h; exact h
  | cons b l ih =>
   intro n w h;rw [List.foldl_cons, List.foldl_cons];refine ih _ _ ?_;rw [or_low, <- h]
   apply BitVec.eq_of_toNat_eq
   rw [cW, cW, cW];omega
 exact key p 0 0 rfl
open _root_.Go.Proofs.Tryz
instance tpAnT : zH prog 126 [(0, 1), (1, 1), (2, 1), (3, 1), (4, 1), (5, 1), (6, 1), (7, 1)] := ⟨by kernel_rfl⟩
end Go.Proofs.YtebikhhoppiapaaGreatDoor
namespace Go.Proofs.YtebikhhoppiapaaGreatDoor
open Go Go.Ost Go.Sha
theorem UD : ∀ k < 16, dv (digits.getD k 0) = k := by decide +kernel
theorem IA : ∀ l : List UInt8, uhF (hex l) = some l
 | [] => rfl
 | b :: l => by
  have hb := b.toNat_lt;have e : hex (b :: l) = digits.getD (b.toNat / 16) 0 :: digits.getD (b.toNat % 16) 0 :: hex l := rfl;rw [e, uhF, UD _ (by omega), UD _ (by omega), if_neg (by omega), IA l]
  show some (aH _ :: l) = _
  congr 2
  rw [show 16 * ((b.toNat / 16 : Nat) : Int).toNat + ((b.toNat % 16 : Nat) : Int).toNat = b.toNat from by omega]
  simp
theorem Iy (l : List UInt8) : uhE (hex l) = (l, 0) := by
 unfold uhE;rw [if_neg (by rw [hex_len]; omega), IA]
theorem num_hex (x : W) : numE (hex (zW x)) = (x, true) := by
 unfold numE;rw [Iy, hex_len]
 have hw : numW (zW x) = x := by
  have h := x.isLt;rw [<- Ud]
  apply BitVec.eq_of_toNat_eq
  rw [cW]
  show ((((0 * 256 + (aH (x.toNat / 16777216)).toNat) * 256 + (aH (x.toNat / 65536)).toNat) * 256 + (aH (x.toNat / 256)).toNat) * 256 + (aH x.toNat).toNat) % 2 ^ 32 = _
  simp only [bL];omega
 rw [hw]; rfl
theorem pa_good (a : An) (hok : anOk a = true) : paL (vM a) = (a, 0) := by
 obtain ⟨u, r, n, uri, cn, o, nc, pf⟩ := a;unfold anOk at hok;simp only [aN] at hok;obtain ⟨hs1, hs2, hs3⟩ := hok;have hc : vM ⟨u, r, n, uri, cn, o, nc, pf⟩ = [(⟨nUser, u, true⟩ : Par), ⟨nRealm, r, true⟩, ⟨nNonce, n, true⟩, ⟨nUri, uri, true⟩, ⟨nQop, nAuth, false⟩, ⟨nNc, hex (zW nc), false⟩, ⟨nCnonce, cn, true⟩, ⟨nResp, hex pf, true⟩] ++ opqP o ++ [⟨nAlg, nSum, false⟩] := rfl
 have key : ∀ l : List Par, hasB l nUser = true -> gotP l nUser = ⟨nUser, u, true⟩ -> hasB l nRealm = true -> gotP l nRealm = ⟨nRealm, r, true⟩ -> hasB l nNonce = true -> gotP l nNonce = ⟨nNonce, n, true⟩ -> hasB l nUri = true -> gotP l nUri = ⟨nUri, uri, true⟩ -> hasB l nQop = true -> gotP l nQop = ⟨nQop, nAuth, false⟩ -> hasB l nNc = true -> gotP l nNc = ⟨nNc, hex (zW nc), false⟩ -> hasB l nCnonce = true -> gotP l nCnonce = ⟨nCnonce, cn, true⟩ -> hasB l nResp = true -> gotP l nResp = ⟨nResp, hex pf, true⟩ -> hasB l nAlg = true -> gotP l nAlg = ⟨nAlg, nSum, false⟩ -> (gotP l nOpaque).v = o -> (hasB l nOpaque = true -> (gotP l nOpaque).q = true) -> paL l = (⟨u, r, n, uri, cn, o, nc, pf⟩, 0) := by
  intro l a0 b0 a1 b1 a2 b2 a3 b3 a4 b4 a5 b5 a6 b6 a7 b7 a8 b8v o1 o2
  have hf : paF l = (false, false) := by
   unfold paF comF
   have g : ∀ (m v : List UInt8) (q : Bool), hasB l m = true -> gotP l m = ⟨m, v, q⟩ -> getF l m q (false, false) = (false, false) := by
    intro m v q h1 h2;unfold getF;rw [h1, h2]; simp
   have f : ∀ b : Bool, b = true -> vl b (false, false) = (false, false) := by
    intro b h; rw [h]; rfl
   rw [g _ _ _ a0 b0, g _ _ _ a1 b1, g _ _ _ a2 b2, f _ (by rw [b2]; exact hs1), g _ _ _ a3 b3, g _ _ _ a6 b6, f _ (by rw [b6]; exact hs2)]
   have m1 : mayF l nOpaque true (false, false) = (false, false) := by
    unfold mayF
    split
    ·rename_i h; unfold getF; rw [h, o2 h]; rfl
    ·rfl
   rw [m1, g _ _ _ a4 b4, f _ (by rw [b4]; exact beq_self_eq_true _), g _ _ _ a8 b8v, f _ (by rw [b8v]; exact beq_self_eq_true _), g _ _ _ a5 b5, f _ (by rw [b5, num_hex]), g _ _ _ a7 b7];exact f _ (by unfold wB; rw [b7, Iy]; simpa using hs3)
  unfold paL anL;rw [hf, if_neg (by decide), b0, b1, b2, b3, b5, b6, b7, o1, num_hex, Iy]
 rw [hc]
 cases o with
 | nil => exact key _ (by kernel_rfl) (by kernel_rfl) (by kernel_rfl) (by kernel_rfl) (by kernel_rfl) (by kernel_rfl) (by kernel_rfl) (by kernel_rfl) (by kernel_rfl) (by kernel_rfl) (by kernel_rfl) (by kernel_rfl) (by kernel_rfl) (by kernel_rfl) (by kernel_rfl) (by kernel_rfl) (by kernel_rfl) (by kernel_rfl) (by kernel_rfl) (fun h => absurd h (show ¬ (false = true) by decide))
 | cons a o =>
  have ho : opqP (a :: o) = [⟨nOpaque, a :: o, true⟩] := if_neg (by simp);rw [ho];exact key _ (by kernel_rfl) (by kernel_rfl) (by kernel_rfl) (by kernel_rfl) (by kernel_rfl) (by kernel_rfl) (by kernel_rfl) (by kernel_rfl) (by kernel_rfl) (by kernel_rfl) (by kernel_rfl) (by kernel_rfl) (by kernel_rfl) (by kernel_rfl) (by kernel_rfl) (by kernel_rfl) (by kernel_rfl) (by kernel_rfl) (by kernel_rfl) (fun _ => by kernel_rfl)
theorem Wc {a : An} (h : (qi a).2 = 0) : paE (qi a).1 = (a, 0) /\ (qi a).1.length <= 4096 := by
 unfold qi at h ⊢
 cases hs : anOk a with
 | false => rw [if_pos hs] at h; cases h
 | true =>
  have hs' : ¬ anOk a = false := by rw [hs]; simp
  rw [if_neg hs'] at h
  (first | rw [if_neg hs'] | rw [if_neg (show ¬ (true = false) by decide)])
  refine ⟨?_, print_len h⟩;unfold paE;rw [Wa h, if_neg (by simp)];exact pa_good a hs
open Go.Nam Go.Tab _root_.Go.Proofs.Tryz
theorem st_split {K : Chunk} {s : Nat} {us us1 us2 : List PU} {u : PU} {last reads : Int} (h : IsSt K s us last reads) (hus : us = us1 ++ u :: us2) (hun : ∀ y ∈ us1, y.n ≠ u.n) :
  ∃ (r1 r2 p : Nat) (M1 M2 B U1 U2 : Chunk) (m : List (List UInt8 × Value)) (vs : List Value), xK M1 r1 (tenM r2) /\ xK M2 r2 m /\ mget m u.n = some (.pointer (some ⟨p, 0, none⟩)) /\ SecW B vs u.sec /\
   K = stB s r1 last reads ++ (M1 ++ (M2 ++ (U1 ++ (crB p u.n vs u.gen u.rev ++ (B ++ U2))))) /\ ∀ reads', IsSt (stB s r1 last reads' ++ (M1 ++ (M2 ++ (U1 ++ (crB p u.n vs u.gen u.rev ++ (B ++ U2)))))) s us last reads' := by
 obtain ⟨r1, r2, M1, M2, cs, hc, h1, h2, hs, rfl⟩ := h;rw [hus] at hc;obtain ⟨c1, l, rfl, e1, e2⟩ := List.map_eq_append_iff.1 hc;obtain ⟨c, c2, rfl, rfl, e3⟩ := List.map_eq_cons_iff.1 e2;have hfl : (c1 ++ c :: c2).flatMap CU.C = c1.flatMap CU.C ++ (crB c.p c.u.n c.vs c.u.gen c.u.rev ++ (c.W ++ c2.flatMap CU.C)) := by simp [cH, CU.C]
 refine ⟨r1, r2, c.p, M1, M2, c.W, c1.flatMap CU.C, c2.flatMap CU.C, mU (c1 ++ c :: c2), c.vs, h1, h2, ?_, hs c (by simp), by rw [hfl], fun r' => ⟨r1, r2, M1, M2, c1 ++ c :: c2, by rw [hus]; exact hc, h1, h2, hs, by rw [hfl]⟩⟩;clear hc hs h2 hfl hus;subst e1
 induction c1 with
 | nil => simp [mU, mget]
 | cons d c1 ih =>
  have hd := hun d.u (by simp);have hi := ih (fun y hy => hun y (by simp only [aZ, bA]; exact .inr hy));simp only [mU, aC, aZ, mget] at hi ⊢;rw [if_neg (fun e => hd e.symm)];exact hi
theorem qchal2 {NT : Chunk} {k b s q : Nat} {iter ch : Int} {n : NS} (h : Qi (some ⟨q, 0, none⟩) NT (some n)) (hser : n.ser < 1000) (d : List UInt8) (hd : d.length <= 1000) (st : Bool) (now : Int) (hn : now < 18446744073709551616) (hn0 : 0 <= now) (hln : (zC n d now).1.1.length <= 4000) :
  Meets prog 8 [.pointer (some ⟨k, 0, none⟩), .string (str d), .bool st, .int .u64 now] [quB k b s q iter [116] ch, NT]
  fun v A => ∃ NT', v = (if (zC n d now).1.2 = 0 then .tuple #[.string (str (qh ⟨[116], (zC n d now).1.1, [], st⟩).1), .int .i64 (qh ⟨[116], (zC n d now).1.1, [], st⟩).2] else .tuple #[.string (str []), .int .i64 (zC n d now).1.2]) /\ Qi (some ⟨q, 0, none⟩) NT' (some (zC n d now).2) /\ A = [quB k b s q iter [116] ch, NT'] := by
 obtain ⟨q', tb, T1, hs, hT, hq, rfl⟩ := h;simp only [Option.some.injEq, Addr.mk.injEq, and_true] at hq;subst hq;refine Meets.conv [quB k b s q iter [116] ch, nB q tb n, T1] (Ov hs hser hT d hd st now hn hn0 hln) flA tkA ?_; rintro v A ⟨T', rfl, hT', rfl⟩;exact ⟨[quB k b s q iter [116] ch, nB q tb (zC n d now).2 ++ T'], [quB k b s q iter [116] ch, nB q tb (zC n d now).2, T'], flA, amA, _, rfl, ⟨q, tb, T', Ua hs hser d now hn0, by rw [OM]; exact hT', rfl, rfl⟩, rfl⟩
theorem qans2 {qk bx_ s q : Nat} {iter ch last reads : Int} {C K NT G : Chunk} {us us1 us2 : List PU} {u : PU} {x : BX} {ns : NS} (hg : jj G) (hn : GNam G) (hC : qL C bx_ x) (hts : x.ts.length <= 800) (hSt : IsSt K s us last reads) (hus : us = us1 ++ u :: us2) (hun : ∀ y ∈ us1, y.n ≠ u.n) (hrev : u.rev = false) (hsz : xR u.n 32 = (u.n, 0)) (hNT : Qi (some ⟨q, 0, none⟩) NT (some ns)) (hr0 : 0 <= reads) (hr1 : reads < 1000000) (hch0 : 0 <= ch) (hch1 : ch < 1000000)
  (hd nn tgt cn o pf mt : List UInt8) (nc : W) (hpa : paE hd = (⟨u.n, [116], nn, tgt, cn, o, nc, pf⟩, 0)) (hdl : hd.length <= 100000) (hnnl : nn.length <= 4096) (htl : tgt.length <= 4096) (hcl : cn.length <= 4096) (hpl : pf.length <= 4096) (hml : mt.length <= 1000) (now : Int) (hn0 : 0 <= now) (hnow : now < 18446744073709551616) :
  Meets prog 12 [.pointer (some ⟨qk, 0, none⟩), .agg #[.string (str mt), .string (str tgt), .string (str hd)], .int .u64 now] [quB qk bx_ s q iter [116] ch, C, K, NT, G]
  fun v A => ∃ (C' K' NT' : Chunk) (vs' rv : List Value), v = .tuple #[.agg rv.toArray, .int .i64 (ansE x ns u.sec mt ⟨u.n, [116], nn, tgt, cn, o, nc, pf⟩ now)] /\ (rv.length = 12 /\ ∀ u ∈ rv, Value.cell1 u) /\ (ansE x ns u.sec mt ⟨u.n, [116], nn, tgt, cn, o, nc, pf⟩ now = 0 -> rv = credV u.n vs' u.gen false ++ [.string (str nn), b32 nc]) /\ vs'.length = 5 /\
   qL C' bx_ (xS x u.sec.ha mt ⟨u.n, [116], nn, tgt, cn, o, nc, pf⟩).2 /\ IsSt K' s us last (reads + 1) /\ Qi (some ⟨q, 0, none⟩) NT' (some (ansN x ns u.sec mt ⟨u.n, [116], nn, tgt, cn, o, nc, pf⟩ now)) /\ A = [quB qk bx_ s q iter [116] (ch + 1), C', K', NT', G] := by
 obtain ⟨r1, r2, p, M1, M2, B, U1, U2, m, vs, h1, h2, hm, hW, rfl, hback⟩ := st_split hSt hus hun;obtain ⟨q', tb, T1, hs, hT, hq, rfl⟩ := hNT;simp only [Option.some.injEq, Addr.mk.injEq, and_true] at hq;subst hq;have hnl := (Xt hsz).2;have hq := qans_spec (qk := qk) (s := s) (q := q) (iter := iter) (ch := ch) (last := last) (gen := u.gen) hg hn hC hts hs hT h1 h2 hr0 hr1 hch0 hch1 hd u.n u.n nn tgt cn o pf mt nc hpa hdl (by omega) hnnl htl hcl hpl hml hsz hsz hnl hm hW now hn0 hnow
 have hroom : (ansN x ns u.sec mt ⟨u.n, [116], nn, tgt, cn, o, nc, pf⟩ now).room = ns.room := by
  unfold ansN; split
  ·exact use_room _ _ _ _
  ·rfl
 have hok : NOk (ansN x ns u.sec mt ⟨u.n, [116], nn, tgt, cn, o, nc, pf⟩ now) := by
  unfold ansN; split
  ·exact ok_use hs _ _ (by omega) _
  ·exact hs
 rw [hrev] at hback ⊢;refine Meets.conv [quB qk bx_ s q iter [116] ch, C, stB s r1 last reads, M1, M2, U1, crB p u.n vs u.gen false, B, U2, nB q tb ns, T1, G] (hq) flA tkA ?_; rintro v A ⟨C', T', B', vs', rv, rfl, hrv, hres, hvl, hC', hT', rfl⟩;exact ⟨[quB qk bx_ s q iter [116] (ch + 1), C', stB s r1 last (reads + 1) ++ (M1 ++ (M2 ++ (U1 ++ (crB p u.n vs u.gen false ++ (B ++ U2))))), nB q tb (ansN x ns u.sec mt ⟨u.n, [116], nn, tgt, cn, o, nc, pf⟩ now) ++ T', G], [quB qk bx_ s q iter [116] (ch + 1), C', stB s r1 last (reads + 1), M1, M2, U1, crB p u.n vs u.gen false, B, U2, nB q tb (ansN x ns u.sec mt ⟨u.n, [116], nn, tgt, cn, o, nc, pf⟩ now), T', G], flA, amA, C', _, _, vs', rv, rfl, hrv, hres, hvl, hC', hback _, ⟨q, tb, T', hok, by rw [hroom]; exact hT', rfl, rfl⟩, rfl⟩
end Go.Proofs.YtebikhhoppiapaaGreatDoor
namespace Go.Proofs.YtebikhhoppiapaaGreatDoor
open Go Go.Ost Go.Sha Go.Nam Go.Tab
def Grows (x y : BX) : Prop := y.sym = x.sym /\ ∃ l, y.ts = x.ts ++ l
theorem Grows.refl (x : BX) : Grows x x := ⟨rfl, [], (aL _).symm⟩
theorem Grows.trans {x y z : BX} (h : Grows x y) (g : Grows y z) : Grows x z := by
 obtain ⟨h1, l1, h2⟩ := h;obtain ⟨g1, l2, g2⟩ := g;exact ⟨g1.trans h1, l1 ++ l2, by rw [g2, h2, aM]⟩
theorem II {t : Tm} : ∀ (l k : List Tm) (i j : Nat), tix t l i = some j -> tix t (l ++ k) i = some j
 | [], _, _, _, h => by cases h
 | u :: l, k, i, j, h => by
  unfold tix at h;rw [aC];unfold tix
  split at h
  ·rename_i e; rw [if_pos e]; exact h
  ·rename_i e; rw [if_neg e]; exact II l k (i + 1) j h
theorem Yt {t : Tm} : ∀ (l k : List Tm) (i : Nat), tix t l i = none -> tix t (l ++ t :: k) i = some (i + l.length)
 | [], k, i, _ => by simp [tix]
 | u :: l, k, i, h => by
  unfold tix at h;rw [aC];unfold tix
  split at h
  ·cases h
  ·rename_i e; rw [if_neg e, Yt l k (i + 1) h, aJ]; congr 1; omega
theorem wY (x : BX) (t : Tm) : Grows x (tagX x t).2 := by
 unfold tagX
 split
 ·exact .refl x
 ·exact ⟨rfl, [t], rfl⟩
theorem Xr {x y : BX} {t : Tm} (h : Grows (tagX x t).2 y) : tagX y t = ((tagX x t).1, y) := by
 obtain ⟨_, l, hl⟩ := h;unfold tagX at hl ⊢
 cases ht : tix t x.ts 0 with
 | some i =>
  rw [ht] at hl;simp only at hl ⊢;rw [hl, II _ _ _ _ ht]
 | none =>
  rw [ht] at hl;simp only at hl ⊢;rw [hl, aM, List.singleton_append, Yt _ _ _ ht]
  simp
theorem be4_inj {n m : Nat} (hn : n < 4294967296) (hm : m < 4294967296) (h : be 4 n = be 4 m) : n = m := by
 rw [be4, be4] at h;simp only [List.cons.injEq, and_true] at h;obtain ⟨h1, h2, h3, h4⟩ := h;have g1 := congrArg UInt8.toNat h1;have g2 := congrArg UInt8.toNat h2;have g3 := congrArg UInt8.toNat h3;have g4 := congrArg UInt8.toNat h4;simp only [bL] at g1 g2 g3 g4;omega
theorem hdl_inj {n m : Nat} (hn : n < 4294967296) (hm : m < 4294967296) (h : hdl n = hdl m) : n = m := be4_inj hn hm (List.append_cancel_left h)
theorem Yz {x y : BX} {t u : Tm} (h : Grows (tagX x t).2 y) (hy : y.ts.length < 100000) (e : (tagX y u).1 = (tagX x t).1) : u = t := by
 have e1 := Xr h;have e2 : (tagX y u).1 = (tagX y t).1 := by rw [e, e1]
 have hin : ∃ i, tix t y.ts 0 = some i := by
  cases ht : tix t y.ts 0 with
  | some i => exact ⟨i, rfl⟩
  | none =>
   have : (tagX y t).2.ts = y.ts ++ [t] := by unfold tagX; rw [ht]
   rw [e1] at this;have := congrArg cV this
   simp at this
 obtain ⟨i, hi⟩ := hin;have gi := VZ _ _ _ hi;have li := (Qn _ _ _ hi).2;unfold tagX at e2;rw [hi] at e2
 cases hu : tix u y.ts 0 with
 | some j =>
  have gj := VZ _ _ _ hu;have lj := (Qn _ _ _ hu).2;rw [hu] at e2;simp only at e2;have := hdl_inj (by omega) (by omega) e2;obtain rfl : j = i := by omega
  rw [gi] at gj
  cases gj; rfl
 | none =>
  rw [hu] at e2;simp only at e2;have := hdl_inj (by omega) (by omega) e2;omega
theorem xB (x : BX) (m : List UInt8) : Grows x (xl x m).2 := by
 unfold xl; split
 ·exact wY _ _
 ·exact .refl x
theorem XF (x : BX) (k m : List UInt8) : Grows x (macX x k m).2 := by
 unfold macX; split
 ·exact wY _ _
 ·exact .refl x
theorem US (x : BX) (p s : List UInt8) (r : Nat) : Grows x (strX x p s r).2 := by
 unfold strX; split
 ·exact wY _ _
 ·exact .refl x
theorem vE {x y : BX} {m : List UInt8} (h : Grows (xl x m).2 y) : xl y m = ((xl x m).1, y) := by
 have hs : y.sym = x.sym := h.1.trans (xB x m).1;unfold xl at h ⊢;rw [hs]
 split
 ·rename_i e; rw [if_pos e] at h; exact Xr h
 ·rfl
theorem Zu (x : BX) (h m : List UInt8) (a : An) : Grows x (xS x h m a).2 := (xB _ _).trans (xB _ _)
theorem Zt {x y : BX} {h m : List UInt8} {a b : An} (e : a.uri = b.uri /\ a.n = b.n /\ a.nc = b.nc /\ a.cn = b.cn) (g : Grows (xS x h m a).2 y) : xS y h m b = ((xS x h m a).1, y) := by
 unfold xS at g ⊢;simp only at g ⊢;rw [<- e.1, <- e.2.1, <- e.2.2.1, <- e.2.2.2, vE ((xB _ _).trans g), vE g]
theorem Wo (x : BX) (n q : List UInt8) : Grows x (qf x n q).2 :=
 (US _ _ _ _).trans ((XF _ _ _).trans ((xB _ _).trans ((XF _ _ _).trans (xB _ _))))
theorem makeX_ha {x y : BX} {n q : List UInt8} (h : Grows (qf x n q).2 y) : xl y (xq n [116] q) = ((qf x n q).1.ha, y) := vE h
theorem QH {x y : BX} {h m m' : List UInt8} {a b : An} (hs : x.sym = true) (e : a.uri = b.uri /\ a.n = b.n /\ a.nc = b.nc /\ a.cn = b.cn) (g : Grows (xS x h m a).2 y) (hy : y.ts.length < 99990) (ee : (xS y h m' b).1 = (xS x h m a).1) : m' = m := by
 have s1 : (xl x (ha2T m a.uri)).2.sym = true := ((xB x (ha2T m a.uri)).1).trans hs;have s2 : y.sym = true := g.1.trans ((Zu x h m a).1.trans hs);have s3 : (xl y (ha2T m' b.uri)).2.sym = true := ((xB y (ha2T m' b.uri)).1).trans s2;have gy := xB y (ha2T m' b.uri);have ly := xU y (ha2T m' b.uri);unfold xS at g ee;simp only at g ee;have k1 : (xl y (ha2T m a.uri)) = ((xl x (ha2T m a.uri)).1, y) := vE ((xB _ _).trans g);generalize hka : xl x (ha2T m a.uri) = ka at *;generalize hkb : xl y (ha2T m' b.uri) = kb at *
 have e1 : (⟨1, [], resT h b.n b.nc b.cn kb.1, 0⟩ : Tm) = ⟨1, [], resT h a.n a.nc a.cn ka.1, 0⟩ := by
  refine Yz (x := ka.2) (y := kb.2) ?_ (by omega) ?_
  ·have := g.trans gy;unfold xl at this
   rwa [if_pos s1] at this
  ·unfold xl at ee
   rwa [if_pos s1, if_pos s3] at ee
 simp only [Tm.mk.injEq, true_and, and_true] at e1;rw [<- e.2.1, <- e.2.2.1, <- e.2.2.2] at e1;unfold resT at e1;have e2 : ka.1 = kb.1 := (WA (List.append_cancel_left e1)).symm
 have e3 : (⟨1, [], ha2T m' b.uri, 0⟩ : Tm) = ⟨1, [], ha2T m a.uri, 0⟩ := by
  refine Yz (x := x) (y := y) ?_ (by omega) ?_
  ·have hx : tagX x ⟨1, [], ha2T m a.uri, 0⟩ = ka := by rw [<- hka]; unfold xl; rw [if_pos hs]
   rw [hx];exact (xB _ _).trans g
  ·have h1 : tagX x ⟨1, [], ha2T m a.uri, 0⟩ = ka := by rw [<- hka]; unfold xl; rw [if_pos hs]
   have h2 : tagX y ⟨1, [], ha2T m' b.uri, 0⟩ = kb := by rw [<- hkb]; unfold xl; rw [if_pos s2]
   rw [h1, h2, e2]
 simp only [Tm.mk.injEq, true_and, and_true] at e3;rw [<- e.1] at e3;unfold ha2T at e3;exact List.append_cancel_right (List.append_cancel_right e3)
theorem hex2_in (b : UInt8) : (hex2 b).all inB = true := by
 have : ∀ n : Fin 256, (hex2 (aH n.val)).all inB = true := by decide +kernel
 have h := this ⟨b.toNat, b.toNat_lt⟩
 simpa using h
theorem hex_in (bs : List UInt8) : (hex bs).all inB = true := by
 unfold hex;rw [List.all_flatMap, List.all_eq_true];intro b _;exact hex2_in b
theorem joinP_len (l : List Par) : (xo l).length <= (l.map fun p => p.n.length + 2 * p.v.length + 5).sum := by
 have h1 : ∀ p : Par, (vQ p).length <= p.n.length + 2 * p.v.length + 3 := by
  intro p;unfold vQ valP;have := quo_len p.v;simp only [aA, aI]
  split <;> omega
 unfold xo
 cases l with
 | nil => simp
 | cons p l =>
  have hp := h1 p
  have h2 : (l.flatMap fun p => [44, 32] ++ vQ p).length <= (l.map fun p => p.n.length + 2 * p.v.length + 5).sum := by
   induction l with
   | nil => simp
   | cons q l ih =>
    have hq := h1 q;simp only [bP, aA, aZ, List.sum_cons, aJ, aV] at ih ⊢;omega
  simp only [List.take_succ_cons, List.take_zero, bP, List.flatMap_nil, aL, List.drop_succ_cons, List.drop_zero, aA, aZ, List.sum_cons] at h2 ⊢;omega
theorem Yk (u n uri cn pf : List UInt8) (nc : W) (hu : u.all inB = true) (hul : u.length <= 100) (hn : n.all inB = true) (hn1 : sizB n = true) (hnl : n.length <= 100) (huri : uri.all inB = true) (hil : uri.length <= 100) (hcn : cn.all inB = true) (hcn1 : sizB cn = true) (hcl : cn.length <= 100) (hpf : pf.length = 32) (hnc : tokB (hex (zW nc)) = true) : (qi (anC u n uri cn nc pf)).2 = 0 := by
 have hok : anOk (anC u n uri cn nc pf) = true := by
  show (sizB n && (sizB cn && decide ((pf.length : Int) = 32))) = true
  rw [hn1, hcn1, hpf]; rfl
 have hq : ∀ v : List UInt8, v.all inB = true -> (quoE v).2 = true := fun v h => by unfold quoE; rw [if_pos h]
 have hb : (zW nc).length = 4 := rfl
 have hg : ∀ nm v : List UInt8, v.all inB = true -> (tokB nm && (lowL nm == nm)) = true -> jD ⟨nm, v, true⟩ = true := fun nm v h1 h2 => by
  show ((quoE v).2 && (tokB nm && (lowL nm == nm))) = true
  rw [hq v h1, h2]; rfl
 have hgood : (vM (anC u n uri cn nc pf)).all jD = true := by
  rw [List.all_eq_true];intro p hp;simp only [vM, opqP, List.mem_append, bA, aX, or_false] at hp
  rcases hp with ((rfl | rfl | rfl | rfl | rfl | rfl | rfl | rfl) | hp) | rfl
  ·exact hg _ u hu (by decide)
  ·decide
  ·exact hg _ n hn (by decide)
  ·exact hg _ uri huri (by decide)
  ·decide
  ·show (tokB (hex (zW nc)) && (tokB nNc && (lowL nNc == nNc))) = true; rw [hnc]; decide
  ·exact hg _ cn hcn (by decide)
  ·exact hg _ _ (hex_in pf) (by decide)
  ·simp at hp
  ·decide
 have hlen : (hdr ++ xo (vM (anC u n uri cn nc pf))).length <= 4096 := by
  have := joinP_len (vM (anC u n uri cn nc pf));rw [aA]
  have h2 : ((vM (anC u n uri cn nc pf)).map fun p => p.n.length + 2 * p.v.length + 5).sum <= 2000 := by
   show (8 + 2 * u.length + 5) + ((5 + 2 * 1 + 5) + ((5 + 2 * n.length + 5) + ((3 + 2 * uri.length + 5) + ((3 + 2 * 4 + 5) + ((2 + 2 * (hex (zW nc)).length + 5) + ((6 + 2 * cn.length + 5) + ((8 + 2 * (hex pf).length + 5) + ((9 + 2 * 7 + 5) + 0)))))))) <= 2000
   rw [hex_len, hex_len, hpf, hb];omega
  have : hdr.length = 7 := rfl;omega
 have hc : cntE (vM (anC u n uri cn nc pf)) = 0 := by kernel_rfl
 unfold qi;rw [hok, if_neg (by decide)];unfold xO;rw [hgood, if_neg (by rw [show decide (0 < (vM (anC u n uri cn nc pf)).length) = true from rfl]; decide), if_neg (by omega), if_neg (by rw [hc]; decide)]
open _root_.Go.Proofs.Tryz
def nonA : List UInt8 := [100, 46, 48, 48, 48, 48, 48, 48, 48, 48, 48, 48, 48, 48, 48, 48, 48, 49]
def mGet : List UInt8 := [71, 69, 84]
theorem iss1 : (zC (ns0 4 100) [100] 5).1 = (nonA, 0) := by decide +kernel
theorem use1 : (useN (zC (ns0 4 100) [100] 5).2 nonA 1 6).1 = 0 := by decide +kernel
theorem ch1 : qh ⟨[116], nonA, [], false⟩ = ([68, 105, 103, 101, 115, 116, 32, 114, 101, 97, 108, 109, 61, 34, 116, 34, 44, 32, 110, 111, 110, 99, 101, 61, 34, 100, 46, 48, 48, 48, 48, 48, 48, 48, 48, 48, 48, 48, 48, 48, 48, 48, 49, 34, 44, 32, 97, 108, 103, 111, 114, 105, 116, 104, 109, 61, 83, 72, 65, 45, 50, 53, 54, 44, 32, 113, 111, 112, 61, 34, 97, 117, 116, 104, 34], 0) := by decide +kernel
def annS (sym : Bool) : Sec := (qf ⟨sym, []⟩ (uN 0) (uP 0)).1
def annU (sym : Bool) : PU := ⟨uN 0, annS sym, 1, false⟩
def bobU (sym : Bool) : PU := ⟨uN 1, (qf (qf ⟨sym, []⟩ (uN 0) (uP 0)).2 (uN 1) (uP 1)).1, 2, false⟩
theorem lx_us (sym : Bool) : (lx sym 2).1 = [] ++ annU sym :: [bobU sym] := rfl
theorem lx_sym (sym : Bool) : (lx sym 2).2.sym = sym := ((JN (lx sym 1).2 (uN 1) (uP 1)).2).trans (JN ⟨sym, []⟩ (uN 0) (uP 0)).2
theorem XU {sym : Bool} {y : BX} (g : Grows (lx sym 2).2 y) (m uri n cn : List UInt8) (nc : W) :
  qX y (uN 0) (uP 0) m uri n cn nc = (qi (anC (uN 0) n uri cn nc (xS y (annS sym).ha m (anC (uN 0) n uri cn nc [])).1), (xS y (annS sym).ha m (anC (uN 0) n uri cn nc [])).2) := by
 have h1 : Grows (qf ⟨sym, []⟩ (uN 0) (uP 0)).2 y := (Wo (qf ⟨sym, []⟩ (uN 0) (uP 0)).2 (uN 1) (uP 1)).trans g;unfold qX;simp only;rw [makeX_ha h1]
 rfl
instance tpAsk : zH prog 54 [(0, 1), (1, 1), (2, 1)] := ⟨by kernel_rfl⟩
theorem Qf {sym : Bool} {qk b s q : Nat} {iter ch last reads : Int} {C K NT G : Chunk} {x : BX} {ns : NS} (hg : jj G) (hn : GNam G) (hC : qL C b x) (hts : x.ts.length <= 800) (hSt : IsSt K s (lx sym 2).1 last reads) (hNT : Qi (some ⟨q, 0, none⟩) NT (some ns)) (hr0 : 0 <= reads) (hr1 : reads < 1000000) (hch0 : 0 <= ch) (hch1 : ch < 1000000)
  (hd uri pf mt : List UInt8) (hpa : paE hd = (anC (uN 0) nonA uri [99] 1 pf, 0)) (hdl : hd.length <= 100000) (htl : uri.length <= 4096) (hpl : pf.length <= 4096) (hml : mt.length <= 1000) :
  Meets prog 12 [.pointer (some ⟨qk, 0, none⟩), .agg #[.string (str mt), .string (str uri), .string (str hd)], .int .u64 6] [quB qk b s q iter [116] ch, C, K, NT, G]
  fun v A => ∃ (C' K' NT' : Chunk) (vs' rv : List Value), v = .tuple #[.agg rv.toArray, .int .i64 (ansE x ns (annS sym) mt (anC (uN 0) nonA uri [99] 1 pf) 6)] /\ (rv.length = 12 /\ ∀ u ∈ rv, Value.cell1 u) /\ (ansE x ns (annS sym) mt (anC (uN 0) nonA uri [99] 1 pf) 6 = 0 -> rv = credV (uN 0) vs' 1 false ++ [.string (str nonA), b32 1]) /\ vs'.length = 5 /\
   qL C' b (xS x (annS sym).ha mt (anC (uN 0) nonA uri [99] 1 pf)).2 /\ IsSt K' s (lx sym 2).1 last (reads + 1) /\ Qi (some ⟨q, 0, none⟩) NT' (some (ansN x ns (annS sym) mt (anC (uN 0) nonA uri [99] 1 pf) 6)) /\ A = [quB qk b s q iter [116] (ch + 1), C', K', NT', G] :=
 qans2 (u := annU sym) (us1 := []) (us2 := [bobU sym]) hg hn hC hts hSt (lx_us sym) (fun _ h => nomatch h) rfl (wj 0) hNT hr0 hr1 hch0 hch1 hd nonA uri [99] [] pf mt 1 hpa hdl (by decide) htl (by decide) hpl hml 6 (by decide) (by decide)
theorem yG {G : Chunk} (hg : qJ G) (hn : GNam G) : Meets prog 6 [] [G] fun v A => v = .bool true /\ A = [G] := by
 refine eN func6 ntmps6 results6 fun F => ?_
 refine gg ?_;refine cA (JQ hg hn false 4 100 (by decide) (by decide) (by decide) (by decide)) ?_; rintro v A ⟨b, s, q, k, o, y, rb, rs, rn, C, R, Ks, RKs, NT, RT, rfl, hC, hR, hSt, hRs, hNT, hRT, rfl⟩; refine gA ?_;obtain ⟨hxt, _⟩ := lx_ts false 2;have hcl := XU (Grows.refl (lx false 2).2) mGet [47] nonA [99] 1;have hst := Zt (a := anC (uN 0) nonA [47] [99] 1 []) (b := anC (uN 0) nonA [47] [99] 1 (xS (lx false 2).2 (annS false).ha mGet (anC (uN 0) nonA [47] [99] 1 [])).1) ⟨rfl, rfl, rfl, rfl⟩ (Grows.refl (xS (lx false 2).2 (annS false).ha mGet (anC (uN 0) nonA [47] [99] 1 [])).2);have hts := Jv (lx false 2).2 (annS false).ha mGet (anC (uN 0) nonA [47] [99] 1 []);have hrl := wz (lx false 2).2 (annS false).ha mGet (anC (uN 0) nonA [47] [99] 1 []);have hcs := ZU hg hC hR (k := k) (y := y) (o := o) (s := s) (q := q) (us := rs) (ns := rn) (iter := 2) (it2 := 2) (ch := 0) (by omega) (uN 0) (uP 0) mGet [47] nonA [99] 1 (by decide) (by decide) (by decide) (by decide) (by decide) (by decide);rw [hcl] at hcs;generalize (lx false 2).2 = x at *;generalize xS x (annS false).ha mGet (anC (uN 0) nonA [47] [99] 1 []) = r at *;have hq := qchal2 (k := k) (b := b) (s := s) (iter := 2) (ch := 0) hNT (by decide) [100] (by decide) false 5 (by decide) (by decide) (by rw [iss1]; decide);rw [iss1, if_pos rfl, ch1] at hq;have hf := Yk (uN 0) nonA [47] [99] r.1 1 (by decide) (by decide) (by decide) (by decide) (by decide) (by decide) (by decide) (by decide) (by decide) (by decide) hrl (by decide);obtain ⟨hpa, hpl⟩ := Wc hf;refine oA ([.pointer none, .pointer none, .pointer none, .int .i64 0, .pointer none, .pointer none, .pointer none] : List Value).toArray fun b1 => ?_
 refine gg ?_;refine oS (botV b s q 2 o k y) rfl (by simp [Value.cell1]) ?_;refine gg ?_;refine gM ?_;refine cA (hq) ?_; rintro v A ⟨NT', rfl, hNT', rfl⟩; refine gA ?_;refine oL (botV b s q 2 o k y) rfl ?_;refine gg ?_;refine cA (hcs) ?_; rintro v A ⟨C', R', rfl, hC', hR', rfl⟩; refine gA ?_;refine gM ?_;refine oT [(0, .string ⟨#[71, 69, 84]⟩), (1, .string ⟨#[47]⟩), (2, .string (str (qi (anC (uN 0) nonA [47] [99] 1 r.1)).1))] ([.string (str mGet), .string (str [47]), .string (str (qi (anC (uN 0) nonA [47] [99] 1 r.1)).1)] : List Value).toArray ?_;refine gg ?_;refine cA (Qf (sym := false) (x := r.2) (ch := 0) (reads := 0) hg.1 hn hC' (by omega) hSt hNT' (by decide) (by decide) (by decide) (by decide) _ [47] r.1 mGet hpa (by omega) (by decide) (by omega) (by decide)) ?_; rintro v A ⟨C2, Ks2, NT2, vs', rv, rfl, ⟨hrl2, hrc⟩, hres, hvl, hC2, hSt2, hNT2, rfl⟩; refine gA ?_
 have he : ansE r.2 (zC (ns0 4 100) [100] 5).2 (annS false) mGet (anC (uN 0) nonA [47] [99] 1 r.1) 6 = 0 := by
  unfold ansE;rw [hst, if_pos rfl];exact use1
 obtain rfl := hres he
 obtain ⟨v0, v1, v2, v3, v4, rfl⟩ : ∃ v0 v1 v2 v3 v4, vs' = [v0, v1, v2, v3, v4] := by
  match vs', hvl with
  | [v0, v1, v2, v3, v4], _ => exact ⟨v0, v1, v2, v3, v4, rfl⟩
 rw [he];simp only [credV, aC, aD] at hrc hrl2;refine oA ([.string ⟨#[]⟩, .string ⟨#[]⟩, .slice none 0 0, .int .i64 0, .slice none 0 0, .slice none 0 0, .slice none 0 0, .int .u64 0, .slice none 0 0, .bool false, .string ⟨#[]⟩, .int .u32 0] : List Value).toArray fun b5 => ?_
 refine gg ?_;refine oS [.string (str [116]), .string (str (uN 0)), v0, v1, v2, v3, v4, .int .u64 1, .slice none 0 0, .bool false, .string (str nonA), b32 1] hrl2 hrc ?_;refine gg ?_;refine zf fun K hK => ?_; simp only [List.append_eq, aC, aD, beq_self_eq_true, if_true]; refine hK _ _ ?_; clear hK K
 refine gg ?_;rw [show (uN 0 == [97, 110, 110]) = true from rfl];refine gg ?_;refine gM ?_;rw [show b32 1 = .int .u32 1 from rfl];refine gg ?_;refine zb [G] ?_; exact ⟨rfl, rfl⟩
end Go.Proofs.YtebikhhoppiapaaGreatDoor
namespace Go.Proofs.YtebikhhoppiapaaGreatDoor
open Go Go.Ost Go.Sha Go.ChangeShapes Go.WideShapes Go.ChangeAt Go.RowKit
theorem Jj {P : Program} {W : World} {name : String} {zs : List Int} {rest : List (String × DataW Unit)} {ps : List MemPlace} {g : Nat} {t e : TypeId} {n : Nat} {l : List W32}
  (hg : P.globalNamed name = some g) (hty : (P.globals[g]?).map (·.type) = some t) (ht : P.underlying t = some (.array n e)) (he : P.underlying e = some (.int .u32)) (hce : P.cellsOf e = 1) (hct : P.cellsOf t = n)
  (hz : zs = l.map fun x => (x.toNat : Int)) (h : DataW.LaidVars P W ((name, Lib.tabData .u32 zs) :: rest) ps) : (∃ ty m, W.heap[g]? = some (.cells (rowW l) ty m)) /\ ∃ qs, DataW.LaidVars P W rest qs := by
 obtain ⟨g', t', cs, fuel, p, q, hg', ht', hvar, hd, hr, _⟩ := h;obtain rfl := Option.some.inj (hg.symm.trans hg');obtain rfl := Option.some.inj (hty.symm.trans ht');refine ⟨?_, q, hr⟩;have hcs := Lib.cells_of_tab ht he hce hct hd;simp only [World.var?, hg, Option.bind_some] at hvar
 split at hvar
 ·rename_i c ty fr hb
  cases hvar
  refine ⟨ty, fr, ?_⟩;rw [hb]
  have : cs = rowW l := by
   apply cS
   rw [hcs, hz, List.map_map]; rfl
  rw [this]
 ·cases hvar
def firstZ : List Int := [1779033703, 3144134277, 1013904242, 2773480762, 1359893119, 2600822924, 528734635, 1541459225]
def oddZ : List Int := [1116352408, 1899447441, 3049323471, 3921009573, 961987163, 1508970993, 2453635748, 2870763221, 3624381080, 310598401, 607225278, 1426881987, 1925078388, 2162078206, 2614888103, 3248222580, 3835390401, 4022224774, 264347078, 604807628, 770255983, 1249150122, 1555081692, 1996064986, 2554220882, 2821834349, 2952996808, 3210313671, 3336571891, 3584528711, 113926993, 338241895, 666307205, 773529912, 1294757372, 1396182291, 1695183700, 1986661051, 2177026350, 2456956037, 2730485921, 2820302411, 3259730800, 3345764771, 3516065817, 3600352804, 4094571909, 275423344, 430227734, 506948616, 659060556, 883997877, 958139571, 1322822218, 1537002063, 1747873779, 1955562222, 2024104815, 2227730452, 2361852424, 2428436474, 2756734187, 3204031479, 3329325298]
theorem first_z : firstZ = first.list.map fun x => (x.toNat : Int) := by decide +kernel
theorem odd_z : oddZ = odd.map fun x => (x.toNat : Int) := by decide +kernel
open Go.Nam _root_.Go.Proofs.Tryz
def span7 (p : Int × Int) : List Lit := [.int .i32 p.1, .int .i32 p.2]
def form7 (i : Nat) : List Lit := [.int .i64 ((i : Int) + 1), .int .u8 ((mk i).toNat : Int), .int .u8 ((ld i).toNat : Int), .int .i32 (ls i)]
def rows7 {H : Type} (rows : List (List Lit)) : DataW H := .agg (rows.map fun r => .agg (r.map DataW.lit))
structure Globs7 (C : Chunk) : Prop where
 g : qJ C
 n : GNam C
theorem laid7 {W : World} (h : laidMetH prog Rows.questNilRow.laid W) (C : Chunk) (hC : ∀ k o, W.heap[k]? = some o -> (k, o) ∈ C) : Globs7 C := by
 have h' : laidMet prog [("ostiary/ostiaryref01.words", Lib.tabData .u32 oddZ), ("ostiary/sha.first", Lib.tabData .u32 firstZ), ("ostiary/sha.odd", Lib.tabData .u32 oddZ), ("ostiary/name.blanks", rows7 (blanks.map span7)), ("ostiary/name.nothing", rows7 (nothing.map span7)), ("ostiary/name.barred", rows7 (barred.map span7)), ("ostiary/name.forms", rows7 ([0, 1, 2, 3].map form7))] W := h;obtain ⟨ps, h0, _, _⟩ := h';obtain ⟨⟨t2, m2, hb2⟩, qs, h1⟩ := Jj (g := 4) (t := 352) (e := 42) (n := 64) (by kernel_rfl) (by kernel_rfl) (by kernel_rfl) (by kernel_rfl) (by kernel_rfl) (by kernel_rfl) odd_z h0;obtain ⟨⟨t0, m0, hb0⟩, qs, h2⟩ := Jj (g := 0) (t := 302) (e := 42) (n := 8) (by kernel_rfl) (by kernel_rfl) (by kernel_rfl) (by kernel_rfl) (by kernel_rfl) (by kernel_rfl) first_z h1;obtain ⟨⟨t1, m1, hb1⟩, qs, h3⟩ := Jj (g := 3) (t := 352) (e := 42) (n := 64) (by kernel_rfl) (by kernel_rfl) (by kernel_rfl) (by kernel_rfl) (by kernel_rfl) (by kernel_rfl) odd_z h2;obtain ⟨⟨t3, m3, hb3⟩, qs, h4⟩ := wu (g := 5) (t := 366) (e := 342) (n := 6) (ks := [.i32, .i32]) (by kernel_rfl) (by kernel_rfl) (by kernel_rfl) (by kernel_rfl) (by kernel_rfl) (by decide) (by kernel_rfl) h3;obtain ⟨⟨t4, m4, hb4⟩, qs, h5⟩ := wu (g := 6) (t := 367) (e := 342) (n := 5) (ks := [.i32, .i32]) (by kernel_rfl) (by kernel_rfl) (by kernel_rfl) (by kernel_rfl) (by kernel_rfl) (by decide) (by kernel_rfl) h4;obtain ⟨⟨t5, m5, hb5⟩, qs, h6⟩ := wu (g := 1) (t := 343) (e := 342) (n := 9) (ks := [.i32, .i32]) (by kernel_rfl) (by kernel_rfl) (by kernel_rfl) (by kernel_rfl) (by kernel_rfl) (by decide) (by kernel_rfl) h5;obtain ⟨⟨t6, m6, hb6⟩, _, _⟩ := wu (g := 7) (t := 370) (e := 369) (n := 4) (ks := [.i64, .u8, .u8, .i32]) (by kernel_rfl) (by kernel_rfl) (by kernel_rfl) (by kernel_rfl) (by kernel_rfl) (by decide) (by kernel_rfl) h6;exact ⟨⟨⟨⟨t0, m0, hC _ _ hb0⟩, ⟨t1, m1, hC _ _ hb1⟩⟩, ⟨t2, m2, hC _ _ hb2⟩⟩, ⟨t6, m6, hC _ _ hb6⟩, ⟨t5, m5, hC _ _ hb5⟩, ⟨t3, m3, hC _ _ hb3⟩, ⟨t4, m4, hC _ _ hb4⟩⟩
def put7 (cs : Array Value) : Obj -> Obj
 | .cells _ t fr => .cells cs t fr
 | o => o
noncomputable def yj (os : Os) : World :=
 { World.holding prog os ⟨#[], #[], []⟩ with heap := (((((((World.holding prog os ⟨#[], #[], []⟩).heap.modify 7 (put7 formsV.toArray)).modify 1 (put7 (barred.flatMap Zg).toArray)).modify 5 (put7 (blanks.flatMap Zg).toArray)).modify 6 (put7 (nothing.flatMap Zg).toArray)).modify 0 (put7 (firstZ.map fun z => Value.int .u32 z).toArray)).modify 3 (put7 (oddZ.map fun z => Value.int .u32 z).toArray)).modify 4 (put7 (oddZ.map fun z => Value.int .u32 z).toArray) }
end Go.Proofs.YtebikhhoppiapaaGreatDoor
namespace Go.Proofs.YtebikhhoppiapaaGreatDoor
open Go Go.Ost Go.Sha Go.Nam Go.Tab _root_.Go.Proofs.Tryz
abbrev zRes : List Value := [.string ⟨#[]⟩, .string ⟨#[]⟩, .slice none 0 0, .int .i64 0, .slice none 0 0, .slice none 0 0, .slice none 0 0, .int .u64 0, .slice none 0 0, .bool false, .string ⟨#[]⟩, .int .u32 0]
theorem qans_nil (m t h : List UInt8) (now : Int) : Meets prog 12 [.pointer none, .agg #[.string (str m), .string (str t), .string (str h)], .int .u64 now] [] fun v A => v = .tuple #[.agg zRes.toArray, .int .i64 6] /\ A = [] := by
 refine eN func12 ntmps12 results12 fun F => ?_
 refine gg ?_;refine oB fun b4 => ?_
 refine gg ?_;refine oA ([.string ⟨#[]⟩, .string ⟨#[]⟩, .slice none 0 0, .int .i64 0, .slice none 0 0, .slice none 0 0, .slice none 0 0, .int .u64 0, .slice none 0 0, .bool false, .string ⟨#[]⟩, .int .u32 0] : List Value).toArray fun b6 => ?_
 refine gg ?_;refine oT [] ([.string ⟨#[]⟩, .string ⟨#[]⟩, .slice none 0 0, .int .i64 0, .slice none 0 0, .slice none 0 0, .slice none 0 0, .int .u64 0, .slice none 0 0, .bool false, .string ⟨#[]⟩, .int .u32 0] : List Value).toArray ?_;refine gg ?_;refine oS [.string ⟨#[]⟩, .string ⟨#[]⟩, .slice none 0 0, .int .i64 0, .slice none 0 0, .slice none 0 0, .slice none 0 0, .int .u64 0, .slice none 0 0, .bool false, .string ⟨#[]⟩, .int .u32 0] rfl (by simp [Value.cell1]) ?_;refine gg ?_;refine ze (vs := [.agg zRes.toArray, .int .i64 6]) [] ?_ (hr := by (intro κ hκ; simp only [resW, withV, lookT_hit, lookT_miss, aG]; exact zi (vs := zRes) lkA rfl hκ));exact ⟨rfl, rfl⟩
def newE (iter : Int) (t : List UInt8) : Int := if 1 <= iter /\ iter <= 64 then (if vd t = true then 0 else 5) else 1
theorem YU (b s q : Nat) (iter : Int) (t : List UInt8) (hl : t.length <= 1000) : Meets prog 15 [.agg (offV b s q iter).toArray, .string (str t)] [] fun v A => ∃ p : Option Addr, v = .tuple #[.pointer p, .int .i64 (newE iter t)] /\ A = [] := by
 unfold newE
 by_cases hi : 1 <= iter /\ iter <= 64
 ·rw [if_pos hi]
  by_cases ht : vd t = true
  ·rw [if_pos ht];refine Meets.conv [] (KU b s q iter hi t hl ht) rfl (.nil _) ?_;rintro v A ⟨k, rfl, rfl⟩;exact ⟨[], [], rfl, .nil _, _, rfl, rfl⟩
  ·rw [if_neg ht];refine Meets.conv [] (qnew_sign b s q iter hi t hl (by simpa using ht)) rfl (.nil _) ?_;rintro v A ⟨rfl, rfl⟩;exact ⟨[], [], rfl, .nil _, _, rfl, rfl⟩
 ·rw [if_neg hi];refine Meets.conv [] (qnew_arg b s q iter hi t) rfl (.nil _) ?_;rintro v A ⟨rfl, rfl⟩;exact ⟨[], [], rfl, .nil _, _, rfl, rfl⟩
theorem QuestNil_law (C : Chunk) (h7 : Globs7 C) (iter : Int) (hiter : (Lit.int .i64 iter).wf = true) (tenant : List UInt8) (_ : (str tenant).size <= maxLen) (text : List UInt8) (_ : (str text).size <= maxLen) :
  Meets prog 4 [.int .i64 iter, .string (str tenant), .string (str text)] [C] fun v A => v = .bool true /\ A = [C] := by
 obtain ⟨hg, hn⟩ := h7;have hl1 : (text.take 50).length <= 50 := List.length_take_le _ _;have hl2 : (tenant.take 40).length <= 40 := List.length_take_le _ _;refine eN func4 ntmps4 results4 fun F => ?_
 refine gg ?_;refine cA (yG hg hn) ?_; rintro v A ⟨rfl, rfl⟩; refine gA ?_;refine cA (qS text 50) ?_; rintro v A ⟨rfl, rfl⟩; refine gA ?_;refine cA (qS tenant 40) ?_; rintro v A ⟨rfl, rfl⟩; refine gA ?_;generalize text.take 50 = tx at *;generalize tenant.take 40 = tn at *;refine cA (qchal_nil tx false 1) ?_; rintro v A ⟨rfl, rfl⟩; refine gA ?_;refine oT [(2, .string (str tx))] ([.string (str []), .string (str []), .string (str tx)] : List Value).toArray ?_;refine gg ?_;refine cA (qans_nil [] [] tx 1) ?_; rintro v A ⟨rfl, rfl⟩; refine gA ?_;refine oA ([.string ⟨#[]⟩, .string ⟨#[]⟩, .slice none 0 0, .int .i64 0, .slice none 0 0, .slice none 0 0, .slice none 0 0, .int .u64 0, .slice none 0 0, .bool false, .string ⟨#[]⟩, .int .u32 0] : List Value).toArray fun b10 => ?_
 refine gg ?_;refine oS [.string ⟨#[]⟩, .string ⟨#[]⟩, .slice none 0 0, .int .i64 0, .slice none 0 0, .slice none 0 0, .slice none 0 0, .int .u64 0, .slice none 0 0, .bool false, .string ⟨#[]⟩, .int .u32 0] rfl (by simp [Value.cell1]) ?_;refine gg ?_;refine cA (JQ hg hn false 4 5 (by decide) (by decide) (by decide) (by decide)) ?_; rintro v A ⟨b, s, q, k, o, y, rb, rs, rn, B, R, Ks, RKs, NT, RT, rfl, _, _, _, _, _, _, rfl⟩; refine gA ?_;refine oA ([.pointer none, .pointer none, .pointer none, .int .i64 0, .pointer none, .pointer none, .pointer none] : List Value).toArray fun b12 => ?_
 refine gg ?_;refine oS (botV b s q 2 o k y) rfl (by simp [Value.cell1]) ?_;refine gg ?_;refine zf fun K hK => ?_; refine vD (vs := botV b s q 2 o k y) (o := 0) (ws := offV b s q 2) lkA (by show 0 + 4 <= 7; decide) rfl ?_; refine hK _ _ ?_; clear hK K
 refine gg ?_;refine oA ([.pointer none, .pointer none, .pointer none, .int .i64 0] : List Value).toArray fun b13 => ?_
 refine gg ?_;refine oS [.pointer (some ⟨b, 0, none⟩), .pointer (some ⟨s, 0, none⟩), .pointer (some ⟨q, 0, none⟩), .int .i64 2] rfl (by simp [Value.cell1]) ?_;refine gg ?_;refine gM ?_;refine oL (offV b s q iter) rfl ?_;refine gg ?_;refine cA (YU b s q iter [116] (by decide)) ?_; rintro v A ⟨p1, rfl, rfl⟩; refine gA ?_;refine zf fun K hK => ?_; refine vD (vs := botV b s q 2 o k y) (o := 0) (ws := offV b s q 2) lkA (by show 0 + 4 <= 7; decide) rfl ?_; refine hK _ _ ?_; clear hK K
 refine gg ?_;refine cA (YU b s q 2 tn (by omega)) ?_; rintro v A ⟨p2, rfl, rfl⟩; refine gA ?_;refine gM ?_;refine oL [.pointer (some ⟨b, 0, none⟩), .pointer none, .pointer (some ⟨q, 0, none⟩), .int .i64 iter] rfl ?_;refine gg ?_;refine cA (qnew_none b q iter [116]) ?_; rintro v A ⟨rfl, rfl⟩; refine gA ?_
 have e2 : newE 2 tn = 0 ∨ newE 2 tn = 5 := by
  unfold newE;rw [if_pos (by decide)]
  split
  ·exact .inl rfl
  ·exact .inr rfl
 by_cases hi : 1 <= iter /\ iter <= 64
 ·have e1 : newE iter [116] = 0 := by unfold newE; rw [if_pos hi]; rfl
  rw [e1];refine gg ?_;rw [decide_eq_true hi.1];refine gg ?_;rw [decide_eq_true hi.2];refine gg ?_
  rcases e2 with e2 | e2 <;> rw [e2] <;> (refine gg ?_; (refine cA (kR) ?_; rintro v A ⟨rfl, rfl⟩; refine gA ?_); refine zb [C] ?_; exact ⟨rfl, rfl⟩)
 ·have e1 : newE iter [116] = 1 := by unfold newE; rw [if_neg hi]
  rw [e1];refine gg ?_
  by_cases h1 : 1 <= iter
  ·rw [decide_eq_true h1];refine gg ?_;rw [decide_eq_false (show ¬ iter <= 64 by omega)];refine gg ?_
   rcases e2 with e2 | e2 <;> rw [e2] <;> (refine gg ?_; (refine cA (kR) ?_; rintro v A ⟨rfl, rfl⟩; refine gA ?_); refine zb [C] ?_; exact ⟨rfl, rfl⟩)
  ·rw [decide_eq_false h1];refine gg ?_
   rcases e2 with e2 | e2 <;> rw [e2] <;> (refine gg ?_; (refine cA (kR) ?_; rintro v A ⟨rfl, rfl⟩; refine gA ?_); refine zb [C] ?_; exact ⟨rfl, rfl⟩)
end Go.Proofs.YtebikhhoppiapaaGreatDoor
namespace Go.Proofs.YtebikhhoppiapaaGreatDoor
open Go Go.Ost _root_.Go.Proofs.Tryz
theorem vx (s : List UInt8) (i : Nat) (hi : i <= s.length) (hs : s.length <= 100000) : Meets prog 164 [.string (str s), .int .i64 i] []
  fun v A => (∃ j : Nat, v = .int .i64 j /\ i <= j /\ j <= s.length /\ s.drop j = zk (s.drop i)) /\ A = [] := by
 refine eN func164 ntmps164 results164 fun F => ?_
 refine gg ?_
 refine zz (fun q D L S => ∃ k : Nat, i <= k /\ k <= s.length /\ zk (s.drop k) = zk (s.drop i) /\ q = s.length - k /\ D = [] /\ L = [(1, .int .i64 k), (0, .string (str s))] /\ S = [F])
  ⟨i, by omega, hi, rfl, rfl, rfl, rfl, rfl⟩ ?_
 rintro q D L S ⟨k, hik, hk, hsp, rfl, rfl, rfl, rfl⟩;refine gg ?_
 by_cases hkl : k < s.length
 ·have hdr := xH s k hkl;rw [decide_eq_true (show (k : Int) < s.length by omega)];refine gg ?_
  by_cases e1 : s.getD k 0 = 32
  ·have hb : qK (s.getD k 0) = true := by rw [e1]; rfl
   rw [hdr] at hsp;rw [beq_iff_eq.2 (show ((s.getD k 0).toNat : Int) = 32 by rw [e1]; rfl)];refine gg ?_;exact zv ⟨k + 1, by omega, by omega, by rw [<- hsp]; unfold zk; rw [cQ, if_pos hb], rfl, rfl, rfl, rfl⟩
  ·rw [beq_eq_false_iff_ne.2 (show ((s.getD k 0).toNat : Int) ≠ 32 from fun h => e1 (UInt8.toNat_inj.1 (show (s.getD k 0).toNat = 32 by omega)))];refine gg ?_
   by_cases e2 : s.getD k 0 = 9
   ·have hb : qK (s.getD k 0) = true := by rw [e2]; rfl
    rw [hdr] at hsp;rw [beq_iff_eq.2 (show ((s.getD k 0).toNat : Int) = 9 by rw [e2]; rfl)];refine gg ?_;exact zv ⟨k + 1, by omega, by omega, by rw [<- hsp]; unfold zk; rw [cQ, if_pos hb], rfl, rfl, rfl, rfl⟩
   ·have hb : qK (s.getD k 0) = false := by unfold qK; simp only [decide_eq_false e1, decide_eq_false e2, Bool.or_false]
    rw [beq_eq_false_iff_ne.2 (show ((s.getD k 0).toNat : Int) ≠ 9 from fun h => e2 (UInt8.toNat_inj.1 (show (s.getD k 0).toNat = 9 by omega)))];refine gg ?_;refine zb [] ?_; exact ⟨⟨k, rfl, hik, hk, by rw [<- hsp, hdr]; unfold zk; rw [cQ, if_neg (by rw [hb]; simp)]⟩, rfl⟩
 ·obtain rfl : k = s.length := by omega
  rw [decide_eq_false (show ¬ (s.length : Int) < s.length by omega)];refine gg ?_;refine zb [] ?_; exact ⟨⟨s.length, rfl, hik, hk, by rw [<- hsp, dR]; rfl⟩, rfl⟩
theorem vO (s : List UInt8) (i : Nat) (hi : i <= s.length) (hs : s.length <= 100000) : Meets prog 211 [.string (str s), .int .i64 i] []
  fun v A => (∃ j : Nat, v = .int .i64 j /\ i <= j /\ j <= s.length /\ (s.take j).drop i = tokL (s.drop i) /\ s.drop j = tokR (s.drop i)) /\ A = [] := by
 refine eN func211 ntmps211 results211 fun F => ?_
 refine gg ?_
 refine zz (fun q D L S => ∃ k : Nat, i <= k /\ k <= s.length /\ ((s.drop i).take (k - i)).all tcB = true /\ q = s.length - k /\ D = [] /\ L = [(1, .int .i64 k), (0, .string (str s))] /\ S = [F])
  ⟨i, by omega, hi, by simp, rfl, rfl, rfl, rfl⟩ ?_
 rintro q D L S ⟨k, hik, hk, hall, rfl, rfl, rfl, rfl⟩;have hll : (s.drop i).length = s.length - i := aT;have hdd : (s.drop i).drop (k - i) = s.drop k := by rw [dL]; congr 1; omega
 refine gg ?_
 by_cases hkl : k < s.length
 ·have hnx := xI (p := tcB) (s.drop i) (k - i) (by omega)
  have hgd : (s.drop i).getD (k - i) 0 = s.getD k 0 := by
   simp only [aS, List.getElem?_drop];rw [show i + (k - i) = k from by omega]
  rw [hgd] at hnx;rw [decide_eq_true (show (k : Int) < s.length by omega)];refine gg ?_;have htc := Zn (s.getD k 0);refine cA (htc) ?_; rintro v A ⟨rfl, rfl⟩; refine gA ?_
  cases h1 : tcB (s.getD k 0) with
  | true =>
   refine gg ?_;exact zv ⟨k + 1, by omega, by omega, by rw [show k + 1 - i = k - i + 1 from by omega, hnx, hall, h1]; rfl, rfl, rfl, rfl, rfl⟩
  | false =>
   obtain ⟨e1, e2⟩ := Ys (s.drop i) (k - i) hall (.inr ⟨by omega, by rw [hgd]; exact h1⟩);refine gg ?_;refine zb [] ?_; exact ⟨⟨k, rfl, hik, hk, by rw [e1, cut_cut], by rw [e2, hdd]⟩, rfl⟩
 ·obtain rfl : k = s.length := by omega
  obtain ⟨e1, e2⟩ := Ys (s.drop i) (s.length - i) hall (.inl (by omega));rw [decide_eq_false (show ¬ (s.length : Int) < s.length by omega)];refine gg ?_;refine zb [] ?_; exact ⟨⟨s.length, rfl, hik, hk, by rw [e1, cut_cut], by rw [e2, hdd]⟩, rfl⟩
def oneR (s : List UInt8) (i : Nat) (p : Par) (e : Int) : Prop :=
 (oneE (s.drop i) = none /\ e = -1) ∨ ∃ j : Nat, oneE (s.drop i) = some (p, s.drop j) /\ e = j /\ j <= s.length
theorem Jc {s t : List UInt8} {i j : Nat} (hij : i <= j) (hj : j <= s.length) (htl : (s.take j).drop i = t) : t = [] ↔ j = i := by
 rw [<- htl]
 constructor
 ·intro h;have := congrArg cV h;rw [aT, aU, aV] at this; omega
 ·rintro rfl;exact dA (by rw [aU]; omega)
theorem rone_spec (s : List UInt8) (i : Nat) (hi : i <= s.length) (hs : s.length <= 100000) : Meets prog 163 [.string (str s), .int .i64 i] []
  fun v A => ∃ (p : Par) (e : Int), v = .tuple #[.agg (encP p).toArray, .int .i64 e] /\ A = [] /\ oneR s i p e := by
 refine eN func163 ntmps163 results163 fun F => ?_
 refine gg ?_;refine oA (encP p0).toArray fun b4 => ?_
 refine gg ?_;refine cA (vO s i hi hs) ?_; rintro v A ⟨⟨j, rfl, hij, hj, htl, htr⟩, rfl⟩; refine gA ?_;rw [htl];have hll : (tokL (s.drop i)).length <= s.length := by have := Jg (s.drop i); rw [aT] at this; omega
 refine cA (wx (tokL (s.drop i)) (by omega)) ?_; rintro v A ⟨rfl, rfl⟩; refine gA ?_;refine oT [(0, .string (str (lowL (tokL (s.drop i)))))] (encP ⟨lowL (tokL (s.drop i)), [], false⟩).toArray ?_;refine gg ?_;refine oA (encP p0).toArray fun b7 => ?_
 refine oS (encP ⟨lowL (tokL (s.drop i)), [], false⟩) rfl (zP _) ?_;refine gg ?_;refine cA (vx s j hj hs) ?_; rintro v A ⟨⟨k, rfl, hjk, hk, hsp⟩, rfl⟩; refine gA ?_;rw [htr] at hsp;have hno := Jc hij hj htl
 by_cases e1 : j = i
 ·rw [beq_iff_eq.2 (show (j : Int) = i by omega)];refine gg ?_;refine oT [] (encP p0).toArray ?_;refine gg ?_;refine oS (encP p0) rfl (zP _) ?_;refine gg ?_;refine ze (vs := [.agg (encP p0).toArray, .int .i64 (-1)]) [] ⟨p0, -1, rfl, rfl, .inl ⟨one_no1 (hno.2 e1), rfl⟩⟩ (hr := by (intro κ hκ; simp only [resW, withV, lookT_hit, lookT_miss, aG]; exact zi (vs := encP p0) lkA rfl hκ))
 ·have hne : tokL (s.drop i) ≠ [] := fun h => e1 (hno.1 h)
  rw [beq_eq_false_iff_ne.2 (show (j : Int) ≠ i by omega)];refine gg ?_
  by_cases hkl : k < s.length
  ·have hdr := xH s k hkl;rw [decide_eq_false (show ¬ (s.length : Int) <= k by omega)];refine gg ?_
   by_cases e2 : s.getD k 0 = 61
   ·rw [bne_eq_false_iff_eq.2 (show ((s.getD k 0).toNat : Int) = 61 by rw [e2]; rfl)];rw [e2] at hdr;rw [hdr] at hsp;refine gg ?_;refine cA (vx s (k + 1) (by omega) hs) ?_; rintro v A ⟨⟨m, rfl, hkm, hm, hsp2⟩, rfl⟩; refine gA ?_
    by_cases hml : m < s.length
    ·have hdm := xH s m hml;rw [decide_eq_true (show (m : Int) < s.length by omega)];refine gg ?_
     by_cases e3 : s.getD m 0 = 34
     ·rw [beq_iff_eq.2 (show ((s.getD m 0).toNat : Int) = 34 by rw [e3]; rfl)];rw [e3] at hdm;have hz : zk (s.drop (k + 1)) = 34 :: s.drop (m + 1) := by rw [<- hsp2, hdm]
      refine gg ?_;refine gM ?_
      refine zz (fun mm D L S => ∃ (q : Nat) (out : List UInt8), m + 1 <= q /\ q <= s.length /\ out.length <= q /\ qgo (s.drop (m + 1)) = (qgo (s.drop q)).map (fun x => (out ++ x.1, x.2)) /\ mm = s.length - q /\ D = [] /\
        L = [(8, .int .i64 q), (7, .pointer (some ⟨b7, 0, none⟩)), (4, .pointer (some ⟨b4, 0, none⟩)), (0, .string (str s))] /\ S = [rpB b7 ⟨lowL (tokL (s.drop i)), out, true⟩, rpB b4 p0, F])
       ⟨m + 1, [], by omega, by omega, by simp, by simp, rfl, rfl, rfl, rfl⟩ ?_
      rintro mm D L S ⟨q, out, hmq, hqs, hol, hq, rfl, rfl, rfl, rfl⟩;refine gg ?_;refine if_d (fun hc => ?_) (fun hc => ?_)
      ·have hql : q < s.length := by omega
       have hdq := xH s q hql;rw [hdq] at hq;refine gg ?_
       by_cases d1 : s.getD q 0 = 34
       ·rw [beq_iff_eq.2 (show ((s.getD q 0).toNat : Int) = 34 by rw [d1]; rfl)];rw [d1, qgo_end, dE, aL] at hq;refine gg ?_;refine oL (encP ⟨lowL (tokL (s.drop i)), out, true⟩) rfl ?_;refine gg ?_;refine oS (encP ⟨lowL (tokL (s.drop i)), out, true⟩) rfl (zP _) ?_;refine gg ?_;refine ze (vs := [.agg (encP ⟨lowL (tokL (s.drop i)), out, true⟩).toArray, .int .i64 ((q : Int) + 1)]) [] ⟨⟨lowL (tokL (s.drop i)), out, true⟩, (q : Int) + 1, rfl, rfl, .inr ⟨q + 1, by rw [OG hne hsp.symm hz, hq]; rfl, rfl, by omega⟩⟩ (hr := by (intro κ hκ; simp only [resW, withV, lookT_hit, lookT_miss, aG]; exact zi (vs := encP ⟨lowL (tokL (s.drop i)), out, true⟩) lkA rfl hκ))
       ·rw [beq_eq_false_iff_ne.2 (show ((s.getD q 0).toNat : Int) ≠ 34 from fun h => d1 (UInt8.toNat_inj.1 (show (s.getD q 0).toNat = 34 by omega)))];refine gg ?_
        by_cases d2 : s.getD q 0 = 92
        ·rw [beq_iff_eq.2 (show ((s.getD q 0).toNat : Int) = 92 by rw [d2]; rfl)];rw [d2] at hq;refine gg ?_
         by_cases hq2 : q + 1 < s.length
         ·have hdq2 := xH s (q + 1) hq2;rw [hdq2] at hq;rw [decide_eq_true (show (q : Int) + 1 < s.length by omega)];refine gg ?_;rw [show ((q : Int) + 1).toNat = q + 1 from by omega];refine gg ?_;refine cA (JJ (s.getD (q + 1) 0)) ?_; rintro v A ⟨rfl, rfl⟩; refine gA ?_
          cases h3 : inB (s.getD (q + 1) 0) with
          | false =>
           rw [YV h3, Option.map_none] at hq;refine gg ?_;refine oT [] (encP p0).toArray ?_;refine gg ?_;refine oS (encP p0) rfl (zP _) ?_;refine gg ?_;refine ze (vs := [.agg (encP p0).toArray, .int .i64 (-1)]) [] ⟨p0, -1, rfl, rfl, .inl ⟨by rw [OG hne hsp.symm hz, hq]; rfl, rfl⟩⟩ (hr := by (intro κ hκ; simp only [resW, withV, lookT_hit, lookT_miss, aG]; exact zi (vs := encP p0) lkA rfl hκ))
          | true =>
           rw [KW h3, Option.map_map] at hq;have hc1 := Qb s ((q + 1)) hq2;refine gg ?_;refine cdL [[0], [1], [2], [3], [4], [5], [6], [7], [8], [9, 0]] ?_;refine gg ?_;rw [show ((q : Int) + 1).toNat = q + 1 from by omega, show ((q : Int) + 1 + 1).toNat = q + 1 + 1 from by omega]; rw [show (((q + 1 : Nat) : Int) + 1).toNat = q + 1 + 1 from by omega] at hc1; rw [hc1];refine qO fun K hK => ?_
           rw [zF (by simp only [aI]; omega)];refine hK _ _ ?_; clear hK K;refine gg ?_;refine gM ?_;exact zv ⟨(q + 1) + 1, out ++ [s.getD (q + 1) 0], by omega, by omega, by simp; omega, by rw [hq]; congr 1; funext x; simp, rfl, rfl, rfl, rfl⟩
         ·have hnil : s.drop (q + 1) = [] := dA (by omega);rw [hnil, qgo_end1, Option.map_none] at hq;rw [decide_eq_false (show ¬ (q : Int) + 1 < s.length by omega)];refine gg ?_
          (try rw [beq_iff_eq.2 (show ((s.getD q 0).toNat : Int) = 92 by rw [d2]; rfl)])
          refine gg ?_;refine oT [] (encP p0).toArray ?_;refine gg ?_;refine oS (encP p0) rfl (zP _) ?_;refine gg ?_;refine ze (vs := [.agg (encP p0).toArray, .int .i64 (-1)]) [] ⟨p0, -1, rfl, rfl, .inl ⟨by rw [OG hne hsp.symm hz, hq]; rfl, rfl⟩⟩ (hr := by (intro κ hκ; simp only [resW, withV, lookT_hit, lookT_miss, aG]; exact zi (vs := encP p0) lkA rfl hκ))
        ·rw [beq_eq_false_iff_ne.2 (show ((s.getD q 0).toNat : Int) ≠ 92 from fun h => d2 (UInt8.toNat_inj.1 (show (s.getD q 0).toNat = 92 by omega)))];refine gg ?_
         (try rw [beq_eq_false_iff_ne.2 (show ((s.getD q 0).toNat : Int) ≠ 92 from fun h => d2 (UInt8.toNat_inj.1 (show (s.getD q 0).toNat = 92 by omega)))])
         refine gg ?_;refine cA (JJ (s.getD q 0)) ?_; rintro v A ⟨rfl, rfl⟩; refine gA ?_
         cases h3 : inB (s.getD q 0) with
         | false =>
          rw [qgo_bad d1 h3, Option.map_none] at hq;refine gg ?_;refine oT [] (encP p0).toArray ?_;refine gg ?_;refine oS (encP p0) rfl (zP _) ?_;refine gg ?_;refine ze (vs := [.agg (encP p0).toArray, .int .i64 (-1)]) [] ⟨p0, -1, rfl, rfl, .inl ⟨by rw [OG hne hsp.symm hz, hq]; rfl, rfl⟩⟩ (hr := by (intro κ hκ; simp only [resW, withV, lookT_hit, lookT_miss, aG]; exact zi (vs := encP p0) lkA rfl hκ))
         | true =>
          rw [JD d1 h3 d2, Option.map_map] at hq;have hc1 := Qb s (q) hql;refine gg ?_;refine cdL [[0], [1], [2], [3], [4], [5], [6], [7], [8], [9, 0]] ?_;refine gg ?_;rw [hc1];refine qO fun K hK => ?_
          rw [zF (by simp only [aI]; omega)];refine hK _ _ ?_; clear hK K;refine gg ?_;refine gM ?_;exact zv ⟨q + 1, out ++ [s.getD q 0], by omega, by omega, by simp; omega, by rw [hq]; congr 1; funext x; simp, rfl, rfl, rfl, rfl⟩
      ·obtain rfl : q = s.length := by omega
       rw [dR] at hq;refine gg ?_;refine oT [] (encP p0).toArray ?_;refine gg ?_;refine oS (encP p0) rfl (zP _) ?_;refine gg ?_;refine ze (vs := [.agg (encP p0).toArray, .int .i64 (-1)]) [] ⟨p0, -1, rfl, rfl, .inl ⟨by rw [OG hne hsp.symm hz, hq]; rfl, rfl⟩⟩ (hr := by (intro κ hκ; simp only [resW, withV, lookT_hit, lookT_miss, aG]; exact zi (vs := encP p0) lkA rfl hκ))
     ·rw [beq_eq_false_iff_ne.2 (show ((s.getD m 0).toNat : Int) ≠ 34 from fun h => e3 (UInt8.toNat_inj.1 (show (s.getD m 0).toNat = 34 by omega)))];have hq0 : (zG (zk (s.drop (k + 1))) 34).1 = false := by rw [<- hsp2, hdm, yJ _ e3]
      refine gg ?_;refine cA (vO s m hm hs) ?_; rintro v A ⟨⟨e, rfl, hme, he, hvl, hvr⟩, rfl⟩; refine gA ?_;have hno2 := Jc hme he hvl;rw [hsp2] at hvl hvr hno2;have ho := one_t hne hsp.symm hq0
      by_cases e4 : e = m
      ·rw [beq_iff_eq.2 (show (e : Int) = m by omega)];rw [if_pos (hno2.2 e4)] at ho;refine gg ?_;refine oT [] (encP p0).toArray ?_;refine gg ?_;refine oS (encP p0) rfl (zP _) ?_;refine gg ?_;refine ze (vs := [.agg (encP p0).toArray, .int .i64 (-1)]) [] ⟨p0, -1, rfl, rfl, .inl ⟨ho, rfl⟩⟩ (hr := by (intro κ hκ; simp only [resW, withV, lookT_hit, lookT_miss, aG]; exact zi (vs := encP p0) lkA rfl hκ))
      ·rw [beq_eq_false_iff_ne.2 (show (e : Int) ≠ m by omega)];rw [if_neg (fun h => e4 (hno2.1 h))] at ho;refine gg ?_;rw [hvl];refine gM ?_;refine oL (encP ⟨lowL (tokL (s.drop i)), tokL (zk (s.drop (k + 1))), false⟩) rfl ?_;refine gg ?_;refine oS (encP ⟨lowL (tokL (s.drop i)), tokL (zk (s.drop (k + 1))), false⟩) rfl (zP _) ?_;refine gg ?_;refine ze (vs := [.agg (encP ⟨lowL (tokL (s.drop i)), tokL (zk (s.drop (k + 1))), false⟩).toArray, .int .i64 (e)]) [] ⟨⟨lowL (tokL (s.drop i)), tokL (zk (s.drop (k + 1))), false⟩, e, rfl, rfl, .inr ⟨e, by rw [hvr]; exact ho, rfl, he⟩⟩ (hr := by (intro κ hκ; simp only [resW, withV, lookT_hit, lookT_miss, aG]; exact zi (vs := encP ⟨lowL (tokL (s.drop i)), tokL (zk (s.drop (k + 1))), false⟩) lkA rfl hκ))
    ·rw [decide_eq_false (show ¬ (m : Int) < s.length by omega)];have hq0 : (zG (zk (s.drop (k + 1))) 34).1 = false := by rw [<- hsp2, dA (by omega)]; rfl
     refine gg ?_;refine cA (vO s m hm hs) ?_; rintro v A ⟨⟨e, rfl, hme, he, hvl, hvr⟩, rfl⟩; refine gA ?_;have hno2 := Jc hme he hvl;rw [hsp2] at hvl hvr hno2;have ho := one_t hne hsp.symm hq0
     by_cases e4 : e = m
     ·rw [beq_iff_eq.2 (show (e : Int) = m by omega)];rw [if_pos (hno2.2 e4)] at ho;refine gg ?_;refine oT [] (encP p0).toArray ?_;refine gg ?_;refine oS (encP p0) rfl (zP _) ?_;refine gg ?_;refine ze (vs := [.agg (encP p0).toArray, .int .i64 (-1)]) [] ⟨p0, -1, rfl, rfl, .inl ⟨ho, rfl⟩⟩ (hr := by (intro κ hκ; simp only [resW, withV, lookT_hit, lookT_miss, aG]; exact zi (vs := encP p0) lkA rfl hκ))
     ·rw [beq_eq_false_iff_ne.2 (show (e : Int) ≠ m by omega)];rw [if_neg (fun h => e4 (hno2.1 h))] at ho;refine gg ?_;rw [hvl];refine gM ?_;refine oL (encP ⟨lowL (tokL (s.drop i)), tokL (zk (s.drop (k + 1))), false⟩) rfl ?_;refine gg ?_;refine oS (encP ⟨lowL (tokL (s.drop i)), tokL (zk (s.drop (k + 1))), false⟩) rfl (zP _) ?_;refine gg ?_;refine ze (vs := [.agg (encP ⟨lowL (tokL (s.drop i)), tokL (zk (s.drop (k + 1))), false⟩).toArray, .int .i64 (e)]) [] ⟨⟨lowL (tokL (s.drop i)), tokL (zk (s.drop (k + 1))), false⟩, e, rfl, rfl, .inr ⟨e, by rw [hvr]; exact ho, rfl, he⟩⟩ (hr := by (intro κ hκ; simp only [resW, withV, lookT_hit, lookT_miss, aG]; exact zi (vs := encP ⟨lowL (tokL (s.drop i)), tokL (zk (s.drop (k + 1))), false⟩) lkA rfl hκ))
   ·rw [bne_iff_ne.2 (show ((s.getD k 0).toNat : Int) ≠ 61 from fun h => e2 (UInt8.toNat_inj.1 (show (s.getD k 0).toNat = 61 by omega)))];refine gg ?_;refine oT [] (encP p0).toArray ?_;refine gg ?_;refine oS (encP p0) rfl (zP _) ?_;refine gg ?_;refine ze (vs := [.agg (encP p0).toArray, .int .i64 (-1)]) [] ⟨p0, -1, rfl, rfl, .inl ⟨Wf (by rw [<- hsp, hdr, yJ _ e2]), rfl⟩⟩ (hr := by (intro κ hκ; simp only [resW, withV, lookT_hit, lookT_miss, aG]; exact zi (vs := encP p0) lkA rfl hκ))
  ·rw [decide_eq_true (show (s.length : Int) <= k by omega)];refine gg ?_;refine oT [] (encP p0).toArray ?_;refine gg ?_;refine oS (encP p0) rfl (zP _) ?_;refine gg ?_;refine ze (vs := [.agg (encP p0).toArray, .int .i64 (-1)]) [] ⟨p0, -1, rfl, rfl, .inl ⟨Wf (by rw [<- hsp, dA (by omega)]; rfl), rfl⟩⟩ (hr := by (intro κ hκ; simp only [resW, withV, lookT_hit, lookT_miss, aG]; exact zi (vs := encP p0) lkA rfl hκ))
theorem Oi (s : List UInt8) (hs : s.length <= 100000) : Meets prog 119 [.string (str s)] []
  fun v A => ∃ X a k, v = .tuple #[.slice a (xr s).1.length k, .bool (xr s).2] /\ OwnR X a k (xr s).1 /\ A = [X] := by
 refine eN func119 ntmps119 results119 fun F => ?_
 refine gg ?_;refine zB ?_
 refine zz (fun q D L S => ∃ (i : Nat) (ps : List Par) (X : Chunk) (xa : Option Addr) (xc : Nat), i <= s.length /\ ps.length <= i /\ OwnR X xa xc ps /\ xr s = (ps ++ (xr (s.drop i)).1, (xr (s.drop i)).2) /\ q = s.length - i /\ D = [] /\
  L = [(5, .int .i64 i), (4, .slice xa ps.length xc), (0, .string (str s))] /\ S = [X, F])
  ⟨0, [], [], none, 0, by omega, by simp, own_nil, rfl, rfl, rfl, rfl, rfl⟩ ?_
 rintro q D L S ⟨i, ps, X, xa, xc, hi, hpl, hX, hls, rfl, rfl, rfl, rfl⟩;refine gg ?_;refine cA (rone_spec s i hi hs) ?_; rintro v A ⟨p, e, rfl, rfl, hR⟩; refine gA ?_;refine oA (encP p0).toArray fun b6 => ?_
 refine oS (encP p) rfl (zP _) ?_;refine gg ?_
 rcases hR with ⟨hn, rfl⟩ | ⟨j, ho, rfl, hj⟩
 ·rw [ZE hn, aL] at hls;rw [hls];refine gg ?_;refine ze (vs := [.slice xa ps.length xc, .bool false]) [X] ⟨X, xa, xc, rfl, hX, rfl⟩
 ·have h1l := (Zx ho).2.1;rw [aT, aT] at h1l;rw [decide_eq_false (show ¬ (j : Int) < 0 by omega)];refine gg ?_;refine oL (encP p) rfl ?_;refine zf fun K hK => ?_; refine zN (e := 137) (s := 3) (hs := inferInstance) (vs := encP p) (by rfl) (by decide) (by decide) rfl (fun b1 C1 ho1 => ?_); refine hK _ _ ?_; clear hK K
  refine zf fun K hK => ?_; refine zn (e := 137) (s := 3) (hs := inferInstance) (by rfl) (by decide) hX (.inr pkA) (ho1.rd mmA) (zP _) (by simp only [maxLen]; omega) (by omega) (fun C3 a3 cap3 ho3 => ?_); refine hK _ _ ?_; clear hK K
  have e1 : ps.length + 1 = (ps ++ [p]).length := by simp
  have e2 : ps.flatMap encP ++ encP p = (ps ++ [p]).flatMap encP := by simp
  rw [e1, e2] at ho3;rw [e1];refine gg ?_
  by_cases hjl : j = s.length
  ·rw [hjl, dR] at ho;rw [kg ho] at hls;rw [beq_iff_eq.2 (show (j : Int) = s.length by omega), hls];refine gg ?_;refine ze (vs := [.slice a3 (ps ++ [p]).length cap3, .bool true]) [C3] ⟨C3, a3, cap3, rfl, ho3, rfl⟩
  ·have hr0 : s.drop j ≠ [] := fun h => by
    have := congrArg cV h;rw [aT, aV] at this; omega
   rw [beq_eq_false_iff_ne.2 (show (j : Int) ≠ s.length by omega)];refine gg ?_;refine cA (vx s j hj hs) ?_; rintro v A ⟨⟨k, rfl, hjk, hk, hsp⟩, rfl⟩; refine gA ?_
   by_cases hkl : k < s.length
   ·have hdr := xH s k hkl;rw [decide_eq_false (show ¬ (s.length : Int) <= k by omega)];refine gg ?_
    by_cases e3 : s.getD k 0 = 44
    ·rw [e3] at hdr;rw [hdr] at hsp;rw [ZD ho hr0 (by rw [<- hsp, sign_yes]), <- hsp, sign_yes] at hls;rw [bne_eq_false_iff_eq.2 (show ((s.getD k 0).toNat : Int) = 44 by rw [e3]; rfl)];refine gg ?_;refine cA (vx s (k + 1) (by omega) hs) ?_; rintro v A ⟨⟨m, rfl, hkm, hm, hsp2⟩, rfl⟩; refine gA ?_;exact zv ⟨m, ps ++ [p], C3, a3, cap3, hm, by omega, ho3, by rw [hls, hsp2]; simp, rfl, rfl, rfl, rfl⟩
    ·rw [kf ho hr0 (by rw [<- hsp, hdr, yJ _ e3])] at hls;rw [bne_iff_ne.2 (show ((s.getD k 0).toNat : Int) ≠ 44 from fun h => e3 (UInt8.toNat_inj.1 (show (s.getD k 0).toNat = 44 by omega))), hls];refine gg ?_;refine ze (vs := [.slice a3 (ps ++ [p]).length cap3, .bool false]) [C3] ⟨C3, a3, cap3, rfl, ho3, rfl⟩
   ·rw [kf ho hr0 (by rw [<- hsp, dA (by omega)]; rfl)] at hls;rw [decide_eq_true (show (s.length : Int) <= k by omega), hls];refine gg ?_;refine ze (vs := [.slice a3 (ps ++ [p]).length cap3, .bool false]) [C3] ⟨C3, a3, cap3, rfl, ho3, rfl⟩
end Go.Proofs.YtebikhhoppiapaaGreatDoor
