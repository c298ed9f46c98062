/- Texts in a row: the walk's rules and contracts, as each says. Conditions: as each says. -/
import Derived.Test.YtebikhhoppiapaaGreatDoorMeb4cd2aa
import Derived.Test.YtebikhhoppiapaaGreatDoorMabaad0e2
set_option linter.unusedSimpArgs false
set_option linter.defProp false
set_option linter.unusedVariables false
set_option maxRecDepth 100000
set_option maxHeartbeats 8000000
open List renaming length_append -> aA, mem_cons_self -> aB, cons_append -> aC, nil_append -> aD, getElem?_eq_getElem -> aF, length_singleton -> aI, length_cons -> aJ, mem_cons_of_mem -> aK, append_nil -> aL, append_assoc -> aM, flatten_cons -> aO, replicate -> aQ, getD_eq_getElem?_getD -> aS, length_drop -> aT, length_take -> aU, length_nil -> aV, length_replicate -> aW, not_mem_nil -> aX, map_cons -> aZ, mem_cons -> bA, range -> bC, mem_append_left -> bD, length_map -> bE, take_length -> bF, flatten_append -> bG, getElem?_cons_succ -> bJ, drop_eq_getElem_cons -> bK, flatten_nil -> bO, flatMap_cons -> bP, getElem?_append_right -> bR, take_of_length_le -> bS, take_add_one -> cC, getElem?_cons_zero -> cE, perm_append_comm -> cG, flatMap_append -> cH, map_append -> cL, getElem?_toArray -> cM, getElem?_map -> cN, dropWhile_cons -> cQ, take_append_drop -> cR, getElem?_append_left -> cT, length -> cV, getElem?_take_of_lt -> cX, getD -> cY, drop_eq_nil_of_le -> dA, getElem?_modify -> dC, getElem_mem -> dD, length_set -> dF, toList_toArray -> dG, mem_singleton -> dH, all_cons -> dI, drop_drop -> dL, drop_length -> dR, map_nil -> dS
open And renaming intro -> aE
open Nat renaming reduceBEq -> aG, reduceEqDiff -> aP, le_refl -> aR, reduceSub -> bH, sub_zero -> bI, reduceLT -> bM, reduceAdd -> bQ, zero_add -> cD, mul_le_mul_right -> cF, add_mul -> cP, mod_eq_of_lt -> cU, shiftLeft_eq -> dJ, add_sub_cancel -> dK, le_trans -> dN, add_zero -> dQ, sub_self -> dT
open UInt8 renaming ofNat -> aH, toNat_ofNat' -> bL
open Bool renaming and_eq_true -> aN, true_and -> dM, false_or -> dO, or_eq_true -> dP
open Int renaming toNat_natCast -> aY, reduceToNat -> bN, reduceBEq -> bT, reduceBNe -> bU, reduceAdd -> bV, reduceSub -> bW, reduceMul -> bX, reduceDiv -> bY, reduceMod -> bZ, reducePow -> cB, reduceLT -> cJ, reduceLE -> cK
open BitVec renaming ofInt -> bB, toNat_ofNat -> cW, ofNat -> cZ
open Option renaming getD_some -> cI, map_some -> dE
open Array renaming getElem?_setIfInBounds_ne -> cO, ext' -> cS
namespace Go.Proofs.YtebikhhoppiapaaGreatDoor
open Go Go.Ost Go.Sha Tryz
theorem UF (m : Nat) : Value.int .u8 ((m : Int) % 256) = b8 (aH m) := by
 simp only [b8, bL]; congr 1
theorem wS {P : Program} {t : TypeId} {x y : Operand} {j : IntKind} {a n : Int} {κ : Value -> Prop} (h0 : 0 <= n) (h1 : n <= 64) : PureW P (do eqGuard .shr t x y (.int .i64 a) (.int j n); binOp .shr t (.int .i64 a) (.int j n)) κ = κ (.int .i64 (a / 2 ^ n.toNat)) :=
 zm (fun w => by
  have e : min n.toNat IntKind.i64.bits = n.toNat := by show min n.toNat 64 = n.toNat; omega
  have h3 : ¬ n < 0 := by omega
  show (Op.shift .shr .i64 a j n).run P w = _
  rw [Op.shift, if_neg h3, e]
  show Result.ok (Value.int .i64 (Int.fdiv a (2 ^ n.toNat))) w = _
  rw [Int.fdiv_eq_ediv_of_nonneg _ (Int.le_of_lt (Int.pow_pos (by decide)))]) κ
abbrev hib (m : Nat) : UInt8 := aH m ||| 128
theorem OA (b3 : Nat) {C : Chunk} {a : Option Addr} {cap : Nat} {out : List UInt8} (ho : Own8 5 C a out.length cap out) (hol : out.length <= 1000) (n : Nat) (hn : n < 1000000) :
  Meets prog 218 [.int .i64 n, .pointer (some ⟨b3, 0, none⟩)] [bx b3 (.slice a out.length cap) 43, C]
  fun v A => ∃ C' a' c', Own8 5 C' a' (out ++ vi n).length c' (out ++ vi n) /\ A = [bx b3 (.slice a' (out ++ vi n).length c') 43, C'] := by
 refine eN func218 ntmps218 results218 fun F => ?_
 refine gg ?_
 refine km (fun D L S => ∃ (m : Nat) (pre : List UInt8) (C : Chunk) (a : Option Addr) (cap : Nat), m < 128 /\ vi n = pre ++ vi m /\ pre.length <= 10 /\ Own8 5 C a (out ++ pre).length cap (out ++ pre) /\ D = [] /\
  L = [(0, .int .i64 m), (1, .pointer (some ⟨b3, 0, none⟩))] /\ S = [C, bx b3 (.slice a (out ++ pre).length cap) 43, F]) ?_ ?_
 ·refine zz (fun q D L S => ∃ (m : Nat) (pre : List UInt8) (C : Chunk) (a : Option Addr) (cap : Nat), m = q /\ m < 1000000 /\ vi n = pre ++ vi m /\ Own8 5 C a (out ++ pre).length cap (out ++ pre) /\ D = [] /\
   L = [(0, .int .i64 m), (1, .pointer (some ⟨b3, 0, none⟩))] /\ S = [C, bx b3 (.slice a (out ++ pre).length cap) 43, F])
   ⟨n, [], C, a, cap, rfl, hn, rfl, by rw [aL]; exact ho, rfl, rfl, by rw [aL]⟩ ?_
  rintro q D L S ⟨m, pre, C, a, cap, rfl, hm, hv, ho, rfl, rfl, rfl⟩
  have hpl : pre.length <= 4 := by
   have h1 := congrArg cV hv;have h2 := Iv 4 n (by omega) (by omega);rw [aA] at h1;omega
  refine gg ?_
  by_cases h1 : (128 : Int) <= m
  ·rw [decide_eq_true h1];have hs := wW (n := m) (by omega);refine gg ?_;rw [show Value.int .u8 (IntKind.u8.wrap (m : Int)) = b8 (aH m) from by rw [qt]; rfl];refine zf fun K hK => ?_; rw [show Value.int .u8 128 = b8 128 from rfl, Go.Ost.u8_or]; refine hK _ _ ?_; clear hK K
   refine gg ?_;refine zf fun K hK => ?_; refine zX ([hib m]) (by decide) rfl (rfl) (fun b5 C5 ho5 => ?_); refine hK _ _ ?_; clear hK K
   refine gg ?_;refine zf fun K hK => ?_; refine app8 (ho) pkA (ho5.rd mmA) (by rw [aA]; omega) (fun C6 a6 cap6 ho6 => ?_); refine hK _ _ ?_; clear hK K
   refine gg ?_;have e1 : (out ++ pre).length + 1 = (out ++ (pre ++ [hib m])).length := by simp; omega
   rw [aM, e1] at ho6;rw [e1];refine zf fun K hK => ?_; rw [wS (by decide) (by decide), show (m : Int) / 2 ^ (7 : Int).toNat = ((m / 128 : Nat) : Int) from by show (m : Int) / 128 = _; omega]; refine hK _ _ ?_; clear hK K
   refine gg ?_;exact zv ⟨m / 128, pre ++ [hib m], C6, a6, cap6, rfl, by omega, by rw [hv, hs, aM]; rfl, ho6, rfl, rfl, rfl⟩
  ·rw [decide_eq_false h1];refine gg ?_;exact mid ⟨m, pre, C, a, cap, by omega, hv, by omega, ho, rfl, rfl, rfl⟩
 rintro D L S ⟨m, pre, C, a, cap, hm, hv, hpl, ho, rfl, rfl, rfl⟩;rw [hv, Xk hm];refine gg ?_;rw [show Value.int .u8 (m : Int) = b8 (aH m) from by rw [<- UF]; congr 1; omega];refine zf fun K hK => ?_; refine zX ([aH m]) (by decide) rfl (rfl) (fun b5 C5 ho5 => ?_); refine hK _ _ ?_; clear hK K
 refine gg ?_;refine zf fun K hK => ?_; refine app8 (ho) pkA (ho5.rd mmA) (by rw [aA]; omega) (fun C6 a6 cap6 ho6 => ?_); refine hK _ _ ?_; clear hK K
 refine gg ?_;have e1 : (out ++ pre).length + 1 = (out ++ (pre ++ [aH m])).length := by simp; omega
 rw [aM, e1] at ho6;rw [e1];exact zL [bx b3 (.slice a6 (out ++ (pre ++ [aH m])).length cap6) 43, C6] ⟨C6, a6, cap6, ho6, rfl⟩
theorem mark_spec : Meets prog 219 [] [] (New8 5 frontB []) := by
 refine eN func219 ntmps219 results219 fun F => ?_
 refine gg ?_;refine zf fun K hK => ?_; refine make8 (n := 28) (by decide) (fun b1 C1 ho1 => ?_); refine hK _ _ ?_; clear hK K
 refine gg ?_;refine zf fun K hK => ?_; refine zX ([241, 84, 82, 77]) (by decide) rfl (rfl) (fun b2 C2 ho2 => ?_); refine hK _ _ ?_; clear hK K
 refine gg ?_;refine zf fun K hK => ?_
 refine yU (l := 0) ho1 pkA (ho2.rd mmA) (VF _) (by decide) (fun _ => by simp [Addr.add]) (fun C3 ho3 => ?_);refine hK _ _ ?_; clear hK K;refine gg ?_;have e3 : ((aQ 28 (0 : UInt8)).map b8).take 0 ++ ((([241, 84, 82, 77] : List UInt8).map b8).take (min 4 28) ++ ((aQ 28 (0 : UInt8)).map b8).drop (0 + min 4 28)) = frontB.map b8 := rfl;rw [e3] at ho3;refine zb ([C3]) ?_; exact ⟨_, _, _, rfl, ho3, rfl⟩
theorem yY (k : Nat) : Value.int .u8 (IntKind.u8.wrap (k : Int)) = b8 (aH k) := by rw [qt]; rfl
theorem YG {k : Nat} (h : k < 256) : Value.int .u8 (k : Int) = b8 (aH k) := by rw [<- UF]; congr 1; omega
theorem be4 (n : Nat) : be 4 n = [aH (n / 16777216), aH (n / 65536), aH (n / 256), aH n] := by
 simp [be, bC, List.range.loop]
theorem ZH (n : Nat) (hn : n < 1000000) : Meets prog 178 [.int .i64 n] [] (New8 5 (hdl n) []) := by
 refine eN func178 ntmps178 results178 fun F => ?_
 refine gg ?_;refine cA (mark_spec) ?_; rintro v A ⟨C3, a3, c3, rfl, ho3, rfl⟩; refine gA ?_;refine zf fun K hK => ?_; rw [wS (by decide) (by decide), show (n : Int) / 2 ^ (24 : Int).toNat = ((n / 16777216 : Nat) : Int) from by show (n : Int) / 16777216 = _; omega]; refine hK _ _ ?_; clear hK K
 refine gg ?_;refine zf fun K hK => ?_; rw [wS (by decide) (by decide), show (n : Int) / 2 ^ (16 : Int).toNat = ((n / 65536 : Nat) : Int) from by show (n : Int) / 65536 = _; omega]; refine hK _ _ ?_; clear hK K
 refine gg ?_;refine zf fun K hK => ?_; rw [wS (by decide) (by decide), show (n : Int) / 2 ^ (8 : Int).toNat = ((n / 256 : Nat) : Int) from by show (n : Int) / 256 = _; omega]; refine hK _ _ ?_; clear hK K
 refine gg ?_
 (try rw [YG (show n / 16777216 < 256 by omega)])
 (try rw [YG (show n / 65536 < 256 by omega)])
 (try rw [yY (n / 16777216)])
 (try rw [yY (n / 65536)])
 rw [yY (n / 256), yY n];refine zf fun K hK => ?_; refine zX ([aH (n / 16777216), aH (n / 65536), aH (n / 256), aH n]) (by decide) rfl (rfl) (fun b5 C5 ho5 => ?_); refine hK _ _ ?_; clear hK K
 refine gg ?_;refine zf fun K hK => ?_; refine app8 (ho3) pkA (ho5.rd mmA) (by decide) (fun C6 a6 cap6 ho6 => ?_); refine hK _ _ ?_; clear hK K
 rw [<- be4] at ho6;refine gg ?_;refine zb ([C6]) ?_; exact ⟨_, _, _, rfl, ho6, rfl⟩
def qb (t : Tm) : List Nat := [t.k, t.rnd, t.key.length, t.txt.length, 0]
theorem nums_lt {t : Tm} (h1 : t.k <= 10) (h2 : t.rnd <= 1000) (h3 : t.key.length <= 100000) (h4 : t.txt.length <= 100000) : ∀ n ∈ qb t, n < 1000000 := by
 intro n hn;simp only [qb, bA, aX, or_false] at hn;omega
theorem VR : ∀ l : List Nat, (∀ n ∈ l, n < 1000000) -> (l.flatMap vi).length <= 4 * l.length
 | [], _ => by simp
 | n :: l, h => by
  have h1 := Iv 4 n (by have := h n (aB ..); omega) (by omega);have h2 := VR l fun m hm => h m (aK _ hm)
  rw [bP, aA, aJ]; omega
theorem prT_nums (t : Tm) : prT t = ([(qb t).flatMap vi, t.key, t.txt, []] : List (List UInt8)).flatten := by
 simp [prT, qb]
theorem VX (t : Tm) (h1 : t.k <= 10) (h2 : t.rnd <= 1000) (h3 : t.key.length <= 100000) (h4 : t.txt.length <= 100000) {H : Chunk} {ka xa : Option Addr} {kc xc : Nat}
  (hk0 : t.key.length <= kc) (hx0 : t.txt.length <= xc) (hk : Rd 1 [H] ka t.key.length (t.key.map b8)) (hx : Rd 1 [H] xa t.txt.length (t.txt.map b8)) :
  Meets prog 177 [.agg #[.int .i64 t.k, .slice ka t.key.length kc, .slice xa t.txt.length xc, .int .i64 t.rnd, .slice none 0 0, .slice none 0 0]] [H]
  fun v A => v = .string (str (prT t)) /\ A = [H] := by
 have hnl := nums_lt h1 h2 h3 h4;rw [prT_nums];refine eN func177 ntmps177 results177 fun F => ?_
 refine gg ?_;refine oB fun b1 => ?_
 refine gg ?_;refine zf fun K hK => ?_; refine zu fun b3 => ?_; (try simp only [Value.cells]); refine hK _ _ ?_; clear hK K
 refine gg ?_;refine zf fun K hK => ?_; refine xZ rfl [.int .i64 t.k, .int .i64 t.rnd, .int .i64 t.key.length, .int .i64 t.txt.length, .int .i64 0] (by decide) rfl rfl (by simp [Value.cell1]) (fun b23 C23 ho23 => ?_); refine hK _ _ ?_; clear hK K
 refine gg ?_;have hn5 : (qb t).length = 5 := rfl;have hbl := VR (qb t) hnl;rw [hn5] at hbl;refine zB ?_
 refine km (fun D L S => ∃ (C : Chunk) (a : Option Addr) (cap : Nat), Own8 5 C a ((qb t).flatMap vi).length cap ((qb t).flatMap vi) /\ D = [] /\
  L = [(4, .func (.func 218) #[] #[.pointer (some ⟨b3, 0, none⟩)]), (3, .pointer (some ⟨b3, 0, none⟩)), (1, .pointer (some ⟨b1, 0, none⟩))] /\ S = [C, bx b3 (.slice a ((qb t).flatMap vi).length cap) 43, [(b1, .cells #[.int .i64 t.k, .slice ka t.key.length kc, .slice xa t.txt.length xc, .int .i64 t.rnd, .slice none 0 0, .slice none 0 0] 253 (0, 0))], F, H]) ?_ ?_
 ·refine zz (fun q D L S => ∃ (i : Nat) (C : Chunk) (a : Option Addr) (cap : Nat), i <= 5 /\ q = 5 - i /\ Own8 5 C a (((qb t).take i).flatMap vi).length cap (((qb t).take i).flatMap vi) /\ D = [] /\
   L = [(25, .int .i64 i), (24, .int .i64 5), (23, .slice (some ⟨b23, 0, none⟩) 5 5), (4, .func (.func 218) #[] #[.pointer (some ⟨b3, 0, none⟩)]), (3, .pointer (some ⟨b3, 0, none⟩)), (1, .pointer (some ⟨b1, 0, none⟩))] /\
   S = [C, bx b3 (.slice a (((qb t).take i).flatMap vi).length cap) 43, C23, [(b1, .cells #[.int .i64 t.k, .slice ka t.key.length kc, .slice xa t.txt.length xc, .int .i64 t.rnd, .slice none 0 0, .slice none 0 0] 253 (0, 0))], F, H])
   ⟨0, [], none, 0, by omega, rfl, own_nil, rfl, rfl, rfl⟩ ?_
  rintro q D L S ⟨i, C, a, cap, hi, rfl, ho, rfl, rfl, rfl⟩;refine gg ?_;refine if_d (fun hc => ?_) (fun hc => ?_)
  ·have hi5 : i < 5 := by omega
   have hx : (qb t)[i]? = some (qb t)[i] := aF (by rw [hn5]; exact hi5)
   have hnx : ((qb t).take (i + 1)).flatMap vi = ((qb t).take i).flatMap vi ++ vi (qb t)[i] := by
    rw [cC, hx, cH]; simp
   have hv : ([.int .i64 t.k, .int .i64 t.rnd, .int .i64 t.key.length, .int .i64 t.txt.length, .int .i64 0] : List Value)[i]? = some (.int .i64 ((qb t)[i] : Nat)) := by
    match i, hi5 with
    | 0, _ => rfl
    | 1, _ => rfl
    | 2, _ => rfl
    | 3, _ => rfl
    | 4, _ => rfl
   have hb := hnl _ (dD (l := qb t) (n := i) (by rw [hn5]; exact hi5))
   have hol : (((qb t).take i).flatMap vi).length <= 1000 := by
    have := VR ((qb t).take i) fun n hn => hnl n (List.mem_of_mem_take hn)
    rw [aU] at this; omega
   generalize (qb t)[i] = n at *;generalize ((qb t).take i).flatMap vi = out at *;refine gg ?_;rw [show (⟨b23, 0 + i * 1, none⟩ : Addr) = elA (some ⟨b23, 0, none⟩) i from by simp only [elA, cI, add_mk]; congr 1; omega];refine zf fun K hK => ?_; refine qN ho23 hv mmA ?_; refine hK _ _ ?_; clear hK K
   refine gg ?_;refine cA (OA b3 ho hol n hb) ?_; rintro v A ⟨C2, a2, c2, ho2, rfl⟩; refine gA ?_;exact zv ⟨i + 1, C2, a2, c2, by omega, rfl, by rw [hnx]; exact ho2, rfl, rfl, by rw [hnx]⟩
  ·obtain rfl : i = 5 := by omega
   rw [show (qb t).take 5 = qb t from rfl] at ho ⊢;refine gg ?_;exact mid ⟨C, a, cap, ho, rfl, rfl, rfl⟩
 rintro D L S ⟨C, a, cap, ho, rfl, rfl, rfl⟩;generalize (qb t).flatMap vi = out at *;refine gg ?_;refine zz (fun q D L S => q = 0 /\ D = [] /\ L = [(36, .int .i64 0), (35, .int .i64 0), (3, .pointer (some ⟨b3, 0, none⟩)), (1, .pointer (some ⟨b1, 0, none⟩))] /\ S = [C, bx b3 (.slice a out.length cap) 43, [(b1, .cells #[.int .i64 t.k, .slice ka t.key.length kc, .slice xa t.txt.length xc, .int .i64 t.rnd, .slice none 0 0, .slice none 0 0] 253 (0, 0))], F, H]) ⟨rfl, rfl, rfl, rfl⟩ ?_;rintro q D L S ⟨rfl, rfl, rfl, rfl⟩;refine gg ?_;refine zf fun K hK => ?_; refine xZ rfl [.slice a out.length cap, .slice ka t.key.length kc, .slice xa t.txt.length xc, .slice none 0 0] (by decide) rfl rfl (by simp [Value.cell1]) (fun b51 C51 ho51 => ?_); refine hK _ _ ?_; clear hK K
 refine gg ?_
 have hp : we [C51, C, H] (some ⟨b51, 0, none⟩) 4 [out, t.key, t.txt, []] := by
  refine ⟨rfl, _, ho51.rd (aB ..), fun i v l hv hl => ?_⟩
  match i, hv, hl with
  | 0, hv, hl => cases hv; cases hl; exact ⟨a, cap, rfl, ho.1, ho.rd (by simp)⟩
  | 1, hv, hl => cases hv; cases hl; exact ⟨ka, kc, rfl, hk0, hk.mem (by simp)⟩
  | 2, hv, hl => cases hv; cases hl; exact ⟨xa, xc, rfl, hx0, hx.mem (by simp)⟩
  | 3, hv, hl => cases hv; cases hl; exact ⟨none, 0, rfl, aR _, Rd.nil⟩
 refine cA (kh [C51, C, H] (some ⟨b51, 0, none⟩) 4 4 [out, t.key, t.txt, []] hp (by decide) (by decide) (by simp only [aO, bO, aA, aV]; omega)) ?_; rintro v A ⟨C6, a6, c6, rfl, hc6, hr6, hlo, rfl⟩; refine gA ?_;refine zf fun K hK => ?_; refine xm (hr6.mem mmA) ?_; refine hK _ _ ?_; clear hK K
 refine gg ?_;refine zb [H] ?_; exact ⟨rfl, rfl⟩
theorem Wx : Meets prog 220 [.slice none 0 0] [] fun v A => v = .slice none 0 0 /\ A = [] := by
 refine eN func220 ntmps220 results220 fun F => ?_
 refine gg ?_;refine zb [] ?_; exact ⟨rfl, rfl⟩
abbrev tmV (t : Tm) (ka : Option Addr) (kc : Nat) (xa : Option Addr) (xc : Nat) : List Value := [.int .i64 t.k, .slice ka t.key.length kc, .slice xa t.txt.length xc, .int .i64 t.rnd, .slice none 0 0, .slice none 0 0]
instance tpTm : zH prog 253 [(0, 1), (1, 1), (2, 1), (3, 1), (4, 1), (5, 1)] := ⟨by kernel_rfl⟩
theorem WN (t : Tm) (h3 : t.key.length <= 100000) (h4 : t.txt.length <= 100000) {H : Chunk} {ka xa : Option Addr} {kc xc : Nat} (hk : Rd 1 [H] ka t.key.length (t.key.map b8)) (hx : Rd 1 [H] xa t.txt.length (t.txt.map b8)) :
  Meets prog 179 [.agg (tmV t ka kc xa xc).toArray] [H] fun v A => ∃ us : List Value, us.length = 6 /\ (∀ u ∈ us, Value.cell1 u) /\ v = .agg us.toArray /\ A = [H] := by
 refine eN func179 ntmps179 results179 fun F => ?_
 refine gg ?_;refine oB fun b1 => ?_
 refine gg ?_;refine oA ([.int .i64 0, .slice none 0 0, .slice none 0 0, .int .i64 0, .slice none 0 0, .slice none 0 0] : List Value).toArray fun b2 => ?_
 (repeat (first | (with_reducible refine vv ?_) | ((with_reducible refine wq ?_); refine wp ?_)))
 (with_reducible refine Zb ?_)
 refine zB ?_;refine gg ?_;refine cdL [[0], [1], [3], [4], [6], [7], [9], [10], [2, 0, 4, 7, 10], [12], [5, 0, 7, 10], [8, 0, 10], [11, 0], [13, 0], [14], [15, 0], [16], [17, 0], [18], [19, 0]] ?_;refine gg ?_;refine zg fun K hK => ?_; refine zo (xA H ka kc t.key (by omega) hk) ?_; rintro v A ⟨C3, a3, c3, rfl, ho3, rfl⟩; refine pA hK ?_; clear hK K
 refine gg ?_;refine zg fun K hK => ?_; refine zo (xA H xa xc t.txt (by omega) hx) ?_; rintro v A ⟨C4, a4, c4, rfl, ho4, rfl⟩; refine pA hK ?_; clear hK K
 refine gg ?_;refine zg fun K hK => ?_; refine zo (Wx) ?_; rintro v A ⟨rfl, rfl⟩; refine pA hK ?_; clear hK K
 refine gg ?_;refine zg fun K hK => ?_; refine zo (xA [] none 0 [] (by decide) Rd.nil) ?_; rintro v A ⟨C5, a5, c5, rfl, ho5, rfl⟩; refine pA hK ?_; clear hK K
 refine gg ?_
 (try (refine zg fun K hK => ?_; (first | refine zZ trivial upA ?_ | refine zJ trivial upA (by simp) ?_); refine pBk hK ?_; clear hK K; refine gg ?_))
 (try (refine zg fun K hK => ?_; (first | refine zZ trivial upA ?_ | refine zJ trivial upA (by simp) ?_); refine pBk hK ?_; clear hK K; refine gg ?_))
 (try (refine zg fun K hK => ?_; (first | refine zZ trivial upA ?_ | refine zJ trivial upA (by simp) ?_); refine pBk hK ?_; clear hK K; refine gg ?_))
 (try (refine zg fun K hK => ?_; (first | refine zZ trivial upA ?_ | refine zJ trivial upA (by simp) ?_); refine pBk hK ?_; clear hK K; refine gg ?_))
 refine gM ?_
 have hc1 : ∀ u ∈ ([.int .i64 t.k, .slice a3 t.key.length c3, .slice a4 t.txt.length c4, .int .i64 t.rnd, .slice none 0 0, .slice a5 ([] : List UInt8).length c5] : List Value), Value.cell1 u := by
  intro u hu;simp only [bA, aX, or_false] at hu
  rcases hu with rfl | rfl | rfl | rfl | rfl | rfl <;> simp [Value.cell1]
 refine oL [.int .i64 t.k, .slice a3 t.key.length c3, .slice a4 t.txt.length c4, .int .i64 t.rnd, .slice none 0 0, .slice a5 ([] : List UInt8).length c5] rfl ?_;generalize hus : ([.int .i64 t.k, .slice a3 t.key.length c3, .slice a4 t.txt.length c4, .int .i64 t.rnd, .slice none 0 0, .slice a5 ([] : List UInt8).length c5] : List Value) = us at *;have hul : us.length = 6 := by rw [<- hus]; rfl
 obtain ⟨u0, u1, u2, u3, u4, u5, rfl⟩ : ∃ u0 u1 u2 u3 u4 u5, us = [u0, u1, u2, u3, u4, u5] := ⟨_, _, _, _, _, _, hus.symm⟩;clear hus;refine oS [u0, u1, u2, u3, u4, u5] rfl hc1 ?_;refine gg ?_;refine ze (vs := [.agg ([u0, u1, u2, u3, u4, u5] : List Value).toArray]) [H] ⟨[u0, u1, u2, u3, u4, u5], rfl, hc1, rfl, rfl⟩ (hr := by (intro κ hκ; simp only [resW, withV, lookT_hit, lookT_miss, aG]; exact zi (vs := [u0, u1, u2, u3, u4, u5]) lkA rfl hκ))
abbrev bxB (b : Nat) (sym : Bool) (la : Option Addr) (n lc r : Nat) : Chunk := [(b, .cells #[.bool sym, .bool false, .slice la n lc, .map (some r)] 182 (0, 0))]
theorem Yy (t : Tm) (h1 : t.k <= 10) (h2 : t.rnd <= 1000) (h3 : t.key.length <= 100000) (h4 : t.txt.length <= 100000) {H : Chunk} {ka xa : Option Addr} {kc xc : Nat}
  (hk0 : t.key.length <= kc) (hx0 : t.txt.length <= xc) (hk : Rd 1 [H] ka t.key.length (t.key.map b8)) (hx : Rd 1 [H] xa t.txt.length (t.txt.map b8))
  (b : Nat) (x : BX) (hts : x.ts.length <= 1000) {la : Option Addr} {lc r : Nat} {CL CM : Chunk} {us : List Value} (hL : Ost.Own 6 253 CL la x.ts.length lc us) (hM : xK CM r (mapT x.ts 0)) :
  Meets prog 129 [.pointer (some ⟨b, 0, none⟩), .agg (tmV t ka kc xa xc).toArray] [bxB b x.sym la x.ts.length lc r, CL, CM, H]
  fun v A => ∃ (O : Chunk) (oa : Option Addr) (oc : Nat) (la' : Option Addr) (lc' : Nat) (CL' CM' : Chunk) (us' : List Value), v = .slice oa (tagX x t).1.length oc /\ Own8 5 O oa (tagX x t).1.length oc (tagX x t).1 /\
   Ost.Own 6 253 CL' la' (tagX x t).2.ts.length lc' us' /\ xK CM' r (mapT (tagX x t).2.ts 0) /\ A = [O, bxB b x.sym la' (tagX x t).2.ts.length lc' r, CL', CM', H] := by
 have hmg := QY t x.ts 0;refine eN func129 ntmps129 results129 fun F => ?_
 refine gg ?_;refine oB fun b3 => ?_
 refine gg ?_;refine oL (tmV t ka kc xa xc) rfl ?_;refine gg ?_;refine cA (VX t h1 h2 h3 h4 hk0 hx0 hk hx) ?_; rintro v A ⟨rfl, rfl⟩; refine gA ?_;rw [hmg];unfold tagX
 cases hi : tix t x.ts 0 with
 | some i =>
  have hil := (Qn x.ts 0 i hi).2;simp only [dE, cI, Option.isSome_some];refine gg ?_;refine cA (ZH (i + 1) (by omega)) ?_; rintro v A ⟨O, oa, oc, rfl, hO, rfl⟩; refine gA ?_;refine zb [O, bxB b x.sym la x.ts.length lc r, CL, CM, H] ?_;exact ⟨O, oa, oc, la, lc, CL, CM, us, rfl, hO, hL, hM, rfl⟩
 | none =>
  simp only [Option.map_none, Option.getD_none, Option.isSome_none];refine gg ?_;rw [decide_eq_false (show ¬ (4096 : Int) <= x.ts.length by omega)];refine gg ?_;refine cdL [[0], [1], [2], [3], [4], [5], [6, 0, 4], [7, 0, 4], [8, 0], [9], [10], [11, 0]] ?_;refine gg ?_;refine qO fun K hK => ?_; refine zi (vs := tmV t ka kc xa xc) lkA rfl ?_; refine hK _ _ ?_; clear hK K
  refine gg ?_;refine zg fun K hK => ?_; refine zo (WN t h3 h4 hk hx) ?_; rintro v A ⟨us2, hul, huc, rfl, rfl⟩; refine pA hK ?_; clear hK K
  refine gg ?_;refine zg fun K hK => ?_; refine zN (e := 253) (s := 6) (hs := inferInstance) (vs := us2) (by rfl) (by decide) (by decide) hul (fun b1 C1 ho1 => ?_); refine pBk hK ?_; clear hK K
  refine gg ?_;refine zg fun K hK => ?_; refine zn (e := 253) (s := 6) (hs := inferInstance) (by rfl) (by decide) hL (.inr pkA) (ho1.rd mmA) huc (by simp only [maxLen]; omega) (by omega) (fun C3 a3 k3 ho3 => ?_); refine pBk hK ?_; clear hK K
  refine gg ?_
  (try (refine zg fun K hK => ?_; (first | refine zZ trivial upA ?_ | refine zJ trivial upA (by simp) ?_); refine pBk hK ?_; clear hK K; refine gg ?_))
  refine gM ?_;refine cdL [[0], [1], [2], [3], [4], [5], [6], [7], [8], [9], [10, 0]] ?_;refine gg ?_;refine zg fun K hK => ?_; refine JL hM pkA (fun C9 hM9 => ?_); refine pBk hK ?_; clear hK K
  refine gg ?_;have hmp := QW t x.ts 0 hi;rw [cD] at hmp;rw [hmp] at hM9;refine cA (ZH (x.ts.length + 1) (by omega)) ?_; rintro v A ⟨O, oa, oc, rfl, hO, rfl⟩; refine gA ?_;have hl1 : x.ts.length + 1 = (x.ts ++ [t]).length := by simp
  rw [hl1] at ho3 hO ⊢;refine zb [O, bxB b x.sym a3 (x.ts ++ [t]).length k3 r, C3, C9, H] ?_;exact ⟨O, oa, oc, a3, k3, C3, C9, us ++ us2, rfl, hO, ho3, hM9, rfl⟩
end Go.Proofs.YtebikhhoppiapaaGreatDoor
namespace Go.Proofs.YtebikhhoppiapaaGreatDoor
open Go Go.Ost Tryz
theorem and64 {P : Program} {t : TypeId} {x y : Operand} {a b : Int} {κ : Value -> Prop} : PureW P (do eqGuard .and t x y (.int .u64 a) (.int .u64 b); binOp .and t (.int .u64 a) (.int .u64 b)) κ = κ (.int .u64 (IntKind.u64.wrap ((bB 64 a &&& bB 64 b).toNat : Int))) :=
 zm (fun w => by rfl) κ
theorem and64_1 : IntKind.u64.wrap ((bB 64 1 &&& bB 64 4294967295).toNat : Int) = 1 := rfl
theorem and64_2 : IntKind.u64.wrap ((bB 64 64 &&& bB 64 4294967295).toNat : Int) = 64 := rfl
theorem and64_3 : IntKind.u64.wrap ((bB 64 0 &&& bB 64 4294967295).toNat : Int) = 0 := rfl
theorem OJ : Meets prog 257 [.int .u64 1, .int .u64 64] [] fun v A => v = .tuple #[.int .u64 0, .int .u64 64] /\ A = [] := by
 refine eN func257 ntmps257 results257 fun F => ?_
 refine gg ?_;refine zf fun K hK => ?_; rw [and64, and64_1]; refine hK _ _ ?_; clear hK K
 refine gg ?_;refine gg ?_;refine zf fun K hK => ?_; rw [and64, and64_2]; refine hK _ _ ?_; clear hK K
 refine gg ?_;refine zf fun K hK => ?_; rw [and64, and64_3]; refine hK _ _ ?_; clear hK K
 refine gg ?_;refine ze [] ?_; exact ⟨by kernel_rfl, rfl⟩
theorem mul_spec : Meets prog 250 [.int .u64 1, .int .u64 64] [] fun v A => v = .tuple #[.int .u64 0, .int .u64 64] /\ A = [] := by
 refine eN func250 ntmps250 results250 fun F => ?_
 refine gg ?_;refine cA (OJ) ?_; rintro v A ⟨rfl, rfl⟩; refine gA ?_;refine ze [] ?_; exact ⟨rfl, rfl⟩
theorem take_rep {α : Type} (x : α) (k : Nat) (r : List α) : (aQ k x ++ r).take k = aQ k x := by rw [List.take_left' (by simp)]
theorem KJ (H : Chunk) (a : Option Addr) (cap : Nat) (x : UInt8) (hcap : 1 <= cap) (h : Rd 1 [H] a 1 ([x].map b8)) :
  Meets prog 229 [.slice a 1 cap, .int .i64 64] [H] (New8 5 (aQ 64 x) [H]) := by
 refine eN func229 ntmps229 results229 fun F => ?_
 refine gg ?_;refine cA (mul_spec) ?_; rintro v A ⟨rfl, rfl⟩; refine gA ?_;refine zf fun K hK => ?_; refine yD func183 (by kernel_rfl) (by kernel_rfl) (by kernel_rfl) (e := Extern.BytealgMakeNoZero.makeNoZero #[3] #[43]) (by kernel_rfl) ?_
 refine Wn (e := 5) (n := 64) (by decide) (fun b1 cap1 us C1 ho1 => ?_); refine hK _ _ ?_; clear hK K;have hus : us.length = 64 := ho1.2.2.1;have ho2 := Wd ho1 (l := 0) (h' := 64) (m := 64) (by decide) (by decide) (by decide) ho1.1;have e1 : (us.drop (0 * 1)).take ((64 - 0) * 1) = us := by rw [Nat.zero_mul, List.drop_zero]; exact bS (by omega)
 rw [e1] at ho2;have hcap1 := ho1.1;refine gg ?_;generalize cutA 1 (some (⟨b1, 0, none⟩ : Addr)) 0 64 = p at *;refine zf fun K hK => ?_
 refine yU (l := 0) ho2 pkA (h.mem mmA) (by simp [Value.cell1, b8]) (by decide) (fun _ => by cases p <;> simp [Addr.add]) (fun C2 ho3 => ?_);refine hK _ _ ?_; clear hK K;refine gg ?_
 refine zz (fun q D L S => ∃ (k : Nat) (C' : Chunk) (r : List Value), 1 <= k /\ k <= 64 /\ Ost.Own 1 5 C' p 64 64 (aQ k (b8 x) ++ r) /\ q = 64 - k /\ D = [] /\
  L = [(10, .int .i64 k), (9, .slice p 64 64), (8, .int .i64 64), (7, .int .i64 64)] /\ S = [C', F, H])
  ⟨1, C2, us.drop 1, by decide, by decide, by simpa using ho3, rfl, rfl, rfl, rfl⟩ ?_
 ·rintro q D L S ⟨k, C', r, hk1, hk2, ho, rfl, rfl, rfl, rfl⟩;have hrl : (aQ k (b8 x) ++ r).length = 64 := ho.2.2.1;have hr2 : k + r.length = 64 := by simpa using hrl
  refine gg ?_;refine if_d (fun hc => ?_) (fun hc => ?_)
  ·refine gg ?_;rw [if_neg (show ¬ ((64 : Int) < k) by omega)];refine cdL [[0], [1], [2], [3], [4], [5], [6], [7, 0], [8], [9, 0]] ?_
   have hsrc : Rd 1 [C'] (cutA 1 p 0 64) k ((aQ k x).map b8) := by
    have := YT (ho.rd (S := [C']) (aB ..)) (l := 0) (h' := k) (m := 64) (by omega) (by omega) (by omega)
    simpa using this
   refine gg ?_;refine zg fun K hK => ?_
   refine yU (l := k) ho pkA (hsrc.mem mmA) (fun v hv => by simp at hv; rw [hv.2]; exact Yh x) (by omega) (fun hpos => by unfold cutA; rw [if_neg (by omega), Nat.mul_one]) (fun C3 ho3 => ?_);refine hK _ _ ?_; clear hK K
   have e2 : (aQ k (b8 x) ++ r).take k ++ (((aQ k x).map b8).take (min k (64 - k)) ++ (aQ k (b8 x) ++ r).drop (k + min k (64 - k))) = aQ (k + min k (64 - k)) (b8 x) ++ r.drop (min k (64 - k)) := by
    rw [take_rep, List.map_replicate, List.take_replicate, <- aM, List.replicate_append_replicate, show min (min k (64 - k)) k = min k (64 - k) from by omega]
    congr 1
    rw [List.drop_append]; simp
   rw [e2] at ho3;refine gg ?_;refine gg ?_;exact zv ⟨k + min k (64 - k), C3, r.drop (min k (64 - k)), by omega, by omega, ho3, rfl, rfl, rfl, rfl⟩
  ·refine gg ?_;obtain rfl : k = 64 := by omega
   obtain rfl : r = [] := List.length_eq_zero_iff.1 (by omega);rw [aL] at ho;refine zb [C', H] ?_;exact ⟨C', p, 64, by simp, by simpa [Own8] using ho, rfl⟩
open Go.Sha
theorem Zf {tg : TypeId} (G H : Chunk) (m : Nat × Nat) (hG : (3, Obj.cells (rowW odd) tg m) ∈ G) (b e : Nat) (s : St) (r : List Value) (a : Option Addr) (cap : Nat) (hcap : 64 <= cap) (bs : List UInt8) (hb : bs.length = 64) (h : Rd 1 [H] a 64 (bs.map b8)) :
  Meets prog 186 [.pointer (some ⟨b, 0, none⟩), .slice a 64 cap] [G, H, [(b, .cells (rowX s.list r) e (0, 0))]]
   fun v A => v = .tuple #[] /\ A = [G, H, [(b, .cells (rowX (Go.Sha.step odd s bs).list r) e (0, 0))]] := by
 refine eN func186 ntmps186 results186 fun F => ?_
 refine zd fun N1 hN1 => ?_
 refine rgE ?_;refine cA (Kh H a cap hcap bs hb h) ?_; rintro v A ⟨rfl, rfl⟩;refine rnE ?_;refine zf fun K hK => ?_; refine zu fun b4 => ?_; (try simp only [Value.cells]); refine hK _ _ ?_; clear hK K
 refine zf fun K hK => ?_
 refine jE (l := spr bs 0) (l' := spr bs 64) (by (repeat (first | exact Upd.one | apply Upd.next))) (xf _ _) (xf _ _) ?_;refine hK _ _ ?_; clear hK K;refine rnE ?_;refine hN1 _ _ _ ?_; clear hN1;refine zd fun N2 hN2 => ?_
 refine cdL [[0], [1], [2], [3], [4], [5], [6], [7], [8], [9], [10], [11], [12], [13], [14], [15], [16], [17], [18], [19], [20], [21], [22], [23], [24], [25], [26], [27], [28], [29], [30], [31], [32, 0, 7, 11, 15, 19, 23, 27, 31], [33, 0, 11, 15, 19, 23, 27, 31], [34, 0, 15, 19, 23, 27, 31], [35, 0, 19, 23, 27, 31], [36, 0, 23, 27, 31], [37, 0, 27, 31], [38, 0, 31], [39, 0]] ?_
 (try refine zO ?_); (try refine zq ?_)
 refine zg fun K hK => ?_; (repeat refine jG ?_); refine hK _ _ ?_; clear hK K
 (try refine zO ?_); (try refine zq ?_)
 refine zg fun K hK => ?_; (repeat refine jG ?_); refine hK _ _ ?_; clear hK K
 (try refine zO ?_); (try refine zq ?_)
 refine zg fun K hK => ?_; (repeat refine jG ?_); refine hK _ _ ?_; clear hK K
 (try refine zO ?_); (try refine zq ?_)
 refine zg fun K hK => ?_; (repeat refine jG ?_); refine hK _ _ ?_; clear hK K
 (try refine zO ?_); (try refine zq ?_)
 refine zg fun K hK => ?_; (repeat refine jG ?_); refine hK _ _ ?_; clear hK K
 (try refine zO ?_); (try refine zq ?_)
 refine zg fun K hK => ?_; (repeat refine jG ?_); refine hK _ _ ?_; clear hK K
 (try refine zO ?_); (try refine zq ?_)
 refine zg fun K hK => ?_; (repeat refine jG ?_); refine hK _ _ ?_; clear hK K
 (try refine zO ?_); (try refine zq ?_)
 refine zg fun K hK => ?_; (repeat refine jG ?_); refine hK _ _ ?_; clear hK K
 (try refine zO ?_); (try refine zq ?_)
 refine hN2 _ _ _ ?_; clear hN2;refine zd fun N3 hN3 => ?_
 refine zd fun N4 hN4 => ?_
 refine rgE ?_;refine hN4 _ _ _ ?_; clear hN4;refine zp ?_
 refine xd (fun q D L S => ∃ i : Nat, i <= 64 /\ q = 64 - i /\ D = [] /\ L = [(55, .int .i64 i), (5, b32 (qY odd (spr bs 64) i s).a), (6, b32 (qY odd (spr bs 64) i s).b), (7, b32 (qY odd (spr bs 64) i s).c), (8, b32 (qY odd (spr bs 64) i s).d), (9, b32 (qY odd (spr bs 64) i s).e), (10, b32 (qY odd (spr bs 64) i s).f), (11, b32 (qY odd (spr bs 64) i s).g), (12, b32 (qY odd (spr bs 64) i s).h), (0, .pointer (some ⟨b, 0, none⟩)), (4, .pointer (some ⟨b4, 0, none⟩))] /\
  S = [F, [(b4, .cells (rowW (spr bs 64)) 352 (0, 0))], G, H, [(b, .cells (rowX s.list r) e (0, 0))]]) ?_ ?_
 ·exact ⟨_, _, _, ⟨0, by omega, rfl, rfl, rfl, rfl⟩, by (repeat (first | exact True.intro | (refine aE ?_ ?_; (· (try simp only [evT, lookT_hit, lookT_miss, aG]); (first | done | exact rfl))))), amA⟩
 ·rintro q D L S ⟨i, hi, rfl, rfl, rfl, rfl⟩;refine zd fun N5 hN5 => ?_
  refine rgE ?_;refine hN5 _ _ _ ?_; clear hN5;refine zd fun N6 hN6 => ?_
  refine xJ (fun hc => ?_) (fun hc => ?_)
  ·have hc := of_decide_eq_true hc;refine zI ?_;refine hN6 _ _ _ ?_; clear hN6;generalize hst : qY odd (spr bs 64) i s = st;refine zd fun N7 hN7 => ?_
   refine zp ?_;refine zd fun N8 hN8 => ?_
   refine rgE ?_;refine hN8 _ _ _ ?_; clear hN8;refine zd fun N9 hN9 => ?_
   refine rgE ?_;refine cA (jr _ 6 (by decide) (by decide)) ?_; rintro v A ⟨rfl, rfl⟩;refine rnE ?_;refine cA (jr _ 11 (by decide) (by decide)) ?_; rintro v A ⟨rfl, rfl⟩;refine rnE ?_;refine cA (jr _ 25 (by decide) (by decide)) ?_; rintro v A ⟨rfl, rfl⟩;refine rnE ?_;refine hN9 _ _ _ ?_; clear hN9;refine zd fun N10 hN10 => ?_
   refine rgE ?_;refine hN10 _ _ _ ?_; clear hN10;refine zd fun N11 hN11 => ?_
   refine cdL [[0], [1], [2], [3], [4], [5], [6], [7], [8], [9], [10], [11], [12], [13, 0]] ?_
   (try refine zO ?_); (try refine zq ?_)
   refine zg fun K hK => ?_; (repeat refine jG ?_); refine hK _ _ ?_; clear hK K
   (try refine zO ?_); (try refine zq ?_)
   refine hN11 _ _ _ ?_; clear hN11;refine zd fun N12 hN12 => ?_
   refine rgE ?_;refine cA (jr _ 2 (by decide) (by decide)) ?_; rintro v A ⟨rfl, rfl⟩;refine rnE ?_;refine cA (jr _ 13 (by decide) (by decide)) ?_; rintro v A ⟨rfl, rfl⟩;refine rnE ?_;refine cA (jr _ 22 (by decide) (by decide)) ?_; rintro v A ⟨rfl, rfl⟩;refine rnE ?_;refine hN12 _ _ _ ?_; clear hN12;refine zd fun N13 hN13 => ?_
   refine rgE ?_;refine hN13 _ _ _ ?_; clear hN13;refine rgE ?_;rw [show 0 + i * 1 = i from by omega, BitVec.add_assoc _ (rot 2 st.a ^^^ rot 13 st.a ^^^ rot 22 st.a) _];subst hst;refine hN7 _ _ _ ?_; clear hN7;refine rgE ?_;exact zv ⟨i + 1, by omega, rfl, rfl, rfl, rfl⟩
  ·have hc := of_decide_eq_false hc;refine zU ?_; try simp only [Cont.then, Cont.block, Cont.noGoto, reduceIte, aP];refine hN3 _ _ _ ?_; clear hN3;obtain rfl : i = 64 := by omega
   generalize hv : qY odd (spr bs 64) 64 s = v;refine zd fun N14 hN14 => ?_
   refine rgE ?_;refine zf fun K hK => ?_
   rw [Qe rfl];refine hK _ _ ?_; clear hK K;refine rnE ?_;refine hN14 _ _ _ ?_; clear hN14;refine zp ?_
   refine xd (fun q D L S => ∃ i : Nat, i <= 8 /\ q = 8 - i /\ D = [] /\ L = [(130, .int .i64 i), (129, .agg (rowW v.list)), (0, .pointer (some ⟨b, 0, none⟩))] /\
    S = [F, G, H, [(b, .cells (rowX (mix s v i) r) e (0, 0))]]) ?_ ?_
   ·exact ⟨_, _, _, ⟨0, by omega, rfl, rfl, rfl, rfl⟩, by (repeat (first | exact True.intro | (refine aE ?_ ?_; (· (try simp only [evT, lookT_hit, lookT_miss, aG]); (first | done | exact rfl))))), amA⟩
   ·rintro q D L S ⟨i, hi, rfl, rfl, rfl, rfl⟩;refine zd fun N15 hN15 => ?_
    refine rgE ?_;refine hN15 _ _ _ ?_; clear hN15;refine zd fun N16 hN16 => ?_
    refine xJ (fun hc => ?_) (fun hc => ?_)
    ·have hc := of_decide_eq_true hc;refine zI ?_;refine hN16 _ _ _ ?_; clear hN16;refine zd fun N17 hN17 => ?_
     refine zp ?_;refine zd fun N18 hN18 => ?_
     refine rgE ?_;refine zf fun K hK => ?_
     rw [index_w (by omega) (by omega) (St.list_len v)];refine hK _ _ ?_; clear hK K;refine rnE ?_;refine hN18 _ _ _ ?_; clear hN18;refine cdL [[0], [1], [2], [3], [4], [5], [6], [7], [8], [9, 0]] ?_
     (try refine zO ?_); (try refine zq ?_)
     refine zg fun K hK => ?_; (first | ((with_reducible apply vS); (· (repeat (first | with_reducible exact Upd.one | with_reducible apply Upd.next))); (· (first | (rw [ld_len]; omega) | (rw [aW]; omega) | (rw [St.list_len]; omega) | (rw [xE]; omega) | (rw [xf]; omega) | (rw [zS _ _ _ (by omega)]; omega)))) | ((with_reducible apply wZ); (· (repeat (first | with_reducible exact Upd.one | with_reducible apply Upd.next))); (· (first | (rw [ld_len]; omega) | (rw [aW]; omega) | (rw [St.list_len]; omega) | (rw [xE]; omega) | (rw [xf]; omega) | (rw [zS _ _ _ (by omega)]; omega))))); (repeat refine jG ?_); refine hK _ _ ?_; clear hK K
     (try refine zO ?_); (try refine zq ?_)
     rw [show 0 + i * 1 = i from by omega, Uf s v i (by omega)];refine hN17 _ _ _ ?_; clear hN17;refine rgE ?_;exact zv ⟨i + 1, by omega, rfl, rfl, rfl, rfl⟩
    ·have hc := of_decide_eq_false hc;refine zU ?_; try simp only [Cont.then, Cont.block, Cont.noGoto, reduceIte, aP];obtain rfl : i = 8 := by omega
     subst hv;exact yf [G, H, [(b, .cells (rowX (mix s (qY odd (spr bs 64) 64 s) 8) r) e (0, 0))]] ⟨rfl, rfl⟩ amA
structure Blk where
 bs : List UInt8
 a : Option Addr
 H : Chunk
def text (m : List UInt8) : List UInt8 := m ++ pad m.length
theorem Yu (m : List UInt8) : (text m).length % 64 = 0 := by unfold text; rw [aA]; exact QT _
def yE (m : List UInt8) : Nat := (text m).length / 64
def isBlk (m : List UInt8) (pre : List Blk) (x : Blk) : Prop := pre.length < yE m /\ x.bs = ((text m).drop (64 * pre.length)).take 64 /\ Rd 1 [x.H] x.a 64 (x.bs.map b8)
theorem WX (p : Nat) (H : Chunk) (a : Option Addr) (cap : Nat) (m : List UInt8) (hm : m.length <= 1000000) (h : Rd 1 [H] a m.length (m.map b8)) :
  yv prog 230 [] [.pointer (some ⟨p, 0, none⟩)] (fun x : Blk => [.slice x.a 64 64]) (fun x => x.H)
  [[(p, .cells #[.slice a m.length cap] 43 (0, 0))], H] (isBlk m) (fun pre => pre.length = yE m) false := by
 refine ZG (by kernel_rfl) fun l J Jx hN hY C hC => ?_
 clear hN;refine eN func230 ntmps230 results230 fun F => ?_
 refine zd fun N1 hN1 => ?_
 refine cdL [[0], [2], [3], [4], [1, 0, 2, 3], [5, 0], [6, 0], [7, 0]] ?_
 (try refine xy ?_); (try refine zq ?_)
 refine zg fun K hK => ?_; refine xu (xA H a cap m (by omega) h) tkA ?_; rintro v A ⟨C1, a1, cap1, rfl, ho1, rfl⟩; (try simp only [aD, aC]); refine ⟨xx lkA rfl, trivial, ?_⟩; refine hK _ _ ?_; clear hK K
 (try refine xy ?_); (try refine zq ?_)
 refine zg fun K hK => ?_; refine xu (Vt m.length (by omega)) tkA ?_; rintro v A ⟨C2, a2, cap2, rfl, ho2, rfl⟩; (try simp only [aD, aC]); refine hK _ _ ?_; clear hK K
 (try refine xy ?_); (try refine zq ?_)
 have hpl : (pad m.length).length <= 72 := by rw [yh, qm]; omega
 refine jR (by simp only [cM, bJ, cE]; rfl) fun K hK => ?_; (try simp only [gos, gob, aG, if_true, reduceIte, reduceCtorEq, bM, aP, bQ, bH, cJ, cK, bT, bU, bN, bV, bW, bX, bY, bZ, cB, aY, bI, goq]); (try (simp (disch := omega) only [gow, gobw]; try simp only [gos, gob, aG, if_true, reduceIte, reduceCtorEq, bM, aP, bQ, bH, cJ, cK, bT, bU, bN, bV, bW, bX, bY, bZ, cB, aY, bI, goq])); refine app8 ho1 pkA (ho2.rd mmA) (by omega) (fun C3 a3 cap3 ho3 => ?_); refine hK _ _ ?_; clear hK K
 (try refine xy ?_); (try refine zq ?_)
 refine zg fun K hK => ?_; refine pBk hK ?_; clear hK K
 (try refine xy ?_); (try refine zq ?_)
 refine hN1 _ _ _ ?_; clear hN1;have hT : m.length + (pad m.length).length = (text m).length := by unfold text; rw [aA]
 rw [hT] at ho3 ⊢;have hmod := Yu m;refine zp ?_
 refine xd (fun q D L S => ∃ (pre : List Blk) (C' : Chunk) (a' : Option Addr) (c' : Nat), pre.length <= yE m /\ J pre C' /\ ((text m).drop (64 * pre.length)).length <= c' /\ Rd 1 [C3] a' ((text m).drop (64 * pre.length)).length (((text m).drop (64 * pre.length)).map b8) /\ q = yE m - pre.length /\ D = [] /\
  L = [(3, .slice a' ((text m).drop (64 * pre.length)).length c'), (0, .func (.yield l) #[] #[])] /\ S = [F, C', C3, [(p, .cells #[.slice a m.length cap] 43 (0, 0))], H]) ?_ ?_
 ·exact ⟨_, _, _, ⟨[], C, a3, cap3, by simp, hC, ho3.1, ho3.rd (aB ..), rfl, rfl, rfl, rfl⟩, by (repeat (first | exact True.intro | (refine aE ?_ ?_; (· (try simp only [evT, lookT_hit, lookT_miss, aG]); (first | done | exact rfl))))), amA⟩
 ·rintro q D L S ⟨pre, C', a', c', hk, hJ, hc', hr, rfl, rfl, rfl, rfl⟩;have hdl : ((text m).drop (64 * pre.length)).length = (text m).length - 64 * pre.length := aT;have hbl : yE m = (text m).length / 64 := rfl;refine zd fun N2 hN2 => ?_
  refine zd fun N3 hN3 => ?_
  refine rgE ?_;refine hN3 _ _ _ ?_; clear hN3;refine xJ (fun hc => ?_) (fun hc => ?_)
  ·have hc := of_decide_eq_true hc;have hlt : pre.length < yE m := by omega
   have hcut : Rd 1 [C3] (cutA 1 a' 0 64) 64 ((((text m).drop (64 * pre.length)).take 64).map b8) := qz hr (l := 0) (h' := 64) (m := 64) (by omega) (by omega) (by omega);have hx : isBlk m pre ⟨((text m).drop (64 * pre.length)).take 64, cutA 1 a' 0 64, C3⟩ := ⟨hlt, rfl, hcut⟩
   have e64 : ((text m).drop (64 * pre.length)).length - 64 = ((text m).drop (64 * (pre.length + 1))).length := by
    rw [aT, aT]; show (text m).length - 64 * pre.length - 64 = _; omega
   have hr2 : Rd 1 [C3] (cutA 1 a' 64 c') ((text m).drop (64 * (pre.length + 1))).length (((text m).drop (64 * (pre.length + 1))).map b8) := by
    have q := qz hr (l := 64) (h' := ((text m).drop (64 * pre.length)).length) (m := c') (by omega) (aR _) hc';rw [dL, show 64 * pre.length + 64 = 64 * (pre.length + 1) from by omega, bS (by rw [aT]; omega)] at q;rw [<- e64]; exact q
   have hc2 : ((text m).drop (64 * (pre.length + 1))).length <= c' - 64 := by
    rw [aT]; show _ <= c' - 64; omega
   refine zI ?_;refine hN2 _ _ _ ?_; clear hN2;refine zp ?_;refine zd fun N4 hN4 => ?_
   refine zd fun N5 hN5 => ?_
   refine rgE ?_;refine zf fun K hK => ?_
   refine vN (hY pre ⟨((text m).drop (64 * pre.length)).take 64, cutA 1 a' 0 64, C3⟩ hx) hJ tkA (fun C4 hJ4 => ?_) (fun C4 hJ4 => ?_)
   ·refine hK _ _ ?_; clear hK K;refine rnE ?_;refine hN5 _ _ _ ?_; clear hN5;refine vp (by (try simp only [evT, lookT_hit, lookT_miss, aG]); (first | done | exact rfl)) (zI ?_);refine hN4 _ _ _ ?_; clear hN4;refine rgE ?_;have el : (pre ++ [(⟨((text m).drop (64 * pre.length)).take 64, cutA 1 a' 0 64, C3⟩ : Blk)]).length = pre.length + 1 := by simp
    rw [e64];rw [<- el] at hr2 hc2 ⊢;exact ⟨⟨_, _, _, by rw [el]; omega, ⟨_, C4, _, _, by rw [el]; omega, hJ4, hc2, hr2, rfl, rfl, rfl, rfl⟩, by (repeat (first | exact True.intro | (refine aE ?_ ?_; (· (try simp only [evT, lookT_hit, lookT_miss, aG]); (first | done | exact rfl))))), amA⟩⟩
   ·refine hK _ _ ?_; clear hK K;refine rnE ?_;refine hN5 _ _ _ ?_; clear hN5;refine VA (by (try simp only [evT, lookT_hit, lookT_miss, aG]); (first | done | exact rfl)) ?_;refine yV ?_; try simp -implicitDefEqProofs only [Cont.then, Cont.block, Cont.noGoto, reduceIte];exact YR [C4, [(p, .cells #[.slice a m.length cap] 43 (0, 0))], H] ⟨C4, rfl, .inr ⟨pre, _, hx, hJ4⟩⟩ amA
  ·have hc := of_decide_eq_false hc;refine zU ?_; try simp only [Cont.then, Cont.block, Cont.noGoto, reduceIte, aP];exact yf [C', [(p, .cells #[.slice a m.length cap] 43 (0, 0))], H] ⟨C', rfl, .inl ⟨pre, by omega, hJ⟩⟩ amA
theorem WW (a : Option Addr) (n cap : Nat) : Meets prog 185 [.slice a n cap] []
  fun v A => ∃ p, v = .func (.func 230) #[] #[.pointer (some ⟨p, 0, none⟩)] /\ A = [[(p, .cells #[.slice a n cap] 43 (0, 0))]] := by
 refine eN func185 ntmps185 results185 fun F => ?_
 refine zd fun N1 hN1 => ?_
 refine rgE ?_;refine oB fun b1 => ?_
 refine rnE ?_;refine hN1 _ _ _ ?_; clear hN1;refine zd fun N2 hN2 => ?_
 refine rgE ?_;refine hN2 _ _ _ ?_; clear hN2;refine zM ?_;exact kO [[(b1, .cells #[.slice a n cap] 43 (0, 0))]] (by (try simp only [evT, lookT_hit, lookT_miss, aG]); (first | done | exact rfl)) ⟨b1, rfl, rfl⟩ amA
theorem YA {t0 t1 : TypeId} (G H : Chunk) (m0 m1 : Nat × Nat) (hG0 : (0, Obj.cells (rowW first.list) t0 m0) ∈ G) (hG1 : (3, Obj.cells (rowW odd) t1 m1) ∈ G) (a : Option Addr) (n c : Nat) (ls : List (List UInt8)) (hp : we [H] a n ls) (hnc : n <= c) (hn : n <= 1000000) (hlen : ls.flatten.length <= 1000000) :
  Meets prog 133 [.slice a n c] [G, H] (New8 5 (xL ls.flatten) [G, H]) := by
 refine eN func133 ntmps133 results133 fun F => ?_
 refine zd fun N1 hN1 => ?_
 refine rgE ?_;refine hN1 _ _ _ ?_; clear hN1;refine zd fun N2 hN2 => ?_
 refine xV ?_;refine zf fun K hK => ?_
 refine jO (l := first.list) (by (repeat (first | with_reducible exact Lies.one | with_reducible exact Lies.here (by assumption) | with_reducible apply Lies.next))) (St.list_len _) ?_;refine hK _ _ ?_; clear hK K;refine zf fun K hK => ?_; refine zu fun b3 => ?_; (try simp only [Value.cells]); refine hK _ _ ?_; clear hK K
 refine zf fun K hK => ?_
 refine jE (l := aQ 8 0) (l' := first.list) (by (repeat (first | exact Upd.one | apply Upd.next))) aW (St.list_len _) ?_;refine hK _ _ ?_; clear hK K;refine rnE ?_;refine hN2 _ _ _ ?_; clear hN2;refine zd fun N3 hN3 => ?_
 refine zd fun N4 hN4 => ?_
 refine rgE ?_;refine zf fun K hK => ?_
 refine xu (kh [H] a n c ls hp hnc hn (by omega)) tkA ?_; rintro v A ⟨C5, a5, cap5, rfl, hle5, hr5, _, rfl⟩; (try simp only [aD, aC]); refine hK _ _ ?_; clear hK K;refine rnE ?_;refine zf fun K hK => ?_
 refine xu (WW _ _ _) tkA ?_; rintro v A ⟨p, rfl, rfl⟩; (try simp only [aD, aC]); refine hK _ _ ?_; clear hK K;refine rnE ?_;refine hN4 _ _ _ ?_; clear hN4;refine zp ?_;have hrun : run (yE ls.flatten) first (text ls.flatten) = whole first (text ls.flatten) := rfl;refine ZS (by (try simp only [evT, lookT_hit, lookT_miss, aG]); (first | done | exact rfl)) (WX p C5 a5 cap5 ls.flatten (by omega) hr5) (by (repeat (first | exact Take.nil _ | with_reducible exact Pick.head _ _ | with_reducible apply Pick.tail | with_reducible apply Take.cons))) (fun pre C => C = [H, [(b3, .cells (rowX (run pre.length first (text ls.flatten)).list []) 321 (0, 0))], F, G]) (fun _ _ _ => False) (fun h => by cases h) (fun _ => rfl) rfl ?_ ?_ ?_
 ·rintro l F1 C r pre x hx rfl
  have hxl : x.bs.length = 64 := by
   have h1 := hx.1;have h2 := Yu ls.flatten;have h3 : yE ls.flatten = (text ls.flatten).length / 64 := rfl;rw [hx.2.1, aU, aT]; omega
  have el : (pre ++ [x]).length = pre.length + 1 := by simp
  (try simp only [aD, aC])
  (try simp only [jz, putT, bM, if_true, reduceIte, Array.toList, dG])
  refine rgE ?_;refine ⟨_, Among.refl _, fun r' _ => ?_⟩;refine zp ?_;refine rgE ?_;refine zf fun K hK => ?_
  refine xu (Zf G x.H m1 hG1 b3 321 (run pre.length first (text ls.flatten)) [] x.a 64 (by omega) x.bs hxl hx.2.2) tkA ?_; rintro v A ⟨rfl, rfl⟩; (try simp only [aD, aC]); refine hK _ _ ?_; clear hK K;rw [hx.2.1, <- wr];refine rnE ?_;refine ⟨[H, [(b3, .cells (rowX (run (pre.length + 1) first (text ls.flatten)).list []) 321 (0, 0))], F, G, x.H], ⟨[H, [(b3, .cells (rowX (run (pre.length + 1) first (text ls.flatten)).list []) 321 (0, 0))], F, G], rfl, by rw [el]⟩, amA⟩
 ·rintro d pre C hd rfl;rw [hd, hrun]
  (try simp only [aD, aC]); try simp only [Cont.then, Cont.block, Cont.noGoto, reduceIte, aP]
  refine hN3 _ _ _ ?_; clear hN3;refine zd fun N5 hN5 => ?_
  refine rgE ?_;refine cA (XW b3 _ _ _ _) ?_; rintro v A ⟨C7, a7, cap7, rfl, ho7, rfl⟩; (try simp only [aD, aC]);refine rnE ?_;refine hN5 _ _ _ ?_; clear hN5;refine zM ?_;refine ze ([C7, G, H]) ?_; exact ⟨_, _, _, rfl, ho7, rfl⟩
 ·rintro d c pre x C hx hf;exact hf.elim
theorem Qr {t0 t1 : TypeId} (G A B : Chunk) (m0 m1 : Nat × Nat) (hG0 : (0, Obj.cells (rowW first.list) t0 m0) ∈ G) (hG1 : (3, Obj.cells (rowW odd) t1 m1) ∈ G) (a : Option Addr) (n c : Nat) (ls : List (List UInt8)) (hp : we [A ++ B] a n ls) (hnc : n <= c) (hn : n <= 1000000) (hlen : ls.flatten.length <= 1000000) :
  Meets prog 133 [.slice a n c] [G, A, B] (New8 5 (xL ls.flatten) [G, A, B]) :=
 (YA G (A ++ B) m0 m1 hG0 hG1 a n c ls hp hnc hn hlen).perm (by simp) (fun v A' ⟨C, a', cap', hv, ho, hA⟩ => ⟨[C, G, A, B], by rw [hA]; simp, C, a', cap', hv, ho, rfl⟩)
theorem IQ {t0 t1 : TypeId} (G A B D : Chunk) (m0 m1 : Nat × Nat) (hG0 : (0, Obj.cells (rowW first.list) t0 m0) ∈ G) (hG1 : (3, Obj.cells (rowW odd) t1 m1) ∈ G) (a : Option Addr) (n c : Nat) (ls : List (List UInt8)) (hp : we [A ++ B ++ D] a n ls) (hnc : n <= c) (hn : n <= 1000000) (hlen : ls.flatten.length <= 1000000) :
  Meets prog 133 [.slice a n c] [G, A, B, D] (New8 5 (xL ls.flatten) [G, A, B, D]) :=
 (YA G (A ++ B ++ D) m0 m1 hG0 hG1 a n c ls hp hnc hn hlen).perm (by simp) (fun v A' ⟨C, a', cap', hv, ho, hA⟩ => ⟨[C, G, A, B, D], by rw [hA]; simp, C, a', cap', hv, ho, rfl⟩)
theorem num_spec (H : Chunk) (a : Option Addr) (len cap : Nat) (bs : List UInt8) (hm : len <= 4611686018427387904) (h : Rd 1 [H] a len (bs.map b8)) :
  Meets prog 51 [.slice a len cap] [H] fun v A => v = .int .u64 (num bs) /\ A = [H] := by
 have hl : bs.length = len := by have := h.1; simpa using this
 have hr := h.next;refine eN func51 ntmps51 results51 fun F => ?_
 have hr := hr F;refine zd fun N1 hN1 => ?_
 refine rgE ?_;refine hN1 _ _ _ ?_; clear hN1;refine zd fun N2 hN2 => ?_
 refine rgE ?_;refine hN2 _ _ _ ?_; clear hN2;refine zd fun N3 hN3 => ?_
 refine zd fun N4 hN4 => ?_
 refine rgE ?_;refine hN4 _ _ _ ?_; clear hN4;refine zp ?_;refine xd (fun q D L S => ∃ i : Nat, i <= len /\ q = len - i /\ D = [] /\ L = [(8, .int .i64 i), (7, .int .i64 len), (6, .slice a len cap), (3, .int .u64 (num (bs.take i)))] /\ S = [F, H]) ?_ ?_
 ·exact ⟨_, _, _, ⟨0, by omega, rfl, rfl, rfl, rfl⟩, by (repeat (first | exact True.intro | (refine aE ?_ ?_; (· (try simp only [evT, lookT_hit, lookT_miss, aG]); (first | done | exact rfl))))), amA⟩
 ·rintro q D L S ⟨i, hi, rfl, rfl, rfl, rfl⟩;refine zd fun N5 hN5 => ?_
  refine rgE ?_;refine hN5 _ _ _ ?_; clear hN5;refine zd fun N6 hN6 => ?_
  refine xJ (fun hc => ?_) (fun hc => ?_)
  ·have hc := of_decide_eq_true hc;refine zI ?_;refine hN6 _ _ _ ?_; clear hN6;refine zd fun N7 hN7 => ?_
   refine zp ?_;refine zd fun N8 hN8 => ?_
   refine xV ?_; (repeat ((with_reducible refine jm fun K hK => ?_); (try simp only [gos, gob, aG, if_true, reduceIte, reduceCtorEq, bM, aP, bQ, bH, cJ, cK, bT, bU, bN, bV, bW, bX, bY, bZ, cB, aY, bI]); (try (simp (disch := omega) only [gow, gobw, wH hr]; try simp only [gos, gob, aG, if_true, reduceIte, reduceCtorEq, bM, aP, bQ, bH, cJ, cK, bT, bU, bN, bV, bW, bX, bY, bZ, cB, aY, bI])); (first | (with_reducible refine hK _ _ ?_) | (refine yM hr (by omega) ?_; (with_reducible refine hK _ _ ?_)) | ((with_reducible apply xx); (· (repeat (first | with_reducible exact Lies.one | with_reducible apply Lies.next))); (with_reducible refine hK _ _ ?_)) | ((with_reducible apply zE); (· (repeat (first | with_reducible exact Lies.one | with_reducible apply Lies.next))); (· exact rfl); (with_reducible refine hK _ _ ?_))); clear hK K)); try ((with_reducible refine vv ?_); try simp only [Cont.then, Cont.block, Cont.noGoto, reduceIte, aP]);refine hN8 _ _ _ ?_; clear hN8;refine rgE ?_
   have e : IntKind.u64.wrap (IntKind.u64.wrap (((num (bs.take i) : Nat) : Int) * 256) + ((bs.getD i 0).toNat : Int)) = (num (bs.take (i + 1)) : Int) := by
    rw [vR bs i (by omega), num_snoc, show ((num (bs.take i) : Nat) : Int) * 256 = ((num (bs.take i) * 256 : Nat) : Int) from by omega, wrap64_mod, <- Int.natCast_add, wrap64_mod]
    congr 1
    omega
   rw [e];refine hN7 _ _ _ ?_; clear hN7;refine rgE ?_;exact zv ⟨i + 1, by omega, rfl, rfl, rfl, rfl⟩
  ·have hc := of_decide_eq_false hc;refine zU ?_; try simp only [Cont.then, Cont.block, Cont.noGoto, reduceIte, aP];refine hN3 _ _ _ ?_; clear hN3;obtain rfl : i = len := by omega
   rw [<- hl, bF];refine zd fun N9 hN9 => ?_
   refine rgE ?_;refine hN9 _ _ _ ?_; clear hN9;refine zM ?_;refine zb [H] ?_; exact ⟨rfl, rfl⟩
theorem QJ {tg : TypeId} (G H : Chunk) (m : Nat × Nat) (hG : (4, Obj.cells (rowW odd) tg m) ∈ G) (s : St) (a : Option Addr) (cap : Nat) (hcap : 64 <= cap) (bs : List UInt8) (hb : bs.length = 64) (h : Rd 1 [H] a 64 (bs.map b8)) :
  Meets prog 212 [.agg (rowW s.list), .slice a 64 cap] [G, H]
   fun v A => v = .agg (rowW (Go.Sha.step odd s bs).list) /\ A = [G, H] := by
 refine eN func212 ntmps212 results212 fun F => ?_
 refine zd fun N1 hN1 => ?_
 refine rgE ?_;refine zf fun K hK => ?_
 refine yr fun b2 => ?_; rw [show (Value.agg (rowW s.list)).cells = rowW s.list from rfl]; refine hK _ _ ?_; clear hK K
 refine rnE ?_;refine zf fun K hK => ?_; refine zu fun b4 => ?_; (try simp only [Value.cells]); refine hK _ _ ?_; clear hK K
 refine rnE ?_;refine hN1 _ _ _ ?_; clear hN1;refine zd fun N2 hN2 => ?_
 refine rgE ?_;refine zf fun K hK => ?_; refine zu fun b5 => ?_; (try simp only [Value.cells]); refine hK _ _ ?_; clear hK K
 refine rnE ?_;refine hN2 _ _ _ ?_; clear hN2;refine zd fun N3 hN3 => ?_
 refine zd fun N4 hN4 => ?_
 refine rgE ?_;refine hN4 _ _ _ ?_; clear hN4;refine zp ?_
 refine xd (fun q D L S => ∃ i : Nat, i <= 64 /\ q = 64 - i /\ D = [] /\ L = [(6, .int .i64 i), (1, .slice a 64 cap), (5, .pointer (some ⟨b5, 0, none⟩)), (2, .pointer (some ⟨b2, 0, none⟩)), (4, .pointer (some ⟨b4, 0, none⟩))] /\
  S = [[(b5, .cells (rowW (spr bs i)) 352 (0, 0))], F, G, H, [(b2, .cells (rowW s.list) 303 (0, 0))], [(b4, .cells (rowW (aQ 8 0)) 303 (0, 0))]]) ?_ ?_
 ·exact ⟨_, _, _, ⟨0, by omega, rfl, rfl, rfl, rfl⟩, by (repeat (first | exact True.intro | (refine aE ?_ ?_; (· (try simp only [evT, lookT_hit, lookT_miss, aG]); (first | done | exact rfl))))), amA⟩
 ·rintro q D L S ⟨i, hi, rfl, rfl, rfl, rfl⟩;refine zd fun N5 hN5 => ?_
  refine zd fun N6 hN6 => ?_
  refine rgE ?_;refine hN6 _ _ _ ?_; clear hN6;refine xJ (fun hc => ?_) (fun hc => ?_)
  ·have hc := of_decide_eq_true hc;refine zI ?_;refine hN5 _ _ _ ?_; clear hN5;refine zd fun N7 hN7 => ?_
   refine zp ?_;refine zd fun N8 hN8 => ?_
   refine zd fun N9 hN9 => ?_
   refine rgE ?_;refine hN9 _ _ _ ?_; clear hN9;refine xJ (fun hc => ?_) (fun hc => ?_)
   ·have hc := of_decide_eq_true hc;refine zd fun N10 hN10 => ?_
    refine rgE ?_;refine cA (num_spec H _ _ _ _ (by omega) (qz h (l := (4 * (i : Int)).toNat) (h' := (4 * (i : Int) + 4).toNat) (m := cap) (by omega) (by omega) (by omega))) ?_; rintro v A ⟨rfl, rfl⟩;refine zf fun K hK => ?_
    have e : IntKind.u32.wrap ((num ((bs.drop (4 * (i : Int)).toNat).take ((4 * (i : Int) + 4).toNat - (4 * (i : Int)).toNat)) : Nat) : Int) = (wordAt bs (4 * i)).toNat := by
     rw [show (4 * (i : Int) + 4).toNat - (4 * (i : Int)).toNat = 4 from by omega, show (4 * (i : Int)).toNat = 4 * i from by omega, wrap32_mod, <- num4 bs (4 * i) (by omega)]
     rfl
    rw [e, show Value.int .u32 ((wordAt bs (4 * i)).toNat : Int) = b32 (wordAt bs (4 * i)) from rfl];refine hK _ _ ?_; clear hK K
    (try refine runv_to ?_); (try refine jg ?_)
    have e : (spr bs i).set (0 + i * 1) (wordAt bs (4 * i)) = spr bs (i + 1) := by
     rw [show 0 + i * 1 = i from by omega];simp only [spr]; rw [if_pos (by omega)]
    rw [e];refine hN10 _ _ _ ?_; clear hN10;refine zU ?_; try simp only [Cont.then, Cont.block, Cont.noGoto, reduceIte, aP];refine hN7 _ _ _ ?_; clear hN7;refine rgE ?_;exact zv ⟨i + 1, by omega, rfl, rfl, rfl, rfl⟩
   ·have hc := of_decide_eq_false hc;refine zI ?_;refine hN8 _ _ _ ?_; clear hN8;refine zd fun N11 hN11 => ?_
    refine cdL [[0], [1], [2], [3], [5], [6], [7], [8], [11], [12], [13], [14], [15], [4, 0, 8, 14], [9, 0, 14], [10], [16], [17, 0]] ?_
    (try refine zO ?_); (try refine zq ?_)
    refine zg fun K hK => ?_; refine zo (jq _ 7 (by decide)) ?_; rintro v A ⟨rfl, rfl⟩; (try simp only [aD, aC]); (repeat refine jG ?_); refine hK _ _ ?_; clear hK K
    (try refine zO ?_); (try refine zq ?_)
    refine zg fun K hK => ?_; refine zo (jq _ 18 (by decide)) ?_; rintro v A ⟨rfl, rfl⟩; (try simp only [aD, aC]); (repeat refine jG ?_); refine hK _ _ ?_; clear hK K
    (try refine zO ?_); (try refine zq ?_)
    refine zg fun K hK => ?_; (repeat refine jG ?_); refine hK _ _ ?_; clear hK K
    (try refine xy ?_); (try refine zq ?_)
    refine hN11 _ _ _ ?_; clear hN11;refine zd fun N12 hN12 => ?_
    refine cdL [[0], [1], [2], [3], [5], [6], [7], [8], [11], [12], [13], [14], [15], [4, 0, 8, 14], [9, 0, 14], [10], [16], [17, 0]] ?_
    (try refine zO ?_); (try refine zq ?_)
    refine zg fun K hK => ?_; refine zo (jq _ 17 (by decide)) ?_; rintro v A ⟨rfl, rfl⟩; (try simp only [aD, aC]); (repeat refine jG ?_); refine hK _ _ ?_; clear hK K
    (try refine zO ?_); (try refine zq ?_)
    refine zg fun K hK => ?_; refine zo (jq _ 19 (by decide)) ?_; rintro v A ⟨rfl, rfl⟩; (try simp only [aD, aC]); (repeat refine jG ?_); refine hK _ _ ?_; clear hK K
    (try refine zO ?_); (try refine zq ?_)
    refine zg fun K hK => ?_; (repeat refine jG ?_); refine hK _ _ ?_; clear hK K
    (try refine xy ?_); (try refine zq ?_)
    refine hN12 _ _ _ ?_; clear hN12;refine cdL [[0], [1], [2], [3], [4], [5], [6], [7], [8], [9], [10], [11], [12], [13], [14], [15, 0]] ?_
    (try refine zO ?_); (try refine zq ?_)
    refine zg fun K hK => ?_; (first | ((with_reducible apply vS); (· (repeat (first | with_reducible exact Upd.one | with_reducible apply Upd.next))); (· (first | (rw [ld_len]; omega) | (rw [aW]; omega) | (rw [St.list_len]; omega) | (rw [xE]; omega) | (rw [xf]; omega) | (rw [zS _ _ _ (by omega)]; omega)))) | ((with_reducible apply wZ); (· (repeat (first | with_reducible exact Upd.one | with_reducible apply Upd.next))); (· (first | (rw [ld_len]; omega) | (rw [aW]; omega) | (rw [St.list_len]; omega) | (rw [xE]; omega) | (rw [xf]; omega) | (rw [zS _ _ _ (by omega)]; omega))))); (repeat refine jG ?_); refine hK _ _ ?_; clear hK K
    (try refine xy ?_); (try refine zq ?_)
    rw [show 0 + i * 1 = i from by omega, show 0 + ((i : Int) - 16).toNat * 1 = i - 16 from by omega, show 0 + ((i : Int) - 15).toNat * 1 = i - 15 from by omega, show 0 + ((i : Int) - 7).toNat * 1 = i - 7 from by omega, show 0 + ((i : Int) - 2).toNat * 1 = i - 2 from by omega];refine hN7 _ _ _ ?_; clear hN7
    have e : (spr bs i).set i (s1 ((spr bs i).getD (i - 2) 0) + (spr bs i).getD (i - 7) 0 + s0 ((spr bs i).getD (i - 15) 0) + (spr bs i).getD (i - 16) 0) = spr bs (i + 1) := by
     simp only [spr]; rw [if_neg (by omega)]
     congr 1
     simp only [nxt]; ac_rfl
    refine qH (L' := [(6, .int .i64 i), (1, .slice a 64 cap), (5, .pointer (some ⟨b5, 0, none⟩)), (2, .pointer (some ⟨b2, 0, none⟩)), (4, .pointer (some ⟨b4, 0, none⟩))])
     (S' := [[(b5, .cells (rowW ((spr bs i).set i (s1 ((spr bs i).getD (i - 2) 0) + (spr bs i).getD (i - 7) 0 + s0 ((spr bs i).getD (i - 15) 0) + (spr bs i).getD (i - 16) 0))) 352 (0, 0))], F, G, H, [(b2, .cells (rowW s.list) 303 (0, 0))], [(b4, .cells (rowW (aQ 8 0)) 303 (0, 0))]]) (by (repeat (first | exact True.intro | (refine aE ?_ ?_; (· (try simp only [evT, lookT_hit, lookT_miss, aG]); (first | done | exact rfl)))))) amA ?_
    rw [e];refine rgE ?_;exact zv ⟨i + 1, by omega, rfl, rfl, rfl, rfl⟩
  ·have hc := of_decide_eq_false hc;refine zU ?_; try simp only [Cont.then, Cont.block, Cont.noGoto, reduceIte, aP];refine hN3 _ _ _ ?_; clear hN3;obtain rfl : i = 64 := by omega
   refine zd fun N13 hN13 => ?_
   refine xV ?_;refine zf fun K hK => ?_
   refine jO lkA (St.list_len _) ?_;refine hK _ _ ?_; clear hK K;refine zf fun K hK => ?_; refine zu fun b9 => ?_; (try simp only [Value.cells]); refine hK _ _ ?_; clear hK K
   refine zf fun K hK => ?_
   refine jE (l := aQ 8 0) (l' := s.list) (by (repeat (first | exact Upd.one | apply Upd.next))) rfl rfl ?_;refine hK _ _ ?_; clear hK K;refine rnE ?_;refine hN13 _ _ _ ?_; clear hN13;refine zd fun N14 hN14 => ?_
   refine zd fun N15 hN15 => ?_
   refine rgE ?_;refine hN15 _ _ _ ?_; clear hN15;refine zp ?_
   refine xd (fun q D L S => ∃ i : Nat, i <= 64 /\ q = 64 - i /\ D = [] /\ L = [(10, .int .i64 i), (5, .pointer (some ⟨b5, 0, none⟩)), (2, .pointer (some ⟨b2, 0, none⟩)), (4, .pointer (some ⟨b4, 0, none⟩)), (9, .pointer (some ⟨b9, 0, none⟩))] /\
    S = [[(b9, .cells (rowW (qY odd (spr bs 64) i s).list) 303 (0, 0))], [(b5, .cells (rowW (spr bs 64)) 352 (0, 0))], F, G, H, [(b2, .cells (rowW s.list) 303 (0, 0))], [(b4, .cells (rowW (aQ 8 0)) 303 (0, 0))]]) ?_ ?_
   ·exact ⟨_, _, _, ⟨0, by omega, rfl, rfl, rfl, rfl⟩, by (repeat (first | exact True.intro | (refine aE ?_ ?_; (· (try simp only [evT, lookT_hit, lookT_miss, aG]); (first | done | exact rfl))))), amA⟩
   ·rintro q D L S ⟨i, hi, rfl, rfl, rfl, rfl⟩;refine zd fun N16 hN16 => ?_
    refine zd fun N17 hN17 => ?_
    refine rgE ?_;refine hN17 _ _ _ ?_; clear hN17;refine xJ (fun hc => ?_) (fun hc => ?_)
    ·have hc := of_decide_eq_true hc;refine zI ?_;refine hN16 _ _ _ ?_; clear hN16;have hnext : qY odd (spr bs 64) (i + 1) s = turn (odd.getD i 0) ((spr bs 64).getD i 0) (qY odd (spr bs 64) i s) := rfl;generalize qY odd (spr bs 64) i s = st at hnext ⊢;refine zd fun N18 hN18 => ?_
     refine zp ?_;refine zd fun N19 hN19 => ?_
     refine Jy ?_; (try refine jg ?_);refine hN19 _ _ _ ?_; clear hN19;refine zd fun N20 hN20 => ?_
     refine cdL [[0], [1], [2], [4], [7], [11], [12], [13], [14], [15], [16], [17], [18], [19], [20], [22], [23], [24], [26], [27], [28], [3, 0, 1, 13, 18, 24, 28], [5, 0, 1, 13, 18, 24, 28], [6], [8, 0, 1, 13, 18, 24, 28], [9], [10], [21], [25], [29], [30, 0]] ?_
     (try refine zO ?_); (try refine zq ?_)
     refine zg fun K hK => ?_; refine zo (jq _ 6 (by decide)) ?_; rintro v A ⟨rfl, rfl⟩; (try simp only [aD, aC]); (repeat refine jG ?_); refine hK _ _ ?_; clear hK K
     (try refine zO ?_); (try refine zq ?_)
     refine zg fun K hK => ?_; refine zo (jq _ 11 (by decide)) ?_; rintro v A ⟨rfl, rfl⟩; (try simp only [aD, aC]); (repeat refine jG ?_); refine hK _ _ ?_; clear hK K
     (try refine zO ?_); (try refine zq ?_)
     refine zg fun K hK => ?_; refine zo (jq _ 25 (by decide)) ?_; rintro v A ⟨rfl, rfl⟩; (try simp only [aD, aC]); (repeat refine jG ?_); refine hK _ _ ?_; clear hK K
     (try refine zO ?_); (try refine zq ?_)
     refine zg fun K hK => ?_; (repeat refine jG ?_); refine hK _ _ ?_; clear hK K
     (try refine xy ?_); (try refine zq ?_)
     refine hN20 _ _ _ ?_; clear hN20;refine zd fun N21 hN21 => ?_
     refine Jy ?_; (try refine jg ?_);refine hN21 _ _ _ ?_; clear hN21;refine zd fun N22 hN22 => ?_
     refine cdL [[0], [2], [5], [8], [9], [10], [11], [12], [13], [14], [15], [16], [17], [18], [19], [20], [21], [22], [1, 0, 10, 14, 18, 20], [3, 0, 10, 14, 18, 20], [4], [6, 0, 10, 14, 18, 20], [7], [23], [24, 0]] ?_
     (try refine zO ?_); (try refine zq ?_)
     refine zg fun K hK => ?_; refine zo (jq _ 2 (by decide)) ?_; rintro v A ⟨rfl, rfl⟩; (try simp only [aD, aC]); (repeat refine jG ?_); refine hK _ _ ?_; clear hK K
     (try refine zO ?_); (try refine zq ?_)
     refine zg fun K hK => ?_; refine zo (jq _ 13 (by decide)) ?_; rintro v A ⟨rfl, rfl⟩; (try simp only [aD, aC]); (repeat refine jG ?_); refine hK _ _ ?_; clear hK K
     (try refine zO ?_); (try refine zq ?_)
     refine zg fun K hK => ?_; refine zo (jq _ 22 (by decide)) ?_; rintro v A ⟨rfl, rfl⟩; (try simp only [aD, aC]); (repeat refine jG ?_); refine hK _ _ ?_; clear hK K
     (try refine zO ?_); (try refine zq ?_)
     refine zg fun K hK => ?_; (repeat refine jG ?_); refine hK _ _ ?_; clear hK K
     (try refine xy ?_); (try refine zq ?_)
     refine hN22 _ _ _ ?_; clear hN22;refine Jy ?_; (try refine jg ?_);refine zf fun K hK => ?_
     rw [Qe rfl];refine hK _ _ ?_; clear hK K;refine zf fun K hK => ?_
     rw [show 0 + i * 1 = i from by omega];simp only [St.get0, St.get1, St.get2, St.get3, St.get4, St.get5, St.get6, St.get7];rw [ID];refine jE (l := st.list) (l' := (turn (odd.getD i 0) ((spr bs 64).getD i 0) st).list) upA (St.list_len _) (St.list_len _) ?_;refine hK _ _ ?_; clear hK K;refine rnE ?_;rw [<- hnext];refine hN18 _ _ _ ?_; clear hN18;refine qH (L' := [(10, .int .i64 i), (5, .pointer (some ⟨b5, 0, none⟩)), (2, .pointer (some ⟨b2, 0, none⟩)), (4, .pointer (some ⟨b4, 0, none⟩)), (9, .pointer (some ⟨b9, 0, none⟩))]) (S' := [[(b9, .cells (rowW (qY odd (spr bs 64) (i + 1) s).list) 303 (0, 0))], [(b5, .cells (rowW (spr bs 64)) 352 (0, 0))], F, G, H, [(b2, .cells (rowW s.list) 303 (0, 0))], [(b4, .cells (rowW (aQ 8 0)) 303 (0, 0))]]) (by (repeat (first | exact True.intro | (refine aE ?_ ?_; (· (try simp only [evT, lookT_hit, lookT_miss, aG]); (first | done | exact rfl)))))) (by (repeat (first | with_reducible exact Among.nil _ | with_reducible exact Pick.head _ _ | with_reducible apply Pick.tail | with_reducible apply Among.cons))) ?_;refine rgE ?_;exact zv ⟨i + 1, by omega, rfl, rfl, rfl, rfl⟩
    ·have hc := of_decide_eq_false hc;refine zU ?_; try simp only [Cont.then, Cont.block, Cont.noGoto, reduceIte, aP];refine hN14 _ _ _ ?_; clear hN14;obtain rfl : i = 64 := by omega
     generalize hv : qY odd (spr bs 64) 64 s = v;refine zd fun N23 hN23 => ?_
     refine zd fun N24 hN24 => ?_
     refine rgE ?_;refine hN24 _ _ _ ?_; clear hN24;refine zp ?_
     refine xd (fun q D L S => ∃ i : Nat, i <= 8 /\ q = 8 - i /\ D = [] /\ L = [(165, .int .i64 i), (2, .pointer (some ⟨b2, 0, none⟩)), (4, .pointer (some ⟨b4, 0, none⟩)), (9, .pointer (some ⟨b9, 0, none⟩))] /\
      S = [[(b2, .cells (rowW (mix s v i)) 303 (0, 0))], [(b9, .cells (rowW v.list) 303 (0, 0))], F, G, H, [(b4, .cells (rowW (aQ 8 0)) 303 (0, 0))]]) ?_ ?_
     ·exact ⟨_, _, _, ⟨0, by omega, rfl, rfl, rfl, rfl⟩, by (repeat (first | exact True.intro | (refine aE ?_ ?_; (· (try simp only [evT, lookT_hit, lookT_miss, aG]); (first | done | exact rfl))))), amA⟩
     ·rintro q D L S ⟨i, hi, rfl, rfl, rfl, rfl⟩;refine zd fun N25 hN25 => ?_
      refine rgE ?_;refine hN25 _ _ _ ?_; clear hN25;refine zd fun N26 hN26 => ?_
      refine xJ (fun hc => ?_) (fun hc => ?_)
      ·have hc := of_decide_eq_true hc;refine zI ?_;refine hN26 _ _ _ ?_; clear hN26;refine zd fun N27 hN27 => ?_
       refine zp ?_;refine zd fun N28 hN28 => ?_
       refine rgE ?_;refine hN28 _ _ _ ?_; clear hN28;refine cdL [[0], [1], [2], [3], [4], [5], [6], [7], [8, 0]] ?_
       (try refine zO ?_); (try refine zq ?_)
       refine zg fun K hK => ?_; (first | ((with_reducible apply vS); (· (repeat (first | with_reducible exact Upd.one | with_reducible apply Upd.next))); (· (first | (rw [ld_len]; omega) | (rw [aW]; omega) | (rw [St.list_len]; omega) | (rw [xE]; omega) | (rw [xf]; omega) | (rw [zS _ _ _ (by omega)]; omega)))) | ((with_reducible apply wZ); (· (repeat (first | with_reducible exact Upd.one | with_reducible apply Upd.next))); (· (first | (rw [ld_len]; omega) | (rw [aW]; omega) | (rw [St.list_len]; omega) | (rw [xE]; omega) | (rw [xf]; omega) | (rw [zS _ _ _ (by omega)]; omega))))); (repeat refine jG ?_); refine hK _ _ ?_; clear hK K
       (try refine xy ?_); (try refine zq ?_)
       rw [show 0 + i * 1 = i from by omega, Uf s v i (by omega)];refine hN27 _ _ _ ?_; clear hN27;refine rgE ?_;exact zv ⟨i + 1, by omega, rfl, rfl, rfl, rfl⟩
      ·have hc := of_decide_eq_false hc;refine zU ?_; try simp only [Cont.then, Cont.block, Cont.noGoto, reduceIte, aP];refine hN23 _ _ _ ?_; clear hN23;obtain rfl : i = 8 := by omega
       subst hv;refine zd fun N29 hN29 => ?_
       refine xV ?_;refine zf fun K hK => ?_
       refine jO lkA (zS _ _ _ (by omega)) ?_;refine hK _ _ ?_; clear hK K;refine zf fun K hK => ?_
       refine jE (l := aQ 8 0) (l' := mix s (qY odd (spr bs 64) 64 s) 8) upA aW (zS _ _ _ (by omega)) ?_;refine hK _ _ ?_; clear hK K;refine rnE ?_;refine hN29 _ _ _ ?_; clear hN29;refine zM ?_;refine ⟨_, by simp only [ji, aZ, dS]; (repeat (first | with_reducible exact Take.nil _ | with_reducible exact Pick.head _ _ | with_reducible apply Pick.tail | with_reducible apply Take.cons)), ?_⟩; simp only [resW, withV, lookT_hit, lookT_miss, aG]; refine jO lkA (zS _ _ _ (by omega)) ?_; exact ⟨[G, H], ⟨rfl, rfl⟩, amA⟩
theorem JV : Meets prog 168 [] [] fun v A => v = .agg (rowW first.list) /\ A = [] := by
 refine eN func168 ntmps168 results168 fun F => ?_
 refine zd fun N1 hN1 => ?_
 refine rgE ?_;refine zf fun K hK => ?_; refine zu fun b0 => ?_; (try simp only [Value.cells]); refine hK _ _ ?_; clear hK K
 refine rnE ?_;refine hN1 _ _ _ ?_; clear hN1;refine zd fun N2 hN2 => ?_
 refine rgE ?_;refine zf fun K hK => ?_
 refine (Qe (κ := _) (a := 1779033703) (b := 3144134277) (c := 1013904242) (d := 2773480762) (e' := 1359893119) (f := 2600822924) (g := 528734635) (h' := 1541459225) rfl).mpr ?_;refine hK _ _ ?_; clear hK K;refine zf fun K hK => ?_
 refine jE (l := aQ 8 0) (l' := first.list) (by (repeat (first | exact Upd.one | apply Upd.next))) aW (St.list_len _) ?_;refine hK _ _ ?_; clear hK K;refine rnE ?_;refine hN2 _ _ _ ?_; clear hN2;refine zM ?_;refine ⟨_, by simp only [ji, aZ, dS]; (repeat (first | with_reducible exact Take.nil _ | with_reducible exact Pick.head _ _ | with_reducible apply Pick.tail | with_reducible apply Take.cons)), ?_⟩; simp only [resW, withV, lookT_hit, lookT_miss, aG]; refine jO lkA (St.list_len _) ?_; exact ⟨[], ⟨rfl, rfl⟩, amA⟩
theorem go_spec {tg : TypeId} (G H : Chunk) (m : Nat × Nat) (hG : (4, Obj.cells (rowW odd) tg m) ∈ G) (s : St) (a : Option Addr) (cap : Nat) (bs : List UInt8) (hb : bs.length <= 70368744177664) (hcap : bs.length <= cap) (h : Rd 1 [H] a bs.length (bs.map b8)) :
  Meets prog 167 [.agg (rowW s.list), .slice a bs.length cap] [G, H]
   fun v A => ∃ a' c', v = .tuple #[.agg (rowW (whole s bs).list), .slice a' (bs.drop (64 * (bs.length / 64))).length c'] /\ Rd 1 [H] a' (bs.drop (64 * (bs.length / 64))).length ((bs.drop (64 * (bs.length / 64))).map b8) /\ A = [G, H] := by
 refine eN func167 ntmps167 results167 fun F => ?_
 refine zd fun N1 hN1 => ?_
 refine rgE ?_;refine zf fun K hK => ?_
 refine yr fun b2 => ?_; rw [show (Value.agg (rowW s.list)).cells = rowW s.list from rfl]; refine hK _ _ ?_; clear hK K
 refine rnE ?_;refine zf fun K hK => ?_; refine zu fun b4 => ?_; (try simp only [Value.cells]); refine hK _ _ ?_; clear hK K
 refine rnE ?_;refine hN1 _ _ _ ?_; clear hN1;refine zd fun N2 hN2 => ?_
 refine zp ?_
 refine xd (fun q D L S => ∃ (i : Nat) (a' : Option Addr) (c' : Nat), 64 * i <= bs.length /\ (bs.drop (64 * i)).length <= c' /\ Rd 1 [H] a' (bs.drop (64 * i)).length ((bs.drop (64 * i)).map b8) /\ q = bs.length - 64 * i /\ D = [] /\ L = [(1, .slice a' (bs.drop (64 * i)).length c'), (2, .pointer (some ⟨b2, 0, none⟩)), (4, .pointer (some ⟨b4, 0, none⟩))] /\
  S = [F, G, H, [(b2, .cells (rowW (run i s bs).list) 303 (0, 0))], [(b4, .cells (rowW (aQ 8 0)) 303 (0, 0))]]) ?_ ?_
 ·exact ⟨_, _, _, ⟨0, a, cap, by omega, hcap, h, rfl, rfl, rfl, rfl⟩, by (repeat (first | exact True.intro | (refine aE ?_ ?_; (· (try simp only [evT, lookT_hit, lookT_miss, aG]); (first | done | exact rfl))))), amA⟩
 ·rintro q D L S ⟨i, a', c', hi, hc', hr, rfl, rfl, rfl, rfl⟩;have hdl : (bs.drop (64 * i)).length = bs.length - 64 * i := aT;refine zd fun N3 hN3 => ?_
  refine zd fun N4 hN4 => ?_
  refine rgE ?_;refine hN4 _ _ _ ?_; clear hN4;refine xJ (fun hc => ?_) (fun hc => ?_)
  ·have hc := of_decide_eq_true hc;refine zI ?_;refine hN3 _ _ _ ?_; clear hN3;refine zp ?_;have hcut : Rd 1 [H] (cutA 1 a' 0 c') 64 (((bs.drop (64 * i)).take 64).map b8) := qz hr (l := 0) (h' := 64) (m := c') (by omega) (by omega) (by omega)
   have e64 : (bs.drop (64 * i)).length - 64 = (bs.drop (64 * (i + 1))).length := by
    rw [aT, aT]; show bs.length - 64 * i - 64 = _; omega
   have hr2 : Rd 1 [H] (cutA 1 a' 64 c') (bs.drop (64 * (i + 1))).length ((bs.drop (64 * (i + 1))).map b8) := by
    have q := qz hr (l := 64) (h' := (bs.drop (64 * i)).length) (m := c') (by omega) (aR _) hc';rw [dL, show 64 * i + 64 = 64 * (i + 1) from by omega, bS (by rw [aT]; omega)] at q;rw [<- e64]; exact q
   have hc2 : (bs.drop (64 * (i + 1))).length <= c' - 64 := by
    rw [aT]; show _ <= c' - 64; omega
   refine cdL [[0], [1], [2], [4], [5], [3, 0], [6, 0], [7, 0]] ?_;refine qO fun K hK => ?_; refine jO lkA (St.list_len _) ?_; (with_reducible refine hK _ _ ?_); clear hK K
   (try refine xy ?_); (try refine zq ?_)
   refine jR (by simp only [cM, bJ, cE]; rfl) fun K hK => ?_; (try simp only [gos, gob, aG, if_true, reduceIte, reduceCtorEq, bM, aP, bQ, bH, cJ, cK, bT, bU, bN, bV, bW, bX, bY, bZ, cB, aY, bI, goq]); (try (simp (disch := omega) only [gow, gobw]; try simp only [gos, gob, aG, if_true, reduceIte, reduceCtorEq, bM, aP, bQ, bH, cJ, cK, bT, bU, bN, bV, bW, bX, bY, bZ, cB, aY, bI, goq])); refine xu (QJ G H m hG (run i s bs) (cutA 1 a' 0 c') (c' - 0) (by omega) ((bs.drop (64 * i)).take 64) (by rw [aU]; omega) hcut) tkA ?_; rintro v A ⟨rfl, rfl⟩; (try simp only [aD, aC]); refine hK _ _ ?_; clear hK K
   rw [<- wr]
   (try refine xy ?_); (try refine zq ?_)
   refine jR (by simp only [cM, bJ, cE]; rfl) fun K hK => ?_; (try simp only [gos, gob, aG, if_true, reduceIte, reduceCtorEq, bM, aP, bQ, bH, cJ, cK, bT, bU, bN, bV, bW, bX, bY, bZ, cB, aY, bI, goq]); (try (simp (disch := omega) only [gow, gobw]; try simp only [gos, gob, aG, if_true, reduceIte, reduceCtorEq, bM, aP, bQ, bH, cJ, cK, bT, bU, bN, bV, bW, bX, bY, bZ, cB, aY, bI, goq])); refine jE (l := (run i s bs).list) (l' := (run (i + 1) s bs).list) upA (St.list_len _) (St.list_len _) ?_; refine hK _ _ ?_; clear hK K
   (try refine xy ?_); (try refine zq ?_)
   refine zg fun K hK => ?_; refine pBk hK ?_; clear hK K
   (try refine xy ?_); (try refine zq ?_)
   rw [e64];exact zv ⟨i + 1, _, _, by omega, hc2, hr2, rfl, rfl, rfl, rfl⟩
  ·have hc := of_decide_eq_false hc;refine zU ?_; try simp only [Cont.then, Cont.block, Cont.noGoto, reduceIte, aP];refine hN2 _ _ _ ?_; clear hN2;have hi2 : i = bs.length / 64 := by omega
   subst hi2;refine zd fun N5 hN5 => ?_
   refine xV ?_;refine zf fun K hK => ?_
   refine jO lkA (St.list_len _) ?_;refine hK _ _ ?_; clear hK K;refine rnE ?_;refine zf fun K hK => ?_
   refine jE (l := aQ 8 0) (l' := (run (bs.length / 64) s bs).list) upA aW (St.list_len _) ?_;refine hK _ _ ?_; clear hK K;refine rnE ?_;refine hN5 _ _ _ ?_; clear hN5;refine zM ?_;refine ⟨_, by simp only [ji, aZ, dS]; (repeat (first | with_reducible exact Take.nil _ | with_reducible exact Pick.head _ _ | with_reducible apply Pick.tail | with_reducible apply Take.cons)), ?_⟩; simp only [resW, withV, lookT_hit, lookT_miss, aG]; refine jO lkA (St.list_len _) ?_; exact ⟨[G, H], ⟨a', c', rfl, hr, rfl⟩, amA⟩
end Go.Proofs.YtebikhhoppiapaaGreatDoor
namespace Go.Proofs.YtebikhhoppiapaaGreatDoor
open Go Go.Ost Tryz
instance iBB_1 : TUns prog 358 := ⟨by kernel_rfl⟩
instance iBB_2 : TLies prog 272 := ⟨⟨_, rfl, by kernel_rfl, by kernel_rfl⟩⟩
abbrev bdB (b : Nat) (p : Option Addr) (a : Option Addr) (n cap : Nat) : Chunk := [(b, .cells #[.pointer p, .slice a n cap] 272 (0, 0))]
structure Bd (b : Nat) (l : List UInt8) (p a : Option Addr) (cap : Nat) (X : Chunk) : Prop where
 ptr : p = none ∨ p = some ⟨b, 0, none⟩
 row : cap ≠ 0 ∨ a = none
 own : Own8 5 X a l.length cap l
theorem Bd.new (b : Nat) : Bd b [] none none 0 [] := ⟨.inl rfl, .inr rfl, own_nil⟩
theorem XV (b n cap : Nat) (p a : Option Addr) (hp : p = none ∨ p = some ⟨b, 0, none⟩) : Meets prog 201 [.pointer (some ⟨b, 0, none⟩)] [bdB b p a n cap] fun v A => v = .tuple #[] /\ A = [bdB b (some ⟨b, 0, none⟩) a n cap] := by
 refine eN func201 ntmps201 results201 fun F => ?_
 refine gg ?_
 rcases hp with rfl | rfl
 ·refine gg ?_;refine zf fun K hK => ?_; refine IF (u := 272) lkA ?_; refine hK _ _ ?_; clear hK K
  refine zf fun K hK => ?_; refine yD func237 (by kernel_rfl) (by kernel_rfl) (by kernel_rfl) (e := Extern.AbiNoEscape.same) (by kernel_rfl) ?_
  refine ⟨fun w hw => ⟨_, w, _, Lib.run_noEscape w _, Ext.refl w, hw, ?_⟩⟩; refine hK _ _ ?_; clear hK K;refine zf fun K hK => ?_; refine WG (u := 272) lkA ?_; refine hK _ _ ?_; clear hK K
  refine gg ?_;refine zL [bdB b (some ⟨b, 0, none⟩) a n cap] ⟨rfl, rfl⟩
 ·refine gg ?_;refine zf fun K hK => ?_; rw [QO]; refine hK _ _ ?_; clear hK K
  refine gg ?_;refine zL [bdB b (some ⟨b, 0, none⟩) a n cap] ⟨rfl, rfl⟩
theorem jk {b cap : Nat} {p a : Option Addr} {X : Chunk} {l : List UInt8} (h : Bd b l p a cap X) (hl : l.length <= 900000) (c : UInt8) :
  Meets prog 154 [.pointer (some ⟨b, 0, none⟩), b8 c] [bdB b p a l.length cap, X] fun v A => v = .nilIface /\ ∃ p' a' cap' X', Bd b (l ++ [c]) p' a' cap' X' /\ A = [bdB b p' a' (l ++ [c]).length cap', X'] := by
 obtain ⟨hp, hr, hX⟩ := h;refine eN func154 ntmps154 results154 fun F => ?_
 refine gg ?_;refine cA (XV b l.length cap p a hp) ?_; rintro v A ⟨rfl, rfl⟩; refine gA ?_;refine zf fun K hK => ?_; refine zX ([c]) (by decide) rfl (rfl) (fun b7 C7 ho7 => ?_); refine hK _ _ ?_; clear hK K
 refine gg ?_;refine zf fun K hK => ?_; refine app8 (hX) pkA ((ho7.rd (aB ..)).mem mmA) (by omega) (fun C9 a9 cap9 ho9 => ?_); refine hK _ _ ?_; clear hK K
 refine gg ?_;have e : l.length + 1 = (l ++ [c]).length := by simp
 rw [e] at ho9 ⊢;have hle := ho9.1;refine zb [bdB b (some ⟨b, 0, none⟩) a9 (l ++ [c]).length cap9, C9] ⟨rfl, _, a9, cap9, C9, ⟨.inr rfl, .inl (by rw [<- e] at hle; omega), ho9⟩, rfl⟩
theorem kj {b cap : Nat} {p a : Option Addr} {X : Chunk} {l : List UInt8} (h : Bd b l p a cap X) (hl : l.length <= 900000) :
  Meets prog 150 [.pointer (some ⟨b, 0, none⟩)] [bdB b p a l.length cap, X] fun v A => v = .string (str l) /\ A = [] := by
 obtain ⟨hp, hr, hX⟩ := h;refine eN func150 ntmps150 results150 fun F => ?_
 refine gg ?_;refine cdL [[0], [1], [2], [3], [5], [6], [7], [8], [9], [4, 0, 8, 9], [10, 0], [11, 0]] ?_;refine gg ?_;refine zg fun K hK => ?_; refine UX hr ?_; refine pBk hK ?_; clear hK K
 refine gg ?_
 by_cases h0 : l = []
 ·subst h0;refine zg fun K hK => ?_; refine VT ?_; refine pBk hK ?_; clear hK K
  refine gg ?_;refine zb [] ?_; exact ⟨rfl, rfl⟩
 ·refine zg fun K hK => ?_; refine UN (e := 5) hX pkA h0 (by omega) ?_; refine pBk hK ?_; clear hK K
  refine gg ?_;refine zb [] ?_; exact ⟨rfl, rfl⟩
open Go.Sha
theorem xT (n k : Nat) (hn : n < 18446744073709551616) (hk : k <= 1000) : Meets prog 53 [.int .u64 n, .int .i64 k] [] (New8 5 (be k n) []) := by
 refine eN func53 ntmps53 results53 fun F => ?_
 refine zd fun N1 hN1 => ?_
 refine rgE ?_;refine hN1 _ _ _ ?_; clear hN1;refine zd fun N2 hN2 => ?_
 refine rgE ?_;refine zf fun K hK => ?_
 refine make8 (by omega) (fun b1 C1 ho1 => ?_);refine hK _ _ ?_; clear hK K;refine rnE ?_;refine hN2 _ _ _ ?_; clear hN2;refine zd fun N3 hN3 => ?_
 refine zd fun N4 hN4 => ?_
 refine rgE ?_;refine hN4 _ _ _ ?_; clear hN4;refine zp ?_;refine xd (fun q D L S => ∃ (i : Nat) (C : Chunk) (j : Int) (v : Nat), i <= k /\ j = (k : Int) - 1 - i /\ v = n / 256 ^ i /\ Own8 5 C (some ⟨b1, 0, none⟩) k k (aQ (k - i) 0 ++ (be k n).drop (k - i)) /\ q = k - i /\ D = [] /\ L = [(6, .int .i64 j), (0, .int .u64 (v : Int)), (5, .slice (some ⟨b1, 0, none⟩) k k)] /\ S = [C, F]) ?_ ?_
 ·refine ⟨_, _, _, ⟨0, C1, (k : Int) - 1, n, by omega, by omega, by simp, ?_, rfl, rfl, rfl, rfl⟩, by (repeat (first | exact True.intro | (refine aE ?_ ?_; (· (try simp only [evT, lookT_hit, lookT_miss, aG]); (first | done | exact rfl))))), amA⟩;rw [bI, List.drop_of_length_le (by rw [jb]; omega), aL];exact ho1
 ·rintro q D L S ⟨i, C, j, v, hi, hj, hv, ho, rfl, rfl, rfl, rfl⟩;have hvn : v <= n := by rw [hv]; exact Nat.div_le_self _ _
  refine zd fun N5 hN5 => ?_
  refine zd fun N6 hN6 => ?_
  refine rgE ?_;refine hN6 _ _ _ ?_; clear hN6;refine xJ (fun hc => ?_) (fun hc => ?_)
  ·have hc := of_decide_eq_true hc;refine zI ?_;refine hN5 _ _ _ ?_; clear hN5;refine zd fun N7 hN7 => ?_
   refine zp ?_;refine zd fun N8 hN8 => ?_
   refine rgE ?_
   have e1 : Value.int .u8 ((v : Int) % 256) = b8 (aH (n / 256 ^ i % 256)) := by
    simp only [b8, <- hv, bL]; congr 1; omega
   have e2 : (⟨b1, 0 + j.toNat * 1, none⟩ : Addr) = elA (some ⟨b1, 0, none⟩) (k - 1 - i) := by
    simp only [elA, cI, add_mk]; congr 1; omega
   refine zf fun K hK => ?_
   rw [e1, e2];refine jA ho pkA (by simp [jb]; omega) (fun C2 ho2 => ?_);rw [be_back k n i (by omega)] at ho2;refine hK _ _ ?_; clear hK K;refine rnE ?_;refine hN8 _ _ _ ?_; clear hN8;refine rgE ?_;refine hN7 _ _ _ ?_; clear hN7;refine rgE ?_;have hv2 : v / 256 = n / 256 ^ (i + 1) := by rw [hv, Nat.div_div_eq_div_mul, Nat.pow_succ]
   rw [show ((v : Int) / 256) = ((v / 256 : Nat) : Int) from by omega];exact zv ⟨i + 1, C2, j - 1, v / 256, by omega, by omega, hv2, ho2, rfl, rfl, rfl, rfl⟩
  ·have hc := of_decide_eq_false hc;refine zU ?_; try simp only [Cont.then, Cont.block, Cont.noGoto, reduceIte, aP];refine hN3 _ _ _ ?_; clear hN3;have e : aQ (k - i) 0 ++ (be k n).drop (k - i) = be k n := by rw [show k - i = 0 from by omega]; rfl
   rw [e] at ho;refine zd fun N9 hN9 => ?_
   refine rgE ?_;refine hN9 _ _ _ ?_; clear hN9;refine zM ?_;have e2 := jb k n;refine kO [C] (by (try simp only [evT, lookT_hit, lookT_miss, aG]); (first | done | exact rfl)) ⟨C, some ⟨b1, 0, none⟩, k, ?_, ?_, rfl⟩ amA
   ·rw [e2]
   ·rw [e2]; exact ho
theorem jN (H : Chunk) (a : Option Addr) (cap : Nat) (bs : List UInt8) (hb : bs.length <= 1000000) (h : Rd 1 [H] a bs.length (bs.map b8)) :
  Meets prog 52 [.slice a bs.length cap] [H] fun v A => v = .string (str (hex bs)) /\ A = [H] := by
 refine eN func52 ntmps52 results52 fun F => ?_
 refine zd fun N1 hN1 => ?_
 refine rgE ?_;refine hN1 _ _ _ ?_; clear hN1;refine zd fun N2 hN2 => ?_
 refine rgE ?_;refine hN2 _ _ _ ?_; clear hN2;refine zd fun N3 hN3 => ?_
 refine zd fun N4 hN4 => ?_
 refine rgE ?_;refine hN4 _ _ _ ?_; clear hN4;refine zp ?_;refine xd (fun q D L S => ∃ i : Nat, i <= bs.length /\ q = bs.length - i /\ D = [] /\ L = [(8, .int .i64 i), (7, .int .i64 bs.length), (6, .slice a bs.length cap), (3, .string (str (hex (bs.take i))))] /\ S = [F, H]) ?_ ?_
 ·exact ⟨_, _, _, ⟨0, by omega, rfl, rfl, rfl, rfl⟩, by (repeat (first | exact True.intro | (refine aE ?_ ?_; (· (try simp only [evT, lookT_hit, lookT_miss, aG]); (first | done | exact rfl))))), amA⟩
 ·rintro q D L S ⟨i, hi, rfl, rfl, rfl, rfl⟩;refine zd fun N5 hN5 => ?_
  refine rgE ?_;refine hN5 _ _ _ ?_; clear hN5;refine zd fun N6 hN6 => ?_
  refine xJ (fun hc => ?_) (fun hc => ?_)
  ·have hc := of_decide_eq_true hc;refine zI ?_;refine hN6 _ _ _ ?_; clear hN6;refine zd fun N7 hN7 => ?_
   refine zp ?_;refine zd fun N8 hN8 => ?_
   refine xV ?_; (repeat ((with_reducible refine jm fun K hK => ?_); (try simp only [gos, gob, aG, if_true, reduceIte, reduceCtorEq, bM, aP, bQ, bH, cJ, cK, bT, bU, bN, bV, bW, bX, bY, bZ, cB, aY, bI]); (try (simp (disch := omega) only [gow, gobw, wH (h.next F)]; try simp only [gos, gob, aG, if_true, reduceIte, reduceCtorEq, bM, aP, bQ, bH, cJ, cK, bT, bU, bN, bV, bW, bX, bY, bZ, cB, aY, bI])); (first | (with_reducible refine hK _ _ ?_) | (refine yM (h.next F) (by omega) ?_; (with_reducible refine hK _ _ ?_)) | ((with_reducible apply xx); (· (repeat (first | with_reducible exact Lies.one | with_reducible apply Lies.next))); (with_reducible refine hK _ _ ?_)) | ((with_reducible apply zE); (· (repeat (first | with_reducible exact Lies.one | with_reducible apply Lies.next))); (· exact rfl); (with_reducible refine hK _ _ ?_))); clear hK K)); try ((with_reducible refine vv ?_); try simp only [Cont.then, Cont.block, Cont.noGoto, reduceIte, aP]);refine hN8 _ _ _ ?_; clear hN8;rw [show b8 (bs.getD i 0) = .int .u8 (bs.getD i 0).toNat from rfl];have hx := (bs.getD i 0).toNat_lt;refine cdL [[0], [1], [2], [3], [4], [5], [6], [7], [8], [9], [10], [11], [12], [13], [14], [15, 0]] ?_
   (try refine xy ?_); (try refine zq ?_)
   refine qO fun K hK => ?_
   rw [show Value.string ⟨#[48, 49, 50, 51, 52, 53, 54, 55, 56, 57, 97, 98, 99, 100, 101, 102]⟩ = .string (str digits) from rfl];rw [Kf (by omega) (by omega) (by show _ <= (16 : Int); omega), show ((((bs.getD i 0).toNat : Int) / 16 + 1).toNat - (((bs.getD i 0).toNat : Int) / 16).toNat) = 1 from by omega, show (((bs.getD i 0).toNat : Int) / 16).toNat = (bs.getD i 0).toNat / 16 from by omega, dig1 _ (by omega)]
   (with_reducible refine hK _ _ ?_); clear hK K
   (try refine xy ?_); (try refine zq ?_)
   refine qO fun K hK => ?_
   rw [show Value.string ⟨#[48, 49, 50, 51, 52, 53, 54, 55, 56, 57, 97, 98, 99, 100, 101, 102]⟩ = .string (str digits) from rfl];rw [Kf (by omega) (by omega) (by show _ <= (16 : Int); omega), show ((((bs.getD i 0).toNat : Int) % 16 + 1).toNat - (((bs.getD i 0).toNat : Int) % 16).toNat) = 1 from by omega, show (((bs.getD i 0).toNat : Int) % 16).toNat = (bs.getD i 0).toNat % 16 from by omega, dig1 _ (by omega)]
   (with_reducible refine hK _ _ ?_); clear hK K
   refine qO fun K hK => ?_
   rw [zF (by simp)]
   (with_reducible refine hK _ _ ?_); clear hK K
   refine qO fun K hK => ?_
   rw [zF (by rw [hex_len, aU]; simp; omega)]
   (with_reducible refine hK _ _ ?_); clear hK K
   (try refine xy ?_); (try refine zq ?_)
   refine zg fun K hK => ?_; refine pBk hK ?_; clear hK K
   (try refine xy ?_); (try refine zq ?_)
   rw [show hex (bs.take i) ++ [digits.getD ((bs.getD i 0).toNat / 16) 0, digits.getD ((bs.getD i 0).toNat % 16) 0] = hex (bs.take (i + 1)) from by rw [Us bs i (by omega)]; rfl];refine hN7 _ _ _ ?_; clear hN7;refine rgE ?_;exact zv ⟨i + 1, by omega, rfl, rfl, rfl, rfl⟩
  ·have hc := of_decide_eq_false hc;refine zU ?_; try simp only [Cont.then, Cont.block, Cont.noGoto, reduceIte, aP];refine hN3 _ _ _ ?_; clear hN3;obtain rfl : i = bs.length := by omega
   rw [bF];refine zd fun N9 hN9 => ?_
   refine rgE ?_;refine hN9 _ _ _ ?_; clear hN9;refine zM ?_;refine zb [H] ?_; exact ⟨rfl, rfl⟩
theorem wT (H : Chunk) (a : Option Addr) (cap : Nat) (bs : List UInt8) (hb : bs.length <= 100000) (h : Rd 1 [H] a bs.length (bs.map b8)) :
  Meets prog 105 [.slice a bs.length cap] [H] fun v A => v = .string (str (hex bs)) /\ A = [H] := by
 refine eN func105 ntmps105 results105 fun F => ?_
 refine gg ?_;refine zf fun K hK => ?_; refine zu fun b3 => ?_; (try simp only [Value.cells]); refine hK _ _ ?_; clear hK K
 refine gg ?_;refine zB ?_
 refine zz (fun q D L S => ∃ (i : Nat) (p a' : Option Addr) (cap' : Nat) (X : Chunk), i <= bs.length /\ Bd b3 (hex (bs.take i)) p a' cap' X /\ q = bs.length - i /\ D = [] /\
  L = [(8, .int .i64 i), (7, .int .i64 bs.length), (6, .slice a bs.length cap), (3, .pointer (some ⟨b3, 0, none⟩))] /\ S = [bdB b3 p a' (hex (bs.take i)).length cap', X, F, H])
  ⟨0, none, none, 0, [], by omega, Bd.new b3, rfl, rfl, rfl, rfl⟩ ?_
 rintro q D L S ⟨i, p, a', cap', X, hi, hB, rfl, rfl, rfl, rfl⟩;have hel := hex_len (bs.take i);rw [aU] at hel;refine gg ?_;refine if_d (fun hc => ?_) (fun hc => ?_)
 ·have hil : i < bs.length := by omega
  have hnx := Us bs i hil;have hx := (bs.getD i 0).toNat_lt;refine gg ?_;refine zf fun K hK => ?_
  rw [show Value.string ⟨#[48, 49, 50, 51, 52, 53, 54, 55, 56, 57, 97, 98, 99, 100, 101, 102]⟩ = .string (str digits) from rfl];rw [sidx (by omega) (by show _ < (16 : Int); omega), show (((bs.getD i 0).toNat / 16 : Nat) : Int).toNat = (bs.getD i 0).toNat / 16 from by omega];refine hK _ _ ?_; clear hK K;refine cA (jk hB (by omega) (digits.getD ((bs.getD i 0).toNat / 16) 0)) ?_; rintro v A ⟨rfl, p1, a1, cap1, X1, hB1, rfl⟩; refine gA ?_;refine zf fun K hK => ?_
  rw [show Value.string ⟨#[48, 49, 50, 51, 52, 53, 54, 55, 56, 57, 97, 98, 99, 100, 101, 102]⟩ = .string (str digits) from rfl];rw [sidx (by omega) (by show _ < (16 : Int); omega), show (((bs.getD i 0).toNat % 16 : Nat) : Int).toNat = (bs.getD i 0).toNat % 16 from by omega];refine hK _ _ ?_; clear hK K;refine cA (jk hB1 (by rw [aA, aI]; omega) (digits.getD ((bs.getD i 0).toNat % 16) 0)) ?_; rintro v A ⟨rfl, p2, a2, cap2, X2, hB2, rfl⟩; refine gA ?_;rw [show hex (bs.take i) ++ [digits.getD ((bs.getD i 0).toNat / 16) 0] ++ [digits.getD ((bs.getD i 0).toNat % 16) 0] = hex (bs.take (i + 1)) from by rw [hnx, aM]; rfl] at hB2 ⊢;exact zv ⟨i + 1, p2, a2, cap2, X2, by omega, hB2, rfl, rfl, rfl, rfl⟩
 ·obtain rfl : i = bs.length := by omega
  rw [bF] at hB hel ⊢;refine gg ?_;refine cA (kj hB (by omega)) ?_; rintro v A ⟨rfl, rfl⟩; refine gA ?_;refine zb [H] ?_; exact ⟨rfl, rfl⟩
theorem Qq (n : Nat) (hn : n < 2305843009213693952) : Meets prog 169 [.int .u64 n] [] (New8 5 (pad n) []) := by
 refine eN func169 ntmps169 results169 fun F => ?_
 refine zd fun N1 hN1 => ?_
 refine rgE ?_;refine hN1 _ _ _ ?_; clear hN1;refine zd fun N2 hN2 => ?_
 refine rgE ?_;refine zf fun K hK => ?_; refine zX ([128]) (by decide) rfl (rfl) (fun b1 C1 ho1 => ?_); refine hK _ _ ?_; clear hK K
 refine rnE ?_;refine hN2 _ _ _ ?_; clear hN2;refine zd fun N3 hN3 => ?_
 refine zd fun N4 hN4 => ?_
 refine rgE ?_;refine hN4 _ _ _ ?_; clear hN4;refine zp ?_;refine xd (fun q D L S => ∃ (i : Nat) (C : Chunk) (a : Option Addr) (cap : Nat) (j : Int), i <= qm n /\ j = (n : Int) % 64 + 1 + i /\ Own8 5 C a (1 + i) cap (128 :: aQ i 0) /\ q = qm n - i /\ D = [] /\ L = [(4, .int .u64 j), (0, .int .u64 n), (3, .slice a (1 + i) cap)] /\ S = [C, F]) ?_ ?_
 ·exact ⟨_, _, _, ⟨0, C1, _, _, (n : Int) % 64 + 1, by omega, by simp, ho1, rfl, rfl, rfl, rfl⟩, by (repeat (first | exact True.intro | (refine aE ?_ ?_; (· (try simp only [evT, lookT_hit, lookT_miss, aG]); (first | done | exact rfl))))), amA⟩
 ·rintro q D L S ⟨i, C, a, cap, j, hi, hj, ho, rfl, rfl, rfl, rfl⟩;have hz : qm n <= 63 := by unfold qm; omega
  refine zd fun N5 hN5 => ?_
  refine zd fun N6 hN6 => ?_
  refine rgE ?_;refine hN6 _ _ _ ?_; clear hN6;refine xJ (fun hc => ?_) (fun hc => ?_)
  ·have hc := bne_iff_ne.1 hc;have hlt : i < qm n := by simp only [qm] at hi ⊢; omega
   refine zI ?_;refine hN5 _ _ _ ?_; clear hN5;refine zd fun N7 hN7 => ?_
   refine zp ?_;refine rgE ?_;refine zf fun K hK => ?_; refine zX ([0]) (by decide) rfl (rfl) (fun b1 C1 ho1 => ?_); refine hK _ _ ?_; clear hK K
   refine zf fun K hK => ?_; refine app8 (ho) pkA (ho1.rd mmA) (by omega) (fun C2 a2 cap2 ho2 => ?_); refine hK _ _ ?_; clear hK K
   rw [<- YS] at ho2;refine rnE ?_;refine hN7 _ _ _ ?_; clear hN7;refine rgE ?_;exact zv ⟨i + 1, C2, a2, cap2, j + 1, by omega, by omega, ho2, rfl, rfl, rfl, rfl⟩
  ·have hc := bne_eq_false_iff_eq.1 hc;refine zU ?_; try simp only [Cont.then, Cont.block, Cont.noGoto, reduceIte, aP];refine hN3 _ _ _ ?_; clear hN3;obtain rfl : i = qm n := by unfold qm at *; omega
   refine zd fun N8 hN8 => ?_
   refine rgE ?_;rw [show ((n : Int) * 8) = ((8 * n : Nat) : Int) from by omega];refine cA (xT (8 * n) 8 (by omega) (by omega)) ?_; rintro v A ⟨C2, a2, cap2, rfl, ho2, rfl⟩; (try simp only [aD, aC]);refine rnE ?_;refine zf fun K hK => ?_; refine app8 (ho) pkA (ho2.rd mmA) (by rw [jb]; omega) (fun C3 a3 cap3 ho3 => ?_); refine hK _ _ ?_; clear hK K
   refine rnE ?_;refine hN8 _ _ _ ?_; clear hN8;refine zM ?_;have e : 1 + qm n + (be 8 (8 * n)).length = (pad n).length := by rw [yh, jb]; omega
   rw [e] at ho3 ⊢;refine zb ([C3]) ?_; exact ⟨_, _, _, rfl, ho3, rfl⟩
theorem out_spec (s : St) : Meets prog 170 [.agg (rowW s.list)] [] (New8 5 s.bytes []) := by
 refine eN func170 ntmps170 results170 fun F => ?_
 refine zd fun N1 hN1 => ?_
 refine rgE ?_;refine zf fun K hK => ?_
 refine yr fun b1 => ?_; rw [show (Value.agg (rowW s.list)).cells = rowW s.list from rfl]; refine hK _ _ ?_; clear hK K
 refine rnE ?_;refine hN1 _ _ _ ?_; clear hN1;refine zd fun N2 hN2 => ?_
 refine rgE ?_;refine hN2 _ _ _ ?_; clear hN2;refine zd fun N3 hN3 => ?_
 refine zd fun N4 hN4 => ?_
 refine xV ?_;refine zf fun K hK => ?_
 refine jO lkA (St.list_len _) ?_;refine hK _ _ ?_; clear hK K;refine rnE ?_;refine hN4 _ _ _ ?_; clear hN4;refine zp ?_;refine zB ?_;refine xd (fun q D L S => ∃ (i : Nat) (C : Chunk) (a : Option Addr) (cap : Nat), i <= 8 /\ Own8 5 C a (4 * i) cap ((s.list.take i).flatMap zW) /\ q = 8 - i /\ D = [] /\ L = [(7, .int .i64 i), (6, .agg (rowW s.list)), (3, .slice a (4 * i) cap)] /\ S = [C, F]) ?_ ?_
 ·exact ⟨_, _, _, ⟨0, [], none, 0, by omega, own_nil, rfl, rfl, rfl, rfl⟩, by (repeat (first | exact True.intro | (refine aE ?_ ?_; (· (try simp only [evT, lookT_hit, lookT_miss, aG]); (first | done | exact rfl))))), amA⟩
 ·rintro q D L S ⟨i, C, a, cap, hi, ho, rfl, rfl, rfl, rfl⟩;refine zd fun N5 hN5 => ?_
  refine rgE ?_;refine hN5 _ _ _ ?_; clear hN5;refine zd fun N6 hN6 => ?_
  refine xJ (fun hc => ?_) (fun hc => ?_)
  ·have hc := of_decide_eq_true hc;refine zI ?_;refine hN6 _ _ _ ?_; clear hN6;refine zd fun N7 hN7 => ?_
   refine zp ?_;refine zd fun N8 hN8 => ?_
   refine xV ?_;refine zf fun K hK => ?_
   rw [index_w (by omega) (by omega) (St.list_len s)];refine hK _ _ ?_; clear hK K;refine rnE ?_;refine hN8 _ _ _ ?_; clear hN8;refine rgE ?_;have hx := (s.list.getD i 0).isLt;refine cA (xT (s.list.getD i 0).toNat 4 (by omega) (by omega)) ?_; rintro v A ⟨C1, a1, cap1, rfl, ho1, rfl⟩; (try simp only [aD, aC]);refine rnE ?_;rw [wP] at ho1;rw [wP];refine zf fun K hK => ?_; refine app8 (ho) pkA (ho1.rd mmA) (by show 4 * i + 4 <= _; omega) (fun C2 a2 cap2 ho2 => ?_); refine hK _ _ ?_; clear hK K
   rw [<- XX s i (by omega)] at ho2;refine rnE ?_;refine hN7 _ _ _ ?_; clear hN7;refine rgE ?_;exact zv ⟨i + 1, C2, a2, cap2, by omega, ho2, rfl, rfl, rfl, rfl⟩
  ·have hc := of_decide_eq_false hc;refine zU ?_; try simp only [Cont.then, Cont.block, Cont.noGoto, reduceIte, aP];refine hN3 _ _ _ ?_; clear hN3;obtain rfl : i = 8 := by omega
   refine zd fun N9 hN9 => ?_
   refine rgE ?_;refine hN9 _ _ _ ?_; clear hN9;refine zM ?_;refine zb ([C]) ?_; exact ⟨_, _, _, rfl, ho, rfl⟩
theorem KM {tg : TypeId} (G H : Chunk) (m : Nat × Nat) (hG : (4, Obj.cells (rowW odd) tg m) ∈ G) (a : Option Addr) (cap : Nat) (bs : List UInt8) (hb : bs.length <= 1000000) (h : Rd 1 [H] a bs.length (bs.map b8)) :
  Meets prog 126 [.slice a bs.length cap] [G, H] (New8 5 (xL bs) [G, H]) := by
 refine eN func126 ntmps126 results126 fun F => ?_
 refine zd fun N1 hN1 => ?_
 refine rgE ?_;refine hN1 _ _ _ ?_; clear hN1;refine zd fun N2 hN2 => ?_
 refine rgE ?_;refine cA (JV) ?_; rintro v A ⟨rfl, rfl⟩;refine rnE ?_;refine zf fun K hK => ?_; refine zX ([]) (by decide) rfl (rfl) (fun b1 C1 ho1 => ?_); refine hK _ _ ?_; clear hK K
 refine rnE ?_;refine zf fun K hK => ?_; refine app8 (ho1) pkA (h.mem mmA) (by omega) (fun C2 a2 cap2 ho2 => ?_); refine hK _ _ ?_; clear hK K
 refine rnE ?_;refine cA (Qq bs.length (by omega)) ?_; rintro v A ⟨C3, a3, cap3, rfl, ho3, rfl⟩; (try simp only [aD, aC]);refine rnE ?_;have hpl : (pad bs.length).length <= 72 := by rw [yh, qm]; omega
 refine zf fun K hK => ?_; refine app8 (ho2) pkA (ho3.rd mmA) (by omega) (fun C4 a4 cap4 ho4 => ?_); refine hK _ _ ?_; clear hK K
 refine rnE ?_;rw [show 0 + bs.length + (pad bs.length).length = (bs ++ pad bs.length).length from by rw [aA]; omega, aD] at ho4;rw [show 0 + bs.length + (pad bs.length).length = (bs ++ pad bs.length).length from by rw [aA]; omega];refine zf fun K hK => ?_
 refine xu (go_spec G C4 m hG first a4 cap4 (bs ++ pad bs.length) (by rw [aA]; omega) ho4.1 (ho4.rd mmA)) tkA ?_; rintro v A ⟨a5, c5, rfl, hr5, rfl⟩; (try simp only [aD, aC]); refine hK _ _ ?_; clear hK K;refine rnE ?_;refine zf fun K hK => ?_; refine zu fun b3 => ?_; (try simp only [Value.cells]); refine hK _ _ ?_; clear hK K
 refine zf fun K hK => ?_
 refine jE (l := aQ 8 0) (l' := (whole first (bs ++ pad bs.length)).list) (by (repeat (first | exact Upd.one | apply Upd.next))) aW (St.list_len _) ?_;refine hK _ _ ?_; clear hK K;refine rnE ?_;refine hN2 _ _ _ ?_; clear hN2;refine zd fun N3 hN3 => ?_
 refine xV ?_;refine zf fun K hK => ?_
 refine jO lkA (St.list_len _) ?_;refine hK _ _ ?_; clear hK K;refine cA (out_spec _) ?_; rintro v A ⟨C6, a6, cap6, rfl, ho6, rfl⟩; (try simp only [aD, aC]);refine rnE ?_;refine hN3 _ _ _ ?_; clear hN3;refine zM ?_;refine zb ([C6, G, H]) ?_; exact ⟨_, _, _, rfl, ho6, rfl⟩
theorem repeat8 (H : Chunk) (a : Option Addr) (x : UInt8) (h : Ost.Own 1 5 H a 1 1 ([x].map b8)) :
  Meets prog 229 [.slice a 1 1, .int .i64 64] [H] (New8 5 (aQ 64 x) [H]) := KJ H a 1 x (by decide) (h.rd (S := [H]) (by simp))
theorem pad_spec {t0 t1 : TypeId} (G H : Chunk) (m0 m1 : Nat × Nat) (hG0 : (0, Obj.cells (rowW first.list) t0 m0) ∈ G) (hG1 : (3, Obj.cells (rowW odd) t1 m1) ∈ G)
  (a : Option Addr) (cap : Nat) (key : List UInt8) (hk : key.length <= 100000) (hcap : key.length <= cap) (h : Rd 1 [H] a key.length (key.map b8)) (x : UInt8) :
  Meets prog 184 [.slice a key.length cap, b8 x] [G, H] (New8 5 (padK key x) [G, H]) := by
 refine eN func184 ntmps184 results184 fun F => ?_
 (with_reducible refine zY ?_); refine reg_to ?_; (with_reducible refine vv ?_); (with_reducible refine Zb ?_)
 refine IZ (fun D L S => ∃ (X W : Chunk) (ka : Option Addr) (kc : Nat), W ∈ [X, G, H] /\ Rd 1 [W] ka (jl key).length ((jl key).map b8) /\ D = [] /\ L = [(0, .slice ka (jl key).length kc), (1, b8 x)] /\ S = [F, X, G, H]) ?_ ?_
 ·refine gg ?_;refine if_d (fun hc => ?_) (fun hc => ?_)
  ·refine gg ?_;refine zf fun K hK => ?_; refine xZ rfl [.slice a key.length cap] (by decide) rfl rfl (by simp [Value.cell1]) (fun b1 C1 ho1 => ?_); refine hK _ _ ?_; clear hK K
   have hp : we [C1 ++ H] (some ⟨b1, 0, none⟩) 1 [key] := by
    refine ⟨rfl, _, (ho1.rd (S := [C1]) (aB ..)).wide (fun y hy => by simp [hy]), fun i v l hv hl => ?_⟩
    match i, hv, hl with
    | 0, hv, hl => cases hv; cases hl; exact ⟨_, _, rfl, hcap, h.wide (fun y hy => by simp [hy])⟩
    | i + 1, hv, hl => simp at hv
   refine cA (Qr G C1 H m0 m1 hG0 hG1 _ 1 1 [key] hp (by decide) (by decide) (by simp; omega)) ?_; rintro v A ⟨C2, a2, c2, rfl, ho2, rfl⟩; refine gA ?_;have e : jl key = xL [key].flatten := by unfold jl; rw [if_pos (by omega)]; simp
   rw [<- e] at ho2 ⊢;exact mid ⟨C2, C2, a2, c2, by simp, ho2.rd (by simp), rfl, rfl, rfl⟩
  ·refine zB ?_;refine gg ?_;have e : jl key = key := by unfold jl; rw [if_neg (by omega)]
   rw [<- e] at h;exact mid ⟨[], H, a, cap, by simp, h, rfl, by rw [e], rfl⟩
 ·rintro D L S ⟨X, W, ka, kc, hW, hr, rfl, rfl, rfl⟩;have hsl := Qv key;refine gg ?_;refine zf fun K hK => ?_; refine zX ([x]) (by decide) rfl (rfl) (fun b2 C2 ho2 => ?_); refine hK _ _ ?_; clear hK K
  refine cA (repeat8 C2 _ x ho2) ?_; rintro v A ⟨C3, p, cp, rfl, ho3, rfl⟩; refine gA ?_;rw [aW] at ho3 ⊢;rw [pad_begin x (jl key)] at ho3;refine gg ?_
  refine zz (fun q D L S => ∃ (i : Nat) (C' : Chunk), i <= (jl key).length /\ Own8 5 C' p 64 cp ((bC 64).map fun j => if j < i then x ^^^ (jl key).getD j 0 else x) /\ q = (jl key).length - i /\ D = [] /\
   L = [(19, .int .i64 i), (18, .int .i64 (jl key).length), (17, .slice ka (jl key).length kc), (5, .slice p 64 cp)] /\ S = [C', F, X, G, H]) ⟨0, C3, by omega, ho3, rfl, rfl, rfl, rfl⟩ ?_
  rintro q D L S ⟨i, C', hi, ho, rfl, rfl, rfl, rfl⟩;refine gg ?_;refine if_d (fun hc => ?_) (fun hc => ?_)
  ·refine gg ?_;refine zf fun K hK => ?_; (apply jA ho); (· (repeat (first | with_reducible exact Pick.head _ _ | with_reducible apply Pick.tail))); (· simp; omega); (intro C4 ho4); refine hK _ _ ?_; clear hK K
   rw [Vj 64 _ _ i 0 (by omega), Jn 64 (fun _ => x) (fun j => x ^^^ (jl key).getD j 0) i (by omega)] at ho4;refine gg ?_;exact zv ⟨i + 1, C4, by omega, ho4, rfl, rfl, rfl, rfl⟩
  ·refine gg ?_;obtain rfl : i = (jl key).length := by omega
   rw [pad_end _ _ hsl] at ho;refine zb [C', G, H] ?_;exact ⟨C', p, cp, by rw [ju], by rw [ju]; exact ho, rfl⟩
end Go.Proofs.YtebikhhoppiapaaGreatDoor
namespace Go.Proofs.YtebikhhoppiapaaGreatDoor
open Go Go.Ost Go.Sha
structure jj (C : Chunk) : Prop where
 g0 : ∃ t m, (0, Obj.cells (rowW first.list) t m) ∈ C
 g1 : ∃ t m, (3, Obj.cells (rowW odd) t m) ∈ C
structure qJ (C : Chunk) : Prop extends jj C where
 g2 : ∃ t m, (4, Obj.cells (rowW odd) t m) ∈ C
open Tryz
theorem sumS {G : Chunk} (hg : jj G) (A B : Chunk) (a : Option Addr) (n c : Nat) (ls : List (List UInt8)) (hp : we [A ++ B] a n ls) (hnc : n <= c) (hn : n <= 1000000) (hlen : ls.flatten.length <= 1000000) :
  Meets prog 133 [.slice a n c] [G, A, B] (New8 5 (xL ls.flatten) [G, A, B]) := by
 obtain ⟨⟨_, m0, h0⟩, ⟨_, m1, h1⟩⟩ := hg;exact Qr G A B m0 m1 h0 h1 a n c ls hp hnc hn hlen
theorem refS {G : Chunk} (hg : qJ G) (H : Chunk) (a : Option Addr) (cap : Nat) (bs : List UInt8) (hb : bs.length <= 1000000) (h : Rd 1 [H] a bs.length (bs.map b8)) :
  Meets prog 126 [.slice a bs.length cap] [G, H] (New8 5 (xL bs) [G, H]) := by
 obtain ⟨⟨⟨_, m0, h0⟩, ⟨_, m1, h1⟩⟩, ⟨_, m2, h2⟩⟩ := hg;exact KM G H m2 h2 a cap bs hb h
theorem padS {G : Chunk} (hg : jj G) (H : Chunk) (a : Option Addr) (cap : Nat) (key : List UInt8) (hk : key.length <= 100000) (hcap : key.length <= cap) (h : Rd 1 [H] a key.length (key.map b8)) (x : UInt8) :
  Meets prog 184 [.slice a key.length cap, b8 x] [G, H] (New8 5 (padK key x) [G, H]) := by
 obtain ⟨⟨_, m0, h0⟩, ⟨_, m1, h1⟩⟩ := hg;exact pad_spec G H m0 m1 h0 h1 a cap key hk hcap h x
theorem yZ {G : Chunk} (hg : qJ G) (H : Chunk) (a : Option Addr) (cap : Nat) (key : List UInt8) (hk : key.length <= 100000) (hcap : key.length <= cap) (h : Rd 1 [H] a key.length (key.map b8)) (x : UInt8) :
  Meets prog 191 [.slice a key.length cap, b8 x] [G, H] (New8 5 (padK key x) [G, H]) := by
 refine eN func191 ntmps191 results191 fun F => ?_
 (with_reducible refine zY ?_); refine reg_to ?_; (with_reducible refine vv ?_); (with_reducible refine Zb ?_)
 refine IZ (fun D L S => ∃ (X W : Chunk) (ka : Option Addr) (kc : Nat), W ∈ [X, G, H] /\ Rd 1 [W] ka (jl key).length ((jl key).map b8) /\ D = [] /\ L = [(0, .slice ka (jl key).length kc), (1, b8 x)] /\ S = [F, X, G, H]) ?_ ?_
 ·refine gg ?_;refine if_d (fun hc => ?_) (fun hc => ?_)
  ·refine gg ?_;refine cA (refS hg H a cap key (by omega) h) ?_; rintro v A ⟨C2, a2, c2, rfl, ho2, rfl⟩; refine gA ?_;have e : jl key = xL key := by unfold jl; rw [if_pos (by omega)]
   rw [<- e] at ho2 ⊢;exact mid ⟨C2, C2, a2, c2, by simp, ho2.rd (by simp), rfl, rfl, rfl⟩
  ·refine zB ?_;refine gg ?_;have e : jl key = key := by unfold jl; rw [if_neg (by omega)]
   rw [<- e] at h;exact mid ⟨[], H, a, cap, by simp, h, rfl, by rw [e], rfl⟩
 ·rintro D L S ⟨X, W, ka, kc, hW, hr, rfl, rfl, rfl⟩;have hsl := Qv key;refine gg ?_;refine zf fun K hK => ?_; refine make8 (n := 64) (by decide) (fun b2 C2 ho2 => ?_); refine hK _ _ ?_; clear hK K
  refine gg ?_;refine zf fun K hK => ?_
  refine yU (l := 0) ho2 pkA (hr.mem mmA) (VF _) (by decide) (fun _ => by simp [Addr.add]) (fun C3 ho3 => ?_);refine hK _ _ ?_; clear hK K
  have e3 : ((aQ 64 (0 : UInt8)).map b8).take 0 ++ (((jl key).map b8).take (min (jl key).length 64) ++ ((aQ 64 (0 : UInt8)).map b8).drop (0 + min (jl key).length 64)) =
    ((bC 64).map fun i => if i < 0 then (jl key).getD i 0 ^^^ x else (jl key).getD i 0).map b8 := by
   rw [<- UP _ _ hsl, Nat.min_eq_left hsl, List.take_zero, aD, bS (by simp), cD, <- List.map_drop, List.drop_replicate, cL]
  rw [e3] at ho3;refine gg ?_;generalize (some (⟨b2, 0, none⟩ : Addr)) = p at *
  refine zz (fun q D L S => ∃ (i : Nat) (C' : Chunk), i <= 64 /\ Own8 5 C' p 64 64 ((bC 64).map fun j => if j < i then (jl key).getD j 0 ^^^ x else (jl key).getD j 0) /\ q = 64 - i /\ D = [] /\
   L = [(18, .int .i64 i), (17, .int .i64 64), (1, b8 x), (5, .slice p 64 64)] /\ S = [C', F, X, G, H]) ⟨0, C3, by omega, ho3, rfl, rfl, rfl, rfl⟩ ?_
  rintro q D L S ⟨i, C', hi, ho, rfl, rfl, rfl, rfl⟩;refine gg ?_;refine if_d (fun hc => ?_) (fun hc => ?_)
  ·refine gg ?_;refine zf fun K hK => ?_; (apply jA ho); (· (repeat (first | with_reducible exact Pick.head _ _ | with_reducible apply Pick.tail))); (· simp; omega); (intro C4 ho4); refine hK _ _ ?_; clear hK K
   rw [Vj 64 _ _ i 0 (by omega), Jn 64 (fun j => (jl key).getD j 0) (fun j => (jl key).getD j 0 ^^^ x) i (by omega)] at ho4;refine gg ?_;exact zv ⟨i + 1, C4, by omega, ho4, rfl, rfl, rfl, rfl⟩
  ·refine gg ?_;obtain rfl : i = 64 := by omega
   rw [turn_end] at ho;refine zb [C', G, H] ?_;exact ⟨C', p, 64, by rw [ju], by rw [ju]; exact ho, rfl⟩
theorem kP {G : Chunk} (hg : qJ G) (H T : Chunk) (a ta : Option Addr) (cap tc : Nat) (key text : List UInt8) (hk : key.length <= 100000) (hcap : key.length <= cap) (h : Rd 1 [H] a key.length (key.map b8))
  (ht : text.length <= 100000) (hr : Rd 1 [T] ta text.length (text.map b8)) :
  Meets prog 136 [.slice a key.length cap, .slice ta text.length tc] [G, H, T] (New8 5 (mac key text) [G, H, T]) := by
 have hl : ∀ x, (padK key x).length = 64 := ju key;have hd : ∀ m, (xL m).length = 32 := vm;refine eN func136 ntmps136 results136 fun F => ?_
 refine gg ?_;refine cA (yZ hg H a cap key hk hcap h 92) ?_; rintro v A ⟨C1, a1, c1, rfl, ho1, rfl⟩; refine gA ?_;refine cA (yZ hg H a cap key hk hcap h 54) ?_; rintro v A ⟨C2, a2, c2, rfl, ho2, rfl⟩; refine gA ?_;refine zf fun K hK => ?_; refine app8 (ho2) pkA (hr.mem mmA) (by rw [hl]; omega) (fun C3 a3 cap3 ho3 => ?_); refine hK _ _ ?_; clear hK K
 refine gg ?_;rw [<- aA] at ho3 ⊢;refine cA (refS hg C3 a3 _ (padK key 54 ++ text) (by rw [aA, hl]; omega) (ho3.rd (by simp))) ?_; rintro v A ⟨C4, a4, c4, rfl, ho4, rfl⟩; refine gA ?_;refine zf fun K hK => ?_; refine app8 (ho1) pkA (ho4.rd mmA) (by rw [hl, hd]; omega) (fun C5 a5 cap5 ho5 => ?_); refine hK _ _ ?_; clear hK K
 refine gg ?_;rw [<- aA] at ho5 ⊢;refine cA (refS hg C5 a5 _ (padK key 92 ++ xL (padK key 54 ++ text)) (by rw [aA, hl, hd]; omega) (ho5.rd (by simp))) ?_; rintro v A ⟨C6, a6, c6, rfl, ho6, rfl⟩; refine gA ?_;refine zb [C6, G, H, T] ?_;exact ⟨C6, a6, c6, rfl, ho6, rfl⟩
theorem sumS3 {G : Chunk} (hg : jj G) (A B D : Chunk) (a : Option Addr) (n c : Nat) (ls : List (List UInt8)) (hp : we [A ++ (B ++ D)] a n ls) (hnc : n <= c) (hn : n <= 1000000) (hlen : ls.flatten.length <= 1000000) :
  Meets prog 133 [.slice a n c] [G, A, B, D] (New8 5 (xL ls.flatten) [G, A, B, D]) := by
 obtain ⟨⟨_, m0, h0⟩, ⟨_, m1, h1⟩⟩ := hg;exact IQ G A B D m0 m1 h0 h1 a n c ls (by rw [aM]; exact hp) hnc hn hlen
theorem Wp {G : Chunk} (hg : jj G) (H W : Chunk) (a ta : Option Addr) (cap n tc : Nat) (key : List UInt8) (ls : List (List UInt8)) (hk : key.length <= 100000) (hcap : key.length <= cap) (h : Rd 1 [H] a key.length (key.map b8))
  (hp : we [W] ta n ls) (hnc : n <= tc) (hn : n <= 1000) (hl : ls.flatten.length <= 100000) :
  Meets prog 132 [.slice a key.length cap, .slice ta n tc] [G, H, W] (New8 5 (mac key ls.flatten) [G, H, W]) := by
 have hpl : ∀ x, (padK key x).length = 64 := ju key;have hd : ∀ m, (xL m).length = 32 := vm;refine eN func132 ntmps132 results132 fun F => ?_
 refine gg ?_;refine cA (padS hg H a cap key hk hcap h 54) ?_; rintro v A ⟨C1, a1, c1, rfl, ho1, rfl⟩; refine gA ?_;refine cA (kh [W] ta n tc ls hp hnc (by omega) (by omega)) ?_; rintro v A ⟨C2, a2, c2, rfl, hle2, hr2, _, rfl⟩; refine gA ?_;refine zf fun K hK => ?_; refine xZ rfl [.slice a1 (padK key 54).length c1, .slice a2 ls.flatten.length c2] (by decide) rfl rfl (by simp [Value.cell1]) (fun b3 C3 ho3 => ?_); refine hK _ _ ?_; clear hK K
 refine cA (sumS3 hg C3 C1 C2 _ 2 2 [padK key 54, ls.flatten] (yN ho3 ((vals_nil.snoc ho1.1 ((ho1.rd (S := [C1]) (by simp)).wide1 C2)).snoc hle2 (hr2.wide2 C1))) (by decide) (by decide) (by simp only [aO, bO, aL, aA, hpl]; omega)) ?_; rintro v A ⟨C4, a4, c4, rfl, ho4, rfl⟩; refine gA ?_;have e4 : [padK key 54, ls.flatten].flatten = padK key 54 ++ ls.flatten := by simp
 rw [e4] at ho4 ⊢;refine cA (padS hg H a cap key hk hcap h 92) ?_; rintro v A ⟨C5, a5, c5, rfl, ho5, rfl⟩; refine gA ?_;refine zf fun K hK => ?_; refine xZ rfl [.slice a5 (padK key 92).length c5, .slice a4 (xL (padK key 54 ++ ls.flatten)).length c4] (by decide) rfl rfl (by simp [Value.cell1]) (fun b6 C6 ho6 => ?_); refine hK _ _ ?_; clear hK K
 refine cA (sumS3 hg C6 C5 C4 _ 2 2 [padK key 92, xL (padK key 54 ++ ls.flatten)] (yN ho6 ((vals_nil.snoc ho5.1 ((ho5.rd (S := [C5]) (by simp)).wide1 C4)).snoc ho4.1 ((ho4.rd (S := [C4]) (by simp)).wide2 C5))) (by decide) (by decide) (by simp only [aO, bO, aL, aA, hpl, hd]; omega)) ?_; rintro v A ⟨C7, a7, c7, rfl, ho7, rfl⟩; refine gA ?_;have e7 : xL [padK key 92, xL (padK key 54 ++ ls.flatten)].flatten = mac key ls.flatten := by simp [mac]
 rw [e7] at ho7 ⊢;refine zb [C7, G, H, W] ?_;exact ⟨C7, a7, c7, rfl, ho7, rfl⟩
theorem or_zero8 (a b : UInt8) : a ||| b = 0 ↔ a = 0 /\ b = 0 := by
 constructor
 ·intro h;have h1 : a.toBitVec ||| b.toBitVec = 0#8 := by rw [<- UInt8.toBitVec_or, h]; rfl
  have key : ∀ x y : BitVec 8, x ||| y = 0#8 -> x = 0#8 /\ y = 0#8 := by
   intro x y e
   constructor
   ·apply BitVec.eq_of_getLsbD_eq; intro i hi
    have := congrArg (fun v => v.getLsbD i) e
    simp at this ⊢; exact this.1
   ·apply BitVec.eq_of_getLsbD_eq; intro i hi
    have := congrArg (fun v => v.getLsbD i) e
    simp at this ⊢; exact this.2
  obtain ⟨k1, k2⟩ := key _ _ h1;exact ⟨UInt8.toBitVec_inj.1 k1, UInt8.toBitVec_inj.1 k2⟩
 ·rintro ⟨rfl, rfl⟩; rfl
theorem xor_zero8 (a b : UInt8) : a ^^^ b = 0 ↔ a = b := by
 constructor
 ·intro h;have : (a ^^^ b) ^^^ b = 0 ^^^ b := by rw [h]
  rw [UInt8.xor_assoc, UInt8.xor_self, UInt8.xor_zero, UInt8.zero_xor] at this;exact this
 ·rintro rfl; exact UInt8.xor_self
theorem min_int (n m : Nat) : (if (m : Int) < (n : Int) then (m : Int) else (n : Int)) = ((min n m : Nat) : Int) := by split <;> omega
theorem JY (A B : Chunk) (a b : Option Addr) (ca cb : Nat) (xs ys : List UInt8) (hx : xs.length <= 100000) (hy : ys.length <= 100000) (h1 : Rd 1 [A] a xs.length (xs.map b8)) (h2 : Rd 1 [B] b ys.length (ys.map b8)) :
  Meets prog 118 [.slice a xs.length ca, .slice b ys.length cb] [A, B] fun v S => v = .bool (xs == ys) /\ S = [A, B] := by
 refine eN func118 ntmps118 results118 fun F => ?_
 refine gg ?_;refine if_nb (fun hc => ?_) (fun hc => ?_)
 ·refine gg ?_;refine zb [A, B] ?_;refine ⟨?_, rfl⟩;have : xs ≠ ys := fun e => hc (by rw [e])
  rw [beq_eq_false_iff_ne.2 this]
 ·refine gg ?_;have hl : xs.length = ys.length := by omega
  refine zz (fun q D L S => ∃ (i : Nat) (z : UInt8), i <= xs.length /\ (z = 0 ↔ xs.take i = ys.take i) /\ q = xs.length - i /\ D = [] /\
   L = [(14, .int .i64 i), (13, .int .i64 xs.length), (0, .slice a xs.length ca), (1, .slice b ys.length cb), (5, b8 z)] /\ S = [F, A, B]) ⟨0, 0, by omega, by simp, rfl, rfl, rfl, rfl⟩ ?_
  rintro q D L S ⟨i, z, hi, hz, rfl, rfl, rfl, rfl⟩;refine gg ?_;refine if_d (fun hc => ?_) (fun hc => ?_)
  ·refine gg ?_;refine cdL [[0], [1], [2], [3], [4], [5], [6], [7], [8], [9], [10], [11, 0]] ?_;refine gg ?_;refine gg ?_;refine zv ⟨i + 1, z ||| (xs.getD i 0 ^^^ ys.getD i 0), by omega, ?_, rfl, rfl, rfl, rfl⟩;rw [or_zero8, xor_zero8, hz, vR xs i (by omega), vR ys i (by omega)]
   constructor
   ·rintro ⟨e1, e2⟩; rw [e1, e2]
   ·intro e;have e3 := List.append_inj e (by simp; omega);exact ⟨e3.1, by simpa using e3.2⟩
  ·refine gg ?_;obtain rfl : i = xs.length := by omega
   refine zb [A, B] ?_;refine ⟨?_, rfl⟩
   congr 1
   rw [bF, hl, bF] at hz
   by_cases e : xs = ys
   ·rw [hz.2 e, e]; simp
   ·rw [beq_eq_false_iff_ne.2 e];have : z.toNat ≠ 0 := fun h0 => e (hz.1 (UInt8.toNat_inj.1 h0))
    rw [beq_eq_false_iff_ne]; omega
theorem xor_spec (A B : Chunk) (a b : Option Addr) (ca cb : Nat) (xs ys : List UInt8) (hx : xs.length <= 100000) (hy : ys.length <= 100000) (h1 : Rd 1 [A] a xs.length (xs.map b8)) (h2 : Rd 1 [B] b ys.length (ys.map b8)) :
  Meets prog 228 [.slice a xs.length ca, .slice b ys.length cb] [A, B] (New8 5 (xorB xs ys) [A, B]) := by
 refine eN func228 ntmps228 results228 fun F => ?_
 refine gg ?_;rw [min_int];refine zB ?_;have hm : min xs.length ys.length <= xs.length /\ min xs.length ys.length <= ys.length := ⟨Nat.min_le_left _ _, Nat.min_le_right _ _⟩;have hxl := kn xs ys
 refine zz (fun q D L S => ∃ (i : Nat) (C : Chunk) (p : Option Addr) (cp : Nat), i <= min xs.length ys.length /\ Own8 5 C p ((xorB xs ys).take i).length cp ((xorB xs ys).take i) /\ q = min xs.length ys.length - i /\ D = [] /\
  L = [(12, .int .i64 i), (11, .int .i64 (min xs.length ys.length : Nat)), (0, .slice a xs.length ca), (1, .slice b ys.length cb), (5, .slice p ((xorB xs ys).take i).length cp)] /\ S = [C, F, A, B]) ⟨0, [], none, 0, by omega, own_nil, rfl, rfl, rfl, rfl⟩ ?_
 rintro q D L S ⟨i, C, p, cp, hi, ho, rfl, rfl, rfl, rfl⟩;refine gg ?_;refine if_d (fun hc => ?_) (fun hc => ?_)
 ·refine gg ?_;refine cdL [[0], [1], [2], [3], [4], [5], [6], [7], [8], [9], [10, 0], [11, 0], [12, 0]] ?_;refine gg ?_;refine zg fun K hK => ?_; refine zX [xs.getD i 0 ^^^ ys.getD i 0] (by decide) rfl rfl (fun b1 C1 ho1 => ?_); refine hK _ _ ?_; clear hK K
  refine gg ?_;refine zg fun K hK => ?_; refine app8 ho pkA (ho1.rd mmA) (by simp; omega) (fun C2 a2 cap2 ho2 => ?_); refine hK _ _ ?_; clear hK K
  rw [<- Iq xs ys i (by omega)] at ho2;have el : ((xorB xs ys).take i).length + 1 = ((xorB xs ys).take (i + 1)).length := by rw [aU, aU]; omega
  rw [el] at ho2 ⊢;refine gg ?_;refine gg ?_;exact zv ⟨i + 1, C2, a2, cap2, by omega, ho2, rfl, rfl, rfl, rfl⟩
 ·refine gg ?_;obtain rfl : i = min xs.length ys.length := by omega
  rw [bS (by omega)] at ho ⊢;refine zb [C, A, B] ?_;exact ⟨C, p, cp, rfl, ho, rfl⟩
instance iQN0_1 : zH prog 383 [(0, 8), (8, 1), (9, 1)] := ⟨by kernel_rfl⟩
abbrev kG (l : List W) (v : Value) (n : Nat) : Obj := .cells (rowX l [v, .int .u64 n]) 383 (0, 0)
theorem new_spec {t0 : TypeId} (G : Chunk) (m0 : Nat × Nat) (hG0 : (0, Obj.cells (rowW first.list) t0 m0) ∈ G) : Meets prog 255 [] [G] fun v A => ∃ b, v = .pointer (some ⟨b, 0, none⟩) /\ A = [[(b, kG first.list (.slice none 0 0) 0)], G] := by
 refine eN func255 ntmps255 results255 fun F => ?_
 refine zd fun N1 hN1 => ?_
 refine rgE ?_;refine hN1 _ _ _ ?_; clear hN1;refine zd fun N2 hN2 => ?_
 refine xV ?_;refine zf fun K hK => ?_
 refine jO (l := first.list) (by (repeat (first | with_reducible exact Lies.one | with_reducible exact Lies.here (by assumption) | with_reducible apply Lies.next))) (St.list_len _) ?_;refine hK _ _ ?_; clear hK K;refine zf fun K hK => ?_
 rw [zV (ps := [(0, .agg (rowW first.list))]) (cs := rowX first.list [.slice none 0 0, .int .u64 0]) rfl];refine hK _ _ ?_; clear hK K;refine zf fun K hK => ?_
 refine yr fun b => ?_
 rw [show (Value.agg (rowX first.list [.slice none 0 0, .int .u64 0])).cells = rowX first.list [.slice none 0 0, .int .u64 0] from rfl];refine hK _ _ ?_; clear hK K;refine rnE ?_;refine hN2 _ _ _ ?_; clear hN2;refine zM ?_;exact kO [[(b, kG first.list (.slice none 0 0) 0)], G] (by (try simp only [evT, lookT_hit, lookT_miss, aG]); (first | done | exact rfl)) ⟨b, rfl, rfl⟩ amA
theorem UK {t1 : TypeId} (G C H : Chunk) (m1 : Nat × Nat) (hG1 : (3, Obj.cells (rowW odd) t1 m1) ∈ G) (b n : Nat) (s : St) (ar ap : Option Addr) (cr cp : Nat) (rest p : List UInt8) (hn : n <= 4611686018427387904) (hr : rest.length <= 1000000) (hp : p.length <= 1000000)
  (ho : Own8 5 C ar rest.length cr rest) (h : Rd 1 [H] ap p.length (p.map b8)) :
  Meets prog 248 [.pointer (some ⟨b, 0, none⟩), .slice ap p.length cp] [G, [(b, kG s.list (.slice ar rest.length cr) n)], C, H]
   fun v A => v = .int .i64 p.length /\ ∃ C' a' c', Own8 5 C' a' ((rest ++ p).drop (64 * ((rest ++ p).length / 64))).length c' ((rest ++ p).drop (64 * ((rest ++ p).length / 64))) /\
    A = [G, [(b, kG (Go.Sha.whole s (rest ++ p)).list (.slice a' ((rest ++ p).drop (64 * ((rest ++ p).length / 64))).length c') (n + p.length))], C', H] := by
 refine eN func248 ntmps248 results248 fun F => ?_
 refine zd fun N1 hN1 => ?_
 refine rgE ?_;refine hN1 _ _ _ ?_; clear hN1;refine zd fun N2 hN2 => ?_
 refine zd fun N3 hN3 => ?_
 refine rgE ?_;refine hN3 _ _ _ ?_; clear hN3;refine vp (by (try simp only [evT, lookT_hit, lookT_miss, aG]); (first | done | exact rfl)) (zI ?_);refine hN2 _ _ _ ?_; clear hN2;refine zd fun N5 hN5 => ?_
 refine yg ?_; (try refine jg ?_);refine hN5 _ _ _ ?_; clear hN5;refine zd fun N6 hN6 => ?_
 refine yg ?_; (try refine jg ?_);refine zf fun K hK => ?_; refine app8 (ho) pkA (h.mem mmA) (by omega) (fun C1 a1 cap1 ho1 => ?_); refine hK _ _ ?_; clear hK K
 (try refine Kz ?_); (try refine jg ?_)
 refine hN6 _ _ _ ?_; clear hN6;rw [show ((n : Int) + (p.length : Int)) = ((n + p.length : Nat) : Int) from by omega, show rest.length + p.length = (rest ++ p).length from List.length_append.symm];rw [show rest.length + p.length = (rest ++ p).length from List.length_append.symm] at ho1;have hTl : (rest ++ p).length <= 2000000 := by rw [aA]; omega
 generalize rest ++ p = T at ho1 hTl ⊢;generalize n + p.length = N;refine zd fun N7 hN7 => ?_
 refine zp ?_
 refine xd (fun q D L S => ∃ (i : Nat) (a' : Option Addr) (c' : Nat), 64 * i <= T.length /\ (T.drop (64 * i)).length <= c' /\ Rd 1 [C1] a' (T.drop (64 * i)).length ((T.drop (64 * i)).map b8) /\ q = T.length - 64 * i /\ D = [] /\ L = [(0, .pointer (some ⟨b, 0, none⟩)), (1, .slice ap p.length cp)] /\
  S = [C1, F, G, [(b, kG (run i s T).list (.slice a' (T.drop (64 * i)).length c') N)], H]) ?_ ?_
 ·exact ⟨_, _, _, ⟨0, a1, cap1, by omega, ho1.1, ho1.rd (aB ..), rfl, rfl, rfl, rfl⟩, by (repeat (first | exact True.intro | (refine aE ?_ ?_; (· (try simp only [evT, lookT_hit, lookT_miss, aG]); (first | done | exact rfl))))), amA⟩
 ·rintro q D L S ⟨i, a', c', hi, hc', hr', rfl, rfl, rfl, rfl⟩;have hdl : (T.drop (64 * i)).length = T.length - 64 * i := aT;refine zd fun N8 hN8 => ?_
  refine zd fun N9 hN9 => ?_
  refine yg ?_; (try refine jg ?_);refine hN9 _ _ _ ?_; clear hN9;refine xJ (fun hc => ?_) (fun hc => ?_)
  ·have hc := of_decide_eq_true hc;have hcut : Rd 1 [C1] (cutA 1 a' 0 c') 64 (((T.drop (64 * i)).take 64).map b8) := qz hr' (l := 0) (h' := 64) (m := c') (by omega) (by omega) (by omega)
   have e64 : (T.drop (64 * i)).length - 64 = (T.drop (64 * (i + 1))).length := by
    rw [aT, aT]; show T.length - 64 * i - 64 = _; omega
   have hr2 : Rd 1 [C1] (cutA 1 a' 64 c') (T.drop (64 * (i + 1))).length ((T.drop (64 * (i + 1))).map b8) := by
    have q := qz hr' (l := 64) (h' := (T.drop (64 * i)).length) (m := c') (by omega) (aR _) hc';rw [dL, show 64 * i + 64 = 64 * (i + 1) from by omega, bS (by rw [aT]; omega)] at q;rw [<- e64]; exact q
   have hc2 : (T.drop (64 * (i + 1))).length <= c' - 64 := by
    rw [aT]; show _ <= c' - 64; omega
   refine zI ?_;refine hN8 _ _ _ ?_; clear hN8;refine zp ?_;refine zd fun N10 hN10 => ?_
   refine cdL [[0], [1], [2], [3], [4], [5], [6], [7], [8, 0]] ?_
   (try refine kA ?_); (try refine zq ?_)
   refine zg fun K hK => ?_; refine xu (Zf G C1 m1 hG1 b 383 (run i s T) _ (cutA 1 a' 0 c') (c' - 0) (by omega) ((T.drop (64 * i)).take 64) (by rw [aU]; omega) hcut) tkA ?_; rintro v A ⟨rfl, rfl⟩; (try simp only [aD, aC]); refine hK _ _ ?_; clear hK K
   rw [<- wr]
   (try refine xy ?_); (try refine zq ?_)
   refine hN10 _ _ _ ?_; clear hN10;refine yg ?_; (try refine jg ?_);rw [e64];exact zv ⟨i + 1, _, _, by omega, hc2, hr2, rfl, rfl, rfl, rfl⟩
  ·have hc := of_decide_eq_false hc;refine zU ?_; try simp only [Cont.then, Cont.block, Cont.noGoto, reduceIte, aP];refine hN7 _ _ _ ?_; clear hN7;have hi2 : i = T.length / 64 := by omega
   subst hi2;refine zd fun N11 hN11 => ?_
   refine yg ?_; (try refine jg ?_);refine cA (xA C1 a' c' _ (by omega) hr') ?_; rintro v A ⟨C2, a2, cap2, rfl, ho2, rfl⟩; (try simp only [aD, aC])
   (try refine Kz ?_); (try refine jg ?_)
   refine hN11 _ _ _ ?_; clear hN11;refine zd fun N12 hN12 => ?_
   refine rgE ?_;refine hN12 _ _ _ ?_; clear hN12;refine zM ?_;exact kO [G, [(b, kG (Go.Sha.whole s T).list (.slice a2 (T.drop (64 * (T.length / 64))).length cap2) N)], C2, H] (by (try simp only [evT, lookT_hit, lookT_miss, aG]); (first | done | exact rfl)) ⟨rfl, C2, a2, cap2, ho2, rfl⟩ amA
theorem hsum_spec {t1 : TypeId} (G C : Chunk) (m1 : Nat × Nat) (hG1 : (3, Obj.cells (rowW odd) t1 m1) ∈ G) (b n : Nat) (s : St) (ar : Option Addr) (cr : Nat) (rest : List UInt8) (hn : n < 2305843009213693952) (hr : rest.length <= 1000000) (hmod : (rest.length + (pad n).length) % 64 = 0)
  (ho : Rd 1 [C] ar rest.length (rest.map b8)) :
  Meets prog 249 [.pointer (some ⟨b, 0, none⟩)] [G, [(b, kG s.list (.slice ar rest.length cr) n)], C]
   (New8 5 (Go.Sha.whole s (rest ++ pad n)).bytes [G, [(b, kG s.list (.slice ar rest.length cr) n)], C]) := by
 have hpl : (pad n).length <= 72 := by rw [yh, qm]; omega
 refine eN func249 ntmps249 results249 fun F => ?_
 refine zd fun N1 hN1 => ?_
 refine rgE ?_;refine hN1 _ _ _ ?_; clear hN1;refine zd fun N2 hN2 => ?_
 refine zd fun N3 hN3 => ?_
 refine rgE ?_;refine hN3 _ _ _ ?_; clear hN3;refine vp (by (try simp only [evT, lookT_hit, lookT_miss, aG]); (first | done | exact rfl)) (zI ?_);refine hN2 _ _ _ ?_; clear hN2;refine zd fun N5 hN5 => ?_
 refine rgE ?_;refine zf fun K hK => ?_
 refine load_rx lkA (St.list_len _) ?_;refine hK _ _ ?_; clear hK K;refine zf fun K hK => ?_; refine zu fun b3 => ?_; (try simp only [Value.cells]); refine hK _ _ ?_; clear hK K
 refine zf fun K hK => ?_
 refine jE (l := aQ 8 0) (l' := s.list) (by (repeat (first | exact Upd.one | apply Upd.next))) aW (St.list_len _) ?_;refine hK _ _ ?_; clear hK K;refine rnE ?_;refine hN5 _ _ _ ?_; clear hN5;refine zd fun N6 hN6 => ?_
 refine cdL [[0], [1], [2], [3], [5], [6], [7], [8], [4, 0, 8], [9, 0], [10, 0], [11, 0]] ?_
 (try refine kA ?_); (try refine zq ?_)
 refine zg fun K hK => ?_; refine xu (xA C ar cr rest (by omega) ho) tkA ?_; rintro v A ⟨C4, a4, cap4, rfl, ho4, rfl⟩; (try simp only [aD, aC]); (repeat refine pendh ?_); refine hK _ _ ?_; clear hK K
 (try refine kA ?_); (try refine zq ?_)
 refine zg fun K hK => ?_; refine xu (Vt n hn) tkA ?_; rintro v A ⟨C5, a5, cap5, rfl, ho5, rfl⟩; (try simp only [aD, aC]); refine hK _ _ ?_; clear hK K
 (try refine kA ?_); (try refine zq ?_)
 refine jR (by simp only [cM, bJ, cE]; rfl) fun K hK => ?_; (try simp only [gos, gob, aG, if_true, reduceIte, reduceCtorEq, bM, aP, bQ, bH, cJ, cK, bT, bU, bN, bV, bW, bX, bY, bZ, cB, aY, bI, goq]); (try (simp (disch := omega) only [gow, gobw]; try simp only [gos, gob, aG, if_true, reduceIte, reduceCtorEq, bM, aP, bQ, bH, cJ, cK, bT, bU, bN, bV, bW, bX, bY, bZ, cB, aY, bI, goq])); refine app8 ho4 pkA (ho5.rd mmA) (by omega) (fun C6 a6 cap6 ho6 => ?_); refine hK _ _ ?_; clear hK K
 (try refine kA ?_); (try refine zq ?_)
 refine zg fun K hK => ?_; refine pBk hK ?_; clear hK K
 (try refine kA ?_); (try refine zq ?_)
 refine hN6 _ _ _ ?_; clear hN6;rw [show rest.length + (pad n).length = (rest ++ pad n).length from List.length_append.symm];rw [show rest.length + (pad n).length = (rest ++ pad n).length from List.length_append.symm] at ho6 hmod;have hTl : (rest ++ pad n).length <= 2000000 := by rw [aA]; omega
 generalize rest ++ pad n = T at ho6 hTl hmod ⊢;rw [show rowW s.list = rowX s.list [] from by simp [rowW, rowX]];refine zd fun N7 hN7 => ?_
 refine zp ?_
 refine xd (fun q D L S => ∃ (i : Nat) (a' : Option Addr) (c' : Nat), 64 * i <= T.length /\ (T.drop (64 * i)).length <= c' /\ Rd 1 [C6] a' (T.drop (64 * i)).length ((T.drop (64 * i)).map b8) /\ q = T.length - 64 * i /\ D = [] /\ L = [(4, .slice a' (T.drop (64 * i)).length c'), (3, .pointer (some ⟨b3, 0, none⟩))] /\
  S = [C6, C, [(b3, .cells (rowX (run i s T).list []) 321 (0, 0))], F, G, [(b, kG s.list (.slice ar rest.length cr) n)]]) ?_ ?_
 ·exact ⟨_, _, _, ⟨0, a6, cap6, by omega, ho6.1, ho6.rd (aB ..), rfl, rfl, rfl, rfl⟩, by (repeat (first | exact True.intro | (refine aE ?_ ?_; (· (try simp only [evT, lookT_hit, lookT_miss, aG]); (first | done | exact rfl))))), amA⟩
 ·rintro q D L S ⟨i, a', c', hi, hc', hr', rfl, rfl, rfl, rfl⟩;have hdl : (T.drop (64 * i)).length = T.length - 64 * i := aT;refine zd fun N8 hN8 => ?_
  refine zd fun N9 hN9 => ?_
  refine rgE ?_;refine hN9 _ _ _ ?_; clear hN9;refine xJ (fun hc => ?_) (fun hc => ?_)
  ·have hc := of_decide_eq_true hc;have hcut : Rd 1 [C6] (cutA 1 a' 0 c') 64 (((T.drop (64 * i)).take 64).map b8) := qz hr' (l := 0) (h' := 64) (m := c') (by omega) (by omega) (by omega)
   have e64 : (T.drop (64 * i)).length - 64 = (T.drop (64 * (i + 1))).length := by
    rw [aT, aT]; show T.length - 64 * i - 64 = _; omega
   have hr2 : Rd 1 [C6] (cutA 1 a' 64 c') (T.drop (64 * (i + 1))).length ((T.drop (64 * (i + 1))).map b8) := by
    have q := qz hr' (l := 64) (h' := (T.drop (64 * i)).length) (m := c') (by omega) (by omega) hc';rw [dL, show 64 * i + 64 = 64 * (i + 1) from by omega, bS (by rw [aT]; omega)] at q;rw [<- e64]; exact q
   have hc2 : (T.drop (64 * (i + 1))).length <= c' - 64 := by
    rw [aT]; show _ <= c' - 64; omega
   refine zI ?_;refine hN8 _ _ _ ?_; clear hN8;refine zd fun N10 hN10 => ?_
   refine zp ?_;refine rgE ?_;refine zf fun K hK => ?_
   refine xu (Zf G C6 m1 hG1 b3 321 (run i s T) [] (cutA 1 a' 0 c') (c' - 0) (by omega) ((T.drop (64 * i)).take 64) (by rw [aU]; omega) hcut) tkA ?_; rintro v A ⟨rfl, rfl⟩; (try simp only [aD, aC]); refine hK _ _ ?_; clear hK K;rw [<- wr];refine rnE ?_;refine hN10 _ _ _ ?_; clear hN10;refine rgE ?_;rw [e64];exact zv ⟨i + 1, _, _, by omega, hc2, hr2, rfl, rfl, rfl, rfl⟩
  ·have hc := of_decide_eq_false hc;refine zU ?_; try simp only [Cont.then, Cont.block, Cont.noGoto, reduceIte, aP];refine hN7 _ _ _ ?_; clear hN7;have hi2 : i = T.length / 64 := by omega
   subst hi2;refine zd fun N11 hN11 => ?_
   refine rgE ?_;refine cA (XW b3 _ _ _ _) ?_; rintro v A ⟨C7, a7, cap7, rfl, ho7, rfl⟩; (try simp only [aD, aC]);refine rnE ?_;refine hN11 _ _ _ ?_; clear hN11;refine zM ?_;refine zb ([C7, G, [(b, kG s.list (.slice ar rest.length cr) n)], C]) ?_; exact ⟨_, _, _, rfl, ho7, rfl⟩
theorem OP (C : Chunk) (b n : Nat) (s : St) (ar : Option Addr) (cr : Nat) (rest : List UInt8) (hr : rest.length <= 1000000) (ho : Rd 1 [C] ar rest.length (rest.map b8)) :
  Meets prog 247 [.pointer (some ⟨b, 0, none⟩)] [[(b, kG s.list (.slice ar rest.length cr) n)], C]
   fun v A => ∃ b' C' a' c', v = .pointer (some ⟨b', 0, none⟩) /\ Own8 5 C' a' rest.length c' rest /\ A = [[(b', kG s.list (.slice a' rest.length c') n)], C', [(b, kG s.list (.slice ar rest.length cr) n)], C] := by
 refine eN func247 ntmps247 results247 fun F => ?_
 refine zd fun N1 hN1 => ?_
 refine rgE ?_;refine hN1 _ _ _ ?_; clear hN1;refine zd fun N2 hN2 => ?_
 refine zd fun N3 hN3 => ?_
 refine rgE ?_;refine hN3 _ _ _ ?_; clear hN3;refine vp (by (try simp only [evT, lookT_hit, lookT_miss, aG]); (first | done | exact rfl)) (zI ?_);refine hN2 _ _ _ ?_; clear hN2;refine zd fun N5 hN5 => ?_
 refine rgE ?_;refine zf fun K hK => ?_
 refine load_ra (l := s.list) (r := [.slice ar rest.length cr, .int .u64 n]) lkA (show s.list.length + 2 = 10 from rfl) ?_;refine hK _ _ ?_; clear hK K;refine zf fun K hK => ?_; refine zu fun b3 => ?_; (try simp only [Value.cells]); refine hK _ _ ?_; clear hK K
 refine zf fun K hK => ?_
 refine store_ra (l := aQ 8 0) (r := [.slice none 0 0, .int .u64 0]) (l' := s.list) (r' := [.slice ar rest.length cr, .int .u64 n]) (by simp [Value.cell1]) (by (repeat (first | exact Upd.one | apply Upd.next))) (show (aQ 8 (0 : W)).length + 2 = 10 from rfl) (show s.list.length + 2 = 10 from rfl) ?_;refine hK _ _ ?_; clear hK K;refine rnE ?_;refine hN5 _ _ _ ?_; clear hN5;refine zd fun N6 hN6 => ?_
 refine yg ?_; (try refine jg ?_);refine cA (xA C ar cr rest (by omega) ho) ?_; rintro v A ⟨C4, a4, cap4, rfl, ho4, rfl⟩; (try simp only [aD, aC])
 (try refine Kz ?_); (try refine jg ?_)
 refine hN6 _ _ _ ?_; clear hN6;refine zd fun N7 hN7 => ?_
 refine rgE ?_;refine hN7 _ _ _ ?_; clear hN7;refine zM ?_;exact kO [[(b3, kG s.list (.slice a4 rest.length cap4) n)], C4, [(b, kG s.list (.slice ar rest.length cr) n)], C] (by (try simp only [evT, lookT_hit, lookT_miss, aG]); (first | done | exact rfl)) ⟨b3, C4, a4, cap4, rfl, ho4, rfl⟩ amA
def wK (b : Nat) (all : List UInt8) (a : Option Addr) (c : Nat) : Chunk := [(b, kG (Go.Sha.whole first all).list (.slice a (all.drop (64 * (all.length / 64))).length c) all.length)]
def left (all : List UInt8) : List UInt8 := all.drop (64 * (all.length / 64))
theorem new2_spec {t0 : TypeId} (G : Chunk) (m0 : Nat × Nat) (hG0 : (0, Obj.cells (rowW first.list) t0 m0) ∈ G) : Meets prog 255 [] [G] fun v A => ∃ b, v = .pointer (some ⟨b, 0, none⟩) /\ A = [wK b [] none 0, G] := new_spec G m0 hG0
theorem VO {t1 : TypeId} (G C H : Chunk) (m1 : Nat × Nat) (hG1 : (3, Obj.cells (rowW odd) t1 m1) ∈ G) (b : Nat) (all : List UInt8) (ar ap : Option Addr) (cr cp : Nat) (p : List UInt8) (hn : all.length <= 1000000) (hp : p.length <= 1000000)
  (ho : Own8 5 C ar (left all).length cr (left all)) (h : Rd 1 [H] ap p.length (p.map b8)) :
  Meets prog 248 [.pointer (some ⟨b, 0, none⟩), .slice ap p.length cp] [G, wK b all ar cr, C, H]
   fun v A => v = .int .i64 p.length /\ ∃ C' a' c', Own8 5 C' a' (left (all ++ p)).length c' (left (all ++ p)) /\ A = [G, wK b (all ++ p) a' c', C', H] := by
 have hW := UK G C H m1 hG1 b all.length (Go.Sha.whole first all) ar ap cr cp (left all) p (by omega) (by unfold left; rw [wy]; omega) hp ho h;unfold left at hW;rw [rest_on, <- Yo, <- aA] at hW;exact hW
theorem OO {t1 : TypeId} (G C : Chunk) (m1 : Nat × Nat) (hG1 : (3, Obj.cells (rowW odd) t1 m1) ∈ G) (b : Nat) (all : List UInt8) (ar : Option Addr) (cr : Nat) (hn : all.length <= 1000000) (ho : Rd 1 [C] ar (left all).length ((left all).map b8)) :
  Meets prog 249 [.pointer (some ⟨b, 0, none⟩)] [G, wK b all ar cr, C] (New8 5 (xL all) [G, wK b all ar cr, C]) := by
 have h := hsum_spec G C m1 hG1 b all.length (Go.Sha.whole first all) ar cr (left all) (by omega) (by unfold left; rw [wy]; omega) (by have := QT all.length; unfold left; rw [wy]; omega) ho;unfold left at h;rw [<- Yo] at h;exact h
theorem WB (C : Chunk) (b : Nat) (all : List UInt8) (ar : Option Addr) (cr : Nat) (hn : all.length <= 1000000) (ho : Rd 1 [C] ar (left all).length ((left all).map b8)) :
  Meets prog 247 [.pointer (some ⟨b, 0, none⟩)] [wK b all ar cr, C]
   fun v A => ∃ b' C' a' c', v = .pointer (some ⟨b', 0, none⟩) /\ Own8 5 C' a' (left all).length c' (left all) /\ A = [wK b' all a' c', C', wK b all ar cr, C] :=
 OP C b all.length (Go.Sha.whole first all) ar cr (left all) (by unfold left; rw [wy]; omega) ho
def jK (C : Chunk) (b : Nat) (all : List UInt8) : Prop := ∃ R a c, Own8 5 R a (left all).length c (left all) /\ C = wK b all a c ++ R
theorem newH {G : Chunk} (hg : jj G) : Meets prog 255 [] [G] fun v A => ∃ b C, v = .pointer (some ⟨b, 0, none⟩) /\ jK C b [] /\ A = [C, G] := by
 obtain ⟨⟨_, m0, h0⟩, ⟨_, m1, h1⟩⟩ := hg;refine (new2_spec G m0 h0).perm (by simp) ?_;rintro v A ⟨b, rfl, rfl⟩;exact ⟨[wK b [] none 0, G], List.Perm.refl _, b, _, rfl, ⟨[], none, 0, own_nil, by simp⟩, rfl⟩
theorem Ir {G : Chunk} (hg : jj G) (C H : Chunk) (b : Nat) (all : List UInt8) (hC : jK C b all) (ap : Option Addr) (cp : Nat) (p : List UInt8) (hn : all.length <= 1000000) (hp : p.length <= 1000000) (h : Rd 1 [H] ap p.length (p.map b8)) :
  Meets prog 248 [.pointer (some ⟨b, 0, none⟩), .slice ap p.length cp] [G, C, H]
   fun v A => v = .int .i64 p.length /\ ∃ C', jK C' b (all ++ p) /\ A = [G, C', H] := by
 obtain ⟨⟨_, m0, h0⟩, ⟨_, m1, h1⟩⟩ := hg;obtain ⟨R, a, c, ho, rfl⟩ := hC;refine (VO G R H m1 h1 b all a ap c cp p hn hp ho h).perm (by simp) ?_;rintro v A ⟨rfl, R', a', c', ho', rfl⟩;exact ⟨[G, wK b (all ++ p) a' c' ++ R', H], by simp, rfl, _, ⟨R', a', c', ho', rfl⟩, rfl⟩
theorem sumH {G : Chunk} (hg : jj G) (C : Chunk) (b : Nat) (all : List UInt8) (hC : jK C b all) (hn : all.length <= 1000000) :
  Meets prog 249 [.pointer (some ⟨b, 0, none⟩)] [G, C] (New8 5 (xL all) [G, C]) := by
 obtain ⟨⟨_, m0, h0⟩, ⟨_, m1, h1⟩⟩ := hg;obtain ⟨R, a, c, ho, rfl⟩ := hC;refine (OO G R m1 h1 b all a c hn (ho.rd (by simp))).perm (by simp) ?_;rintro v A ⟨D, a', c', rfl, ho', rfl⟩;exact ⟨[D, G, wK b all a c ++ R], by simp, D, a', c', rfl, ho', rfl⟩
theorem copyH (C : Chunk) (b : Nat) (all : List UInt8) (hC : jK C b all) (hn : all.length <= 1000000) :
  Meets prog 247 [.pointer (some ⟨b, 0, none⟩)] [C] fun v A => ∃ b' C', v = .pointer (some ⟨b', 0, none⟩) /\ jK C' b' all /\ A = [C', C] := by
 obtain ⟨R, a, c, ho, rfl⟩ := hC;refine (WB R b all a c hn (ho.rd (by simp))).perm (by simp) ?_;rintro v A ⟨b', R', a', c', rfl, ho', rfl⟩;exact ⟨[wK b' all a' c' ++ R', wK b all a c ++ R], by simp, b', _, rfl, ⟨R', a', c', ho', rfl⟩, rfl⟩
abbrev macO (bi bo bn : Nat) : Obj := .cells #[.pointer (some ⟨bi, 0, none⟩), .pointer (some ⟨bo, 0, none⟩), .pointer (some ⟨bn, 0, none⟩)] 374 (0, 0)
def wh (C : Chunk) (m : Nat) (key all : List UInt8) : Prop := ∃ bi bo bn Ci Co Cn, jK Ci bi (padK key 54) /\ jK Co bo (padK key 92) /\ jK Cn bn (padK key 54 ++ all) /\ C = [(m, macO bi bo bn)] ++ (Ci ++ (Co ++ Cn))
instance iHE_1 : zH prog 374 [(0, 1), (1, 1), (2, 1)] := ⟨by kernel_rfl⟩
theorem begunH {G : Chunk} (hg : jj G) (H : Chunk) (ap : Option Addr) (cp : Nat) (p : List UInt8) (hp : p.length <= 1000000) (h : Rd 1 [H] ap p.length (p.map b8)) :
  Meets prog 246 [.slice ap p.length cp] [G, H] fun v A => ∃ b C, v = .pointer (some ⟨b, 0, none⟩) /\ jK C b p /\ A = [C, G, H] := by
 refine eN func246 ntmps246 results246 fun F => ?_
 refine gg ?_;refine cA (newH hg) ?_; rintro v A ⟨b, C, rfl, hC, rfl⟩; refine gA ?_;refine cA (Ir hg C H b [] hC ap cp p (by simp) hp h) ?_; rintro v A ⟨rfl, C', hC', rfl⟩; refine gA ?_;refine zb [C', G, H] ?_;exact ⟨b, C', rfl, hC', rfl⟩
theorem Xz (m bi bo : Nat) (vn : Value) (Ci : Chunk) (key : List UInt8) (hi : jK Ci bi (padK key 54)) :
  Meets prog 224 [.pointer (some ⟨m, 0, none⟩)] [[(m, .cells #[.pointer (some ⟨bi, 0, none⟩), .pointer (some ⟨bo, 0, none⟩), vn] 374 (0, 0))], Ci] fun v A => ∃ b C, jK C b (padK key 54) /\ A = [[(m, macO bi bo b)], Ci, C] := by
 refine eN func224 ntmps224 results224 fun F => ?_
 refine gg ?_;refine cA (copyH Ci bi _ hi (by rw [ju]; decide)) ?_; rintro v A ⟨b', C', rfl, hC', rfl⟩; refine gA ?_;exact zL [[(m, .cells #[.pointer (some ⟨bi, 0, none⟩), .pointer (some ⟨bo, 0, none⟩), .pointer (some ⟨b', 0, none⟩)] 374 (0, 0))], Ci, C'] ⟨b', C', hC', rfl⟩
theorem Oo (C : Chunk) (m : Nat) (key all : List UInt8) (hC : wh C m key all) :
  Meets prog 224 [.pointer (some ⟨m, 0, none⟩)] [C] fun v A => ∃ C', wh C' m key [] /\ A = [C'] := by
 obtain ⟨bi, bo, bn, Ci, Co, Cn, hi, ho, hn, rfl⟩ := hC;refine Meets.conv [[(m, macO bi bo bn)], Ci, Co, Cn] (Xz m bi bo (.pointer (some ⟨bn, 0, none⟩)) Ci key hi) flA tkA ?_; rintro v A ⟨b, C', hC', rfl⟩;exact ⟨[[(m, macO bi bo b)] ++ (Ci ++ (Co ++ C'))], [[(m, macO bi bo b)], Ci, Co, C'], flA, amA, _, ⟨bi, bo, b, Ci, Co, C', hi, ho, by rw [aL]; exact hC', rfl⟩, rfl⟩
theorem Wm {G : Chunk} (hg : jj G) (m bi bo bn : Nat) (Cn H : Chunk) (all : List UInt8) (hn : jK Cn bn all) (ha : all.length <= 1000000) (ap : Option Addr) (cp : Nat) (p : List UInt8) (hp : p.length <= 1000000) (h : Rd 1 [H] ap p.length (p.map b8)) :
  Meets prog 225 [.pointer (some ⟨m, 0, none⟩), .slice ap p.length cp] [G, [(m, macO bi bo bn)], Cn, H] fun v A => v = .int .i64 p.length /\ ∃ C, jK C bn (all ++ p) /\ A = [G, [(m, macO bi bo bn)], C, H] := by
 unfold macO;refine eN func225 ntmps225 results225 fun F => ?_
 refine gg ?_;refine cA (Ir hg Cn H bn all hn ap cp p ha hp h) ?_; rintro v A ⟨rfl, C', hC', rfl⟩; refine gA ?_;refine zb [G, [(m, .cells #[.pointer (some ⟨bi, 0, none⟩), .pointer (some ⟨bo, 0, none⟩), .pointer (some ⟨bn, 0, none⟩)] 374 (0, 0))], C', H] ?_;exact ⟨rfl, C', hC', rfl⟩
theorem Wl {G : Chunk} (hg : jj G) (C H : Chunk) (m : Nat) (key all : List UInt8) (hC : wh C m key all) (ha : all.length <= 900000) (ap : Option Addr) (cp : Nat) (p : List UInt8) (hp : p.length <= 1000000) (h : Rd 1 [H] ap p.length (p.map b8)) :
  Meets prog 225 [.pointer (some ⟨m, 0, none⟩), .slice ap p.length cp] [G, C, H] fun v A => v = .int .i64 p.length /\ ∃ C', wh C' m key (all ++ p) /\ A = [G, C', H] := by
 obtain ⟨bi, bo, bn, Ci, Co, Cn, hi, ho, hn, rfl⟩ := hC;refine Meets.conv [G, [(m, macO bi bo bn)], Ci, Co, Cn, H] (Wm hg m bi bo bn Cn H _ hn (by rw [aA, ju]; omega) ap cp p hp h) flA tkA ?_; rintro v A ⟨rfl, C', hC', rfl⟩;exact ⟨[G, [(m, macO bi bo bn)] ++ (Ci ++ (Co ++ C')), H], [G, [(m, macO bi bo bn)], Ci, Co, C', H], flA, amA, rfl, _, ⟨bi, bo, bn, Ci, Co, C', hi, ho, by rw [<- aM]; exact hC', rfl⟩, rfl⟩
theorem msum_core {G : Chunk} (hg : jj G) (m bi bo bn : Nat) (Co Cn : Chunk) (key all : List UInt8) (ho : jK Co bo (padK key 92)) (hn : jK Cn bn all) (ha : all.length <= 1000000) :
  Meets prog 226 [.pointer (some ⟨m, 0, none⟩)] [G, [(m, macO bi bo bn)], Co, Cn] (New8 5 (xL (padK key 92 ++ xL all)) [G, [(m, macO bi bo bn)], Co, Cn]) := by
 have hpl : ∀ x, (padK key x).length = 64 := ju key;have hd : ∀ m, (xL m).length = 32 := vm;unfold macO;refine eN func226 ntmps226 results226 fun F => ?_
 refine gg ?_;refine cA (copyH Co bo _ ho (by rw [ju]; decide)) ?_; rintro v A ⟨b', C', rfl, hC', rfl⟩; refine gA ?_;refine cA (sumH hg Cn bn _ hn ha) ?_; rintro v A ⟨C2, a2, c2, rfl, ho2, rfl⟩; refine gA ?_;refine cA (Ir hg C' C2 b' _ hC' a2 c2 (xL all) (by rw [hpl]; decide) (by rw [hd]; decide) (ho2.rd (by simp))) ?_; rintro v A ⟨rfl, C3, hC3, rfl⟩; refine gA ?_;refine cA (sumH hg C3 b' _ hC3 (by rw [aA, hpl, hd]; decide)) ?_; rintro v A ⟨C4, a4, c4, rfl, ho4, rfl⟩; refine gA ?_;refine zb [C4, G, [(m, .cells #[.pointer (some ⟨bi, 0, none⟩), .pointer (some ⟨bo, 0, none⟩), .pointer (some ⟨bn, 0, none⟩)] 374 (0, 0))], Co, Cn] ?_;exact ⟨C4, a4, c4, rfl, ho4, rfl⟩
theorem msum_spec {G : Chunk} (hg : jj G) (C : Chunk) (m : Nat) (key all : List UInt8) (hC : wh C m key all) (ha : all.length <= 900000) :
  Meets prog 226 [.pointer (some ⟨m, 0, none⟩)] [G, C] (New8 5 (mac key all) [G, C]) := by
 obtain ⟨bi, bo, bn, Ci, Co, Cn, hi, ho, hn, rfl⟩ := hC;refine Meets.conv [G, [(m, macO bi bo bn)], Ci, Co, Cn] (msum_core hg m bi bo bn Co Cn key _ ho hn (by rw [aA, ju]; omega)) flA tkA ?_; rintro v A ⟨D, a, c, rfl, hD, rfl⟩;exact ⟨[D, G, [(m, macO bi bo bn)] ++ (Ci ++ (Co ++ Cn))], [D, G, [(m, macO bi bo bn)], Ci, Co, Cn], flA, amA, D, a, c, rfl, hD, rfl⟩
theorem mnew_core {G : Chunk} (hg : jj G) (H : Chunk) (a : Option Addr) (cap : Nat) (key : List UInt8) (hk : key.length <= 100000) (hcap : key.length <= cap) (h : Rd 1 [H] a key.length (key.map b8)) :
  Meets prog 222 [.slice a key.length cap] [G, H] fun v A => ∃ m bi bo bn Ci Co Cn, v = .pointer (some ⟨m, 0, none⟩) /\ jK Ci bi (padK key 54) /\ jK Co bo (padK key 92) /\ jK Cn bn (padK key 54) /\ A = [[(m, macO bi bo bn)], Ci, Co, Cn, G, H] := by
 have hpl : ∀ x, (padK key x).length = 64 := ju key;refine eN func222 ntmps222 results222 fun F => ?_
 refine gg ?_;refine cA (padS hg H a cap key hk hcap h 54) ?_; rintro v A ⟨C1, a1, c1, rfl, ho1, rfl⟩; refine gA ?_;refine cA (begunH hg C1 a1 c1 _ (by rw [hpl]; decide) (ho1.rd (by simp))) ?_; rintro v A ⟨bi, Ci, rfl, hi, rfl⟩; refine gA ?_;refine cA (padS hg H a cap key hk hcap h 92) ?_; rintro v A ⟨C2, a2, c2, rfl, ho2, rfl⟩; refine gA ?_;refine cA (begunH hg C2 a2 c2 _ (by rw [hpl]; decide) (ho2.rd (by simp))) ?_; rintro v A ⟨bo, Co, rfl, ho, rfl⟩; refine gA ?_;refine oT [(0, .pointer (some ⟨bi, 0, none⟩)), (1, .pointer (some ⟨bo, 0, none⟩))] #[.pointer (some ⟨bi, 0, none⟩), .pointer (some ⟨bo, 0, none⟩), .pointer none] ?_;refine oB fun m => ?_
 refine gg ?_;refine cA (Xz m bi bo (.pointer none) Ci key hi) ?_; rintro v A ⟨bn, Cn, hn, rfl⟩; refine gA ?_;refine zb [[(m, macO bi bo bn)], Ci, Co, Cn, G, H] ?_;exact ⟨m, bi, bo, bn, Ci, Co, Cn, rfl, hi, ho, hn, rfl⟩
theorem mnew_spec {G : Chunk} (hg : jj G) (H : Chunk) (a : Option Addr) (cap : Nat) (key : List UInt8) (hk : key.length <= 100000) (hcap : key.length <= cap) (h : Rd 1 [H] a key.length (key.map b8)) :
  Meets prog 222 [.slice a key.length cap] [G, H] fun v A => ∃ m C, v = .pointer (some ⟨m, 0, none⟩) /\ wh C m key [] /\ A = [C, G, H] := by
 refine Meets.conv [G, H] (mnew_core hg H a cap key hk hcap h) flA tkA ?_; rintro v A ⟨m, bi, bo, bn, Ci, Co, Cn, rfl, hi, ho, hn, rfl⟩;exact ⟨[[(m, macO bi bo bn)] ++ (Ci ++ (Co ++ Cn)), G, H], [[(m, macO bi bo bn)], Ci, Co, Cn, G, H], flA, amA, m, _, rfl, ⟨bi, bo, bn, Ci, Co, Cn, hi, ho, by rw [aL]; exact hn, rfl⟩, rfl⟩
structure Pc where
 bs : List UInt8
 a : Option Addr
 c : Nat
 H : Chunk
def isPc (blk : Nat -> List UInt8) (pre : List Pc) (x : Pc) : Prop := x.bs = blk pre.length /\ 32 <= x.c /\ Rd 1 [x.H] x.a 32 (x.bs.map b8)
theorem Um (blk : Nat -> List UInt8) (h : ∀ k, (blk k).length = 32) (size k : Nat) (h1 : size <= 32 * k) (h2 : 32 * k < size + 32) (h3 : 1 <= size) : (cat blk k).take size = (cat blk (many size)).take size := by
 have : many size = k := by unfold many; omega
 rw [this]
theorem Wz (blk : Nat -> List UInt8) (hblk : ∀ k, (blk k).length = 32) (size : Nat) (h1 : 1 <= size) (h2 : size <= 128) {f : FuncId} {captured : Array Value} {A : State}
  (it : yv prog f [] captured.toList (fun x : Pc => [.slice x.a 32 x.c]) (fun x => x.H) A (isPc blk) (fun _ => False) true) :
  Meets prog 181 [.int .i64 size, .func (.func f) #[] captured] A (New8 5 ((cat blk (many size)).take size) A) := by
 have hcl := Qd blk hblk;refine eN func181 ntmps181 results181 fun F => ?_
 refine gg ?_;refine oB fun b2 => ?_
 refine gg ?_;refine zf fun K hK => ?_; refine zu fun b5 => ?_; (try simp only [Value.cells]); refine hK _ _ ?_; clear hK K
 refine gg ?_;refine zB ?_
 refine ZS (by (try simp only [evT, lookT_hit, lookT_miss, aG]); (first | done | exact rfl)) it (Qp A [[], [(b5, .cells #[.slice none 0 0] 43 (0, 0))], [(b2, .cells #[.int .i64 size] 3 (0, 0))], F]) (fun pre C => 32 * pre.length < size /\ ∃ (O : Chunk) (oa : Option Addr) (oc : Nat), Own8 5 O oa (cat blk pre.length).length oc (cat blk pre.length) /\ C = [O, [(b5, .cells #[.slice oa (cat blk pre.length).length oc] 43 (0, 0))], [(b2, .cells #[.int .i64 size] 3 (0, 0))], F])
  (fun c pre C => c = .exit 0 /\ size <= 32 * pre.length /\ 32 * pre.length < size + 32 /\ ∃ (O : Chunk) (oa : Option Addr) (oc : Nat), Own8 5 O oa (cat blk pre.length).length oc (cat blk pre.length) /\ C = [O, [(b5, .cells #[.slice oa (cat blk pre.length).length oc] 43 (0, 0))], [(b2, .cells #[.int .i64 size] 3 (0, 0))], F])
  (fun _ => ⟨128, by decide, fun pre C h => by obtain ⟨h, _⟩ := h; omega⟩) (fun _ => rfl) ⟨by simp; omega, [], none, 0, own_nil, rfl⟩ ?_ ?_ ?_
 ·rintro l F1 C r pre x ⟨hxb, hxc, hxr⟩ ⟨hlt, O, oa, oc, ho, rfl⟩;have el : (pre ++ [x]).length = pre.length + 1 := by simp
  have hbs : x.bs.length = 32 := by rw [hxb, hblk]
  (try simp only [aD, aC])
  (try simp only [jz, putT, bM, if_true, reduceIte, Array.toList, dG])
  refine gg ?_;refine ⟨_, Among.refl _, fun r' _ => ?_⟩;refine gg ?_;refine zf fun K hK => ?_; refine app8 ho pkA (hxr.mem mmA) (by rw [hcl]; omega) (fun C3 a3 cap3 ho3 => ?_); refine hK _ _ ?_; clear hK K
  have e3 : cat blk pre.length ++ x.bs = cat blk (pre ++ [x]).length := by rw [el, cat, hxb]
  have e4 : (cat blk pre.length).length + 32 = (cat blk (pre ++ [x]).length).length := by rw [<- e3, aA, hbs]
  rw [e3, e4] at ho3;rw [e4];refine gg ?_;have e5 := hcl (pre ++ [x]).length;refine if_d (fun hc => ?_) (fun hc => ?_)
  ·refine gg ?_;exact ⟨[C3, [(b5, .cells #[.slice a3 (cat blk (pre ++ [x]).length).length cap3] 43 (0, 0))], [(b2, .cells #[.int .i64 size] 3 (0, 0))], F, x.H], ⟨[C3, [(b5, .cells #[.slice a3 (cat blk (pre ++ [x]).length).length cap3] 43 (0, 0))], [(b2, .cells #[.int .i64 size] 3 (0, 0))], F], rfl, rfl, by omega, by omega, C3, a3, cap3, ho3, rfl⟩, amA⟩
  ·refine gg ?_;exact ⟨[C3, [(b5, .cells #[.slice a3 (cat blk (pre ++ [x]).length).length cap3] 43 (0, 0))], [(b2, .cells #[.int .i64 size] 3 (0, 0))], F, x.H], ⟨[C3, [(b5, .cells #[.slice a3 (cat blk (pre ++ [x]).length).length cap3] 43 (0, 0))], [(b2, .cells #[.int .i64 size] 3 (0, 0))], F], rfl, by omega, C3, a3, cap3, ho3, rfl⟩, amA⟩
 ·rintro d pre C hd _;exact hd.elim
 ·rintro d c pre x C hx ⟨rfl, hge, hlt, O, oa, oc, ho, rfl⟩;have e5 := hcl (pre ++ [x]).length;have hoc := ho.1
  (try simp only [aD, aC])
  refine gg ?_
  have hcut : Rd 1 [O] (cutA 1 oa 0 oc) size (((cat blk (many size)).take size).map b8) := by
   have := qz (ho.rd (S := [O]) (by simp)) (l := 0) (h' := size) (m := oc) (by omega) (by omega) (by omega);rw [List.drop_zero, bI, Um blk hblk size _ hge hlt h1] at this;exact this
  have es : ((cat blk (many size)).take size).length = size := by rw [aU, hcl]; unfold many; omega
  have hcl2 := xA O (cutA 1 oa 0 oc) oc ((cat blk (many size)).take size) (by rw [es]; omega) (by rw [es]; exact hcut);rw [es] at hcl2;refine zf fun K hK => ?_; refine xu hcl2 (by (repeat (first | exact Take.nil _ | with_reducible exact Pick.head _ _ | with_reducible apply Pick.tail | with_reducible apply Take.cons))) ?_; rintro v A' ⟨D1, a1, c1, rfl, ho1, rfl⟩; (try simp only [aD, aC]); refine hK _ _ ?_; clear hK K
  refine gg ?_;refine ze (D1 :: A) ?_ (hs := ?_)
  ·exact ⟨D1, a1, c1, rfl, ho1, rfl⟩
  ·refine .cons pkA (.cons (.head _ _) ?_);exact XZ A [O, [(b5, .cells #[.slice oa (cat blk (pre ++ [x]).length).length oc] 43 (0, 0))], [(b2, .cells #[.int .i64 size] 3 (0, 0))]]
theorem Km {P : Program} {t : TypeId} {x y : Operand} {j : IntKind} {a n : Int} {κ : Value -> Prop} (h0 : 0 <= n) (h1 : n <= 64) : PureW P (do eqGuard .shr t x y (.int .i64 a) (.int j n); binOp .shr t (.int .i64 a) (.int j n)) κ = κ (.int .i64 (a / 2 ^ n.toNat)) :=
 zm (fun w => by
  have e : min n.toNat IntKind.i64.bits = n.toNat := by show min n.toNat 64 = n.toNat; omega
  have h3 : ¬ n < 0 := by omega
  show (Op.shift .shr .i64 a j n).run P w = _
  rw [Op.shift, if_neg h3, e]
  show Result.ok (Value.int .i64 (Int.fdiv a (2 ^ n.toNat))) w = _
  rw [Int.fdiv_eq_ediv_of_nonneg _ (Int.le_of_lt (Int.pow_pos (by decide)))]) κ
theorem four_spec (n : Nat) (hn : n <= 4611686018427387905) : Meets prog 227 [.int .i64 n] [] (New8 5 (be 4 n) []) := by
 refine eN func227 ntmps227 results227 fun F => ?_
 refine gg ?_;refine zf fun K hK => ?_; rw [Km (by decide) (by decide)]; refine hK _ _ ?_; clear hK K
 refine gg ?_;refine zf fun K hK => ?_; rw [Km (by decide) (by decide)]; refine hK _ _ ?_; clear hK K
 refine gg ?_;refine zf fun K hK => ?_; rw [Km (by decide) (by decide)]; refine hK _ _ ?_; clear hK K
 refine gg ?_;have e1 : ∀ k : Nat, IntKind.u8.wrap ((n : Int) / ((2 ^ k : Nat) : Int)) = ((aH (n / 2 ^ k)).toNat : Int) := fun k => by rw [<- Int.natCast_ediv, qt]
 have e2 : IntKind.u8.wrap (n : Int) = ((aH n).toNat : Int) := qt n;rw [show ((n : Int) / 16777216) = (n : Int) / ((2 ^ 24 : Nat) : Int) from rfl, show ((n : Int) / 65536) = (n : Int) / ((2 ^ 16 : Nat) : Int) from rfl, show ((n : Int) / 256) = (n : Int) / ((2 ^ 8 : Nat) : Int) from rfl, e1, e1, e1, e2];refine zf fun K hK => ?_; refine zX ([aH (n / 2 ^ 24), aH (n / 2 ^ 16), aH (n / 2 ^ 8), aH n]) (by decide) rfl (rfl) (fun b1 C1 ho1 => ?_); refine hK _ _ ?_; clear hK K
 refine gg ?_
 have e3 : be 4 n = [aH (n / 2 ^ 24), aH (n / 2 ^ 16), aH (n / 2 ^ 8), aH n] := by
  simp [be, bC, List.range.loop]
 rw [e3];refine zb [C1] ?_;exact ⟨C1, _, 4, rfl, ho1, rfl⟩
theorem yB : ∀ (ls : List (List UInt8)) (i : Nat) (h : i < ls.length), (ls.take (i + 1)).flatten = (ls.take i).flatten ++ ls[i]
 | [], i, h => by simp at h
 | x :: l, 0, h => by simp
 | x :: l, i + 1, h => by
  have := yB l i (by simpa using h);simp only [List.take_succ_cons, aO, List.getElem_cons_succ, aM];rw [<- this]
theorem yA (ls : List (List UInt8)) (i : Nat) : (ls.take i).flatten.length <= ls.flatten.length := by
 have := congrArg (fun l => l.flatten.length) (cR i ls);simp only [bG, aA] at this;omega
theorem QU {G : Chunk} (hg : jj G) (bx m : Nat) (Cm W : Chunk) (key all : List UInt8) (hC : wh Cm m key all) (pa : Option Addr) (n pc : Nat) (ls : List (List UInt8)) (hp : we [W] pa n ls) (hn : n <= 1000) (hl : ls.flatten.length <= 100000) :
  Meets prog 223 [.slice pa n pc, .pointer (some ⟨bx, 0, none⟩)] [G, [(bx, .cells #[.pointer (some ⟨m, 0, none⟩)] 347 (0, 0))], Cm, W]
   fun v A => ∃ D a c Cm', v = .slice a 32 c /\ wh Cm' m key ls.flatten /\ Own8 5 D a 32 c (mac key ls.flatten) /\ A = [D, G, [(bx, .cells #[.pointer (some ⟨m, 0, none⟩)] 347 (0, 0))], Cm', W] := by
 obtain ⟨hll, us, hr, hu⟩ := hp;have hul : us.length = n := by have := hr.1; omega
 refine eN func223 ntmps223 results223 fun F => ?_
 refine gg ?_;refine cA (Oo Cm m key all hC) ?_; rintro v A ⟨C1, hC1, rfl⟩; refine gA ?_
 refine zz (fun q D L S => ∃ (i : Nat) (C' : Chunk), i <= n /\ wh C' m key (ls.take i).flatten /\ q = n - i /\ D = [] /\
  L = [(10, .int .i64 i), (9, .int .i64 n), (8, .slice pa n pc), (1, .pointer (some ⟨bx, 0, none⟩))] /\ S = [C', F, G, [(bx, .cells #[.pointer (some ⟨m, 0, none⟩)] 347 (0, 0))], W]) ⟨0, C1, by omega, hC1, rfl, rfl, rfl, rfl⟩ ?_
 rintro q D L S ⟨i, C', hi, hC', rfl, rfl, rfl, rfl⟩;refine gg ?_;refine if_d (fun hc => ?_) (fun hc => ?_)
 ·have hin : i < n := by omega
  obtain ⟨p, c, hv, hpc, hpr⟩ := hu i us[i] ls[i] (aF (by omega)) (aF (by omega));have hui : us[i]? = some (.slice p ls[i].length c) := by rw [aF (by omega), hv]
  have hle := yA ls i;have hst := yB ls i (by omega);have hle2 := yA ls (i + 1);rw [hst, aA] at hle2;refine gg ?_;refine cA (Wl hg C' W m key _ hC' (by omega) p c ls[i] (by omega) hpr) ?_; rintro v A ⟨rfl, C2, hC2, rfl⟩; refine gA ?_;rw [<- hst] at hC2;exact zv ⟨i + 1, C2, by omega, hC2, rfl, rfl, rfl, rfl⟩
 ·refine gg ?_;obtain rfl : i = n := by omega
  rw [bS (by omega)] at hC';refine cA (msum_spec hg C' m key _ hC' (by omega)) ?_; rintro v A ⟨D1, a1, c1, rfl, ho1, rfl⟩; refine gA ?_;refine zb [D1, G, [(bx, .cells #[.pointer (some ⟨m, 0, none⟩)] 347 (0, 0))], C', W] ?_;exact ⟨D1, a1, c1, C', rfl, hC', ho1, rfl⟩
theorem once3 {G : Chunk} (hg : jj G) (bx m : Nat) (Cm X Y Z : Chunk) (key all : List UInt8) (hC : wh Cm m key all) (pa : Option Addr) (n pc : Nat) (ls : List (List UInt8)) (hp : we [X ++ (Y ++ Z)] pa n ls) (hn : n <= 1000) (hl : ls.flatten.length <= 100000) :
  Meets prog 223 [.slice pa n pc, .pointer (some ⟨bx, 0, none⟩)] [G, [(bx, .cells #[.pointer (some ⟨m, 0, none⟩)] 347 (0, 0))], Cm, X, Y, Z]
   fun v A => ∃ D a c Cm', v = .slice a 32 c /\ wh Cm' m key ls.flatten /\ Own8 5 D a 32 c (mac key ls.flatten) /\ A = [D, G, [(bx, .cells #[.pointer (some ⟨m, 0, none⟩)] 347 (0, 0))], Cm', X, Y, Z] := by
 refine Meets.conv [G, [(bx, .cells #[.pointer (some ⟨m, 0, none⟩)] 347 (0, 0))], Cm, X ++ (Y ++ Z)] (QU hg bx m Cm (X ++ (Y ++ Z)) key all hC pa n pc ls hp hn hl) flA tkA ?_; rintro v A ⟨D, a, c, Cm', rfl, hC', ho, rfl⟩;exact ⟨[D, G, [(bx, .cells #[.pointer (some ⟨m, 0, none⟩)] 347 (0, 0))], Cm', X, Y, Z], [D, G, [(bx, .cells #[.pointer (some ⟨m, 0, none⟩)] 347 (0, 0))], Cm', X ++ (Y ++ Z)], flA, amA, D, a, c, Cm', rfl, hC', ho, rfl⟩
theorem once2 {G : Chunk} (hg : jj G) (bx m : Nat) (Cm X Y : Chunk) (key all : List UInt8) (hC : wh Cm m key all) (pa : Option Addr) (n pc : Nat) (ls : List (List UInt8)) (hp : we [X ++ Y] pa n ls) (hn : n <= 1000) (hl : ls.flatten.length <= 100000) :
  Meets prog 223 [.slice pa n pc, .pointer (some ⟨bx, 0, none⟩)] [G, [(bx, .cells #[.pointer (some ⟨m, 0, none⟩)] 347 (0, 0))], Cm, X, Y]
   fun v A => ∃ D a c Cm', v = .slice a 32 c /\ wh Cm' m key ls.flatten /\ Own8 5 D a 32 c (mac key ls.flatten) /\ A = [D, G, [(bx, .cells #[.pointer (some ⟨m, 0, none⟩)] 347 (0, 0))], Cm', X, Y] := by
 refine Meets.conv [G, [(bx, .cells #[.pointer (some ⟨m, 0, none⟩)] 347 (0, 0))], Cm, X ++ Y] (QU hg bx m Cm (X ++ Y) key all hC pa n pc ls hp hn hl) flA tkA ?_; rintro v A ⟨D, a, c, Cm', rfl, hC', ho, rfl⟩;exact ⟨[D, G, [(bx, .cells #[.pointer (some ⟨m, 0, none⟩)] 347 (0, 0))], Cm', X, Y], [D, G, [(bx, .cells #[.pointer (some ⟨m, 0, none⟩)] 347 (0, 0))], Cm', X ++ Y], flA, amA, D, a, c, Cm', rfl, hC', ho, rfl⟩
abbrev boxS (p : Nat) (v : Value) (t : TypeId) : Chunk := [(p, .cells #[v] t (0, 0))]
theorem KY {G : Chunk} (hg : jj G) (p1 p2 p3 : Nat) (Hp Hs : Chunk) (pa sa : Option Addr) (pcap scap : Nat) (pass salt : List UInt8) (rounds : Nat) (hr1 : 1 <= rounds) (hr2 : rounds <= 1000)
  (hp1 : pass.length <= 10000) (hp2 : pass.length <= pcap) (hp3 : Rd 1 [Hp] pa pass.length (pass.map b8)) (hs1 : salt.length <= 10000) (hs2 : salt.length <= scap) (hs3 : Rd 1 [Hs] sa salt.length (salt.map b8)) :
  yv prog 221 [] [.pointer (some ⟨p1, 0, none⟩), .pointer (some ⟨p2, 0, none⟩), .pointer (some ⟨p3, 0, none⟩)] (fun x : Pc => [.slice x.a 32 x.c]) (fun x => x.H)
   [boxS p1 (.slice pa pass.length pcap) 43, boxS p2 (.slice sa salt.length scap) 43, boxS p3 (.int .i64 rounds) 3, G, Hp, Hs]
   (isPc fun k => qA pass salt rounds (k + 1)) (fun _ => False) true := by
 refine ZG (by kernel_rfl) fun l J Jx hN hY C hC => ?_
 obtain ⟨N, hN0, hN⟩ := hN rfl;refine eN func221 ntmps221 results221 fun F => ?_
 refine gg ?_;refine cA (mnew_spec hg Hp pa pcap pass (by omega) hp2 hp3) ?_; rintro v A ⟨m, C1, rfl, hC1, rfl⟩; refine gA ?_;refine zf fun K hK => ?_; refine zu fun bx => ?_; (try simp only [Value.cells]); refine hK _ _ ?_; clear hK K
 refine gg ?_
 refine zz (fun q D L S => ∃ (pre : List Pc) (C' Cm : Chunk) (all : List UInt8), J pre C' /\ wh Cm m pass all /\ q = N + 1 - pre.length /\ D = [] /\
  L = [(7, .int .i64 (pre.length + 1 : Nat)), (6, .func (.func 223) #[] #[.pointer (some ⟨bx, 0, none⟩)]), (0, .func (.yield l) #[] #[]), (1, .pointer (some ⟨p1, 0, none⟩)), (2, .pointer (some ⟨p2, 0, none⟩)), (3, .pointer (some ⟨p3, 0, none⟩))] /\
  S = [Cm, C', boxS bx (.pointer (some ⟨m, 0, none⟩)) 347, F, boxS p1 (.slice pa pass.length pcap) 43, boxS p2 (.slice sa salt.length scap) 43, boxS p3 (.int .i64 rounds) 3, G, Hp, Hs])
  ⟨[], C, C1, [], hC, hC1, rfl, rfl, rfl, rfl⟩ ?_
 rintro q D L S ⟨pre, C', Cm, all, hJ, hCm, rfl, rfl, rfl, rfl⟩;have hpN := hN pre C' hJ;refine gg ?_;refine cdL [[0], [1], [2], [3, 0, 1], [4, 0], [5, 0], [6, 0]] ?_;refine gg ?_;refine zg fun K hK => ?_; refine zo (four_spec (pre.length + 1) (by omega)) ?_; rintro v A ⟨C2, a2, c2, rfl, ho2, rfl⟩; refine pA hK ?_; clear hK K
 have hbl : (be 4 (pre.length + 1)).length = 4 := jb _ _;refine gg ?_;refine zg fun K hK => ?_; refine xZ rfl [.slice sa salt.length scap, .slice a2 (be 4 (pre.length + 1)).length c2] (by decide) rfl rfl (by simp [Value.cell1]) (fun b3 C3 ho3 => ?_); refine hK _ _ ?_; clear hK K
 refine gg ?_;refine zg fun K hK => ?_; refine zo (once3 hg bx m Cm C3 C2 Hs pass all hCm _ 2 2 [salt, be 4 (pre.length + 1)] (yN ho3 ((vals_nil.snoc hs2 (hs3.wide2 C2)).snoc ho2.1 ((ho2.rd (S := [C2]) (by simp)).wide1 Hs))) (by decide) (by simp only [aO, bO, aL, aA, hbl]; omega)) ?_; rintro v A ⟨D1, a1, c1, Cm1, rfl, hCm1, ho1, rfl⟩; refine pA hK ?_; clear hK K
 have e1 : [salt, be 4 (pre.length + 1)].flatten = salt ++ be 4 (pre.length + 1) := by simp
 rw [e1] at ho1 hCm1;refine gg ?_;refine gg ?_;generalize hu0 : mac pass (salt ++ be 4 (pre.length + 1)) = u0 at *;have hpc : qA pass salt rounds (pre.length + 1) = strT pass u0 u0 (rounds - 1) := by unfold qA; rw [hu0]
 have hul : u0.length = 32 := by rw [<- hu0]; exact vZ _ _
 refine zB ?_
 refine zz (fun q D L S => ∃ (i : Nat) (X U T Cm' : Chunk) (all' u t : List UInt8) (ua ta : Option Addr) (uc tc : Nat), i <= rounds - 1 /\ wh Cm' m pass all' /\ u.length = 32 /\ t.length = 32 /\ Own8 5 U ua 32 uc u /\ T ∈ [U, X] /\ 32 <= tc /\ Rd 1 [T] ta 32 (t.map b8) /\
   qA pass salt rounds (pre.length + 1) = strT pass u t (rounds - 1 - i) /\ q = rounds - 1 - i /\ D = [] /\
  L = [(24, .int .i64 i), (23, .int .i64 ((rounds : Int) - 1)), (8, .slice ua 32 uc), (9, .slice ta 32 tc), (7, .int .i64 (pre.length + 1 : Nat)), (6, .func (.func 223) #[] #[.pointer (some ⟨bx, 0, none⟩)]), (0, .func (.yield l) #[] #[]), (1, .pointer (some ⟨p1, 0, none⟩)), (2, .pointer (some ⟨p2, 0, none⟩)), (3, .pointer (some ⟨p3, 0, none⟩))] /\
  S = [U, X, Cm', C', boxS bx (.pointer (some ⟨m, 0, none⟩)) 347, F, boxS p1 (.slice pa pass.length pcap) 43, boxS p2 (.slice sa salt.length scap) 43, boxS p3 (.int .i64 rounds) 3, G, Hp, Hs])
  ⟨0, [], D1, D1, Cm1, _, u0, u0, a1, a1, c1, c1, by omega, hCm1, hul, hul, ho1, by simp, ho1.1, ho1.rd (by simp), hpc, rfl, rfl, rfl, rfl⟩ ?_
 rintro q D L S ⟨i, X, U, T, Cm', all', u, t, ua, ta, uc, tc, hi, hCm', hul, htl, hoU, hT, htc, hrt, hpi, rfl, rfl, rfl, rfl⟩;refine gg ?_;refine if_d (fun hc => ?_) (fun hc => ?_)
 ·refine gg ?_;refine zf fun K hK => ?_; refine xZ rfl [.slice ua 32 uc] (by decide) rfl rfl (by simp [Value.cell1]) (fun b4 C4 ho4 => ?_); refine hK _ _ ?_; clear hK K
  have hrU := hoU.rd (S := [U]) (by simp);refine cA (once2 hg bx m Cm' C4 U pass all' hCm' _ 1 1 [u] (yN ho4 (by rw [<- hul]; exact vals_nil.snoc (by rw [hul]; exact hoU.1) (by rw [hul]; exact hrU))) (by decide) (by simp only [aO, bO, aL]; omega)) ?_; rintro v A ⟨D5, a5, c5, Cm5, rfl, hCm5, ho5, rfl⟩; refine gA ?_;rw [show [u].flatten = u from by simp] at hCm5 ho5;have hrD := ho5.rd (S := [D5]) (by simp);have hml : (mac pass u).length = 32 := vZ _ _;have hxs := xor_spec T D5 ta a5 tc c5 t (mac pass u) (by omega) (by omega) (by rw [htl]; exact hrt) (by rw [hml]; exact hrD);rw [htl, hml] at hxs;have hxl : (xorB t (mac pass u)).length = 32 := by rw [kn, htl, hml]; decide
  have hst : strT pass u t (rounds - 1 - i) = strT pass (mac pass u) (xorB t (mac pass u)) (rounds - 1 - (i + 1)) := by
   rw [show rounds - 1 - i = (rounds - 1 - (i + 1)) + 1 from by omega]; rfl
  rw [hst] at hpi;simp only [bA, aX, or_false] at hT
  rcases hT with rfl | rfl
  ·refine cA (hxs) ?_; rintro v A ⟨D6, a6, c6, rfl, ho6, rfl⟩; refine gA ?_;rw [hxl] at ho6 ⊢;exact zv ⟨i + 1, D6, D5, D6, Cm5, _, mac pass u, xorB t (mac pass u), a5, a6, c5, c6, by omega, hCm5, hml, hxl, ho5, by simp, ho6.1, ho6.rd (by simp), hpi, rfl, rfl, rfl, rfl⟩
  ·refine cA (hxs) ?_; rintro v A ⟨D6, a6, c6, rfl, ho6, rfl⟩; refine gA ?_;rw [hxl] at ho6 ⊢;exact zv ⟨i + 1, D6, D5, D6, Cm5, _, mac pass u, xorB t (mac pass u), a5, a6, c5, c6, by omega, hCm5, hml, hxl, ho5, by simp, ho6.1, ho6.rd (by simp), hpi, rfl, rfl, rfl, rfl⟩
 ·obtain rfl : i = rounds - 1 := by omega
  rw [dT] at hpi;have ht : qA pass salt rounds (pre.length + 1) = t := hpi;have hx : isPc (fun k => qA pass salt rounds (k + 1)) pre ⟨t, ta, tc, T⟩ := ⟨ht.symm, htc, hrt⟩;have el : (pre ++ [(⟨t, ta, tc, T⟩ : Pc)]).length = pre.length + 1 := by simp
  simp only [bA, aX, or_false] at hT
  rcases hT with rfl | rfl
  ·refine gg ?_;refine zf fun K hK => ?_
   refine vN (hY pre ⟨t, ta, tc, T⟩ hx) hJ tkA (fun C4 hJ4 => ?_) (fun C4 hJ4 => ?_)
   ·refine hK _ _ ?_; clear hK K;refine gg ?_;have hq := hN _ _ hJ4;rw [el] at hq;refine zv ⟨pre ++ [⟨t, ta, tc, T⟩], C4, Cm', all', hJ4, hCm', rfl, rfl, by rw [el], rfl⟩ (hm := by rw [el]; omega)
   ·refine hK _ _ ?_; clear hK K;refine gg ?_;exact xP [C4, boxS p1 (.slice pa pass.length pcap) 43, boxS p2 (.slice sa salt.length scap) 43, boxS p3 (.int .i64 rounds) 3, G, Hp, Hs] ⟨C4, rfl, .inr ⟨pre, _, hx, hJ4⟩⟩
  ·refine gg ?_;refine zf fun K hK => ?_
   refine vN (hY pre ⟨t, ta, tc, T⟩ hx) hJ tkA (fun C4 hJ4 => ?_) (fun C4 hJ4 => ?_)
   ·refine hK _ _ ?_; clear hK K;refine gg ?_;have hq := hN _ _ hJ4;rw [el] at hq;refine zv ⟨pre ++ [⟨t, ta, tc, T⟩], C4, Cm', all', hJ4, hCm', rfl, rfl, by rw [el], rfl⟩ (hm := by rw [el]; omega)
   ·refine hK _ _ ?_; clear hK K;refine gg ?_;exact xP [C4, boxS p1 (.slice pa pass.length pcap) 43, boxS p2 (.slice sa salt.length scap) 43, boxS p3 (.int .i64 rounds) 3, G, Hp, Hs] ⟨C4, rfl, .inr ⟨pre, _, hx, hJ4⟩⟩
theorem KX (pa sa : Option Addr) (pn pc sn sc : Nat) (rounds : Int) : Meets prog 182 [.slice pa pn pc, .slice sa sn sc, .int .i64 rounds] []
  fun v A => ∃ p1 p2 p3, v = .func (.func 221) #[] #[.pointer (some ⟨p1, 0, none⟩), .pointer (some ⟨p2, 0, none⟩), .pointer (some ⟨p3, 0, none⟩)] /\
   A = [boxS p1 (.slice pa pn pc) 43, boxS p2 (.slice sa sn sc) 43, boxS p3 (.int .i64 rounds) 3] := by
 refine eN func182 ntmps182 results182 fun F => ?_
 refine gg ?_;refine oB fun p1 => ?_
 refine gg ?_;refine oB fun p2 => ?_
 refine gg ?_;refine oB fun p3 => ?_
 refine gg ?_;refine zb [boxS p1 (.slice pa pn pc) 43, boxS p2 (.slice sa sn sc) 43, boxS p3 (.int .i64 rounds) 3] ?_;exact ⟨p1, p2, p3, rfl, rfl⟩
theorem Jl (n : Int) : Meets prog 180 [.int .i64 n] [] fun v A => v = .bool (decide (1 <= n /\ n <= 128)) /\ A = [] := by
 refine eN func180 ntmps180 results180 fun F => ?_
 by_cases h1 : 1 <= n
 ·have e : decide (1 <= n) = true := decide_eq_true h1;refine gg ?_;rw [e];refine gg ?_;refine zb [] ?_; exact ⟨by simp [h1], rfl⟩
 ·have e : decide (1 <= n) = false := decide_eq_false h1;refine gg ?_;rw [e];refine gg ?_;refine zb [] ?_; exact ⟨by simp [h1], rfl⟩
theorem Ke {G : Chunk} (hg : jj G) (Hp Hs : Chunk) (pa sa : Option Addr) (pcap scap : Nat) (pass salt : List UInt8) (rounds size : Nat) (hr1 : 1 <= rounds) (hr2 : rounds <= 64) (hz1 : 1 <= size) (hz2 : size <= 128)
  (hp1 : pass.length <= 10000) (hp2 : pass.length <= pcap) (hp3 : Rd 1 [Hp] pa pass.length (pass.map b8)) (hs1 : salt.length <= 10000) (hs2 : salt.length <= scap) (hs3 : Rd 1 [Hs] sa salt.length (salt.map b8)) :
  Meets prog 130 [.slice pa pass.length pcap, .slice sa salt.length scap, .int .i64 rounds, .int .i64 size] [G, Hp, Hs]
   fun v A => ∃ C a c, v = .tuple #[.slice a (qU pass salt rounds size).length c, .int .i64 0] /\ Own8 5 C a (qU pass salt rounds size).length c (qU pass salt rounds size) /\ A = [C, G, Hp, Hs] := by
 refine eN func130 ntmps130 results130 fun F => ?_
 refine gg ?_;rw [decide_eq_false (show ¬ (rounds : Int) < 1 by omega)];refine gg ?_;rw [decide_eq_false (show ¬ (64 : Int) < rounds by omega)];refine gg ?_;refine cA (Jl size) ?_; rintro v A ⟨rfl, rfl⟩; (try simp only [aD, aC]);rw [decide_eq_true (show (1 : Int) <= size /\ (size : Int) <= 128 by omega)];refine gg ?_;refine cA (KX pa sa _ pcap _ scap rounds) ?_; rintro v A ⟨p1, p2, p3, rfl, rfl⟩; (try simp only [aD, aC]);refine gg ?_;refine zf fun K hK => ?_
 refine zo (Wz (fun k => qA pass salt rounds (k + 1)) (fun k => QR _ _ _ _) size hz1 hz2 (captured := #[.pointer (some ⟨p1, 0, none⟩), .pointer (some ⟨p2, 0, none⟩), .pointer (some ⟨p3, 0, none⟩)]) (KY hg p1 p2 p3 Hp Hs pa sa pcap scap pass salt rounds hr1 (by omega) hp1 hp2 hp3 hs1 hs2 hs3)) ?_;rintro v A ⟨C1, a1, c1, rfl, ho1, rfl⟩
 (try simp only [aD, aC])
 refine hK _ _ ?_; clear hK K;refine gg ?_;refine ze [C1, G, Hp, Hs] ?_;exact ⟨C1, a1, c1, rfl, ho1, rfl⟩
theorem rd_l {s : Nat} {A B : Chunk} {a : Option Addr} {n : Nat} {us : List Value} (h : Rd s [A] a n us) : Rd s [A ++ B] a n us :=
 ⟨h.1, fun hne => let ⟨b, o, cs, e, m, h1, h2, h3⟩ := h.2 hne; ⟨b, o, cs, e, m, h1, .here (by have := h2.mem; simp at this; exact bD _ this), h3⟩⟩
theorem rd_r {s : Nat} {A B : Chunk} {a : Option Addr} {n : Nat} {us : List Value} (h : Rd s [B] a n us) : Rd s [A ++ B] a n us :=
 ⟨h.1, fun hne => let ⟨b, o, cs, e, m, h1, h2, h3⟩ := h.2 hne; ⟨b, o, cs, e, m, h1, .here (by have := h2.mem; simp at this; exact List.mem_append_right _ this), h3⟩⟩
structure Part1 (A B : Chunk) (pa : Option Addr) (ma : Option Addr) (mc : Nat) (m : List UInt8) : Prop where
 arr : Rd 1 [A] pa 1 [.slice ma m.length mc]
 cap : m.length <= mc
 rd : Rd 1 [B] ma m.length (m.map b8)
 len : m.length <= 100000
theorem Part1.flat {A B : Chunk} {pa ma : Option Addr} {mc : Nat} {m : List UInt8} (h : Part1 A B pa ma mc m) : we [A ++ B] pa 1 [m] := by
 refine ⟨rfl, _, rd_l h.arr, fun i v l hv hl => ?_⟩
 match i, hv, hl with
 | 0, hv, hl => cases hv; cases hl; exact ⟨ma, mc, rfl, h.cap, rd_r h.rd⟩
theorem Part1.two {A B : Chunk} {pa ma : Option Addr} {mc : Nat} {m : List UInt8} (h : Part1 A B pa ma mc m) : we [A, B] pa 1 [m] := by
 refine ⟨rfl, _, h.arr.mem (by simp), fun i v l hv hl => ?_⟩
 match i, hv, hl with
 | 0, hv, hl => cases hv; cases hl; exact ⟨ma, mc, rfl, h.cap, h.rd.mem (by simp)⟩
theorem Vm (m : List UInt8) : ([m] : List (List UInt8)).flatten = m := by simp
theorem mac1 {G : Chunk} (hg : jj G) (H A B : Chunk) (a : Option Addr) (cap : Nat) (key : List UInt8) (hk : key.length <= 100000) (hcap : key.length <= cap) (h : Rd 1 [H] a key.length (key.map b8)) {pa ma : Option Addr} {mc : Nat} {m : List UInt8} (hp : Part1 A B pa ma mc m) :
  Meets prog 132 [.slice a key.length cap, .slice pa 1 1] [G, H, A, B] (New8 5 (mac key m) [G, H, A, B]) := by
 have hl := hp.len;have k : Meets prog 132 [.slice a key.length cap, .slice pa 1 1] [G, H, A, B] (New8 5 (mac key ([m] : List (List UInt8)).flatten) [G, H, A, B]) := (Wp hg H (A ++ B) a pa cap 1 1 key [m] hk hcap h hp.flat (by decide) (by decide) (by rw [Vm]; omega)).perm (by simp) (fun v A' ⟨C, a', cap', hv, ho, hA⟩ => ⟨[C, G, H, A, B], by rw [hA]; simp, C, a', cap', hv, ho, rfl⟩);rw [Vm] at k;exact k
theorem sum1 {G : Chunk} (hg : jj G) (A B : Chunk) {pa ma : Option Addr} {mc : Nat} {m : List UInt8} (hp : Part1 A B pa ma mc m) :
  Meets prog 133 [.slice pa 1 1] [G, A, B] (New8 5 (xL m) [G, A, B]) := by
 have hl := hp.len;have k := sumS hg A B pa 1 1 [m] hp.flat (by decide) (by decide) (by rw [Vm]; omega);rw [Vm] at k;exact k
def qL (C : Chunk) (b : Nat) (x : BX) : Prop := ∃ (la : Option Addr) (lc r : Nat) (CL CM : Chunk) (us : List Value), C = bxB b x.sym la x.ts.length lc r ++ (CL ++ CM) /\ Ost.Own 6 253 CL la x.ts.length lc us /\ xK CM r (mapT x.ts 0)
def Out (b : Nat) (y : List UInt8 × BX) (R : State) (v : Value) (A : State) : Prop := ∃ (O C' : Chunk) (oa : Option Addr) (oc : Nat), v = .slice oa y.1.length oc /\ Own8 5 O oa y.1.length oc y.1 /\ qL C' b y.2 /\ A = O :: C' :: R
theorem hash_open {G : Chunk} (hg : jj G) {A B : Chunk} {pa ma : Option Addr} {mc : Nat} {m : List UInt8} (hp : Part1 A B pa ma mc m)
  (b : Nat) (x : BX) (hts : x.ts.length <= 1000) {la : Option Addr} {lc r : Nat} {CL CM : Chunk} {us : List Value} (hL : Ost.Own 6 253 CL la x.ts.length lc us) (hM : xK CM r (mapT x.ts 0)) :
  Meets prog 82 [.pointer (some ⟨b, 0, none⟩), .slice pa 1 1] [bxB b x.sym la x.ts.length lc r, CL, CM, G, A, B]
  fun v A' => ∃ (O : Chunk) (oa : Option Addr) (oc : Nat) (la' : Option Addr) (lc' : Nat) (CL' CM' : Chunk) (us' : List Value), v = .slice oa (xl x m).1.length oc /\ Own8 5 O oa (xl x m).1.length oc (xl x m).1 /\
   Ost.Own 6 253 CL' la' (xl x m).2.ts.length lc' us' /\ xK CM' r (mapT (xl x m).2.ts 0) /\ A' = [O, bxB b x.sym la' (xl x m).2.ts.length lc' r, CL', CM', G, A, B] := by
 have hml := hp.len;unfold xl;refine eN func82 ntmps82 results82 fun F => ?_
 refine gg ?_
 cases hs : x.sym with
 | true =>
  rw [if_pos rfl];refine gg ?_;refine cA (kh [A, B] pa 1 1 [m] hp.two (by decide) (by decide) (by rw [Vm]; omega)) ?_; rintro v A ⟨J, ja, jc, rfl, hjc, hjr, hjl, rfl⟩; refine gA ?_;rw [Vm] at hjc hjr ⊢;refine oT [(0, .int .i64 1), (2, .slice ja m.length jc)] (tmV ⟨1, [], m, 0⟩ none 0 ja jc).toArray ?_;refine gg ?_;have ht := Yy (ka := none) ⟨1, [], m, 0⟩ (by show 1 <= 10; decide) (by show 0 <= 1000; decide) (by show 0 <= 100000; decide) hml (aR _) hjc Rd.nil hjr b x hts hL hM;rw [hs] at ht;refine cA (ht) ?_; rintro v A ⟨O, oa, oc, la', lc', CL', CM', us', rfl, hO, hL', hM', rfl⟩; refine gA ?_;refine zb [O, bxB b true la' (tagX x ⟨1, [], m, 0⟩).2.ts.length lc' r, CL', CM', G, A, B] ?_;exact ⟨O, oa, oc, la', lc', CL', CM', us', rfl, hO, hL', hM', rfl⟩
 | false =>
  rw [if_neg (by simp)];refine gg ?_;refine cA (sum1 hg A B hp) ?_; rintro v A ⟨O, oa, oc, rfl, hO, rfl⟩; refine gA ?_;refine zb [O, bxB b false la x.ts.length lc r, CL, CM, G, A, B] ?_;exact ⟨O, oa, oc, la, lc, CL, CM, us, rfl, hO, hL, hM, rfl⟩
theorem IP (t : Tm) (h1 : t.k <= 10) (h2 : t.rnd <= 1000) (h3 : t.key.length <= 100000) (h4 : t.txt.length <= 100000) {Kc J : Chunk} {ka xa : Option Addr} {kc xc : Nat}
  (hk0 : t.key.length <= kc) (hx0 : t.txt.length <= xc) (hk : Rd 1 [Kc] ka t.key.length (t.key.map b8)) (hx : Rd 1 [J] xa t.txt.length (t.txt.map b8))
  (b : Nat) (x : BX) (hts : x.ts.length <= 1000) {la : Option Addr} {lc r : Nat} {CL CM : Chunk} {us : List Value} (hL : Ost.Own 6 253 CL la x.ts.length lc us) (hM : xK CM r (mapT x.ts 0)) :
  Meets prog 129 [.pointer (some ⟨b, 0, none⟩), .agg (tmV t ka kc xa xc).toArray] [bxB b x.sym la x.ts.length lc r, CL, CM, Kc, J]
  fun v A => ∃ (O : Chunk) (oa : Option Addr) (oc : Nat) (la' : Option Addr) (lc' : Nat) (CL' CM' : Chunk) (us' : List Value), v = .slice oa (tagX x t).1.length oc /\ Own8 5 O oa (tagX x t).1.length oc (tagX x t).1 /\
   Ost.Own 6 253 CL' la' (tagX x t).2.ts.length lc' us' /\ xK CM' r (mapT (tagX x t).2.ts 0) /\ A = [O, bxB b x.sym la' (tagX x t).2.ts.length lc' r, CL', CM', Kc, J] :=
 (Yy t h1 h2 h3 h4 (H := Kc ++ J) hk0 hx0 (rd_l hk) (rd_r hx) b x hts hL hM).perm (by simp) (fun v A' ⟨O, oa, oc, la', lc', CL', CM', us', hv, hO, hL', hM', hA⟩ =>
  ⟨[O, bxB b x.sym la' (tagX x t).2.ts.length lc' r, CL', CM', Kc, J], by rw [hA]; simp, O, oa, oc, la', lc', CL', CM', us', hv, hO, hL', hM', rfl⟩)
theorem mac_open {G : Chunk} (hg : jj G) {Kc A B : Chunk} {ka : Option Addr} {kc : Nat} {key : List UInt8} (hkl : key.length <= 100000) (hk0 : key.length <= kc) (hk : Rd 1 [Kc] ka key.length (key.map b8)) {pa ma : Option Addr} {mc : Nat} {m : List UInt8} (hp : Part1 A B pa ma mc m)
  (b : Nat) (x : BX) (hts : x.ts.length <= 1000) {la : Option Addr} {lc r : Nat} {CL CM : Chunk} {us : List Value} (hL : Ost.Own 6 253 CL la x.ts.length lc us) (hM : xK CM r (mapT x.ts 0)) :
  Meets prog 80 [.pointer (some ⟨b, 0, none⟩), .slice ka key.length kc, .slice pa 1 1] [bxB b x.sym la x.ts.length lc r, CL, CM, G, Kc, A, B]
  fun v A' => ∃ (O : Chunk) (oa : Option Addr) (oc : Nat) (la' : Option Addr) (lc' : Nat) (CL' CM' : Chunk) (us' : List Value), v = .slice oa (macX x key m).1.length oc /\ Own8 5 O oa (macX x key m).1.length oc (macX x key m).1 /\
   Ost.Own 6 253 CL' la' (macX x key m).2.ts.length lc' us' /\ xK CM' r (mapT (macX x key m).2.ts 0) /\ A' = [O, bxB b x.sym la' (macX x key m).2.ts.length lc' r, CL', CM', G, Kc, A, B] := by
 have hml := hp.len;unfold macX;refine eN func80 ntmps80 results80 fun F => ?_
 refine gg ?_
 cases hs : x.sym with
 | true =>
  rw [if_pos rfl];refine gg ?_;refine cA (kh [A, B] pa 1 1 [m] hp.two (by decide) (by decide) (by rw [Vm]; omega)) ?_; rintro v A ⟨J, ja, jc, rfl, hjc, hjr, hjl, rfl⟩; refine gA ?_;rw [Vm] at hjc hjr ⊢;refine oT [(0, .int .i64 2), (1, .slice ka key.length kc), (2, .slice ja m.length jc)] (tmV ⟨2, key, m, 0⟩ ka kc ja jc).toArray ?_;refine gg ?_;have ht := IP ⟨2, key, m, 0⟩ (by show 2 <= 10; decide) (by show 0 <= 1000; decide) hkl hml hk0 hjc hk hjr b x hts hL hM;rw [hs] at ht;refine cA (ht) ?_; rintro v A ⟨O, oa, oc, la', lc', CL', CM', us', rfl, hO, hL', hM', rfl⟩; refine gA ?_;refine zb [O, bxB b true la' (tagX x ⟨2, key, m, 0⟩).2.ts.length lc' r, CL', CM', G, Kc, A, B] ?_;exact ⟨O, oa, oc, la', lc', CL', CM', us', rfl, hO, hL', hM', rfl⟩
 | false =>
  rw [if_neg (by simp)];refine gg ?_;refine cA (mac1 hg Kc A B ka kc key hkl hk0 hk hp) ?_; rintro v A ⟨O, oa, oc, rfl, hO, rfl⟩; refine gA ?_;refine zb [O, bxB b false la x.ts.length lc r, CL, CM, G, Kc, A, B] ?_;exact ⟨O, oa, oc, la, lc, CL, CM, us, rfl, hO, hL, hM, rfl⟩
theorem str_open {G : Chunk} (hg : jj G) {Pc Sc : Chunk} {pa sa : Option Addr} {pc sc : Nat} {pass salt : List UInt8} (hp1 : pass.length <= 10000) (hp2 : pass.length <= pc) (hp3 : Rd 1 [Pc] pa pass.length (pass.map b8)) (hs1 : salt.length <= 10000) (hs2 : salt.length <= sc) (hs3 : Rd 1 [Sc] sa salt.length (salt.map b8)) (rounds : Nat) (hr1 : 1 <= rounds) (hr2 : rounds <= 64)
  (b : Nat) (x : BX) (hts : x.ts.length <= 1000) {la : Option Addr} {lc r : Nat} {CL CM : Chunk} {us : List Value} (hL : Ost.Own 6 253 CL la x.ts.length lc us) (hM : xK CM r (mapT x.ts 0)) :
  Meets prog 79 [.pointer (some ⟨b, 0, none⟩), .slice pa pass.length pc, .slice sa salt.length sc, .int .i64 rounds] [bxB b x.sym la x.ts.length lc r, CL, CM, G, Pc, Sc]
  fun v A' => ∃ (O : Chunk) (oa : Option Addr) (oc : Nat) (la' : Option Addr) (lc' : Nat) (CL' CM' : Chunk) (us' : List Value), v = .tuple #[.slice oa (strX x pass salt rounds).1.length oc, .int .i64 0] /\ Own8 5 O oa (strX x pass salt rounds).1.length oc (strX x pass salt rounds).1 /\
   Ost.Own 6 253 CL' la' (strX x pass salt rounds).2.ts.length lc' us' /\ xK CM' r (mapT (strX x pass salt rounds).2.ts 0) /\ A' = [O, bxB b x.sym la' (strX x pass salt rounds).2.ts.length lc' r, CL', CM', G, Pc, Sc] := by
 unfold strX;refine eN func79 ntmps79 results79 fun F => ?_
 refine gg ?_;rw [decide_eq_false (show ¬ (rounds : Int) < 1 by omega)];refine gg ?_;rw [decide_eq_false (show ¬ (64 : Int) < rounds by omega)];refine gg ?_
 cases hs : x.sym with
 | true =>
  rw [if_pos rfl];refine gg ?_;refine oT [(0, .int .i64 3), (1, .slice pa pass.length pc), (2, .slice sa salt.length sc), (3, .int .i64 rounds)] (tmV ⟨3, pass, salt, rounds⟩ pa pc sa sc).toArray ?_;refine gg ?_;have ht := IP ⟨3, pass, salt, rounds⟩ (by show 3 <= 10; decide) (by show rounds <= 1000; omega) (by show pass.length <= _; omega) (by show salt.length <= _; omega) hp2 hs2 hp3 hs3 b x hts hL hM;rw [hs] at ht;refine cA (ht) ?_; rintro v A ⟨O, oa, oc, la', lc', CL', CM', us', rfl, hO, hL', hM', rfl⟩; refine gA ?_;refine ze (vs := [.slice oa (tagX x ⟨3, pass, salt, rounds⟩).1.length oc, .int .i64 0]) [O, bxB b true la' (tagX x ⟨3, pass, salt, rounds⟩).2.ts.length lc' r, CL', CM', G, Pc, Sc] ?_;exact ⟨O, oa, oc, la', lc', CL', CM', us', rfl, hO, hL', hM', rfl⟩
 | false =>
  rw [if_neg (by simp)];refine gg ?_;refine cA (Ke hg Pc Sc pa sa pc sc pass salt rounds 32 hr1 hr2 (by decide) (by decide) hp1 hp2 hp3 hs1 hs2 hs3) ?_; rintro v A ⟨O, oa, oc, rfl, hO, rfl⟩; refine gA ?_;refine ze (vs := [.slice oa (qU pass salt rounds 32).length oc, .int .i64 0]) [O, bxB b false la x.ts.length lc r, CL, CM, G, Pc, Sc] ?_;exact ⟨O, oa, oc, la, lc, CL, CM, us, rfl, hO, hL, hM, rfl⟩
theorem vr {G : Chunk} (hg : jj G) {A B : Chunk} {pa ma : Option Addr} {mc : Nat} {m : List UInt8} (hp : Part1 A B pa ma mc m) {C : Chunk} {b : Nat} {x : BX} (hC : qL C b x) (hts : x.ts.length <= 1000) :
  Meets prog 82 [.pointer (some ⟨b, 0, none⟩), .slice pa 1 1] [C, G, A, B] (Out b (xl x m) [G, A, B]) := by
 obtain ⟨la, lc, r, CL, CM, us, rfl, hL, hM⟩ := hC;refine Meets.conv [bxB b x.sym la x.ts.length lc r, CL, CM, G, A, B] (hash_open hg hp b x hts hL hM) flA tkA ?_; rintro v A ⟨O, oa, oc, la', lc', CL', CM', us', rfl, hO, hL', hM', rfl⟩;exact ⟨[O, bxB b x.sym la' (xl x m).2.ts.length lc' r ++ (CL' ++ CM'), G, A, B], [O, bxB b x.sym la' (xl x m).2.ts.length lc' r, CL', CM', G, A, B], flA, amA, O, _, oa, oc, rfl, hO, ⟨la', lc', r, CL', CM', us', by rw [(xU x m).2], hL', hM'⟩, rfl⟩
theorem VI {G : Chunk} (hg : jj G) {Kc A B : Chunk} {ka : Option Addr} {kc : Nat} {key : List UInt8} (hkl : key.length <= 100000) (hk0 : key.length <= kc) (hk : Rd 1 [Kc] ka key.length (key.map b8)) {pa ma : Option Addr} {mc : Nat} {m : List UInt8} (hp : Part1 A B pa ma mc m) {C : Chunk} {b : Nat} {x : BX} (hC : qL C b x) (hts : x.ts.length <= 1000) :
  Meets prog 80 [.pointer (some ⟨b, 0, none⟩), .slice ka key.length kc, .slice pa 1 1] [C, G, Kc, A, B] (Out b (macX x key m) [G, Kc, A, B]) := by
 obtain ⟨la, lc, r, CL, CM, us, rfl, hL, hM⟩ := hC;refine Meets.conv [bxB b x.sym la x.ts.length lc r, CL, CM, G, Kc, A, B] (mac_open hg hkl hk0 hk hp b x hts hL hM) flA tkA ?_; rintro v A ⟨O, oa, oc, la', lc', CL', CM', us', rfl, hO, hL', hM', rfl⟩;exact ⟨[O, bxB b x.sym la' (macX x key m).2.ts.length lc' r ++ (CL' ++ CM'), G, Kc, A, B], [O, bxB b x.sym la' (macX x key m).2.ts.length lc' r, CL', CM', G, Kc, A, B], flA, amA, O, _, oa, oc, rfl, hO, ⟨la', lc', r, CL', CM', us', by rw [(kd x key m).2], hL', hM'⟩, rfl⟩
theorem bstr_spec {G : Chunk} (hg : jj G) {Pc Sc : Chunk} {pa sa : Option Addr} {pc sc : Nat} {pass salt : List UInt8} (hp1 : pass.length <= 10000) (hp2 : pass.length <= pc) (hp3 : Rd 1 [Pc] pa pass.length (pass.map b8)) (hs1 : salt.length <= 10000) (hs2 : salt.length <= sc) (hs3 : Rd 1 [Sc] sa salt.length (salt.map b8)) (rounds : Nat) (hr1 : 1 <= rounds) (hr2 : rounds <= 64) {C : Chunk} {b : Nat} {x : BX} (hC : qL C b x) (hts : x.ts.length <= 1000) :
  Meets prog 79 [.pointer (some ⟨b, 0, none⟩), .slice pa pass.length pc, .slice sa salt.length sc, .int .i64 rounds] [C, G, Pc, Sc]
  fun v A' => ∃ w, v = .tuple #[w, .int .i64 0] /\ Out b (strX x pass salt rounds) [G, Pc, Sc] w A' := by
 obtain ⟨la, lc, r, CL, CM, us, rfl, hL, hM⟩ := hC;refine Meets.conv [bxB b x.sym la x.ts.length lc r, CL, CM, G, Pc, Sc] (str_open hg hp1 hp2 hp3 hs1 hs2 hs3 rounds hr1 hr2 b x hts hL hM) flA tkA ?_; rintro v A ⟨O, oa, oc, la', lc', CL', CM', us', rfl, hO, hL', hM', rfl⟩;exact ⟨[O, bxB b x.sym la' (strX x pass salt rounds).2.ts.length lc' r ++ (CL' ++ CM'), G, Pc, Sc], [O, bxB b x.sym la' (strX x pass salt rounds).2.ts.length lc' r, CL', CM', G, Pc, Sc], flA, amA, _, rfl, O, _, oa, oc, rfl, hO, ⟨la', lc', r, CL', CM', us', by rw [(Ze x pass salt rounds).2], hL', hM'⟩, rfl⟩
instance tpBox : zH prog 182 [(0, 1), (1, 1), (2, 1), (3, 1)] := ⟨by kernel_rfl⟩
theorem bnew_spec (sym : Bool) : Meets prog 26 [.bool sym] [] fun v A => ∃ b C, v = .pointer (some ⟨b, 0, none⟩) /\ qL C b ⟨sym, []⟩ /\ A = [C] := by
 have k : Meets prog 26 [.bool sym] [] fun v A => ∃ b r CM, v = .pointer (some ⟨b, 0, none⟩) /\ xK CM r [] /\ A = [bxB b sym none 0 0 r, CM] := by
  refine eN func26 ntmps26 results26 fun F => ?_
  refine gg ?_;refine zf fun K hK => ?_; refine JM fun r CM hM => ?_; refine hK _ _ ?_; clear hK K
  refine gg ?_;refine oT [(0, .bool sym), (3, .map (some r))] ([.bool sym, .bool false, .slice none 0 0, .map (some r)] : List Value).toArray ?_;refine gg ?_;refine oB fun b => ?_
  refine gg ?_;refine zb [bxB b sym none 0 0 r, CM] ?_;exact ⟨b, r, CM, rfl, hM, rfl⟩
 refine Meets.conv [] (k) flA tkA ?_; rintro v A ⟨b, r, CM, rfl, hM, rfl⟩;exact ⟨[bxB b sym none 0 0 r ++ CM], [bxB b sym none 0 0 r, CM], flA, amA, b, _, rfl, ⟨none, 0, r, [], CM, [], rfl, own_nil, hM⟩, rfl⟩
end Go.Proofs.YtebikhhoppiapaaGreatDoor
namespace Go.Proofs.YtebikhhoppiapaaGreatDoor
open Go Go.Ost Go.Nam Tryz
def yl (i : Nat) : List Value := [.int .i64 ((i : Int) + 1), b8 (mk i), b8 (ld i), .int .i32 (ls i)]
def formsV : List Value := [0, 1, 2, 3].flatMap yl
def Zg (p : Int × Int) : List Value := [.int .i32 p.1, .int .i32 p.2]
structure GNam (C : Chunk) : Prop where
 g0 : ∃ t m, (7, Obj.cells formsV.toArray t m) ∈ C
 g1 : ∃ t m, (1, Obj.cells (barred.flatMap Zg).toArray t m) ∈ C
 g2 : ∃ t m, (5, Obj.cells (blanks.flatMap Zg).toArray t m) ∈ C
 g3 : ∃ t m, (6, Obj.cells (nothing.flatMap Zg).toArray t m) ∈ C
theorem Qu (r : Int) : Meets prog 245 [.int .i32 r] [] fun v A => v = .bool (sgn r) /\ A = [] := by
 refine eN func245 ntmps245 results245 fun F => ?_
 refine gg ?_;unfold sgn
 by_cases h1 : 0 <= r
 ·rw [decide_eq_true h1];refine gg ?_
  by_cases h2 : r <= 1114111
  ·rw [decide_eq_true h2];refine gg ?_
   by_cases h3 : r < 55296
   ·rw [decide_eq_true h3];refine gg ?_;refine zb [] ?_; exact ⟨rfl, rfl⟩
   ·rw [decide_eq_false h3];refine gg ?_;refine zb [] ?_; exact ⟨rfl, rfl⟩
  ·rw [decide_eq_false h2];refine gg ?_;refine zb [] ?_; exact ⟨rfl, rfl⟩
 ·rw [decide_eq_false h1];refine gg ?_;refine zb [] ?_; exact ⟨rfl, rfl⟩
theorem IO (c : UInt8) : Meets prog 242 [b8 c] [] fun v A => v = .bool (isTail c) /\ A = [] := by
 refine eN func242 ntmps242 results242 fun F => ?_
 refine gg ?_;have hlt := c.toNat_lt
 by_cases h1 : (128 : Int) <= c.toNat
 ·rw [decide_eq_true h1];refine gg ?_;rw [show decide ((c.toNat : Int) <= 191) = isTail c from by unfold isTail; rw [decide_eq_true (show 128 <= c.toNat by omega), dM]; by_cases h : c.toNat <= 191; rw [decide_eq_true h, decide_eq_true (by omega)]; rw [decide_eq_false h, decide_eq_false (by omega)]];refine zb [] ?_; exact ⟨rfl, rfl⟩
 ·rw [decide_eq_false h1];refine gg ?_;rw [show isTail c = false from by unfold isTail; rw [decide_eq_false (show ¬ 128 <= c.toNat by omega), Bool.false_and]];refine zb [] ?_; exact ⟨rfl, rfl⟩
theorem kK {C : Chunk} {a : Option Addr} {cap : Nat} (l : List (Int × Int)) (hl : l.length <= 100) (hr : Rd 2 [C] a l.length (l.flatMap Zg)) (r : Int) :
  Meets prog 216 [.int .i32 r, .slice a l.length cap] [C] fun v A => v = .bool (Nam.within r l) /\ A = [C] := by
 have hs : ∀ p : Int × Int, (Zg p).length = 2 := fun _ => rfl
 refine eN func216 ntmps216 results216 fun F => ?_
 refine gg ?_
 refine zz (fun q D L S => ∃ i : Nat, i <= l.length /\ Nam.within r l = Nam.within r (l.drop i) /\ q = l.length - i /\ D = [] /\ L = [(9, .int .i64 i), (8, .int .i64 l.length), (7, .slice a l.length cap), (0, .int .i32 r)] /\ S = [C, F])
  ⟨0, by omega, rfl, rfl, rfl, rfl, rfl⟩ ?_
 rintro q D L S ⟨i, hi, hw, rfl, rfl, rfl, rfl⟩;refine gg ?_;refine if_d (fun hc => ?_) (fun hc => ?_)
 ·have hil : i < l.length := by omega
  have hx : l[i]? = some l[i] := aF hil;rw [bK hil] at hw;generalize l[i] = p at *;obtain ⟨f, t⟩ := p;simp only [Nam.within] at hw;refine gg ?_;refine zf fun K hK => ?_; rw [el_at hr (by omega) (by omega) (by decide), aY]; refine hK _ _ ?_; clear hK K
  refine zf fun K hK => ?_; refine Wq hr hs hx (by decide) mmA ?_; refine hK _ _ ?_; clear hK K
  refine zf fun K hK => ?_; refine zu fun b6 => ?_; (try simp only [Value.cells]); refine hK _ _ ?_; clear hK K
  refine gg ?_;refine oS [.int .i32 f, .int .i32 t] rfl (by simp [Value.cell1]) ?_;refine gg ?_
  by_cases h1 : f <= r
  ·rw [decide_eq_true h1] at hw ⊢;refine gg ?_;refine if_d (fun hc => ?_) (fun hc => ?_)
   ·rw [decide_eq_true hc, dM, Bool.true_or] at hw;rw [hw];refine gg ?_;refine zb [C] ?_; exact ⟨rfl, rfl⟩
   ·rw [decide_eq_false hc, Bool.and_false, dO] at hw;refine gg ?_;exact zv ⟨i + 1, by omega, hw, rfl, rfl, rfl, rfl⟩
  ·rw [decide_eq_false h1] at hw ⊢;rw [Bool.false_and, dO] at hw;refine gg ?_;exact zv ⟨i + 1, by omega, hw, rfl, rfl, rfl, rfl⟩
 ·obtain rfl : i = l.length := by omega
  rw [dR] at hw;rw [hw];refine gg ?_;refine zb [C] ?_; exact ⟨rfl, rfl⟩
theorem Uw (i : Nat) (h : i < 4) : formsV.toArray.extract (i * 4) (i * 4 + 4) = (yl i).toArray := by
 match i, h with
 | 0, _ => rfl
 | 1, _ => rfl
 | 2, _ => rfl
 | 3, _ => rfl
 | i + 4, h => omega
theorem or_add (m k : Nat) (h : k < 64) : m * 64 ||| k = m * 64 + k := by
 have := Nat.two_pow_add_eq_or_of_lt (i := 6) (b := k) (by omega) m;rw [Nat.mul_comm m 64]; exact this.symm
theorem Vk (c : UInt8) (l : List UInt8) (k : Nat) (h1 : 1 <= k) (h2 : k <= l.length) : l.drop (k - 1) = (c :: l).getD k 0 :: l.drop k := by
 obtain ⟨k, rfl⟩ : ∃ j, k = j + 1 := ⟨k - 1, by omega⟩;rw [dK, bK (by omega)]
 congr 1
 rw [cY, bJ, aF (by omega), cI]
theorem tail_int (x : UInt8) : (((x &&& ~~~(aH 63)).toNat : Int) != 128) = !isTail x :=
 eq_of_beq (all8 (fun x => (((x &&& ~~~(aH 63)).toNat : Int) != 128) == !isTail x) (by decide +kernel) x)
theorem WL {C : Chunk} (hG : GNam C) (c : UInt8) (l : List UInt8) (hlen : l.length <= 1000000) :
  Meets prog 254 [.string (str (c :: l))] [C] fun v A => v = .tuple #[.int .i32 (dec (c :: l)).1, .int .i64 (dec (c :: l)).2] /\ A = [C] := by
 obtain ⟨tg, mg, hg0⟩ := hG.g0;have hz : (c :: l).length = l.length + 1 := rfl;refine eN func254 ntmps254 results254 fun F => ?_
 refine gg ?_;refine zf fun K hK => ?_; refine zi (vs := formsV) (JO hg0 mmA) rfl ?_; refine hK _ _ ?_; clear hK K
 refine gg ?_
 refine zz (fun q D L S => ∃ i : Nat, i <= 4 /\ (∀ j, j < i -> inr j c = true -> l.length < j) /\ q = 4 - i /\ D = [] /\ L = [(9, .int .i64 i), (8, .agg formsV.toArray), (0, .string (str (c :: l)))] /\ S = [C, F])
  ⟨0, by omega, by omega, rfl, rfl, rfl, rfl⟩ ?_
 rintro q D L S ⟨i, hi, hno, rfl, rfl, rfl, rfl⟩;refine gg ?_;refine if_d (fun hc => ?_) (fun hc => ?_)
 ·have hi4 : i < 4 := by omega
  refine gg ?_;refine zf fun K hK => ?_; rw [arr_el (by omega) (by omega), aY, Uw i hi4]; refine hK _ _ ?_; clear hK K
  refine zf fun K hK => ?_; refine zu fun b5 => ?_; (try simp only [Value.cells]); refine hK _ _ ?_; clear hK K
  refine gg ?_;refine oS (yl i) rfl (by simp [yl, Value.cell1, b8]) ?_;simp only [yl];refine gg ?_;refine cdL [[0], [1], [2], [3], [4], [5], [6], [7], [8], [9], [10], [11], [12], [13], [14]] ?_;refine gg ?_;rw [show (c :: l).getD 0 0 = c from rfl, OR i hi4 c]
  cases hin : inr i c with
  | false =>
   refine gg ?_
   have hno' : ∀ j, j < i + 1 -> inr j c = true -> l.length < j := fun j hj hjc => by
    rcases Nat.lt_or_eq_of_le (Nat.le_of_lt_succ hj) with h | h
    ·exact hno j h hjc
    ·subst h; rw [hin] at hjc; cases hjc
   exact zv ⟨i + 1, by omega, hno', rfl, rfl, rfl, rfl⟩
  | true =>
   refine gg ?_
   by_cases hlt : l.length < i
   ·rw [decide_eq_true (show ((c :: l).length : Int) < (i : Int) + 1 by rw [hz]; omega)];refine gg ?_
    have hno' : ∀ j, j < i + 1 -> inr j c = true -> l.length < j := fun j hj hjc => by
     rcases Nat.lt_or_eq_of_le (Nat.le_of_lt_succ hj) with h | h
     ·exact hno j h hjc
     ·subst h; exact hlt
    exact zv ⟨i + 1, by omega, hno', rfl, rfl, rfl, rfl⟩
   ·rw [decide_eq_false (show ¬ ((c :: l).length : Int) < (i : Int) + 1 by rw [hz]; omega)];have hdec := vF i hi4 c l hin;have hval := form_val i hi4 c hin
    have hr0 : c.toNat - lo i < 128 := by
     have := c.toNat_lt;simp only [inr, aN, decide_eq_true_eq] at hin
     match i, hi4 with
     | 0, _ => simp [lo, Nam.hi] at *; omega
     | 1, _ => simp [lo, Nam.hi] at *; omega
     | 2, _ => simp [lo, Nam.hi] at *; omega
     | 3, _ => simp [lo, Nam.hi] at *; omega
     | i + 4, h => omega
    refine gg ?_;refine cdL [[0], [1], [2], [3], [4], [5], [6, 0]] ?_;refine gg ?_;refine qO fun K hK => ?_; rw [cq_b8_i32]; refine hK _ _ ?_; clear hK K
    refine gg ?_;rw [show (c :: l).getD 0 0 = c from rfl, hval];generalize c.toNat - lo i = r0 at *
    refine zz (fun q D L S => ∃ k r : Nat, 1 <= k /\ k <= i + 1 /\ je i r0 l = je (i + 1 - k) r (l.drop (k - 1)) /\ r < 128 * 64 ^ (k - 1) /\ q = i + 1 - k /\ D = [] /\
     L = [(7, .int .i64 k), (6, .int .i32 r), (5, .pointer (some ⟨b5, 0, none⟩)), (0, .string (str (c :: l)))] /\ S = [[(b5, .cells #[.int .i64 ((i : Int) + 1), b8 (mk i), b8 (ld i), .int .i32 (ls i)] 369 (0, 0))], C, F])
     ⟨1, r0, by omega, by omega, rfl, by simpa using hr0, rfl, rfl, rfl, rfl⟩ ?_
    rintro q D L S ⟨k, r, hk1, hk2, ht, hb, rfl, rfl, rfl, rfl⟩;refine gg ?_;refine if_d (fun hc => ?_) (fun hc => ?_)
    ·have hki : k <= i := by omega
     have hb2 : (64 : Nat) ^ (k - 1) <= 64 ^ 2 := Nat.pow_le_pow_right (by omega) (by omega);obtain ⟨x, hx⟩ : ∃ x, (c :: l).getD k 0 = x := ⟨_, rfl⟩;have hd := Vk c l k hk1 (by omega);rw [hx] at hd;rw [hd, show i + 1 - k = (i - k) + 1 from by omega, je] at ht;refine gg ?_;rw [hx, tail_int x]
     cases htl : isTail x with
     | false =>
      rw [htl] at ht;simp only [Bool.false_eq_true, if_false] at ht;rw [ht] at hdec;rw [hdec];refine gg ?_;refine ze [C] ?_; exact ⟨rfl, rfl⟩
     | true =>
      rw [htl] at ht;simp only [if_true] at ht;have hx64 := tail_val x htl
      have hx2 : x.toNat - 128 < 64 := by
       simp only [isTail, aN, decide_eq_true_eq] at htl; omega
      refine gg ?_;refine zf fun K hK => ?_; rw [i32_shl6 (by omega) (by omega)]; refine hK _ _ ?_; clear hK K
      refine gg ?_;refine zf fun K hK => ?_; rw [WQ, hx, show (x &&& aH 63).toNat = x.toNat - 128 from hx64]; refine hK _ _ ?_; clear hK K
      refine zf fun K hK => ?_; rw [i32_or (by omega) (by omega) (by omega) (by omega), show ((r : Int) * 64).toNat = r * 64 from by omega, aY, or_add _ _ hx2]; refine hK _ _ ?_; clear hK K
      refine gg ?_
      have e64 : (64 : Nat) ^ k = 64 * 64 ^ (k - 1) := by
       obtain ⟨j, rfl⟩ : ∃ j, k = j + 1 := ⟨k - 1, by omega⟩;rw [dK, Nat.pow_succ, Nat.mul_comm]
      exact zv ⟨k + 1, r * 64 + (x.toNat - 128), by omega, by omega, by rw [ht, show i + 1 - (k + 1) = i - k from by omega, dK], by rw [dK, e64]; omega, rfl, rfl, rfl, rfl⟩
    ·have hki : k = i + 1 := by omega
     subst hki;rw [dT, je] at ht;rw [ht] at hdec;simp only at hdec;rw [hdec];refine gg ?_
     by_cases hls : ls i <= (r : Int)
     ·rw [decide_eq_true hls];refine gg ?_;refine cA (Qu r) ?_; rintro v A ⟨rfl, rfl⟩; refine gA ?_
      cases hsg : sgn (r : Int) with
      | true =>
       refine gg ?_;refine cdL [[0], [1], [2], [3, 0, 2], [4, 0]] ?_;refine gg ?_;refine ze [C] ?_; exact ⟨rfl, rfl⟩
      | false =>
       refine gg ?_;refine ze [C] ?_; exact ⟨rfl, rfl⟩
     ·rw [decide_eq_false hls];refine gg ?_;refine ze [C] ?_; exact ⟨rfl, rfl⟩
 ·have hnn : ∀ j, j < 4 -> inr j c = true -> l.length < j := fun j hj h => hno j (by omega) h
  rw [form_none c l hnn];refine gg ?_;refine ze [C] ?_; exact ⟨rfl, rfl⟩
theorem dec_size (c : UInt8) (l : List UInt8) (h : jw c.toNat ≠ 0) : dec (c :: l) = match je (jw c.toNat - 1) (fval c.toNat) l with
  | none => (-1, 1)
  | some r => if okR (jw c.toNat) r then ((r : Int), jw c.toNat) else (-1, 1) := by
 simp only [dec]; rw [if_neg h]
 cases je (jw c.toNat - 1) (fval c.toNat) l <;> rfl
theorem OS (c : UInt8) (l : List UInt8) (hlen : l.length <= 1000000) :
  Meets prog 213 [.string (str (c :: l))] [] fun v A => v = .tuple #[.int .i64 (dec (c :: l)).1, .int .i64 (dec (c :: l)).2] /\ A = [] := by
 have hz : (c :: l).length = l.length + 1 := rfl;have hc256 := c.toNat_lt;obtain ⟨cn, hcn⟩ : ∃ cn : Int, (c.toNat : Int) = cn := ⟨_, rfl⟩;refine eN func213 ntmps213 results213 fun F => ?_
 (with_reducible refine zY ?_); refine zQ (fun D L S => D = [] /\ L = [(0, .string (str (c :: l)))] /\ S = [F]) ?_ ?_
 ·refine gg ?_;exact mid ⟨rfl, rfl, rfl⟩
 rintro D L S ⟨rfl, rfl, rfl⟩
 (with_reducible refine zY ?_); refine zQ (fun D L S => D = [] /\ L = [(4, .int .i64 cn), (0, .string (str (c :: l)))] /\ S = [F]) ?_ ?_
 ·refine gg ?_
  (try rw [show (c :: l).getD 0 0 = c from rfl])
  rw [hcn];exact mid ⟨rfl, rfl, rfl⟩
 rintro D L S ⟨rfl, rfl, rfl⟩
 (with_reducible refine zY ?_); refine zQ (fun D L S => D = [] /\ L = [(4, .int .i64 cn), (0, .string (str (c :: l)))] /\ S = [F]) ?_ ?_
 ·refine gg ?_;exact mid ⟨rfl, rfl, rfl⟩
 rintro D L S ⟨rfl, rfl, rfl⟩
 (with_reducible refine zY ?_); refine zQ (fun D L S => ∃ n r0 : Nat, jw c.toNat = n /\ fval c.toNat = r0 /\ 2 <= n /\ n <= 4 /\ r0 < 32 /\ D = [] /\ L = [(5, .int .i64 n), (6, .int .i64 r0), (0, .string (str (c :: l)))] /\ S = [F]) ?_ ?_
 ·refine gg ?_
  by_cases h1 : cn < 128
  ·rw [decide_eq_true (show cn < 128 by omega)];rw [plain_dec c l (by omega), hcn];refine gg ?_;refine ze [] ?_; exact ⟨rfl, rfl⟩
  ·rw [decide_eq_false (show ¬ cn < 128 by omega)];refine gg ?_
   by_cases h2 : 194 <= cn
   ·rw [decide_eq_true (show (194 : Int) <= cn by omega)];refine gg ?_
    by_cases h3 : cn <= 223
    ·rw [decide_eq_true (show cn <= 223 by omega)];refine gg ?_;rw [show cn - 192 = ((c.toNat - 192 : Nat) : Int) from by omega];exact mid ⟨2, c.toNat - 192, by unfold jw; rw [if_neg (by omega), if_pos (by omega)], by unfold fval; rw [if_neg (by omega), if_pos (by omega)], by omega, by omega, by omega, rfl, rfl, rfl⟩
    ·rw [decide_eq_false (show ¬ cn <= 223 by omega)];refine gg ?_;rw [decide_eq_true (show (224 : Int) <= cn by omega)];refine gg ?_
     by_cases h4 : cn <= 239
     ·rw [decide_eq_true (show cn <= 239 by omega)];refine gg ?_;rw [show cn - 224 = ((c.toNat - 224 : Nat) : Int) from by omega];exact mid ⟨3, c.toNat - 224, by unfold jw; rw [if_neg (by omega), if_neg (by omega), if_pos (by omega)], by unfold fval; rw [if_neg (by omega), if_neg (by omega), if_pos (by omega)], by omega, by omega, by omega, rfl, rfl, rfl⟩
     ·rw [decide_eq_false (show ¬ cn <= 239 by omega)];refine gg ?_;rw [decide_eq_true (show (240 : Int) <= cn by omega)];refine gg ?_
      by_cases h5 : cn <= 244
      ·rw [decide_eq_true (show cn <= 244 by omega)];refine gg ?_;rw [show cn - 240 = ((c.toNat - 240 : Nat) : Int) from by omega];exact mid ⟨4, c.toNat - 240, by unfold jw; rw [if_neg (by omega), if_neg (by omega), if_neg (by omega), if_pos (by omega)], by unfold fval; rw [if_neg (by omega), if_neg (by omega), if_neg (by omega)], by omega, by omega, by omega, rfl, rfl, rfl⟩
      ·rw [decide_eq_false (show ¬ cn <= 244 by omega)];refine gg ?_;have e1 : jw c.toNat = 0 := by unfold jw; rw [if_neg (by omega), if_neg (by omega), if_neg (by omega), if_neg (by omega)]
       rw [show dec (c :: l) = (-1, 1) from by simp only [dec, e1, if_true]];refine ze [] ?_; exact ⟨rfl, rfl⟩
   ·rw [decide_eq_false (show ¬ (194 : Int) <= cn by omega)];refine gg ?_;rw [decide_eq_false (show ¬ (224 : Int) <= cn by omega)];refine gg ?_;rw [decide_eq_false (show ¬ (240 : Int) <= cn by omega)];refine gg ?_;have e1 : jw c.toNat = 0 := by unfold jw; rw [if_neg (by omega), if_neg (by omega), if_neg (by omega), if_neg (by omega)]
    rw [show dec (c :: l) = (-1, 1) from by simp only [dec, e1, if_true]];refine ze [] ?_; exact ⟨rfl, rfl⟩
 rintro D L S ⟨n, r0, hn, hr0, hn2, hn4, hr32, rfl, rfl, rfl⟩;have hdec := dec_size c l (by omega);rw [hn, hr0] at hdec;refine gg ?_;refine if_d (fun hc => ?_) (fun hc => ?_)
 ·rw [Zc (n - 1) r0 l (by rw [hz] at hc; omega)] at hdec;rw [hdec];refine gg ?_;refine ze [] ?_; exact ⟨rfl, rfl⟩
 ·have hcn : n <= l.length + 1 := by rw [hz] at hc; omega
  refine gg ?_
  refine zz (fun q D L S => ∃ k r : Nat, 1 <= k /\ k <= n /\ je (n - 1) r0 l = je (n - k) r (l.drop (k - 1)) /\ r < 128 * 64 ^ (k - 1) /\ q = n - k /\ D = [] /\
   L = [(7, .int .i64 k), (6, .int .i64 r), (5, .int .i64 n), (0, .string (str (c :: l)))] /\ S = [F])
   ⟨1, r0, by omega, by omega, rfl, by simp; omega, rfl, rfl, rfl, rfl⟩ ?_
  rintro q D L S ⟨k, r, hk1, hk2, ht, hb, rfl, rfl, rfl, rfl⟩;refine gg ?_;refine if_d (fun hc => ?_) (fun hc => ?_)
  ·have hki : k < n := by omega
   have hb2 : (64 : Nat) ^ (k - 1) <= 64 ^ 2 := Nat.pow_le_pow_right (by omega) (by omega);obtain ⟨x, hx⟩ : ∃ x, (c :: l).getD k 0 = x := ⟨_, rfl⟩;have hd := Vk c l k hk1 (by omega);rw [hx] at hd;rw [hd, show n - k = (n - k - 1) + 1 from by omega, je] at ht;have hx256 := x.toNat_lt;refine gg ?_;rw [hx];refine cA (IO x) ?_; rintro v A ⟨rfl, rfl⟩; refine gA ?_
   cases htl : isTail x with
   | false =>
    rw [htl] at ht;simp only [Bool.false_eq_true, if_false] at ht;rw [ht] at hdec;rw [hdec];refine gg ?_;refine ze [] ?_; exact ⟨rfl, rfl⟩
   | true =>
    rw [htl] at ht;simp only [if_true] at ht;have htl' := htl;simp only [isTail, aN, decide_eq_true_eq] at htl';refine gg ?_;rw [hx];obtain ⟨xn, hxn⟩ : ∃ xn, x.toNat = xn := ⟨_, rfl⟩;refine zf fun K hK => ?_; rw [IC hxn (by omega) (by omega)]; refine hK _ _ ?_; clear hK K
    refine gg ?_
    have e64 : (64 : Nat) ^ k = 64 * 64 ^ (k - 1) := by
     obtain ⟨j, rfl⟩ : ∃ j, k = j + 1 := ⟨k - 1, by omega⟩;rw [dK, Nat.pow_succ, Nat.mul_comm]
    exact zv ⟨k + 1, r * 64 + (xn - 128), by omega, by omega, by rw [ht, hxn, show n - (k + 1) = n - k - 1 from by omega, dK], by rw [dK, e64]; omega, rfl, rfl, rfl, rfl⟩
  ·have hki : k = n := by omega
   subst hki;rw [dT, je] at ht;rw [ht] at hdec;simp only at hdec;rw [hdec];have hbd := vt _ _ _ _ (show je (k - 1) r0 l = some r from ht);have hk : k = 2 ∨ k = 3 ∨ k = 4 := by omega
   obtain ⟨ri, hri⟩ : ∃ ri : Int, (r : Int) = ri := ⟨_, rfl⟩;refine gg ?_;rw [hri]
   rcases hk with rfl | rfl | rfl
   ·simp only [bH, Nat.reducePow] at hbd;rw [if_pos (show okR 2 r = true by simp [okR]; omega)];refine gg ?_;rw [decide_eq_false (show ¬ 55296 <= ri by omega)];refine gg ?_;rw [decide_eq_false (show ¬ 1114111 < ri by omega)];refine gg ?_
    (try rw [hri])
    refine ze [] ?_; exact ⟨rfl, rfl⟩
   ·simp only [bH, Nat.reducePow] at hbd;refine gg ?_
    by_cases g1 : ri < 2048
    ·rw [decide_eq_true g1, if_neg (show ¬ okR 3 r = true by simp [okR]; omega)];refine gg ?_;refine ze [] ?_; exact ⟨rfl, rfl⟩
    ·rw [decide_eq_false g1];refine gg ?_
     by_cases g2 : 55296 <= ri
     ·rw [decide_eq_true g2];refine gg ?_
      by_cases g3 : ri <= 57343
      ·rw [decide_eq_true g3, if_neg (show ¬ okR 3 r = true by simp [okR]; omega)];refine gg ?_;refine ze [] ?_; exact ⟨rfl, rfl⟩
      ·rw [decide_eq_false g3];refine gg ?_;rw [decide_eq_false (show ¬ 1114111 < ri by omega), if_pos (show okR 3 r = true by simp [okR]; omega)];refine gg ?_
       (try rw [hri])
       refine ze [] ?_; exact ⟨rfl, rfl⟩
     ·rw [decide_eq_false g2];refine gg ?_;rw [decide_eq_false (show ¬ 1114111 < ri by omega), if_pos (show okR 3 r = true by simp [okR]; omega)];refine gg ?_
      (try rw [hri])
      refine ze [] ?_; exact ⟨rfl, rfl⟩
   ·simp only [bH, Nat.reducePow] at hbd;refine gg ?_
    by_cases g1 : ri < 65536
    ·rw [decide_eq_true g1, if_neg (show ¬ okR 4 r = true by simp [okR]; omega)];refine gg ?_;refine ze [] ?_; exact ⟨rfl, rfl⟩
    ·rw [decide_eq_false g1];refine gg ?_;rw [decide_eq_true (show 55296 <= ri by omega)];refine gg ?_;rw [decide_eq_false (show ¬ ri <= 57343 by omega)];refine gg ?_
     by_cases g3 : 1114111 < ri
     ·rw [decide_eq_true g3, if_neg (show ¬ okR 4 r = true by simp [okR]; omega)];refine gg ?_;refine ze [] ?_; exact ⟨rfl, rfl⟩
     ·rw [decide_eq_false g3, if_pos (show okR 4 r = true by simp [okR]; omega)];refine gg ?_
      (try rw [hri])
      refine ze [] ?_; exact ⟨rfl, rfl⟩
def encS (p : Nat × Int) : List Value := [.int .i64 p.1, .int .i64 p.2]
theorem encS_len (p : Nat × Int) : (encS p).length = 2 := rfl
theorem cell_S (p : Nat × Int) : ∀ v ∈ encS p, Value.cell1 v := fun v h => by
 simp only [encS, bA, aX, or_false] at h
 rcases h with rfl | rfl <;> trivial
abbrev OwnS (C : Chunk) (a : Option Addr) (cap : Nat) (l : List (Nat × Int)) : Prop := Ost.Own 2 312 C a l.length cap (l.flatMap encS)
instance iNE_1 : zH prog 312 [(0, 1), (1, 1)] := ⟨by kernel_rfl⟩
instance iNE_2 : TEq prog 312 [.i, .i] := ⟨by kernel_rfl⟩
theorem ZQ {s : List UInt8} {k : Nat} (h : k < s.length) : s.drop k ≠ [] := fun e => by
 have := congrArg cV e;rw [aT, aV] at this; omega
theorem Vv {s : List UInt8} {k : Nat} (h : k < s.length) : ∃ c l, s.drop k = c :: l /\ l.length + 1 = s.length - k := by
 obtain ⟨c, l, e⟩ := List.exists_cons_of_ne_nil (ZQ h);refine ⟨c, l, e, ?_⟩;have := congrArg cV e;rw [aT, aJ] at this; omega
theorem KB (s : List UInt8) (hlen : s.length <= 1000000) :
  Meets prog 171 [.string (str s)] [] fun v A => ∃ X a cap, v = .slice a (sg 0 s).length cap /\ OwnS X a cap (sg 0 s) /\ A = [X] := by
 refine eN func171 ntmps171 results171 fun F => ?_
 refine gg ?_;refine zB ?_
 refine zz (fun q D L S => ∃ (k : Nat) (pre : List (Nat × Int)) (X : Chunk) (xa : Option Addr) (xc : Nat), k <= s.length /\ sg 0 s = pre ++ sg k (s.drop k) /\ OwnS X xa xc pre /\ pre.length <= k /\ q = s.length - k /\ D = [] /\
  L = [(4, .int .i64 k), (3, .slice xa pre.length xc), (0, .string (str s))] /\ S = [X, F])
  ⟨0, [], [], none, 0, by omega, rfl, own_nil, by simp, rfl, rfl, rfl, rfl⟩ ?_
 rintro q D L S ⟨k, pre, X, xa, xc, hk, he, hX, hpl, rfl, rfl, rfl, rfl⟩;refine gg ?_;refine if_d (fun hc => ?_) (fun hc => ?_)
 ·have hlt : k < s.length := by omega
  obtain ⟨c, l, hcl, hl⟩ := Vv hlt;have hstep := Kn k (ZQ hlt);have hpos := ZR (s.drop k);have hln := UE (ZQ hlt);rw [aT] at hln;rw [dL] at hstep;have hf := OS c l (by omega);rw [<- hcl] at hf;refine gg ?_;refine cA (hf) ?_; rintro v A ⟨rfl, rfl⟩; refine gA ?_;generalize dec (s.drop k) = d at *;refine oT [(0, .int .i64 k), (1, .int .i64 d.1)] #[.int .i64 k, .int .i64 d.1] ?_;refine zf fun K hK => ?_; refine zN (e := 312) (s := 2) (hs := inferInstance) (vs := encS (k, d.1)) (by rfl) (by decide) (by decide) rfl (fun b1 C1 ho1 => ?_); refine hK _ _ ?_; clear hK K
  refine zf fun K hK => ?_; refine zn (e := 312) (s := 2) (hs := inferInstance) (by rfl) (by decide) hX (.inr pkA) (ho1.rd mmA) (cell_S _) (by simp only [maxLen]; omega) (by omega) (fun C3 a3 cap3 ho3 => ?_); refine hK _ _ ?_; clear hK K
  have e1 : pre.length + 1 = (pre ++ [(k, d.1)]).length := by simp
  have e2 : pre.flatMap encS ++ encS (k, d.1) = (pre ++ [(k, d.1)]).flatMap encS := by simp
  rw [e1, e2] at ho3;rw [e1];refine gg ?_;exact zv ⟨k + d.2, pre ++ [(k, d.1)], C3, a3, cap3, by omega, by rw [he, hstep]; simp, ho3, by simp; omega, rfl, rfl, rfl, rfl⟩
 ·obtain rfl : k = s.length := by omega
  rw [dR, sg_nil, aL] at he;subst he;refine gg ?_;refine zb [X] ⟨X, xa, xc, rfl, hX, rfl⟩
theorem Xx (s : List UInt8) : Meets prog 243 [.string (str s)] []
  fun u A => ∃ p, u = .func (.func 253) #[] #[.pointer (some ⟨p, 0, none⟩)] /\ A = [bx p (.string (str s)) 9] := by
 refine eN func243 ntmps243 results243 fun F => ?_
 refine gg ?_;refine oB fun p1 => ?_
 refine gg ?_;refine zb [bx p1 (.string (str s)) 9] ⟨p1, rfl, rfl⟩
def encN (x : Nat × Int) : List Value := [.int .i64 x.1, .int .i32 x.2]
abbrev withC (C : Chunk) (_ : List (Nat × Int)) (_ : Nat × Int) (H : State) : Prop := H = [C]
theorem Xy {C : Chunk} (hG : GNam C) (p : Nat) (s : List UInt8) (hlen : s.length <= 1000000) :
  vJ prog 253 [] [.pointer (some ⟨p, 0, none⟩)] encN [bx p (.string (str s)) 9, C]
   (fun T => T = []) (withC C) (withC C) (withC C) (Io (sg 0 s)) (fun pre => pre = sg 0 s)
   (fun _ A => A = [bx p (.string (str s)) 9, C]) (fun _ A => A = [bx p (.string (str s)) 9, C]) false := by
 refine jQ (by kernel_rfl) fun l0 J Jx hN hT hY Cj hC => ?_
 refine eN func253 ntmps253 results253 fun F => ?_
 refine gg ?_
 refine zz (fun q D L S => ∃ (k : Nat) (pre : List (Nat × Int)) (Cj : Chunk), k <= s.length /\ sg 0 s = pre ++ sg k (s.drop k) /\ J pre Cj /\ q = s.length - k /\ D = [] /\
  L = [(3, .int .i64 k), (0, .func (.yield l0) #[] #[]), (1, .pointer (some ⟨p, 0, none⟩))] /\ S = [Cj, bx p (.string (str s)) 9, C, F])
  ⟨0, [], Cj, by omega, rfl, hC, rfl, rfl, rfl, rfl⟩ ?_
 rintro q D L S ⟨k, pre, Cj, hk, he, hJ, rfl, rfl, rfl, rfl⟩;refine gg ?_;refine if_d (fun hc => ?_) (fun hc => ?_)
 ·have hlt : k < s.length := by omega
  obtain ⟨c, l, hcl, hl⟩ := Vv hlt;have hstep := Kn k (ZQ hlt);have hpos := ZR (s.drop k);have hln := UE (ZQ hlt);rw [aT] at hln;rw [dL] at hstep;have hf := WL hG c l (by omega);rw [<- hcl] at hf;refine gg ?_;refine cA (hf) ?_; rintro v A ⟨rfl, rfl⟩; refine gA ?_;generalize dec (s.drop k) = d at *;rw [hstep] at he;refine zf fun K hK => ?_
  refine xF (hY pre (k, d.1) ⟨_, he⟩) hJ rfl tkA (fun C4 H4 hJ4 hH4 => ?_) (fun C4 H4 hJ4 hH4 => ?_)
  ·subst hH4
   (try simp only [aD, aC])
   refine hK _ _ ?_; clear hK K;refine gg ?_;exact zv ⟨k + d.2, pre ++ [(k, d.1)], C4, by omega, by rw [he]; simp, hJ4, rfl, rfl, rfl, rfl⟩
  ·subst hH4
   (try simp only [aD, aC])
   refine hK _ _ ?_; clear hK K;refine gg ?_;exact xP [C4, bx p (.string (str s)) 9, C] ⟨C4, _, rfl, .inr ⟨pre, _, ⟨_, he⟩, hJ4, rfl⟩⟩
 ·obtain rfl : k = s.length := by omega
  rw [dR, sg_nil, aL] at he;subst he;refine gg ?_;exact zL [Cj, bx p (.string (str s)) 9, C] ⟨Cj, _, rfl, .inl ⟨_, rfl, hJ, rfl⟩⟩
theorem next_rng {s : List UInt8} {pre : List (Nat × Int)} {x : Nat × Int} (h : Io (sg 0 s) pre x) : -1 <= x.2 /\ x.2 <= 1114111 /\ pre.length + 1 <= s.length /\ (0 <= x.2 -> sgn x.2 = true) := by
 obtain ⟨post, h⟩ := h;have hm : x.2 ∈ rs s := by rw [<- Qw _ 0 s (aR _), h]; simp
 have h1 := rs_rng _ s (aR _) _ hm;have h2 := YP _ s (aR _);have h3 := sg_len 0 s;rw [h, aA, aJ] at h3;exact ⟨h1.1, h1.2, by omega, YO _ s (aR _) _ hm⟩
def badB (s : List UInt8) : Bool := (rs s).any (fun r => decide (r < 0))
theorem UM {C : Chunk} (hG : GNam C) (s : List UInt8) (hlen : s.length <= 1000000) :
  Meets prog 214 [.string (str s)] [C] fun v A => v = .bool (!badB s) /\ A = [C] := by
 refine eN func214 ntmps214 results214 fun F => ?_
 refine gg ?_;refine zf fun K hK => ?_; refine zu fun b2 => ?_; (try simp only [Value.cells]); refine hK _ _ ?_; clear hK K
 refine gg ?_;refine cA (Xx s) ?_; rintro v A ⟨p, rfl, rfl⟩; refine gA ?_
 refine xW (by (try simp only [evT, lookT_hit, lookT_miss, aG]); (first | done | exact rfl)) (Xy hG p s hlen) (by (repeat (first | exact Take.nil _ | with_reducible exact Pick.head _ _ | with_reducible apply Pick.tail | with_reducible apply Take.cons))) (fun pre Cl => (∀ x ∈ pre, 0 <= x.2) /\ Cl = [bx b2 (.bool false) 4, F])
  (fun k pre Cl => k = .ret /\ (∃ x ∈ sg 0 s, x.2 < 0) /\ Cl = [bx b2 (.bool false) 4, F]) (fun h => by cases h) (fun Cl hC => ?_) (fun _ => rfl) ⟨by simp, rfl⟩ ?_ ?_ ?_
 ·exact ⟨[], _, rfl, .refl _⟩
 ·rintro l F1 Cl H r pre x hx ⟨hp, rfl⟩ rfl;obtain ⟨hr1, hr2, hr3, _⟩ := next_rng hx;have hmem : x ∈ sg 0 s := by obtain ⟨post, h⟩ := hx; rw [h]; simp
  obtain ⟨k, v⟩ := x;simp only at hr1 hr2
  (try simp only [aD, aC, aL, encN])
  (try simp only [jz, putT, bM, if_true, reduceIte, Array.toList, dG])
  refine gg ?_;refine ⟨_, .cons (.head _ _) (Among.refl _), fun r' _ => ?_⟩;refine gg ?_;refine if_b (fun hc => ?_) (fun hc => ?_)
  ·refine gg ?_;exact ⟨_, ⟨_, [C], rfl, ⟨rfl, ⟨_, hmem, by simp only; omega⟩, rfl⟩, rfl⟩, by (try simp only [aC, aD]); first | ((repeat (first | with_reducible exact Among.nil _ | with_reducible exact Pick.head _ _ | with_reducible apply Pick.tail | with_reducible apply Among.cons)); done) | ((repeat (first | exact Among.nil _ | exact Pick.head _ _ | apply Pick.tail | apply Among.cons)); done)⟩
  ·refine gg ?_
   exact ⟨_, ⟨_, [C], rfl, ⟨fun y hy => by
    rcases List.mem_append.1 hy with hy | hy
    ·exact hp y hy
    ·rw [List.mem_singleton.1 hy]; simp only; omega, rfl⟩, rfl⟩, by (try simp only [aC, aD]); first | ((repeat (first | with_reducible exact Among.nil _ | with_reducible exact Pick.head _ _ | with_reducible apply Pick.tail | with_reducible apply Among.cons)); done) | ((repeat (first | exact Among.nil _ | exact Pick.head _ _ | apply Pick.tail | apply Among.cons)); done)⟩
 ·rintro d pre Cl A rfl ⟨hp, rfl⟩ rfl
  have hb : badB s = false := by
   unfold badB;rw [<- Qw _ 0 s (aR _), Xa];intro r hr;obtain ⟨x, hx, rfl⟩ := List.mem_map.1 hr;exact hp x hx
  rw [hb]
  (try simp only [aD, aC])
  refine gg ?_;refine ze [C] ⟨rfl, rfl⟩
 ·rintro d k pre x Cl A hx ⟨rfl, ⟨y, hy, hy0⟩, rfl⟩ rfl
  have hb : badB s = true := by
   unfold badB;rw [<- Qw _ 0 s (aR _), List.any_eq_true];exact ⟨y.2, List.mem_map.2 ⟨y, hy, rfl⟩, decide_eq_true hy0⟩
  rw [hb]
  (try simp only [aD, aC])
  refine gg ?_;refine ze [C] ⟨rfl, rfl⟩
theorem val8 {a : Int} {n : Nat} (h : a = (n : Int)) (hn : n < 256) : Value.int .u8 a = b8 (aH n) := by
 rw [UI (n := a) (by omega) (by omega)]
 congr 2; omega
theorem one8 {i : Nat} {x u : Value} (h : x = u) : ([(i, x)] : List (Nat × Value)).map (·.2) = [u] := by rw [h]; rfl
theorem two8 {i j : Nat} {x y u v : Value} (h : x = u) (h2 : y = v) : ([(i, x), (j, y)] : List (Nat × Value)).map (·.2) = [u, v] := by rw [h, h2]; rfl
theorem three8 {i j k : Nat} {x y z u v w : Value} (h : x = u) (h2 : y = v) (h3 : z = w) : ([(i, x), (j, y), (k, z)] : List (Nat × Value)).map (·.2) = [u, v, w] := by rw [h, h2, h3]; rfl
theorem four8 {i j k l : Nat} {x y z t u v w s : Value} (h : x = u) (h2 : y = v) (h3 : z = w) (h4 : t = s) : ([(i, x), (j, y), (k, z), (l, t)] : List (Nat × Value)).map (·.2) = [u, v, w, s] := by rw [h, h2, h3, h4]; rfl
theorem KO (r : Int) (hr : r <= 4294967296) : Meets prog 175 [.int .i64 r] [] (New8 5 (enc r) []) := by
 have hodd : sgn r = false -> enc r = [239, 191, 189] := fun h => by unfold enc; rw [if_pos h]
 refine eN func175 ntmps175 results175 fun F => ?_
 refine gg ?_
 by_cases h1 : r < 0
 ·rw [decide_eq_true h1, hodd (by simp [sgn]; omega)];refine gg ?_;refine zf fun K hK => ?_; refine zX ([239, 191, 189]) (by decide) rfl (rfl) (fun b9 C9 ho9 => ?_); refine hK _ _ ?_; clear hK K
  refine gg ?_;refine zb ([C9]) ?_; exact ⟨_, _, _, rfl, ho9, rfl⟩
 rw [decide_eq_false h1];refine gg ?_
 by_cases h2 : 1114111 < r
 ·rw [decide_eq_true h2, hodd (by simp [sgn]; omega)];refine gg ?_;refine zf fun K hK => ?_; refine zX ([239, 191, 189]) (by decide) rfl (rfl) (fun b9 C9 ho9 => ?_); refine hK _ _ ?_; clear hK K
  refine gg ?_;refine zb ([C9]) ?_; exact ⟨_, _, _, rfl, ho9, rfl⟩
 rw [decide_eq_false h2];refine gg ?_;have hlow : r < 55296 ∨ 57343 < r -> ¬ sgn r = false := fun h => by simp [sgn]; omega
 by_cases h3 : 55296 <= r
 ·rw [decide_eq_true h3];refine gg ?_
  by_cases h4 : r <= 57343
  ·rw [decide_eq_true h4, hodd (by simp [sgn]; omega)];refine gg ?_;refine zf fun K hK => ?_; refine zX ([239, 191, 189]) (by decide) rfl (rfl) (fun b9 C9 ho9 => ?_); refine hK _ _ ?_; clear hK K
   refine gg ?_;refine zb ([C9]) ?_; exact ⟨_, _, _, rfl, ho9, rfl⟩
  ·rw [decide_eq_false h4];refine gg ?_;rw [decide_eq_false (show ¬ r < 128 by omega)];refine gg ?_;rw [decide_eq_false (show ¬ r < 2048 by omega)];refine gg ?_
   by_cases h5 : r < 65536
   ·rw [decide_eq_true h5]
    have he : enc r = [aH (224 + r.toNat / 4096), aH (128 + r.toNat / 64 % 64), aH (128 + r.toNat % 64)] := by
     unfold enc; rw [if_neg (hlow (by omega)), if_neg (by omega), if_neg (by omega), if_pos h5]
    rw [he];refine gg ?_;refine zf fun K hK => ?_; refine zX ([aH (224 + r.toNat / 4096), aH (128 + r.toNat / 64 % 64), aH (128 + r.toNat % 64)]) (by decide) rfl (three8 (val8 (by omega) (by omega)) (val8 (by omega) (by omega)) (val8 (by omega) (by omega))) (fun b9 C9 ho9 => ?_); refine hK _ _ ?_; clear hK K
    refine gg ?_;refine zb ([C9]) ?_; exact ⟨_, _, _, rfl, ho9, rfl⟩
   ·rw [decide_eq_false h5]
    have he : enc r = [aH (240 + r.toNat / 262144), aH (128 + r.toNat / 4096 % 64), aH (128 + r.toNat / 64 % 64), aH (128 + r.toNat % 64)] := by
     unfold enc; rw [if_neg (hlow (by omega)), if_neg (by omega), if_neg (by omega), if_neg h5]
    rw [he];refine gg ?_;refine zf fun K hK => ?_; refine zX ([aH (240 + r.toNat / 262144), aH (128 + r.toNat / 4096 % 64), aH (128 + r.toNat / 64 % 64), aH (128 + r.toNat % 64)]) (by decide) rfl (four8 (val8 (by omega) (by omega)) (val8 (by omega) (by omega)) (val8 (by omega) (by omega)) (val8 (by omega) (by omega))) (fun b9 C9 ho9 => ?_); refine hK _ _ ?_; clear hK K
    refine gg ?_;refine zb ([C9]) ?_; exact ⟨_, _, _, rfl, ho9, rfl⟩
 ·rw [decide_eq_false h3];refine gg ?_
  by_cases h4 : r < 128
  ·rw [decide_eq_true h4]
   have he : enc r = [aH r.toNat] := by
    unfold enc; rw [if_neg (hlow (by omega)), if_pos h4]
   rw [he];refine gg ?_;refine zf fun K hK => ?_; refine zX ([aH r.toNat]) (by decide) rfl (one8 (val8 (by omega) (by omega))) (fun b9 C9 ho9 => ?_); refine hK _ _ ?_; clear hK K
   refine gg ?_;refine zb ([C9]) ?_; exact ⟨_, _, _, rfl, ho9, rfl⟩
  ·rw [decide_eq_false h4];refine gg ?_
   by_cases h5 : r < 2048
   ·rw [decide_eq_true h5]
    have he : enc r = [aH (192 + r.toNat / 64), aH (128 + r.toNat % 64)] := by
     unfold enc; rw [if_neg (hlow (by omega)), if_neg h4, if_pos h5]
    rw [he];refine gg ?_;refine zf fun K hK => ?_; refine zX ([aH (192 + r.toNat / 64), aH (128 + r.toNat % 64)]) (by decide) rfl (two8 (val8 (by omega) (by omega)) (val8 (by omega) (by omega))) (fun b9 C9 ho9 => ?_); refine hK _ _ ?_; clear hK K
    refine gg ?_;refine zb ([C9]) ?_; exact ⟨_, _, _, rfl, ho9, rfl⟩
   ·rw [decide_eq_false h5];refine gg ?_;rw [decide_eq_true (show r < 65536 by omega)]
    have he : enc r = [aH (224 + r.toNat / 4096), aH (128 + r.toNat / 64 % 64), aH (128 + r.toNat % 64)] := by
     unfold enc; rw [if_neg (hlow (by omega)), if_neg h4, if_neg h5, if_pos (by omega)]
    rw [he];refine gg ?_;refine zf fun K hK => ?_; refine zX ([aH (224 + r.toNat / 4096), aH (128 + r.toNat / 64 % 64), aH (128 + r.toNat % 64)]) (by decide) rfl (three8 (val8 (by omega) (by omega)) (val8 (by omega) (by omega)) (val8 (by omega) (by omega))) (fun b9 C9 ho9 => ?_); refine hK _ _ ?_; clear hK K
    refine gg ?_;refine zb ([C9]) ?_; exact ⟨_, _, _, rfl, ho9, rfl⟩
theorem Qc {H : Chunk} {a : Option Addr} {cap : Nat} (p : List UInt8) (hp : p.length <= 1000000) (hr : Rd 1 [H] a p.length (p.map b8)) :
  Meets prog 81 [.slice a p.length cap] [H] (New8 5 p [H]) := by
 refine eN func81 ntmps81 results81 fun F => ?_
 refine gg ?_
 cases a with
 | none =>
  have hz : p = [] := by
   rcases p with _ | ⟨x, p⟩
   ·rfl
   ·obtain ⟨_, _, _, _, _, h, _⟩ := hr.2 (by simp)
    cases h
  subst hz;refine zB ?_;refine gg ?_;refine zb ([[], H]) ?_; exact ⟨_, _, _, rfl, own_nil, rfl⟩
 | some a =>
  refine gg ?_;refine zf fun K hK => ?_; refine zX ([]) (by decide) rfl (rfl) (fun b7 C7 ho7 => ?_); refine hK _ _ ?_; clear hK K
  refine gg ?_;refine zf fun K hK => ?_; refine app8 (ho7) pkA (hr.mem mmA) (by omega) (fun C9 a9 cap9 ho9 => ?_); refine hK _ _ ?_; clear hK K
  (try simp only [aD, cD] at ho9 ⊢)
  refine gg ?_;refine zb ([C9, H]) ?_; exact ⟨_, _, _, rfl, ho9, rfl⟩
def kk : Nat -> Int -> Nat
 | 0, _ => 0
 | i + 1, r => if ls i <= r then i else kk i r
theorem kk4 (r : Int) : kk 4 r = if 65536 <= r then 3 else if 2048 <= r then 2 else if 128 <= r then 1 else 0 := by
 simp only [kk, ls]
 split
 ·rfl
 ·split
  ·rfl
  ·split
   ·rfl
   ·split <;> rfl
def bt (r k m : Nat) : UInt8 := if m = 0 then ld k ||| aH (r / 2 ^ (6 * k)) else aH 128 ||| (aH (r / 2 ^ (6 * (k - m))) &&& aH 63)
theorem low_or (m : Nat) : aH 128 ||| (aH m &&& aH 63) = aH (128 + m % 64) := by
 have := all8 (fun c => aH 128 ||| (c &&& aH 63) == aH (128 + c.toNat % 64)) (by decide +kernel) (aH m);rw [eq_of_beq this, bL, show m % 2 ^ 8 % 64 = m % 64 from by omega]
theorem JP (k m : Nat) (h : (k = 0 /\ m < 128) ∨ (k = 1 /\ m < 32) ∨ (k = 2 /\ m < 16) ∨ (k = 3 /\ m < 8)) : ld k ||| aH m = aH ((ld k).toNat + m) := by
 have h0 : ∀ (b : UInt8) (n : Nat), (bC n).all (fun m => b ||| aH m == aH (b.toNat + m)) = true -> m < n -> b ||| aH m = aH (b.toNat + m) := fun b n ha hm =>
  eq_of_beq (List.all_eq_true.1 ha m (by simpa using hm))
 rcases h with ⟨rfl, h⟩ | ⟨rfl, h⟩ | ⟨rfl, h⟩ | ⟨rfl, h⟩
 ·exact h0 (ld 0) 128 (by decide +kernel) h
 ·exact h0 (ld 1) 32 (by decide +kernel) h
 ·exact h0 (ld 2) 16 (by decide +kernel) h
 ·exact h0 (ld 3) 8 (by decide +kernel) h
theorem enc_bt (r : Nat) (h : sgn (r : Int) = true) : enc (r : Int) = (bC (kk 4 (r : Int) + 1)).map (bt r (kk 4 (r : Int))) := by
 have h' := h;simp only [sgn, aN, dP, decide_eq_true_eq] at h';unfold enc;rw [if_neg (by rw [h]; simp), kk4];simp only [aY]
 by_cases h3 : (65536 : Int) <= r
 ·rw [if_neg (by omega), if_neg (by omega), if_neg (by omega), if_pos h3];have e : (bC (3 + 1)).map (bt r 3) = [bt r 3 0, bt r 3 1, bt r 3 2, bt r 3 3] := rfl;rw [e];simp only [bt, low_or, if_true, Nat.reduceMul, bH, Nat.reducePow, Nat.one_ne_zero, reduceIte, aP, if_false, Nat.div_one];rw [JP 3 (r / 262144) (.inr (.inr (.inr ⟨rfl, by omega⟩)))]
  rfl
 ·rw [if_neg h3]
  by_cases h2 : (2048 : Int) <= r
  ·rw [if_neg (by omega), if_neg (by omega), if_pos (by omega), if_pos h2];have e : (bC (2 + 1)).map (bt r 2) = [bt r 2 0, bt r 2 1, bt r 2 2] := rfl;rw [e];simp only [bt, low_or, if_true, Nat.reduceMul, bH, Nat.reducePow, Nat.one_ne_zero, reduceIte, aP, if_false, Nat.div_one];rw [JP 2 (r / 4096) (.inr (.inr (.inl ⟨rfl, by omega⟩)))]
   rfl
  ·rw [if_neg h2]
   by_cases h1 : (128 : Int) <= r
   ·rw [if_neg (by omega), if_pos (by omega), if_pos h1];have e : (bC (1 + 1)).map (bt r 1) = [bt r 1 0, bt r 1 1] := rfl;rw [e];simp only [bt, low_or, if_true, Nat.reduceMul, bH, Nat.reducePow, Nat.one_ne_zero, reduceIte, aP, if_false, Nat.div_one];rw [JP 1 (r / 64) (.inr (.inl ⟨rfl, by omega⟩))]
    rfl
   ·rw [if_pos (by omega), if_neg h1];have e : (bC (0 + 1)).map (bt r 0) = [bt r 0 0] := rfl;rw [e];simp only [bt, if_true, Nat.reduceMul, Nat.pow_zero, Nat.div_one, reduceIte];rw [JP 0 r (.inl ⟨rfl, by omega⟩)]
    simp [ld]
theorem Yj {C H : Chunk} (hG : GNam C) {a : Option Addr} {cap : Nat} (p : List UInt8) (hp : p.length <= 900000) (hr : Rd 1 [H] a p.length (p.map b8)) (r0 : Int) :
  Meets prog 217 [.slice a p.length cap, .int .i32 r0] [H, C] (New8 5 (p ++ enc r0) [H, C]) := by
 obtain ⟨tg, mg, hg0⟩ := hG.g0;refine eN func217 ntmps217 results217 fun F => ?_
 (with_reducible refine zY ?_); refine zQ (fun D L S => D = [] /\ L = [(0, .slice a p.length cap), (1, .int .i32 r0)] /\ S = [H, C, F]) ?_ ?_
 ·refine gg ?_;exact mid ⟨rfl, rfl, rfl⟩
 rintro D L S ⟨rfl, rfl, rfl⟩
 (with_reducible refine zY ?_); refine zQ (fun D L S => ∃ r : Nat, sgn (r : Int) = true /\ enc r0 = enc (r : Int) /\ r <= 1114111 /\ D = [] /\ L = [(0, .slice a p.length cap), (1, .int .i32 r)] /\ S = [H, C, F]) ?_ ?_
 ·refine gg ?_;refine cA (Qu r0) ?_; rintro v A ⟨rfl, rfl⟩; refine gA ?_
  cases hs : sgn r0 with
  | true =>
   have hs' := hs;simp only [sgn, aN, dP, decide_eq_true_eq] at hs';obtain ⟨n, rfl⟩ : ∃ n : Nat, r0 = n := ⟨r0.toNat, by omega⟩;refine gg ?_;exact mid ⟨n, hs, rfl, by omega, rfl, rfl, rfl⟩
  | false =>
   refine gg ?_;exact mid ⟨65533, by decide, by unfold enc; rw [if_pos hs]; decide, by omega, rfl, rfl, rfl⟩
 rintro D L S ⟨r, hs, he, hr2, rfl, rfl, rfl⟩;rw [he];refine gg ?_;refine cA (Qc p (by omega) hr) ?_; rintro v A ⟨X, xa, xc, rfl, hX, rfl⟩; refine gA ?_;refine zf fun K hK => ?_; refine vD (vs := formsV) (ws := yl 0) (o := 0) (JO hg0 mmA) (by decide) rfl ?_; refine hK _ _ ?_; clear hK K
 refine zf fun K hK => ?_; refine zu fun b6 => ?_; (try simp only [Value.cells]); refine hK _ _ ?_; clear hK K
 refine gg ?_;refine oS (yl 0) rfl (by simp [yl, Value.cell1, b8]) ?_;refine gg ?_;refine zf fun K hK => ?_; refine zi (vs := formsV) (JO hg0 mmA) rfl ?_; refine hK _ _ ?_; clear hK K
 refine gg ?_;obtain ⟨ri, hri⟩ : ∃ ri : Int, (r : Int) = ri := ⟨_, rfl⟩
 refine zz (fun q D L S => ∃ i : Nat, i <= 4 /\ q = 4 - i /\ D = [] /\ L = [(19, .int .i64 i), (18, .agg formsV.toArray), (1, .int .i32 ri), (5, .slice xa p.length xc), (6, .pointer (some ⟨b6, 0, none⟩))] /\
  S = [[(b6, .cells (yl (kk i ri)).toArray 369 (0, 0))], X, H, C, F])
  ⟨0, by omega, rfl, rfl, by rw [<- hri], rfl⟩ ?_
 ·rintro q D L S ⟨i, hi, rfl, rfl, rfl, rfl⟩;refine gg ?_;refine if_d (fun hc => ?_) (fun hc => ?_)
  ·have hi4 : i < 4 := by omega
   refine gg ?_;refine zf fun K hK => ?_; rw [arr_el (by omega) (by omega), aY, Uw i hi4]; refine hK _ _ ?_; clear hK K
   refine zf fun K hK => ?_; refine zu fun b8' => ?_; (try simp only [Value.cells]); refine hK _ _ ?_; clear hK K
   refine gg ?_;refine oS (yl i) rfl (by simp [yl, Value.cell1, b8]) ?_;simp only [yl];refine gg ?_;have hk : kk (i + 1) ri = if ls i <= ri then i else kk i ri := rfl;refine if_d (fun hc => ?_) (fun hc => ?_)
   ·rw [if_pos hc] at hk;refine gg ?_;refine oL [.int .i64 ((i : Int) + 1), b8 (mk i), b8 (ld i), .int .i32 (ls i)] rfl ?_;refine oS ([.int .i64 ((i : Int) + 1), b8 (mk i), b8 (ld i), .int .i32 (ls i)]) rfl (by simp [Value.cell1, b8]) ?_;refine gg ?_;exact zv ⟨i + 1, by omega, rfl, rfl, rfl, by rw [hk]⟩
   ·rw [if_neg hc] at hk;refine gg ?_;exact zv ⟨i + 1, by omega, rfl, rfl, rfl, by rw [hk]⟩
  ·obtain rfl : i = 4 := by omega
   have hen := enc_bt r hs;rw [hen];have hk4 : kk 4 ri < 4 := by rw [kk4]; split <;> (try split) <;> (try split) <;> omega
   rw [hri];generalize kk 4 ri = k at *;have hrn : ri.toNat = r := by omega
   simp only [yl];refine gg ?_;rw [show (k : Int) + 1 - 1 = (k : Int) - ((0 : Nat) : Int) from by omega];have hll : ((bC (k + 1)).map (bt r k)).length = k + 1 := by simp
   obtain ⟨lst, hlst⟩ : ∃ lst, (bC (k + 1)).map (bt r k) = lst := ⟨_, rfl⟩
   have hbt : ∀ m, m <= k -> lst.take (m + 1) = lst.take m ++ [bt r k m] := fun m hm => by
    rw [<- hlst, cC, cN, List.getElem?_range (by omega)]; rfl
   rw [hlst] at hll ⊢
   refine zz (fun q D L S => ∃ (m : Nat) (Y : Chunk) (ya : Option Addr) (yc : Nat), m <= k + 1 /\ Own8 5 Y ya (p.length + m) yc (p ++ lst.take m) /\ q = k + 1 - m /\ D = [] /\
    L = [(9, .int .i64 ((k : Int) - m)), (1, .int .i32 ri), (5, .slice ya (p.length + m) yc), (6, .pointer (some ⟨b6, 0, none⟩))] /\
    S = [Y, [(b6, .cells #[.int .i64 ((k : Int) + 1), b8 (mk k), b8 (ld k), .int .i32 (ls k)] 369 (0, 0))], H, C, F])
    ⟨0, X, xa, xc, by omega, by simpa using hX, rfl, rfl, rfl, rfl⟩ ?_
   rintro q D L S ⟨m, Y, ya, yc, hm, hY, rfl, rfl, rfl, rfl⟩;refine gg ?_;refine if_d (fun hc => ?_) (fun hc => ?_)
   ·have hmk : m <= k := by omega
    have hb := hbt m hmk;refine gg ?_;refine zf fun K hK => ?_; rw [i32_shr (by omega) (by omega) (by omega), hrn, show (6 * ((k : Int) - m)).toNat = 6 * (k - m) from by omega]; refine hK _ _ ?_; clear hK K
    refine gg ?_;refine if_b (fun hc => ?_) (fun hc => ?_)
    ·obtain rfl : m = 0 := by omega
     have hbe : bt r k 0 = ld k ||| aH (r / 2 ^ (6 * k)) := by unfold bt; rw [if_pos rfl]
     refine gg ?_;refine zf fun K hK => ?_; rw [IB, Ost.u8_or, <- hbe]; refine hK _ _ ?_; clear hK K
     refine gg ?_;refine zf fun K hK => ?_; refine zX ([bt r k 0]) (by decide) rfl (rfl) (fun b7 C7 ho7 => ?_); refine hK _ _ ?_; clear hK K
     refine gg ?_;refine zf fun K hK => ?_; refine app8 (hY) pkA ((ho7.rd (aB ..)).mem mmA) (by omega) (fun C9 a9 cap9 ho9 => ?_); refine hK _ _ ?_; clear hK K
     refine gg ?_;rw [show (k : Int) - 0 - 1 = (k : Int) - ((0 + 1 : Nat) : Int) from by omega];exact zv ⟨0 + 1, C9, a9, cap9, by omega, by rw [hb, <- aM]; exact ho9, rfl, rfl, rfl, rfl⟩
    ·have hm0 : m ≠ 0 := fun h => hc (by subst h; omega)
     have hbe : bt r k m = aH 128 ||| (aH (r / 2 ^ (6 * (k - m))) &&& aH 63) := by unfold bt; rw [if_neg hm0]
     refine gg ?_;refine zf fun K hK => ?_; rw [IB, Ost.u8n_and _ _ _ _ 63 _ (by decide) (by decide)]; refine hK _ _ ?_; clear hK K
     refine gg ?_
     (try simp only [bN])
     rw [<- hbe];refine zf fun K hK => ?_; refine zX ([bt r k m]) (by decide) rfl (rfl) (fun b7 C7 ho7 => ?_); refine hK _ _ ?_; clear hK K
     refine gg ?_;refine zf fun K hK => ?_; refine app8 (hY) pkA ((ho7.rd (aB ..)).mem mmA) (by omega) (fun C9 a9 cap9 ho9 => ?_); refine hK _ _ ?_; clear hK K
     refine gg ?_;rw [show (k : Int) - (m : Int) - 1 = (k : Int) - ((m + 1 : Nat) : Int) from by omega];exact zv ⟨m + 1, C9, a9, cap9, by omega, by rw [hb, <- aM]; exact ho9, rfl, rfl, rfl, rfl⟩
   ·obtain rfl : m = k + 1 := by omega
    rw [bS (by omega)] at hY;rw [show p.length + (k + 1) = (p ++ lst).length from by rw [aA, hll]] at hY ⊢;refine gg ?_;refine zb ([Y, H, C]) ?_; exact ⟨_, _, _, rfl, hY, rfl⟩
theorem rd2 {C : Chunk} (hG : GNam C) : Rd 2 [C] (some ⟨5, 0, none⟩) blanks.length (blanks.flatMap Zg) := by
 obtain ⟨t, m, h⟩ := hG.g2; exact JB h rfl
theorem rd3 {C : Chunk} (hG : GNam C) : Rd 2 [C] (some ⟨6, 0, none⟩) nothing.length (nothing.flatMap Zg) := by
 obtain ⟨t, m, h⟩ := hG.g3; exact JB h rfl
theorem rd1 {C : Chunk} (hG : GNam C) : Rd 2 [C] (some ⟨1, 0, none⟩) barred.length (barred.flatMap Zg) := by
 obtain ⟨t, m, h⟩ := hG.g1; exact JB h rfl
theorem blank_in {C : Chunk} (hG : GNam C) (r : Int) : Meets prog 216 [.int .i32 r, .slice (some ⟨5, 0, none⟩) 6 6] [C] fun v A => v = .bool (xD r) /\ A = [C] := kK blanks (by decide) (rd2 hG) r
theorem goes_in {C : Chunk} (hG : GNam C) (r : Int) : Meets prog 216 [.int .i32 r, .slice (some ⟨6, 0, none⟩) 5 5] [C] fun v A => v = .bool (jd r) /\ A = [C] := kK nothing (by decide) (rd3 hG) r
theorem bars_in {C : Chunk} (hG : GNam C) (r : Int) : Meets prog 216 [.int .i32 r, .slice (some ⟨1, 0, none⟩) 9 9] [C] fun v A => v = .bool (Nam.within r barred) /\ A = [C] := kK barred (by decide) (rd1 hG) r
theorem JE (s : List UInt8) : Meets prog 215 [.string (str s)] []
  fun u A => ∃ p, u = .func (.func 244) #[] #[.pointer (some ⟨p, 0, none⟩)] /\ A = [bx p (.string (str s)) 9] := by
 refine eN func215 ntmps215 results215 fun F => ?_
 refine gg ?_;refine oB fun p1 => ?_
 refine gg ?_;refine zb [bx p1 (.string (str s)) 9] ⟨p1, rfl, rfl⟩
def kp (pre : List (Nat × Int)) : List Int := keep (pre.map (·.2))
theorem kp_snoc (pre : List (Nat × Int)) (x : Nat × Int) : kp (pre ++ [x]) = kp pre ++ qD x.2 := by
 unfold kp; rw [cL, keep_app]; simp [keep]
theorem kp_next {s : List UInt8} {pre : List (Nat × Int)} {x : Nat × Int} {y : Int} (h : Io (sg 0 s) pre x) (hy : qD x.2 = [y]) : Io (keep (rs s)) (kp pre) y := by
 obtain ⟨post, h⟩ := h;refine ⟨kp post, ?_⟩;rw [<- Qw _ 0 s (aR _), h];unfold kp;rw [cL, aZ, keep_app, show keep (x.2 :: post.map (·.2)) = qD x.2 ++ keep (post.map (·.2)) from rfl, hy]; rfl
def encI (x : Int) : List Value := [.int .i32 x]
abbrev withI (C : Chunk) (_ : List Int) (_ : Int) (H : State) : Prop := H = [C]
theorem JF {C : Chunk} (hG : GNam C) (p : Nat) (s : List UInt8) (hlen : s.length <= 1000000) :
  vJ prog 244 [] [.pointer (some ⟨p, 0, none⟩)] encI [bx p (.string (str s)) 9, C]
   (fun T => T = []) (withI C) (withI C) (withI C) (Io (keep (rs s))) (fun pre => pre = keep (rs s))
   (fun _ A => A = [bx p (.string (str s)) 9, C]) (fun _ A => A = [bx p (.string (str s)) 9, C]) false := by
 refine jQ (by kernel_rfl) fun l0 J Jx hN hT hY Cj hC => ?_
 refine eN func244 ntmps244 results244 fun F => ?_
 refine gg ?_;refine oB fun b2 => ?_
 refine gg ?_;refine cA (Xx s) ?_; rintro v A ⟨p2, rfl, rfl⟩; refine gA ?_
 refine xW (by (try simp only [evT, lookT_hit, lookT_miss, aG]); (first | done | exact rfl)) (Xy hG p2 s hlen) (by (repeat (first | exact Take.nil _ | with_reducible exact Pick.head _ _ | with_reducible apply Pick.tail | with_reducible apply Take.cons))) (fun pre S => ∃ Cj, J (kp pre) Cj /\ S = [bx b2 (.func (.yield l0) #[] #[]) 365, F, Cj, bx p (.string (str s)) 9])
  (fun k pre S => k = .ret /\ ∃ kpre y Cj, Io (keep (rs s)) kpre y /\ Jx (kpre ++ [y]) Cj /\ S = [bx b2 (.func (.yield l0) #[] #[]) 365, F, Cj, bx p (.string (str s)) 9]) (fun h => by cases h) (fun S hS => ?_) (fun _ => rfl) ⟨Cj, hC, rfl⟩ ?_ ?_ ?_
 ·exact ⟨[], _, rfl, .refl _⟩
 ·rintro l F1 S H r pre x hx ⟨Cj, hJ, rfl⟩ rfl;have hks := kp_snoc pre x;have hkn := fun y (hy : qD x.2 = [y]) => kp_next hx hy
  obtain ⟨k, v⟩ := x;simp only at hks hkn
  (try simp only [aD, aC, aL, encN])
  (try simp only [jz, putT, bM, if_true, reduceIte, Array.toList, dG])
  refine gg ?_;refine ⟨_, .cons (.head _ _) (Among.refl _), fun r' _ => ?_⟩;have fin : ∀ (y : Int), qD v = [y] -> ∀ (L : Env), True := fun _ _ _ => trivial
  refine gg ?_;refine zf fun K hK => ?_; rw [Yi]; refine hK _ _ ?_; clear hK K
  refine cA (blank_in hG v) ?_; rintro v A ⟨rfl, rfl⟩; refine gA ?_
  cases hb : xD v with
  | true =>
   have hk1 : qD v = [32] := by unfold qD; rw [hb]; rfl
   rw [hk1] at hks;refine gg ?_;refine zf fun K hK => ?_
   refine xF (hY (kp pre) 32 (hkn 32 hk1)) hJ rfl tkA (fun C4 H4 hJ4 hH4 => ?_) (fun C4 H4 hJ4 hH4 => ?_)
   ·subst hH4
    (try simp only [aD, aC])
    refine hK _ _ ?_; clear hK K;refine gg ?_;exact ⟨_, ⟨_, [C], rfl, ⟨C4, by rw [hks]; exact hJ4, rfl⟩, rfl⟩, by (try simp only [aC, aD]); first | ((repeat (first | with_reducible exact Among.nil _ | with_reducible exact Pick.head _ _ | with_reducible apply Pick.tail | with_reducible apply Among.cons)); done) | ((repeat (first | exact Among.nil _ | exact Pick.head _ _ | apply Pick.tail | apply Among.cons)); done)⟩
   ·subst hH4
    (try simp only [aD, aC])
    refine hK _ _ ?_; clear hK K;refine gg ?_;exact ⟨_, ⟨_, [C], rfl, ⟨rfl, _, _, C4, hkn 32 hk1, hJ4, rfl⟩, rfl⟩, by (try simp only [aC, aD]); first | ((repeat (first | with_reducible exact Among.nil _ | with_reducible exact Pick.head _ _ | with_reducible apply Pick.tail | with_reducible apply Among.cons)); done) | ((repeat (first | exact Among.nil _ | exact Pick.head _ _ | apply Pick.tail | apply Among.cons)); done)⟩
  | false =>
   refine gg ?_;refine zf fun K hK => ?_; rw [Yi]; refine hK _ _ ?_; clear hK K
   refine cA (goes_in hG v) ?_; rintro v A ⟨rfl, rfl⟩; refine gA ?_
   cases hg : jd v with
   | true =>
    have hk1 : qD v = [] := by unfold qD; rw [hb, hg]; rfl
    rw [hk1, aL] at hks;refine gg ?_;exact ⟨_, ⟨_, [C], rfl, ⟨Cj, by rw [hks]; exact hJ, rfl⟩, rfl⟩, by (try simp only [aC, aD]); first | ((repeat (first | with_reducible exact Among.nil _ | with_reducible exact Pick.head _ _ | with_reducible apply Pick.tail | with_reducible apply Among.cons)); done) | ((repeat (first | exact Among.nil _ | exact Pick.head _ _ | apply Pick.tail | apply Among.cons)); done)⟩
   | false =>
    have hk1 : qD v = [v] := by unfold qD; rw [hb, hg]; rfl
    rw [hk1] at hks;refine gg ?_;refine zf fun K hK => ?_
    refine xF (hY (kp pre) v (hkn v hk1)) hJ rfl tkA (fun C4 H4 hJ4 hH4 => ?_) (fun C4 H4 hJ4 hH4 => ?_)
    ·subst hH4
     (try simp only [aD, aC])
     refine hK _ _ ?_; clear hK K;refine gg ?_;exact ⟨_, ⟨_, [C], rfl, ⟨C4, by rw [hks]; exact hJ4, rfl⟩, rfl⟩, by (try simp only [aC, aD]); first | ((repeat (first | with_reducible exact Among.nil _ | with_reducible exact Pick.head _ _ | with_reducible apply Pick.tail | with_reducible apply Among.cons)); done) | ((repeat (first | exact Among.nil _ | exact Pick.head _ _ | apply Pick.tail | apply Among.cons)); done)⟩
    ·subst hH4
     (try simp only [aD, aC])
     refine hK _ _ ?_; clear hK K;refine gg ?_;exact ⟨_, ⟨_, [C], rfl, ⟨rfl, _, _, C4, hkn v hk1, hJ4, rfl⟩, rfl⟩, by (try simp only [aC, aD]); first | ((repeat (first | with_reducible exact Among.nil _ | with_reducible exact Pick.head _ _ | with_reducible apply Pick.tail | with_reducible apply Among.cons)); done) | ((repeat (first | exact Among.nil _ | exact Pick.head _ _ | apply Pick.tail | apply Among.cons)); done)⟩
 ·rintro d pre S A rfl ⟨Cj, hJ, rfl⟩ rfl;have he : kp (sg 0 s) = keep (rs s) := by unfold kp; rw [Qw _ 0 s (aR _)]
  rw [he] at hJ
  (try simp only [aD, aC])
  refine gg ?_;refine yF (vs := []) [Cj, bx p (.string (str s)) 9, C] ⟨Cj, _, rfl, .inl ⟨_, rfl, hJ, rfl⟩⟩
 ·rintro d k pre x S A hx ⟨rfl, kpre, y, Cj, hky, hJ, rfl⟩ rfl
  (try simp only [aD, aC])
  refine gg ?_;refine ze (vs := []) [Cj, bx p (.string (str s)) 9, C] ⟨Cj, _, rfl, .inr ⟨kpre, y, hky, hJ, rfl⟩⟩
theorem and_odd (n : Nat) : (n &&& 65534 == 65534) = decide (65534 <= n % 65536) := by
 have h1 : (n &&& 65534) / 2 = n / 2 % 32768 := by
  have := Nat.and_div_two_pow (a := n) (b := 65534) (n := 1);simp only [Nat.pow_one, Nat.reduceDiv] at this;rw [this];exact Nat.and_two_pow_sub_one_eq_mod (n / 2) 15
 have h2 : (n &&& 65534) % 2 = 0 := by
  have := Nat.and_mod_two_pow (a := n) (b := 65534) (n := 1);simp only [Nat.pow_one, Nat.reduceMod, Nat.and_zero] at this;exact this
 rw [Bool.eq_iff_iff, beq_iff_eq, decide_eq_true_eq];omega
theorem keep_len4 (L : List Int) : (L.flatMap enc).length <= 4 * L.length := by
 induction L with
 | nil => simp
 | cons x L ih =>
  have := (JZ x).2;rw [bP, aA, aJ]; omega
theorem keep_le (l : List Int) : (keep l).length <= l.length := by
 induction l with
 | nil => simp [keep]
 | cons x l ih =>
  have h1 : (qD x).length <= 1 := by unfold qD; split; simp; split <;> simp
  rw [show keep (x :: l) = qD x ++ keep l from rfl, aA, aJ]; omega
theorem QQ {C : Chunk} (hG : GNam C) (s : List UInt8) (hlen : s.length <= 100000) :
  Meets prog 176 [.string (str s)] [C] fun v A => v = .tuple #[.string (str (prep s).1), .int .i64 (prep s).2] /\ A = [C] := by
 refine eN func176 ntmps176 results176 fun F => ?_
 refine gg ?_;refine zf fun K hK => ?_; refine zu fun b2 => ?_; (try simp only [Value.cells]); refine hK _ _ ?_; clear hK K
 refine zf fun K hK => ?_; refine zu fun b3 => ?_; (try simp only [Value.cells]); refine hK _ _ ?_; clear hK K
 refine gg ?_;refine cA (UM hG s (by omega)) ?_; rintro v A ⟨rfl, rfl⟩; refine gA ?_
 cases hb : badB s with
 | true =>
  have e : prep s = ([], 4) := by unfold prep; unfold badB at hb; rw [if_pos hb]
  rw [e];refine gg ?_;refine ze (vs := [.string (str []), .int .i64 4]) [C] ⟨rfl, rfl⟩
 | false =>
  have e : prep s = if (keep (rs s)).any qI then ([], 5) else ((keep (rs s)).flatMap enc, 0) := by unfold prep; rw [if_neg (by unfold badB at hb; rw [hb]; simp)]
  have hkl : (keep (rs s)).length <= s.length := dN (keep_le _) (YP _ s (aR _));have hsg : ∀ r ∈ keep (rs s), sgn r = true := Uo fun r hr => YO _ s (aR _) r hr (Xa.1 hb r hr)
  rw [e];refine gg ?_;refine zf fun K hK => ?_; refine zu fun b4 => ?_; (try simp only [Value.cells]); refine hK _ _ ?_; clear hK K
  refine gg ?_;refine cA (JE s) ?_; rintro v A ⟨p, rfl, rfl⟩; refine gA ?_;refine zB ?_
  refine xW (by (try simp only [evT, lookT_hit, lookT_miss, aG]); (first | done | exact rfl)) (JF hG p s (by omega)) (by (repeat (first | exact Take.nil _ | with_reducible exact Pick.head _ _ | with_reducible apply Pick.tail | with_reducible apply Take.cons))) (fun pre Cl => (∀ x ∈ pre, qI x = false) /\ ∃ X xa xc, Own8 5 X xa (pre.flatMap enc).length xc (pre.flatMap enc) /\
    Cl = [X, bx b4 (.slice xa (pre.flatMap enc).length xc) 43, bx b3 (.int .i64 0) 35, bx b2 (.string (str [])) 9, F])
   (fun k pre Cl => k = .ret /\ (keep (rs s)).any qI = true /\ Cl = [bx b3 (.int .i64 5) 35, bx b2 (.string (str [])) 9, F]) (fun h => by cases h) (fun Cl hC => ?_) (fun _ => rfl) ⟨by simp, [], none, 0, own_nil, rfl⟩ ?_ ?_ ?_
  ·exact ⟨[], _, rfl, .refl _⟩
  ·rintro l F1 Cl H r pre x hx ⟨hbar, X, xa, xc, hX, rfl⟩ rfl;obtain ⟨post, hx⟩ := hx;have hmem : x ∈ keep (rs s) := by rw [hx]; simp
   have hxs := hsg x hmem
   have hpl : pre.length + 1 <= s.length := by
    have := congrArg cV hx;rw [aA, aJ] at this; omega
   have hol := keep_len4 pre;have hel := JZ x;have hxs' := hxs;simp only [sgn, aN, dP, decide_eq_true_eq] at hxs'
   (try simp only [aD, aC, aL, encI])
   (try simp only [jz, putT, bM, if_true, reduceIte, Array.toList, dG])
   refine gg ?_;refine ⟨_, .cons (.head _ _) (Among.refl _), fun r' _ => ?_⟩;refine gg ?_;refine zf fun K hK => ?_; rw [Yi]; refine hK _ _ ?_; clear hK K
   refine cA (bars_in hG x) ?_; rintro v A ⟨rfl, rfl⟩; refine gA ?_;have hbx : qI x = (Nam.within x barred || decide (65534 <= x % 65536)) := rfl
   have hodd : ((((x.toNat &&& (65534 : Int).toNat : Nat) : Int)) == 65534) = decide (65534 <= x % 65536) := by
    have h1 := and_odd x.toNat
    rw [show decide (65534 <= x % 65536) = decide (65534 <= x.toNat % 65536) from by
     by_cases h : 65534 <= x.toNat % 65536
     ·rw [decide_eq_true h, decide_eq_true (by omega)]
     ·rw [decide_eq_false h, decide_eq_false (by omega)], <- h1]
    rw [Bool.eq_iff_iff, beq_iff_eq, beq_iff_eq]
    show ((x.toNat &&& 65534 : Nat) : Int) = 65534 ↔ _
    omega
   cases hw : Nam.within x barred with
   | true =>
    rw [hw, Bool.true_or] at hbx;refine gg ?_;exact ⟨_, ⟨_, [C], rfl, ⟨rfl, by rw [List.any_eq_true]; exact ⟨x, hmem, hbx⟩, rfl⟩, rfl⟩, by (try simp only [aC, aD]); first | ((repeat (first | with_reducible exact Among.nil _ | with_reducible exact Pick.head _ _ | with_reducible apply Pick.tail | with_reducible apply Among.cons)); done) | ((repeat (first | exact Among.nil _ | exact Pick.head _ _ | apply Pick.tail | apply Among.cons)); done)⟩
   | false =>
    rw [hw, dO] at hbx;refine gg ?_;refine zf fun K hK => ?_; rw [i32_and (by omega) (by omega) (by omega) (by omega)]; refine hK _ _ ?_; clear hK K
    refine gg ?_;rw [show (((x.toNat &&& 65534 : Nat) : Int) == 65534) = qI x from hodd.trans hbx.symm]
    cases hbb : qI x with
    | true =>
     refine gg ?_;exact ⟨_, ⟨_, [C], rfl, ⟨rfl, by rw [List.any_eq_true]; exact ⟨x, hmem, hbb⟩, rfl⟩, rfl⟩, by (try simp only [aC, aD]); first | ((repeat (first | with_reducible exact Among.nil _ | with_reducible exact Pick.head _ _ | with_reducible apply Pick.tail | with_reducible apply Among.cons)); done) | ((repeat (first | exact Among.nil _ | exact Pick.head _ _ | apply Pick.tail | apply Among.cons)); done)⟩
    | false =>
     refine gg ?_;refine cA (Yj hG (pre.flatMap enc) (by omega) (hX.rd (aB ..)) x) ?_; rintro v A ⟨C7, a7, cap7, rfl, ho7, rfl⟩; refine gA ?_;have e2 : pre.flatMap enc ++ enc x = (pre ++ [x]).flatMap enc := by simp
     rw [e2] at ho7 ⊢
     have hbar' : ∀ y ∈ pre ++ [x], qI y = false := fun y hy => by
      rcases List.mem_append.1 hy with hy | hy
      ·exact hbar y hy
      ·rw [List.mem_singleton.1 hy]; exact hbb
     exact ⟨_, ⟨_, [C], rfl, ⟨hbar', C7, a7, cap7, ho7, rfl⟩, rfl⟩, by (try simp only [aC, aD]); first | ((repeat (first | with_reducible exact Among.nil _ | with_reducible exact Pick.head _ _ | with_reducible apply Pick.tail | with_reducible apply Among.cons)); done) | ((repeat (first | exact Among.nil _ | exact Pick.head _ _ | apply Pick.tail | apply Among.cons)); done)⟩
  ·rintro d pre Cl A rfl ⟨hbar, X, xa, xc, hX, rfl⟩ rfl;have ha : (keep (rs s)).any qI = false := by rw [List.any_eq_false]; intro x hx; rw [hbar x hx]; simp
   rw [ha, if_neg (by simp)]
   (try simp only [aD, aC])
   refine gg ?_;refine zf fun K hK => ?_; refine xm (hX.rd mmA) ?_; refine hK _ _ ?_; clear hK K
   refine gg ?_;refine ze (vs := [.string (str ((keep (rs s)).flatMap enc)), .int .i64 0]) [C] ⟨rfl, rfl⟩
  ·rintro d k pre x Cl A hx ⟨rfl, ha, rfl⟩ rfl;rw [ha, if_pos rfl]
   (try simp only [aD, aC])
   refine gg ?_;refine ze (vs := [.string (str []), .int .i64 5]) [C] ⟨rfl, rfl⟩
end Go.Proofs.YtebikhhoppiapaaGreatDoor
namespace Go.Proofs.YtebikhhoppiapaaGreatDoor
open Go Go.Ost Tryz
theorem yX {b cap : Nat} {p a : Option Addr} {X : Chunk} {l : List UInt8} (h : Bd b l p a cap X) (xs : List UInt8) (hl : l.length + xs.length <= 900000) (h1 : 1 <= xs.length) :
  Meets prog 146 [.pointer (some ⟨b, 0, none⟩), .string (str xs)] [bdB b p a l.length cap, X] fun v A => (∃ u, v = u) /\ ∃ p' a' cap' X', Bd b (l ++ xs) p' a' cap' X' /\ A = [bdB b p' a' (l ++ xs).length cap', X'] := by
 obtain ⟨hp, hr, hX⟩ := h;refine eN func146 ntmps146 results146 fun F => ?_
 refine gg ?_;refine cA (XV b l.length cap p a hp) ?_; rintro v A ⟨rfl, rfl⟩; refine gA ?_;refine zf fun K hK => ?_; refine app_str hX (.inr pkA) (by omega) (fun C9 a9 cap9 ho9 => ?_); refine hK _ _ ?_; clear hK K
 refine gg ?_;have e : l.length + xs.length = (l ++ xs).length := by simp
 rw [e] at ho9 ⊢;have hle := ho9.1;refine ze [bdB b (some ⟨b, 0, none⟩) a9 (l ++ xs).length cap9, C9] ⟨⟨_, rfl⟩, _, a9, cap9, C9, ⟨.inr rfl, .inl (by rw [<- e] at hle; omega), ho9⟩, rfl⟩
open Go.Nam
instance iNK_1 : TUns prog 358 := ⟨by kernel_rfl⟩
instance iNK_2 : TLies prog 272 := ⟨⟨_, rfl, by kernel_rfl, by kernel_rfl⟩⟩
theorem IM {s : List UInt8} {i : Nat} (h : i < s.length) : s.take (i + 1) = s.take i ++ [s.getD i 0] := by
 rw [cC, cY, aF h]; rfl
theorem KP (r : Int) : Meets prog 172 [.int .i64 r] [] fun v A => v = .bool (xD r) /\ A = [] := by
 refine eN func172 ntmps172 results172 fun F => ?_
 refine gg ?_
 by_cases h0 : r = 160
 ·rw [beq_iff_eq.2 h0];rw [show xD r = true from by simp [xD, Nam.within, blanks]; omega];refine gg ?_;refine zb [] ?_; exact ⟨rfl, rfl⟩
 rw [beq_eq_false_iff_ne.2 h0];refine gg ?_
 by_cases h1 : r = 5760
 ·rw [beq_iff_eq.2 h1];rw [show xD r = true from by simp [xD, Nam.within, blanks]; omega];refine gg ?_;refine zb [] ?_; exact ⟨rfl, rfl⟩
 rw [beq_eq_false_iff_ne.2 h1];refine gg ?_
 by_cases h2 : 8192 <= r
 ·rw [decide_eq_true h2];refine gg ?_
  by_cases g2 : r <= 8202
  ·rw [decide_eq_true g2];rw [show xD r = true from by simp [xD, Nam.within, blanks]; omega];refine gg ?_;refine zb [] ?_; exact ⟨rfl, rfl⟩
  ·rw [decide_eq_false g2];refine gg ?_
   by_cases h3 : r = 8239
   ·rw [beq_iff_eq.2 h3];rw [show xD r = true from by simp [xD, Nam.within, blanks]; omega];refine gg ?_;refine zb [] ?_; exact ⟨rfl, rfl⟩
   rw [beq_eq_false_iff_ne.2 h3];refine gg ?_
   by_cases h4 : r = 8287
   ·rw [beq_iff_eq.2 h4];rw [show xD r = true from by simp [xD, Nam.within, blanks]; omega];refine gg ?_;refine zb [] ?_; exact ⟨rfl, rfl⟩
   rw [beq_eq_false_iff_ne.2 h4];refine gg ?_
   by_cases h5 : r = 12288
   ·rw [beq_iff_eq.2 h5];rw [show xD r = true from by simp [xD, Nam.within, blanks]; omega];refine gg ?_;refine zb [] ?_; exact ⟨rfl, rfl⟩
   rw [beq_eq_false_iff_ne.2 h5];rw [show xD r = false from by simp [xD, Nam.within, blanks]; omega];refine gg ?_;refine zb [] ?_; exact ⟨rfl, rfl⟩
 ·rw [decide_eq_false h2];refine gg ?_
  by_cases h3 : r = 8239
  ·rw [beq_iff_eq.2 h3];rw [show xD r = true from by simp [xD, Nam.within, blanks]; omega];refine gg ?_;refine zb [] ?_; exact ⟨rfl, rfl⟩
  rw [beq_eq_false_iff_ne.2 h3];refine gg ?_
  by_cases h4 : r = 8287
  ·rw [beq_iff_eq.2 h4];rw [show xD r = true from by simp [xD, Nam.within, blanks]; omega];refine gg ?_;refine zb [] ?_; exact ⟨rfl, rfl⟩
  rw [beq_eq_false_iff_ne.2 h4];refine gg ?_
  by_cases h5 : r = 12288
  ·rw [beq_iff_eq.2 h5];rw [show xD r = true from by simp [xD, Nam.within, blanks]; omega];refine gg ?_;refine zb [] ?_; exact ⟨rfl, rfl⟩
  rw [beq_eq_false_iff_ne.2 h5];rw [show xD r = false from by simp [xD, Nam.within, blanks]; omega];refine gg ?_;refine zb [] ?_; exact ⟨rfl, rfl⟩
theorem Ol (r : Int) : Meets prog 173 [.int .i64 r] [] fun v A => v = .bool (jd r) /\ A = [] := by
 refine eN func173 ntmps173 results173 fun F => ?_
 refine gg ?_
 by_cases h0 : r = 173
 ·rw [beq_iff_eq.2 h0];rw [show jd r = true from by simp [jd, Nam.within, nothing]; omega];refine gg ?_;refine zb [] ?_; exact ⟨rfl, rfl⟩
 rw [beq_eq_false_iff_ne.2 h0];refine gg ?_
 by_cases h1 : 8203 <= r
 ·rw [decide_eq_true h1];refine gg ?_
  by_cases g1 : r <= 8205
  ·rw [decide_eq_true g1];rw [show jd r = true from by simp [jd, Nam.within, nothing]; omega];refine gg ?_;refine zb [] ?_; exact ⟨rfl, rfl⟩
  ·rw [decide_eq_false g1];refine gg ?_
   by_cases h2 : r = 8288
   ·rw [beq_iff_eq.2 h2];rw [show jd r = true from by simp [jd, Nam.within, nothing]; omega];refine gg ?_;refine zb [] ?_; exact ⟨rfl, rfl⟩
   rw [beq_eq_false_iff_ne.2 h2];refine gg ?_
   by_cases h3 : 65024 <= r
   ·rw [decide_eq_true h3];refine gg ?_
    by_cases g3 : r <= 65039
    ·rw [decide_eq_true g3];rw [show jd r = true from by simp [jd, Nam.within, nothing]; omega];refine gg ?_;refine zb [] ?_; exact ⟨rfl, rfl⟩
    ·rw [decide_eq_false g3];refine gg ?_
     by_cases h4 : r = 65279
     ·rw [beq_iff_eq.2 h4];rw [show jd r = true from by simp [jd, Nam.within, nothing]; omega];refine gg ?_;refine zb [] ?_; exact ⟨rfl, rfl⟩
     rw [beq_eq_false_iff_ne.2 h4];rw [show jd r = false from by simp [jd, Nam.within, nothing]; omega];refine gg ?_;refine zb [] ?_; exact ⟨rfl, rfl⟩
   ·rw [decide_eq_false h3];refine gg ?_
    by_cases h4 : r = 65279
    ·rw [beq_iff_eq.2 h4];rw [show jd r = true from by simp [jd, Nam.within, nothing]; omega];refine gg ?_;refine zb [] ?_; exact ⟨rfl, rfl⟩
    rw [beq_eq_false_iff_ne.2 h4];rw [show jd r = false from by simp [jd, Nam.within, nothing]; omega];refine gg ?_;refine zb [] ?_; exact ⟨rfl, rfl⟩
 ·rw [decide_eq_false h1];refine gg ?_
  by_cases h2 : r = 8288
  ·rw [beq_iff_eq.2 h2];rw [show jd r = true from by simp [jd, Nam.within, nothing]; omega];refine gg ?_;refine zb [] ?_; exact ⟨rfl, rfl⟩
  rw [beq_eq_false_iff_ne.2 h2];refine gg ?_
  by_cases h3 : 65024 <= r
  ·rw [decide_eq_true h3];refine gg ?_
   by_cases g3 : r <= 65039
   ·rw [decide_eq_true g3];rw [show jd r = true from by simp [jd, Nam.within, nothing]; omega];refine gg ?_;refine zb [] ?_; exact ⟨rfl, rfl⟩
   ·rw [decide_eq_false g3];refine gg ?_
    by_cases h4 : r = 65279
    ·rw [beq_iff_eq.2 h4];rw [show jd r = true from by simp [jd, Nam.within, nothing]; omega];refine gg ?_;refine zb [] ?_; exact ⟨rfl, rfl⟩
    rw [beq_eq_false_iff_ne.2 h4];rw [show jd r = false from by simp [jd, Nam.within, nothing]; omega];refine gg ?_;refine zb [] ?_; exact ⟨rfl, rfl⟩
  ·rw [decide_eq_false h3];refine gg ?_
   by_cases h4 : r = 65279
   ·rw [beq_iff_eq.2 h4];rw [show jd r = true from by simp [jd, Nam.within, nothing]; omega];refine gg ?_;refine zb [] ?_; exact ⟨rfl, rfl⟩
   rw [beq_eq_false_iff_ne.2 h4];rw [show jd r = false from by simp [jd, Nam.within, nothing]; omega];refine gg ?_;refine zb [] ?_; exact ⟨rfl, rfl⟩
def bar1 (r : Int) : Bool := decide (r <= 31 ∨ (127 <= r /\ r <= 159) ∨ (8232 <= r /\ r <= 8238) ∨ (8294 <= r /\ r <= 8297) ∨ (57344 <= r /\ r <= 63743))
def bar2 (r : Int) : Prop := 983040 <= r ∨ (65529 <= r /\ r <= 65533) ∨ (64976 <= r /\ r <= 65007)
theorem VK {r : Int} (h : r <= 31 ∨ (127 <= r /\ r <= 159) ∨ (8232 <= r /\ r <= 8238) ∨ (8294 <= r /\ r <= 8297) ∨ (57344 <= r /\ r <= 63743)) : bar1 r = true := decide_eq_true h
theorem VL {r : Int} (h : ¬ (r <= 31 ∨ (127 <= r /\ r <= 159) ∨ (8232 <= r /\ r <= 8238) ∨ (8294 <= r /\ r <= 8297) ∨ (57344 <= r /\ r <= 63743))) : bar1 r = false := decide_eq_false h
theorem Oq (r : Int) (h0 : 0 <= r) (hr : r <= 1114111) : Meets prog 174 [.int .i64 r] [] fun v A => v = .bool (qI r) /\ A = [] := by
 have yes : (bar1 r = true ∨ (983040 <= r ∨ (65529 <= r /\ r <= 65533) ∨ (64976 <= r /\ r <= 65007))) -> qI r = true := fun h => by
  have : Nam.within r barred = true := by
   simp only [bar1, decide_eq_true_eq] at h
   simp [Nam.within, barred]; omega
  unfold qI; rw [this, Bool.true_or]
 have no : ¬ bar2 r -> bar1 r = false -> qI r = decide (65534 <= r % 65536) := fun h h2 => by
  have : Nam.within r barred = false := by
   simp only [bar1, decide_eq_false_iff_not] at h2;unfold bar2 at h
   simp [Nam.within, barred]; omega
  unfold qI; rw [this, dO]
 refine eN func174 ntmps174 results174 fun F => ?_
 (with_reducible refine zY ?_); refine zQ (fun D L S => D = [] /\ L = [(0, .int .i64 r)] /\ S = [F]) ?_ ?_
 ·refine gg ?_;exact mid ⟨rfl, rfl, rfl⟩
 rintro D L S ⟨rfl, rfl, rfl⟩
 (with_reducible refine zY ?_); refine zQ (fun D L S => ¬ bar2 r /\ bar1 r = false /\ D = [] /\ L = [(0, .int .i64 r)] /\ S = [F]) ?_ ?_
 ·refine zp ?_
  (with_reducible refine zY ?_); refine zQ (fun D L S => ∃ w : Bool, w = bar1 r /\ D = [] /\ L = [(3, .bool w), (0, .int .i64 r)] /\ S = [F]) ?_ ?_
  ·refine gg ?_
   by_cases h : r <= 31
   ·rw [decide_eq_true h];refine gg ?_;exact mid ⟨true, (VK (by omega)).symm, rfl, rfl, rfl⟩
   rw [decide_eq_false h];refine gg ?_
   by_cases h0 : 127 <= r
   ·rw [decide_eq_true h0];refine gg ?_
    by_cases g0 : r <= 159
    ·rw [decide_eq_true g0];refine gg ?_;exact mid ⟨true, (VK (by omega)).symm, rfl, rfl, rfl⟩
    ·rw [decide_eq_false g0];refine gg ?_
     by_cases h1 : 8232 <= r
     ·rw [decide_eq_true h1];refine gg ?_
      by_cases g1 : r <= 8238
      ·rw [decide_eq_true g1];refine gg ?_;exact mid ⟨true, (VK (by omega)).symm, rfl, rfl, rfl⟩
      ·rw [decide_eq_false g1];refine gg ?_
       by_cases h2 : 8294 <= r
       ·rw [decide_eq_true h2];refine gg ?_
        by_cases g2 : r <= 8297
        ·rw [decide_eq_true g2];refine gg ?_;exact mid ⟨true, (VK (by omega)).symm, rfl, rfl, rfl⟩
        ·rw [decide_eq_false g2];refine gg ?_
         by_cases h3 : 57344 <= r
         ·rw [decide_eq_true h3];refine gg ?_
          by_cases g3 : r <= 63743
          ·rw [decide_eq_true g3];refine gg ?_;exact mid ⟨true, (VK (by omega)).symm, rfl, rfl, rfl⟩
          ·rw [decide_eq_false g3];refine gg ?_;exact mid ⟨false, (VL (by omega)).symm, rfl, rfl, rfl⟩
         ·rw [decide_eq_false h3];refine gg ?_;exact mid ⟨false, (VL (by omega)).symm, rfl, rfl, rfl⟩
       ·rw [decide_eq_false h2];refine gg ?_;rw [decide_eq_false (show ¬ 57344 <= r by omega)];refine gg ?_;exact mid ⟨false, (VL (by omega)).symm, rfl, rfl, rfl⟩
     ·rw [decide_eq_false h1];refine gg ?_;rw [decide_eq_false (show ¬ 8294 <= r by omega)];refine gg ?_;rw [decide_eq_false (show ¬ 57344 <= r by omega)];refine gg ?_;exact mid ⟨false, (VL (by omega)).symm, rfl, rfl, rfl⟩
   ·rw [decide_eq_false h0];refine gg ?_;rw [decide_eq_false (show ¬ 8232 <= r by omega)];refine gg ?_;rw [decide_eq_false (show ¬ 8294 <= r by omega)];refine gg ?_;rw [decide_eq_false (show ¬ 57344 <= r by omega)];refine gg ?_;exact mid ⟨false, (VL (by omega)).symm, rfl, rfl, rfl⟩
  rintro D L S ⟨w, hw, rfl, rfl, rfl⟩
  cases w with
  | true =>
   refine gg ?_;rw [yes (.inl hw.symm)];refine zb [] ?_; exact ⟨rfl, rfl⟩
  | false =>
   refine gg ?_
   by_cases k0 : 983040 <= r
   ·rw [decide_eq_true k0];refine gg ?_;rw [yes (.inr (by omega))];refine zb [] ?_; exact ⟨rfl, rfl⟩
   rw [decide_eq_false k0];refine gg ?_
   by_cases k1 : 65529 <= r
   ·rw [decide_eq_true k1];refine gg ?_
    by_cases k2 : r <= 65533
    ·rw [decide_eq_true k2];refine gg ?_;rw [yes (.inr (by omega))];refine zb [] ?_; exact ⟨rfl, rfl⟩
    ·rw [decide_eq_false k2];refine gg ?_;rw [decide_eq_true (show 64976 <= r by omega)];refine gg ?_;rw [decide_eq_false (show ¬ r <= 65007 by omega)];refine gg ?_;exact mid ⟨by unfold bar2; omega, hw.symm, rfl, rfl, rfl⟩
   ·rw [decide_eq_false k1];refine gg ?_
    by_cases k3 : 64976 <= r
    ·rw [decide_eq_true k3];refine gg ?_
     by_cases k4 : r <= 65007
     ·rw [decide_eq_true k4];refine gg ?_;rw [yes (.inr (by omega))];refine zb [] ?_; exact ⟨rfl, rfl⟩
     ·rw [decide_eq_false k4];refine gg ?_;exact mid ⟨by unfold bar2; omega, hw.symm, rfl, rfl, rfl⟩
    ·rw [decide_eq_false k3];refine gg ?_;exact mid ⟨by unfold bar2; omega, hw.symm, rfl, rfl, rfl⟩
 rintro D L S ⟨hno, hno1, rfl, rfl, rfl⟩;refine gg ?_;rw [no hno hno1];refine zb [] ?_; exact ⟨rfl, rfl⟩
theorem Oz {s : List UInt8} (h : badB s = false) : prep s = match prepL (rs s) with | none => ([], 5) | some b => (b, 0) := by
 rw [XB];unfold badB at h;unfold prep;rw [if_neg (by rw [h]; simp)]
 cases (keep (rs s)).any qI <;> rfl
theorem Js (s : List UInt8) (hs : s.length <= 100000) : Meets prog 127 [.string (str s)] [] fun v A => v = .tuple #[.string (str (prep s).1), .int .i64 (prep s).2] /\ A = [] := by
 have hsl := encS_len;have hgl : (sg 0 s).length <= s.length := by rw [sg_len]; exact YP _ s (aR _)
 have hrs := Qw _ 0 s (aR _);refine eN func127 ntmps127 results127 fun F => ?_
 refine gg ?_;refine cA (KB s (by omega)) ?_; rintro v A ⟨X, xa, xc, rfl, hX, rfl⟩; refine gA ?_;obtain ⟨sl, hsg⟩ : ∃ sl, sg 0 s = sl := ⟨_, rfl⟩;rw [hsg] at hX hgl hrs ⊢
 refine zz (fun q D L S => ∃ (i : Nat), i <= sl.length /\ (∀ x ∈ sl.take i, 0 <= x.2) /\ q = sl.length - i /\ D = [] /\
  L = [(14, .int .i64 i), (13, .int .i64 sl.length), (12, .slice xa sl.length xc), (4, .slice xa sl.length xc)] /\ S = [X, F])
  ⟨0, by omega, by simp, rfl, rfl, rfl, rfl⟩ ?_
 rintro q D L S ⟨i, hi, hok, rfl, rfl, rfl, rfl⟩;refine gg ?_;refine if_d (fun hc => ?_) (fun hc => ?_)
 ·have hil : i < sl.length := by omega
  have hx : sl[i]? = some sl[i] := aF hil;have htk : sl.take (i + 1) = sl.take i ++ [sl[i]] := by rw [cC, hx]; rfl
  have hm : sl[i] ∈ sl := dD hil;generalize sl[i] = x at *;obtain ⟨k, v⟩ := x;refine gg ?_;refine zf fun K hK => ?_; refine zT hX hsl hx (by decide) mmA ?_; refine hK _ _ ?_; clear hK K
  refine zf fun K hK => ?_; refine zu fun b6 => ?_; (try simp only [Value.cells]); refine hK _ _ ?_; clear hK K
  refine gg ?_;refine oS [.int .i64 k, .int .i64 v] rfl (by simp [Value.cell1]) ?_;refine gg ?_;refine if_d (fun hc => ?_) (fun hc => ?_)
  ·have hb : (rs s).any (fun r => decide (r < 0)) = true := by
    rw [<- hrs, List.any_eq_true];exact ⟨v, List.mem_map.2 ⟨(k, v), hm, rfl⟩, decide_eq_true hc⟩
   rw [show prep s = ([], 4) from by unfold prep; rw [if_pos hb]];refine gg ?_;refine ze [] ?_; exact ⟨rfl, rfl⟩
  ·have hok' : ∀ x ∈ sl.take (i + 1), 0 <= x.2 := fun x hx => by
    rw [htk] at hx
    rcases List.mem_append.1 hx with hx | hx
    ·exact hok x hx
    ·rw [List.mem_singleton.1 hx]; simp only; omega
   refine gg ?_;exact zv ⟨i + 1, by omega, hok', rfl, rfl, rfl, rfl⟩
 ·obtain rfl : i = sl.length := by omega
  rw [bF] at hok
  have hb : badB s = false := by
   unfold badB;rw [<- hrs, Xa];intro r hr;obtain ⟨x, hx, rfl⟩ := List.mem_map.1 hr;exact hok x hx
  rw [Oz hb, <- hrs];refine gg ?_;refine zB ?_
  refine zz (fun q D L S => ∃ (i : Nat) (o : List UInt8) (Y : Chunk) (ya : Option Addr) (yc : Nat), i <= sl.length /\ o.length <= 4 * i /\ (prepL (sl.map (·.2)) = (prepL ((sl.drop i).map (·.2))).map (o ++ ·)) /\ Own8 5 Y ya o.length yc o /\ q = sl.length - i /\ D = [] /\
   L = [(24, .int .i64 i), (23, .int .i64 sl.length), (22, .slice xa sl.length xc), (7, .slice ya o.length yc)] /\ S = [Y, X, F])
   ⟨0, [], [], none, 0, by omega, by simp, by rw [List.drop_zero]; cases prepL (sl.map (·.2)) <;> rfl, own_nil, rfl, rfl, rfl, rfl⟩ ?_
  rintro q D L S ⟨i, o, Y, ya, yc, hi, hol, hp, hY, rfl, rfl, rfl, rfl⟩;refine gg ?_;refine if_d (fun hc => ?_) (fun hc => ?_)
  ·have hil : i < sl.length := by omega
   have hx : sl[i]? = some sl[i] := aF hil;have hm : sl[i] ∈ sl := dD hil;have h0 := hok _ hm;have hrg : sl[i].2 <= 1114111 := (rs_rng _ s (aR _) sl[i].2 (by rw [<- hrs]; exact List.mem_map.2 ⟨_, hm, rfl⟩)).2;rw [bK hil, aZ, prepL] at hp;generalize sl[i] = x at *;obtain ⟨k, v⟩ := x;simp only at h0 hrg hp;have hel := (JZ v).2;have mm : ∀ (c : List UInt8) (z : Option (List UInt8)), ((z.map (c ++ ·)).map (o ++ ·)) = z.map ((o ++ c) ++ ·) := fun c z => by cases z <;> simp
   refine gg ?_
   (try rw [aY])
   refine zf fun K hK => ?_; refine zT hX hsl hx (by decide) mmA ?_; refine hK _ _ ?_; clear hK K
   refine zf fun K hK => ?_; refine zu fun b9 => ?_; (try simp only [Value.cells]); refine hK _ _ ?_; clear hK K
   refine gg ?_;refine oS [.int .i64 k, .int .i64 v] rfl (by simp [Value.cell1]) ?_;refine gg ?_;refine cA (KP v) ?_; rintro v A ⟨rfl, rfl⟩; refine gA ?_
   cases hb1 : xD v with
   | true =>
    rw [hb1, if_pos rfl, show (fun x : List UInt8 => 32 :: x) = fun x => [32] ++ x from rfl, mm] at hp;refine gg ?_;refine zf fun K hK => ?_; refine zX ([32]) (by decide) rfl (rfl) (fun b6 C6 ho6 => ?_); refine hK _ _ ?_; clear hK K
    refine gg ?_;refine zf fun K hK => ?_; refine app8 (hY) pkA ((ho6.rd (aB ..)).mem mmA) (by omega) (fun C8 a8 cap8 ho8 => ?_); refine hK _ _ ?_; clear hK K
    refine gg ?_;rw [show o.length + 1 = (o ++ [32]).length from by simp] at ho8 ⊢;exact zv ⟨i + 1, o ++ [32], C8, a8, cap8, by omega, by simp; omega, hp, ho8, rfl, rfl, rfl, rfl⟩
   | false =>
    rw [hb1] at hp;refine gg ?_;refine cA (Ol v) ?_; rintro v A ⟨rfl, rfl⟩; refine gA ?_
    cases hb2 : jd v with
    | true =>
     rw [hb2] at hp;refine gg ?_;exact zv ⟨i + 1, o, Y, ya, yc, by omega, by omega, hp, hY, rfl, rfl, rfl, rfl⟩
    | false =>
     rw [hb2] at hp;refine gg ?_;refine cA (Oq v h0 hrg) ?_; rintro v A ⟨rfl, rfl⟩; refine gA ?_
     cases hb3 : qI v with
     | true =>
      rw [hb3] at hp;simp only [Bool.false_eq_true, if_false, if_true, Option.map_none] at hp;rw [hp];refine gg ?_;refine ze [] ?_; exact ⟨rfl, rfl⟩
     | false =>
      rw [hb3] at hp;simp only [Bool.false_eq_true, if_false] at hp;rw [mm] at hp;refine gg ?_;refine cA (KO v (by omega)) ?_; rintro v A ⟨Z, za, zc, rfl, hZ, rfl⟩; refine gA ?_;refine zf fun K hK => ?_; refine app8 (hY) pkA ((hZ.rd (aB ..)).mem mmA) (by omega) (fun C8 a8 cap8 ho8 => ?_); refine hK _ _ ?_; clear hK K
      refine gg ?_;rw [show o.length + (enc v).length = (o ++ enc v).length from by simp] at ho8 ⊢;exact zv ⟨i + 1, o ++ enc v, C8, a8, cap8, by omega, by simp; omega, hp, ho8, rfl, rfl, rfl, rfl⟩
  ·obtain rfl : i = sl.length := by omega
   rw [dR] at hp;rw [hp];simp only [dS, prepL, dE, aL];refine gg ?_;refine zf fun K hK => ?_; refine xm (hY.rd mmA) ?_; refine hK _ _ ?_; clear hK K
   refine gg ?_;refine ze [] ?_; exact ⟨rfl, rfl⟩
theorem Zy {C : Chunk} (hG : GNam C) (s : List UInt8) (hs : s.length <= 100000) (most : Nat) (hm : most <= 1000) :
  Meets prog 128 [.string (str s), .int .i64 most] [C] fun v A => v = .tuple #[.string (str (xR s most).1), .int .i64 (xR s most).2] /\ A = [C] := by
 refine eN func128 ntmps128 results128 fun F => ?_
 refine gg ?_;refine cA (QQ hG s hs) ?_; rintro v A ⟨rfl, rfl⟩; refine gA ?_;unfold xR;obtain ⟨p, e⟩ := prep s;simp only
 by_cases h1 : e = 0
 ·subst h1;rw [if_neg (by simp)];refine gg ?_
  by_cases h2 : p = []
  ·subst h2;rw [if_pos rfl];refine gg ?_;refine ze [C] ?_; exact ⟨rfl, rfl⟩
  ·rw [if_neg h2];rw [show (p == []) = false from beq_eq_false_iff_ne.2 h2];refine gg ?_
   by_cases h3 : most < p.length
   ·rw [if_pos h3, decide_eq_true (show (most : Int) < p.length by omega)];refine gg ?_;refine ze [C] ?_; exact ⟨rfl, rfl⟩
   ·rw [if_neg h3, decide_eq_false (show ¬ (most : Int) < p.length by omega)];refine gg ?_;refine ze [C] ?_; exact ⟨rfl, rfl⟩
 ·rw [if_pos h1];refine gg ?_;rw [bne_iff_ne.2 h1];refine gg ?_;refine ze [C] ?_; exact ⟨rfl, rfl⟩
theorem wE {C : Chunk} (hG : GNam C) (s : List UInt8) (hs : s.length <= 100000) :
  Meets prog 76 [.string (str s)] [C] fun v A => v = .tuple #[.string (str (xR s 32).1), .int .i64 (xR s 32).2] /\ A = [C] := by
 refine eN func76 ntmps76 results76 fun F => ?_
 refine gg ?_;refine cA (Zy hG s hs 32 (by decide)) ?_; rintro v A ⟨rfl, rfl⟩; refine gA ?_;refine ze [C] ?_; exact ⟨rfl, rfl⟩
theorem pass_spec {C : Chunk} (hG : GNam C) (s : List UInt8) (hs : s.length <= 100000) :
  Meets prog 77 [.string (str s)] [C] fun v A => v = .tuple #[.string (str (xR s 64).1), .int .i64 (xR s 64).2] /\ A = [C] := by
 refine eN func77 ntmps77 results77 fun F => ?_
 refine gg ?_;refine cA (Zy hG s hs 64 (by decide)) ?_; rintro v A ⟨rfl, rfl⟩; refine gA ?_;refine ze [C] ?_; exact ⟨rfl, rfl⟩
theorem vy (s : List UInt8) (hs : s.length <= 100000) (most : Nat) (hm : most <= 1000) :
  Meets prog 67 [.string (str s), .int .i64 most] [] fun v A => v = .tuple #[.string (str (xR s most).1), .int .i64 (xR s most).2] /\ A = [] := by
 refine eN func67 ntmps67 results67 fun F => ?_
 refine gg ?_;refine cA (Js s hs) ?_; rintro v A ⟨rfl, rfl⟩; refine gA ?_;unfold xR;obtain ⟨p, e⟩ := prep s;simp only
 by_cases h1 : e = 0
 ·subst h1;rw [if_neg (by simp)];refine gg ?_
  by_cases h2 : p = []
  ·subst h2;rw [if_pos rfl];refine gg ?_
   (try simp only [aV])
   (try refine gg ?_)
   refine ze [] ?_; exact ⟨rfl, rfl⟩
  ·have hp : p.length ≠ 0 := fun h => h2 (List.length_eq_zero_iff.1 h)
   rw [if_neg h2];rw [show ((p.length : Int) == 0) = false from beq_eq_false_iff_ne.2 (by omega)];refine gg ?_
   by_cases h3 : most < p.length
   ·rw [if_pos h3, decide_eq_true (show (most : Int) < p.length by omega)];refine gg ?_;refine ze [] ?_; exact ⟨rfl, rfl⟩
   ·rw [if_neg h3, decide_eq_false (show ¬ (most : Int) < p.length by omega)];refine gg ?_;refine ze [] ?_; exact ⟨rfl, rfl⟩
 ·rw [if_pos h1];refine gg ?_;rw [bne_iff_ne.2 h1];refine gg ?_;refine ze [] ?_; exact ⟨rfl, rfl⟩
theorem XC (c : UInt8) (z : Int) (h : (c.toNat : Int) = z) : kI c = ((decide (97 <= z) && decide (z <= 122)) || ((decide (48 <= z) && decide (z <= 57)) || (z == 45 || z == 95))) := by
 subst h;exact eq_of_beq (all8 (fun c => kI c == ((decide (97 <= (c.toNat : Int)) && decide ((c.toNat : Int) <= 122)) || ((decide (48 <= (c.toNat : Int)) && decide ((c.toNat : Int) <= 57)) || ((c.toNat : Int) == 45 || (c.toNat : Int) == 95)))) (by decide +kernel) c)
theorem qS (s : List UInt8) (n : Nat) : Meets prog 10 [.string (str s), .int .i64 n] [] fun v A => v = .string (str (s.take n)) /\ A = [] := by
 refine eN func10 ntmps10 results10 fun F => ?_
 refine gg ?_
 have e : s.take (if (n : Int) < s.length then (n : Int) else s.length).toNat = s.take n := by
  split
  ·rw [show ((n : Int)).toNat = n from by omega]
  ·rw [bS (by omega), bS (by omega)]
 rw [e];refine zb [] ?_; exact ⟨rfl, rfl⟩
theorem notall {s : List UInt8} {i : Nat} (h : i < s.length) (hp : kI (s.getD i 0) = false) : vd s = false := by
 unfold vd
 rw [show s.all kI = false from by
  rw [List.all_eq_false];exact ⟨s.getD i 0, by rw [cY, aF h]; exact dD h, by rw [hp]; simp⟩, Bool.false_and]
theorem UJ {s : List UInt8} {i : Nat} (h : i < s.length) (ha : (s.take i).all kI = true) (hp : kI (s.getD i 0) = true) : (s.take (i + 1)).all kI = true := by
 rw [IM h, List.all_append, ha, dI, hp]; rfl
theorem kx (s : List UInt8) (hs : s.length <= 100000) : Meets prog 56 [.string (str s)] [] fun v A => v = .bool (vd s) /\ A = [] := by
 refine eN func56 ntmps56 results56 fun F => ?_
 refine gg ?_;refine zf fun K hK => ?_; refine zK (by simp only [maxLen]; omega) (fun X xa xc hX => ?_); refine hK _ _ ?_; clear hK K
 refine gg ?_
 refine zz (fun q D L S => ∃ (i : Nat), i <= s.length /\ (s.take i).all kI = true /\ q = s.length - i /\ D = [] /\
  L = [(8, .int .i64 i), (7, .int .i64 s.length), (6, .slice (some xa) s.length xc), (0, .string (str s))] /\ S = [X, F])
  ⟨0, by omega, rfl, rfl, rfl, rfl, rfl⟩ ?_
 rintro q D L S ⟨i, hi, hall, rfl, rfl, rfl, rfl⟩;refine gg ?_;refine if_d (fun hc => ?_) (fun hc => ?_)
 ·have hil : i < s.length := by omega
  obtain ⟨z, hz⟩ : ∃ z : Int, ((s.getD i 0).toNat : Int) = z := ⟨_, rfl⟩;have hp1 := XC _ z hz;have yes := fun h => UJ hil hall h
  have no := fun h => notall hil h
  refine gg ?_;rw [hz]
  by_cases h1 : 97 <= z
  ·rw [decide_eq_true h1] at hp1 ⊢;refine gg ?_;rw [hz]
   by_cases h2 : z <= 122
   ·rw [decide_eq_true h2] at hp1 ⊢;refine gg ?_;exact zv ⟨i + 1, by omega, yes (by rw [hp1]; rfl), rfl, rfl, rfl, rfl⟩
   ·rw [decide_eq_false h2] at hp1 ⊢;refine gg ?_;rw [hz, decide_eq_true (show 48 <= z by omega)];refine gg ?_;rw [hz, decide_eq_false (show ¬ z <= 57 by omega)];refine gg ?_;rw [hz, beq_eq_false_iff_ne.2 (show z ≠ 45 by omega)];refine gg ?_;rw [hz, beq_eq_false_iff_ne.2 (show z ≠ 95 by omega)];refine gg ?_;rw [no (by rw [hp1]; simp; omega)];refine zb [] ?_; exact ⟨rfl, rfl⟩
  ·rw [decide_eq_false h1] at hp1 ⊢;refine gg ?_;rw [hz]
   by_cases h3 : 48 <= z
   ·rw [decide_eq_true h3] at hp1 ⊢;refine gg ?_;rw [hz]
    by_cases h4 : z <= 57
    ·rw [decide_eq_true h4] at hp1 ⊢;refine gg ?_;exact zv ⟨i + 1, by omega, yes (by rw [hp1]; rfl), rfl, rfl, rfl, rfl⟩
    ·rw [decide_eq_false h4] at hp1 ⊢;refine gg ?_;rw [hz, beq_eq_false_iff_ne.2 (show z ≠ 45 by omega)];refine gg ?_;rw [hz]
     by_cases h5 : z = 95
     ·rw [beq_iff_eq.2 h5] at hp1 ⊢;refine gg ?_;exact zv ⟨i + 1, by omega, yes (by rw [hp1]; simp), rfl, rfl, rfl, rfl⟩
     ·rw [beq_eq_false_iff_ne.2 h5] at hp1 ⊢;refine gg ?_;rw [no (by rw [hp1]; simp; omega)];refine zb [] ?_; exact ⟨rfl, rfl⟩
   ·rw [decide_eq_false h3] at hp1 ⊢;refine gg ?_;rw [hz]
    by_cases h4 : z = 45
    ·rw [beq_iff_eq.2 h4] at hp1 ⊢;refine gg ?_;exact zv ⟨i + 1, by omega, yes (by rw [hp1]; simp), rfl, rfl, rfl, rfl⟩
    ·rw [beq_eq_false_iff_ne.2 h4] at hp1 ⊢;refine gg ?_;rw [hz, beq_eq_false_iff_ne.2 (show z ≠ 95 by omega)];refine gg ?_;rw [no (by rw [hp1]; simp; omega)];refine zb [] ?_; exact ⟨rfl, rfl⟩
 ·obtain rfl : i = s.length := by omega
  rw [bF] at hall;have hpl : vd s = (decide (1 <= s.length) && decide (s.length <= 32)) := by unfold vd; rw [hall, dM]
  rw [hpl];refine gg ?_
  by_cases h0 : s = []
  ·subst h0;refine gg ?_;refine zb [] ?_; exact ⟨rfl, rfl⟩
  ·have hpos : s.length ≠ 0 := fun h => h0 (List.length_eq_zero_iff.1 h)
   rw [bne_iff_ne.2 h0, decide_eq_true (show 1 <= s.length by omega), dM];refine gg ?_
   rw [show decide ((s.length : Int) <= 32) = decide (s.length <= 32) from by
    by_cases h : s.length <= 32
    ·rw [decide_eq_true h, decide_eq_true (by omega)]
    ·rw [decide_eq_false h, decide_eq_false (by omega)]]
   refine zb [] ?_; exact ⟨rfl, rfl⟩
theorem Zr (s : List UInt8) (hs : s.length <= 100000) : Meets prog 73 [.string (str s)] [] fun v A => v = .bool (vd s) /\ A = [] := by
 refine eN func73 ntmps73 results73 fun F => ?_
 refine gg ?_
 refine zz (fun q D L S => ∃ (i : Nat), i <= s.length /\ (s.take i).all kI = true /\ q = s.length - i /\ D = [] /\
  L = [(3, .int .i64 i), (0, .string (str s))] /\ S = [F])
  ⟨0, by omega, rfl, rfl, rfl, rfl, rfl⟩ ?_
 rintro q D L S ⟨i, hi, hall, rfl, rfl, rfl, rfl⟩;refine gg ?_;refine if_d (fun hc => ?_) (fun hc => ?_)
 ·have hil : i < s.length := by omega
  obtain ⟨z, hz⟩ : ∃ z : Int, ((s.getD i 0).toNat : Int) = z := ⟨_, rfl⟩;have hp1 := XC _ z hz;have yes := fun h => UJ hil hall h
  have no := fun h => notall hil h
  refine gg ?_;rw [hz]
  by_cases h1 : 97 <= z
  ·rw [decide_eq_true h1] at hp1 ⊢;refine gg ?_;rw [hz]
   by_cases h2 : z <= 122
   ·rw [decide_eq_true h2] at hp1 ⊢;refine gg ?_;exact zv ⟨i + 1, by omega, yes (by rw [hp1]; rfl), rfl, rfl, rfl, rfl⟩
   ·rw [decide_eq_false h2] at hp1 ⊢;refine gg ?_;rw [hz, decide_eq_true (show 48 <= z by omega)];refine gg ?_;rw [hz, decide_eq_false (show ¬ z <= 57 by omega)];refine gg ?_;rw [hz, beq_eq_false_iff_ne.2 (show z ≠ 45 by omega)];refine gg ?_;rw [hz, beq_eq_false_iff_ne.2 (show z ≠ 95 by omega)];refine gg ?_;rw [no (by rw [hp1]; simp; omega)];refine zb [] ?_; exact ⟨rfl, rfl⟩
  ·rw [decide_eq_false h1] at hp1 ⊢;refine gg ?_;rw [hz]
   by_cases h3 : 48 <= z
   ·rw [decide_eq_true h3] at hp1 ⊢;refine gg ?_;rw [hz]
    by_cases h4 : z <= 57
    ·rw [decide_eq_true h4] at hp1 ⊢;refine gg ?_;exact zv ⟨i + 1, by omega, yes (by rw [hp1]; rfl), rfl, rfl, rfl, rfl⟩
    ·rw [decide_eq_false h4] at hp1 ⊢;refine gg ?_;rw [hz, beq_eq_false_iff_ne.2 (show z ≠ 45 by omega)];refine gg ?_;rw [hz]
     by_cases h5 : z = 95
     ·rw [beq_iff_eq.2 h5] at hp1 ⊢;refine gg ?_;exact zv ⟨i + 1, by omega, yes (by rw [hp1]; simp), rfl, rfl, rfl, rfl⟩
     ·rw [beq_eq_false_iff_ne.2 h5] at hp1 ⊢;refine gg ?_;rw [no (by rw [hp1]; simp; omega)];refine zb [] ?_; exact ⟨rfl, rfl⟩
   ·rw [decide_eq_false h3] at hp1 ⊢;refine gg ?_;rw [hz]
    by_cases h4 : z = 45
    ·rw [beq_iff_eq.2 h4] at hp1 ⊢;refine gg ?_;exact zv ⟨i + 1, by omega, yes (by rw [hp1]; simp), rfl, rfl, rfl, rfl⟩
    ·rw [beq_eq_false_iff_ne.2 h4] at hp1 ⊢;refine gg ?_;rw [hz, beq_eq_false_iff_ne.2 (show z ≠ 95 by omega)];refine gg ?_;rw [no (by rw [hp1]; simp; omega)];refine zb [] ?_; exact ⟨rfl, rfl⟩
 ·obtain rfl : i = s.length := by omega
  rw [bF] at hall;have hpl : vd s = (decide (1 <= s.length) && decide (s.length <= 32)) := by unfold vd; rw [hall, dM]
  rw [hpl];refine gg ?_
  by_cases h0 : 1 <= s.length
  ·rw [decide_eq_true h0, decide_eq_true (show (1 : Int) <= s.length by omega), dM];refine gg ?_
   rw [show decide ((s.length : Int) <= 32) = decide (s.length <= 32) from by
    by_cases h : s.length <= 32
    ·rw [decide_eq_true h, decide_eq_true (by omega)]
    ·rw [decide_eq_false h, decide_eq_false (by omega)]]
   refine zb [] ?_; exact ⟨rfl, rfl⟩
  ·rw [decide_eq_false h0, decide_eq_false (show ¬ (1 : Int) <= s.length by omega), Bool.false_and];refine gg ?_;refine zb [] ?_; exact ⟨rfl, rfl⟩
open Go.Sha
def tagC : List UInt8 := [67, 108, 105, 101, 110, 116, 32, 75, 101, 121]
def tagS : List UInt8 := [83, 101, 114, 118, 101, 114, 32, 75, 101, 121]
structure Sec where
 st : List UInt8
 sv : List UInt8
 ha : List UInt8
def xq (a b c : List UInt8) : List UInt8 := a ++ [58] ++ b ++ [58] ++ c
def qf (x : BX) (n q : List UInt8) : Sec × BX :=
 let k := strX x q [1] 1
 let c := macX k.2 k.1 tagC
 let h := xl c.2 c.1
 let s := macX h.2 k.1 tagS
 let a := xl s.2 (xq n [116] q)
 (⟨h.1, s.1, a.1⟩, a.2)
theorem JN (x : BX) (n q : List UInt8) : (qf x n q).2.ts.length <= x.ts.length + 5 /\ (qf x n q).2.sym = x.sym := by
 unfold qf;simp only;have h1 := Ze x q [1] 1;generalize strX x q [1] 1 = k at *;have h2 := kd k.2 k.1 tagC;generalize macX k.2 k.1 tagC = c at *;have h3 := xU c.2 c.1;generalize xl c.2 c.1 = h at *;have h4 := kd h.2 k.1 tagS;generalize macX h.2 k.1 tagS = s at *;have h5 := xU s.2 (xq n [116] q);generalize xl s.2 (xq n [116] q) = a at *;exact ⟨by omega, by rw [h5.2, h4.2, h3.2, h2.2, h1.2]⟩
theorem Qs (p s : List UInt8) (r : Nat) : (qU p s r 32).length <= 100000 := by
 unfold qU; rw [aU]; omega
theorem YB (x : BX) (p s : List UInt8) (r : Nat) : (strX x p s r).1.length <= 100000 := by
 unfold strX; split
 ·rw [Jh]; omega
 ·exact Qs _ _ _
theorem yP (x : BX) (k m : List UInt8) : (macX x k m).1.length = 32 := by
 unfold macX; split
 ·exact Jh _ _
 ·exact vZ _ _
theorem jH (x : BX) (m : List UInt8) : (xl x m).1.length = 32 := by
 unfold xl; split
 ·exact Jh _ _
 ·exact vm _
theorem Xw (a : Option Addr) (c : Nat) : Meets prog 78 [.slice a 1 c, .int .i64 1] [] fun v A => v = .bool true /\ A = [] := by
 refine eN func78 ntmps78 results78 fun F => ?_
 refine gg ?_;refine zb [] ?_; exact ⟨rfl, rfl⟩
def SecW (W : Chunk) (vs : List Value) (s : Sec) : Prop := ∃ (sa ta ua ha : Option Addr) (sc tc uc hc : Nat), vs = [.slice sa 1 sc, .int .i64 1, .slice ta s.st.length tc, .slice ua s.sv.length uc, .slice ha s.ha.length hc] /\
 (1 <= sc /\ s.st.length <= tc /\ s.sv.length <= uc /\ s.ha.length <= hc) /\ s.st.length = 32 /\ s.sv.length = 32 /\ s.ha.length = 32 /\
 Rd 1 [W] sa 1 (([1] : List UInt8).map b8) /\ Rd 1 [W] ta s.st.length (s.st.map b8) /\ Rd 1 [W] ua s.sv.length (s.sv.map b8) /\ Rd 1 [W] ha s.ha.length (s.ha.map b8)
instance tpSec : zH prog 45 [(0, 1), (1, 1), (2, 1), (3, 1), (4, 1)] := ⟨by kernel_rfl⟩
theorem make_open {G : Chunk} (hg : jj G) (hn : GNam G) {C S : Chunk} {b : Nat} {x : BX} (hC : qL C b x) (hts : x.ts.length <= 900) (u p n q : List UInt8) (hu : u.length <= 1000) (hp : p.length <= 1000) (hnl : n.length <= 1000) (hql : q.length <= 1000) (hun : xR u 32 = (n, 0)) (hpq : xR p 64 = (q, 0)) {sa : Option Addr} {sc : Nat} (hsc : 1 <= sc) (hS : Rd 1 [S] sa 1 (([1] : List UInt8).map b8)) :
  Meets prog 30 [.pointer (some ⟨b, 0, none⟩), .string (str [116]), .string (str u), .string (str p), .slice sa 1 sc, .int .i64 1] [C, G, S]
  fun v A => ∃ (W0 W1 W2 W3 C' : Chunk) (vs : List Value), v = .tuple #[.agg vs.toArray, .int .i64 0] /\ SecW (W0 ++ (W1 ++ (W2 ++ W3))) vs (qf x n q).1 /\ qL C' b (qf x n q).2 /\ A = [W0, W1, W2, W3, C', G, S] := by
 have hnm := wE hn u (by omega);have hpw := pass_spec hn p (by omega);rw [hun] at hnm;rw [hpq] at hpw;refine eN func30 ntmps30 results30 fun F => ?_
 refine gg ?_;refine oA ([.slice none 0 0, .int .i64 0, .slice none 0 0, .slice none 0 0, .slice none 0 0] : List Value).toArray fun b12 => ?_
 refine gg ?_;refine cA (kx [116] (by decide)) ?_; rintro v A ⟨rfl, rfl⟩; refine gA ?_;rw [show vd [116] = true from by decide +kernel];refine gg ?_;refine cA (hnm) ?_; rintro v A ⟨rfl, rfl⟩; refine gA ?_;refine cA (hpw) ?_; rintro v A ⟨rfl, rfl⟩; refine gA ?_;refine cA (Xw sa sc) ?_; rintro v A ⟨rfl, rfl⟩; refine gA ?_;refine zf fun K hK => ?_; refine zK (by simp only [maxLen]; omega) (fun Q qa qc hQ => ?_); refine hK _ _ ?_; clear hK K
 refine gg ?_;have kl1 := YB x q [1] 1;have kt := Ze x q [1] 1;refine cA (bstr_spec hg (by omega) hQ.1 (hQ.rd (aB ..)) (by decide) hsc hS 1 (by decide) (by decide) hC (by omega)) ?_; rintro v A ⟨w, rfl, Kk, C1, ka, kc, rfl, hKk, hC1, rfl⟩; refine gA ?_;unfold qf;simp only;generalize strX x q [1] 1 = k at *;refine zf fun K hK => ?_; refine zX ([67, 108, 105, 101, 110, 116, 32, 75, 101, 121]) (by decide) rfl (rfl) (fun b62 C62 ho62 => ?_); refine hK _ _ ?_; clear hK K
 refine gg ?_;refine zf fun K hK => ?_; refine wN ho62 pkA (by decide) (fun C63 ho63 => ?_); refine hK _ _ ?_; clear hK K
 refine gg ?_;refine zf fun K hK => ?_; refine xZ rfl [.slice (some ⟨b62, 0, none⟩) 10 10] (by decide) rfl rfl (by simp [Value.cell1]) (fun b64 C64 ho64 => ?_); refine hK _ _ ?_; clear hK K
 refine gg ?_;have hp1 : Part1 C64 C63 (some ⟨b64, 0, none⟩) (some ⟨b62, 0, none⟩) 10 tagC := ⟨ho64.rd (aB ..), aR _, ho63.rd (aB ..), by decide⟩;have cl1 := yP k.2 k.1 tagC;have ct := kd k.2 k.1 tagC;refine cA (VI hg kl1 hKk.1 (hKk.rd (aB ..)) hp1 hC1 (by omega)) ?_; rintro v A ⟨M, C2, ma, mc, rfl, hM, hC2, rfl⟩; refine gA ?_;generalize macX k.2 k.1 tagC = c at *;refine cA (xA S sa sc [1] (by decide) hS) ?_; rintro v A ⟨W0, wa, wc, rfl, hW0, rfl⟩; refine gA ?_;refine zf fun K hK => ?_; refine xZ rfl [.slice ma c.1.length mc] (by decide) rfl rfl (by simp [Value.cell1]) (fun b71 C71 ho71 => ?_); refine hK _ _ ?_; clear hK K
 refine gg ?_;have hp2 : Part1 C71 M (some ⟨b71, 0, none⟩) ma mc c.1 := ⟨ho71.rd (aB ..), hM.1, hM.rd (aB ..), by omega⟩;have hl1 := jH c.2 c.1;have ht := xU c.2 c.1;refine cA (vr hg hp2 hC2 (by omega)) ?_; rintro v A ⟨W1, C3, va, vc, rfl, hW1, hC3, rfl⟩; refine gA ?_;generalize xl c.2 c.1 = h at *;refine zf fun K hK => ?_; refine zX ([83, 101, 114, 118, 101, 114, 32, 75, 101, 121]) (by decide) rfl (rfl) (fun b75 C75 ho75 => ?_); refine hK _ _ ?_; clear hK K
 refine gg ?_;refine zf fun K hK => ?_; refine wN ho75 pkA (by decide) (fun C76 ho76 => ?_); refine hK _ _ ?_; clear hK K
 refine gg ?_;refine zf fun K hK => ?_; refine xZ rfl [.slice (some ⟨b75, 0, none⟩) 10 10] (by decide) rfl rfl (by simp [Value.cell1]) (fun b77 C77 ho77 => ?_); refine hK _ _ ?_; clear hK K
 refine gg ?_;have hp3 : Part1 C77 C76 (some ⟨b77, 0, none⟩) (some ⟨b75, 0, none⟩) 10 tagS := ⟨ho77.rd (aB ..), aR _, ho76.rd (aB ..), by decide⟩;have sl1 := yP h.2 k.1 tagS;have st := kd h.2 k.1 tagS;refine cA (VI hg kl1 hKk.1 (hKk.rd (aB ..)) hp3 hC3 (by omega)) ?_; rintro v A ⟨W2, C4, ua, uc, rfl, hW2, hC4, rfl⟩; refine gA ?_;generalize macX h.2 k.1 tagS = s at *;have s58 : Value.string ⟨#[58]⟩ = .string (str [58]) := rfl;rw [s58];refine zf fun K hK => ?_; rw [zF (by rw [aI]; omega)]; refine hK _ _ ?_; clear hK K
 refine gg ?_;refine zf fun K hK => ?_; rw [zF (by rw [aA, aI, aI]; omega)]; refine hK _ _ ?_; clear hK K
 refine gg ?_
 (try rw [s58])
 refine zf fun K hK => ?_; rw [zF (by rw [aA, aA, aI, aI]; omega)]; refine hK _ _ ?_; clear hK K
 refine gg ?_;refine zf fun K hK => ?_; rw [zF (by rw [aA, aA, aA, aI, aI]; omega)]; refine hK _ _ ?_; clear hK K
 refine gg ?_;rw [show n ++ [58] ++ [116] ++ [58] ++ q = xq n [116] q from rfl];have hcl : (xq n [116] q).length <= 3000 := by unfold xq; simp only [aA, aI]; omega
 refine zf fun K hK => ?_; refine zK (by simp only [maxLen]; omega) (fun X xa xc hX => ?_); refine hK _ _ ?_; clear hK K
 refine gg ?_;refine zf fun K hK => ?_; refine xZ rfl [.slice (some xa) (xq n [116] q).length xc] (by decide) rfl rfl (by simp [Value.cell1]) (fun b88 C88 ho88 => ?_); refine hK _ _ ?_; clear hK K
 refine gg ?_;have hp4 : Part1 C88 X (some ⟨b88, 0, none⟩) (some xa) xc (xq n [116] q) := ⟨ho88.rd (aB ..), hX.1, hX.rd (aB ..), by omega⟩;have al1 := jH s.2 (xq n [116] q);have at_ := xU s.2 (xq n [116] q);refine cA (vr hg hp4 hC4 (by omega)) ?_; rintro v A ⟨W3, C5, ya, yc, rfl, hW3, hC5, rfl⟩; refine gA ?_;generalize xl s.2 (xq n [116] q) = a at *
 have hvc : ∀ v ∈ ([.slice wa ([1] : List UInt8).length wc, .int .i64 1, .slice va h.1.length vc, .slice ua s.1.length uc, .slice ya a.1.length yc] : List Value), Value.cell1 v := by
  intro v hv;simp only [bA, aX, or_false] at hv
  rcases hv with rfl | rfl | rfl | rfl | rfl <;> simp [Value.cell1]
 refine oT [(0, .slice wa ([1] : List UInt8).length wc), (1, .int .i64 1), (2, .slice va h.1.length vc), (3, .slice ua s.1.length uc), (4, .slice ya a.1.length yc)] ([.slice wa ([1] : List UInt8).length wc, .int .i64 1, .slice va h.1.length vc, .slice ua s.1.length uc, .slice ya a.1.length yc] : List Value).toArray ?_;refine gg ?_;refine oS [.slice wa ([1] : List UInt8).length wc, .int .i64 1, .slice va h.1.length vc, .slice ua s.1.length uc, .slice ya a.1.length yc] rfl hvc ?_;refine gg ?_;refine ze (vs := [.agg ([.slice wa ([1] : List UInt8).length wc, .int .i64 1, .slice va h.1.length vc, .slice ua s.1.length uc, .slice ya a.1.length yc] : List Value).toArray, .int .i64 0]) [W0, W1, W2, W3, C5, G, S] ?_ (hr := by (intro κ hκ; simp only [resW, withV, lookT_hit, lookT_miss, aG]; exact zi (vs := [.slice wa ([1] : List UInt8).length wc, .int .i64 1, .slice va h.1.length vc, .slice ua s.1.length uc, .slice ya a.1.length yc]) lkA rfl hκ));exact ⟨W0, W1, W2, W3, C5, _, rfl, ⟨wa, va, ua, ya, wc, vc, uc, yc, rfl, ⟨hW0.1, hW1.1, hW2.1, hW3.1⟩, hl1, sl1, al1, rd_l (hW0.rd (aB ..)), rd_r (rd_l (hW1.rd (aB ..))), rd_r (rd_r (rd_l (hW2.rd (aB ..)))), rd_r (rd_r (rd_r (hW3.rd (aB ..))))⟩, hC5, rfl⟩
theorem make_spec {G : Chunk} (hg : jj G) (hn : GNam G) {C S : Chunk} {b : Nat} {x : BX} (hC : qL C b x) (hts : x.ts.length <= 900) (u p n q : List UInt8) (hu : u.length <= 1000) (hp : p.length <= 1000) (hnl : n.length <= 1000) (hql : q.length <= 1000) (hun : xR u 32 = (n, 0)) (hpq : xR p 64 = (q, 0)) {sa : Option Addr} {sc : Nat} (hsc : 1 <= sc) (hS : Rd 1 [S] sa 1 (([1] : List UInt8).map b8)) :
  Meets prog 30 [.pointer (some ⟨b, 0, none⟩), .string (str [116]), .string (str u), .string (str p), .slice sa 1 sc, .int .i64 1] [C, G, S]
  fun v A => ∃ (W C' : Chunk) (vs : List Value), v = .tuple #[.agg vs.toArray, .int .i64 0] /\ SecW W vs (qf x n q).1 /\ qL C' b (qf x n q).2 /\ A = [W, C', G, S] :=
 (make_open hg hn hC hts u p n q hu hp hnl hql hun hpq hsc hS).perm (by simp) (fun v A' ⟨W0, W1, W2, W3, C', vs, hv, hW, hC', hA⟩ => ⟨[W0 ++ (W1 ++ (W2 ++ W3)), C', G, S], by rw [hA]; simp, _, C', vs, hv, hW, hC', rfl⟩)
end Go.Proofs.YtebikhhoppiapaaGreatDoor
namespace Go.Proofs.YtebikhhoppiapaaGreatDoor
open Go Go.Ost Go.Sha Tryz
section
variable {P : Program}
theorem zeros_b8 (n : Nat) : Builtin.zeroCells (Value.int .u8 0).cells n = ((aQ n (0 : UInt8)).map b8).toArray := by
 have hz : (Value.int .u8 0).cells = #[.int .u8 0] := rfl
 apply cS
 rw [hz];simp only [Builtin.zeroCells, Array.toList_map, Array.toList_range]
 apply List.ext_getElem?
 intro i
 by_cases h : i < n
 ·simp [List.getElem?_range, h, Nat.mod_one, b8]
 ·simp [h]
theorem app_zero {t t2 ty e : TypeId} [ht : zR P t e] [ht2 : TInt P t2 .i64] [hs : zh P e (.int .u8 0) 1 1] {S G : State} {κ : Value -> State -> Prop} {C : Chunk} {a : Option Addr} {len cap n : Nat} {us : List UInt8}
  (ho : Ost.Own 1 e C a len cap (us.map b8)) (hC : Pick C S G) (hroom : cap < len + n) (hn0 : 0 < n) (hm : len + n <= 1000)
  (k : ∀ C' a' cap', Ost.Own 1 e C' a' (len + n) cap' ((us ++ aQ n 0).map b8) -> κ (.slice a' (len + n) cap') (C' :: G)) : ValW P (Builtin.append_ #[t, t2] ty #[.slice a len cap, .int .i64 n]) S κ := by
 refine ⟨fun w hw => ?_⟩;have hCG : Hold w (C :: G) := hw.perm hC.perm;have hrd : Rd 1 (C :: G) a len (us.map b8) := ho.rd (aB ..);have f1 := fun (w : World) hw => kw (P := P) (c := cap) hrd (w := w) hw
 obtain ⟨i, hi, hz1, hsz, hby⟩ := jf hs.info;obtain ⟨hle, hmax, hlen, hcase⟩ := ho;have hge := grownCap_ge w (len + n) cap e;have hcm := grownCap_le_maxLen w (len + n) cap e (by simp only [maxLen]; omega);have hn : ¬ (len + n <= cap) := by omega
 have h63' : ¬ (9223372036854775807 < ((len : Int) + (n : Int))) := by omega
 have h48' : ¬ (281474976710656 < Builtin.nextslicecap (len + n) cap * i.bytes) := by
  rw [hby];have := growslice_fits (bytes := 1) (by omega : cap < len + n) (by omega);omega
 have f1' := f1 w.drew ⟨hCG.nd, hCG.get⟩;have hw1 : IntKind.i64.wrap (n : Int) = n := ko (by omega) (by omega);have hl0 : ¬ ((n : Int) < 0) := by omega
 have hl1 : ¬ (281474976710656 < (n : Int) * (i.bytes : Int)) := by rw [hby]; omega
 have hn1 : ¬ (n = 0) := by omega
 obtain ⟨cells, hcells⟩ : ∃ cells : Array Value, cells = (us.map b8).toArray ++ ((aQ n (0 : UInt8)).map b8).toArray ++ Builtin.zeroCells (Value.int .u8 0).cells (grownCap w (len + n) cap e - (len + n)) := ⟨_, rfl⟩;refine ⟨.slice (some ⟨w.heap.size, 0, none⟩) (len + n) (grownCap w (len + n) cap e), w.drew.alloc (.cells cells e), [(w.heap.size, .cells cells e (0, 0))] :: G, ?_, ⟨rfl, rfl, rfl, by simp⟩, ?_, k _ _ _ ⟨hge, hcm, ?_, .inr ⟨_, 0, cells, (0, 0), rfl, rfl, .inl rfl, ?_, ?_⟩⟩⟩
 ·rw [hcells]
  simp [Builtin.append_, Sem.run_bind, zx ht.und, zx ht2.und, zt hs, zD hs, Result.andThen, typeInfo, program, Sem.run, hi, hn, h63', h48', Question.forced, asInt, asIntOf, hw1, hl0, hl1, hn1, hn0, zeros_b8, f1', newRow]
  exact ⟨rfl, rfl⟩
 ·refine Hold.new (w := w) (o := .cells cells e (0, 0)) ?_ rfl;exact hCG.sub (by simp)
 ·rw [bE] at hlen;rw [bE, aA, aW]; omega
 ·rw [bE] at hlen;have hz : (Value.int .u8 0).cells.size = 1 := rfl;rw [hcells];simp only [Array.size_append, List.size_toArray, size_zeroCells, bE, aW, hz];omega
 ·intro j hj;rw [hcells, cD, Array.getElem?_append_left (by simp at hj ⊢; omega)];rw [show (us.map b8).toArray ++ ((aQ n (0 : UInt8)).map b8).toArray = ((us ++ aQ n 0).map b8).toArray from by apply cS; simp, cM]
end
theorem OQ : Meets prog 235 [] [] (New8 5 frontB []) := by
 refine eN func235 ntmps235 results235 fun F => ?_
 refine gg ?_;refine zf fun K hK => ?_; refine zX ([241, 84, 82, 77]) (by decide) rfl (rfl) (fun b1 C1 ho1 => ?_); refine hK _ _ ?_; clear hK K
 refine gg ?_;refine zf fun K hK => ?_; refine app_zero (len := 4) (n := 24) ho1 pkA (by decide) (by decide) (by decide) (fun C2 a2 c2 ho2 => ?_); refine hK _ _ ?_; clear hK K
 refine gg ?_;refine zb ([C2]) ?_; exact ⟨_, _, _, rfl, ho2, rfl⟩
theorem qM (n : Nat) (hn : n < 1000000) : Meets prog 189 [.int .i64 n] [] (New8 5 (hdl n) []) := by
 refine eN func189 ntmps189 results189 fun F => ?_
 refine gg ?_;refine cA (OQ) ?_; rintro v A ⟨C3, a3, c3, rfl, ho3, rfl⟩; refine gA ?_;refine cA (xT n 4 (by omega) (by decide)) ?_; rintro v A ⟨C5, a5, c5, rfl, ho5, rfl⟩; refine gA ?_;rw [jb];rw [jb] at ho5;refine zf fun K hK => ?_; refine app8 (ho3) pkA (ho5.rd mmA) (by decide) (fun C6 a6 cap6 ho6 => ?_); refine hK _ _ ?_; clear hK K
 refine gg ?_;refine zb ([C6]) ?_; exact ⟨_, _, _, rfl, ho6, rfl⟩
theorem ints_spec : Meets prog 234 [.slice none 0 0, .slice none 0 0] [] fun v A => v = .bool true /\ A = [] := by
 refine eN func234 ntmps234 results234 fun F => ?_
 refine gg ?_;refine zz (fun q D L S => q = 0 /\ D = [] /\ L = [(13, .int .i64 0), (12, .int .i64 0), (0, .slice none 0 0), (1, .slice none 0 0)] /\ S = [F]) ⟨rfl, rfl, rfl, rfl⟩ ?_;rintro q D L S ⟨rfl, rfl, rfl, rfl⟩;refine gg ?_;refine zb [] ?_; exact ⟨rfl, rfl⟩
theorem tm_eq (t u : Tm) : decide (t = u) = (((t.k : Int) == (u.k : Int)) && ((t.key == u.key) && ((t.txt == u.txt) && ((t.rnd : Int) == (u.rnd : Int))))) := by
 obtain ⟨a, b, c, d⟩ := t;obtain ⟨a', b', c', d'⟩ := u;simp only [Tm.mk.injEq]
 by_cases h1 : a = a' <;> by_cases h2 : b = b' <;> by_cases h3 : c = c' <;> by_cases h4 : d = d' <;> simp [h1, h2, h3, h4] <;> omega
theorem VY (t u : Tm) {A B : Chunk} {ka xa la ya : Option Addr} {kc xc lc yc : Nat} (hk : Rd 1 [A] ka t.key.length (t.key.map b8)) (hx : Rd 1 [A] xa t.txt.length (t.txt.map b8)) (hl : Rd 1 [B] la u.key.length (u.key.map b8)) (hy : Rd 1 [B] ya u.txt.length (u.txt.map b8)) :
  Meets prog 188 [.agg #[.int .i64 t.k, .slice ka t.key.length kc, .slice xa t.txt.length xc, .int .i64 t.rnd, .slice none 0 0, .slice none 0 0], .agg #[.int .i64 u.k, .slice la u.key.length lc, .slice ya u.txt.length yc, .int .i64 u.rnd, .slice none 0 0, .slice none 0 0]] [A, B]
  fun v S => v = .bool (decide (t = u)) /\ S = [A, B] := by
 rw [tm_eq];refine eN func188 ntmps188 results188 fun F => ?_
 refine gg ?_;refine oB fun b1 => ?_
 refine gg ?_;refine oB fun b2 => ?_
 refine gg ?_
 cases h1 : ((t.k : Int) == (u.k : Int)) with
 | false =>
  refine gg ?_;refine zb [A, B] ?_; exact ⟨rfl, rfl⟩
 | true =>
  refine gg ?_;refine cA (Zi [A, B] ka la t.key.length u.key.length kc lc t.key u.key (hk.mem (by simp)) (hl.mem (by simp))) ?_; rintro v A ⟨rfl, rfl⟩; refine gA ?_
  cases h2 : (t.key == u.key) with
  | false =>
   refine gg ?_;refine zb [A, B] ?_; exact ⟨rfl, rfl⟩
  | true =>
   refine gg ?_;refine cA (Zi [A, B] xa ya t.txt.length u.txt.length xc yc t.txt u.txt (hx.mem (by simp)) (hy.mem (by simp))) ?_; rintro v A ⟨rfl, rfl⟩; refine gA ?_
   cases h3 : (t.txt == u.txt) with
   | false =>
    refine gg ?_;refine zb [A, B] ?_; exact ⟨rfl, rfl⟩
   | true =>
    refine gg ?_
    cases h4 : ((t.rnd : Int) == (u.rnd : Int)) with
    | false =>
     refine gg ?_;refine zb [A, B] ?_; exact ⟨rfl, rfl⟩
    | true =>
     refine gg ?_;refine cA (ints_spec) ?_; rintro v A ⟨rfl, rfl⟩; refine gA ?_;refine cA (Zi [A, B] none none 0 0 0 0 [] [] Rd.nil Rd.nil) ?_; rintro v A ⟨rfl, rfl⟩; refine gA ?_;refine zb [A, B] ?_; exact ⟨rfl, rfl⟩
end Go.Proofs.YtebikhhoppiapaaGreatDoor
namespace Go.Proofs.YtebikhhoppiapaaGreatDoor
open Go Go.Ost Go.Sha
end Go.Proofs.YtebikhhoppiapaaGreatDoor
