/- Texts in a row: the walk's rules and contracts, as each says. Conditions: as each says. -/
import Derived.Test.YtebikhhoppiapaaGreatDoorMe08888da
import Derived.Test.YtebikhhoppiapaaGreatDoorMd0dd61dd
set_option linter.unusedSimpArgs false
set_option linter.defProp false
set_option linter.unusedVariables false
set_option maxRecDepth 100000
set_option maxHeartbeats 8000000
namespace Go.Proofs.YtebikhhoppiapaaGreatDoor
open Go Go.Ost Go.Sha
theorem ZX (b e : Nat) (m : Nat × Nat) (s : St) (r : List Value) :
  Meets Tryz.prog 187 [.pointer (some ⟨b, 0, none⟩)] [[(b, .cells (rowX s.list r) e m)]] (New8 5 s.bytes [[(b, .cells (rowX s.list r) e m)]]) := by
 refine eN Tryz.func187 Tryz.ntmps187 Tryz.results187 fun F => ?_
 refine zd fun N1 hN1 => ?_
 refine zi ?_; (try refine zg ?_)
 refine hN1 _ _ _ ?_; clear hN1
 refine zd fun N2 hN2 => ?_
 refine zi ?_; (try refine zg ?_)
 refine hN2 _ _ _ ?_; clear hN2
 refine zd fun N3 hN3 => ?_
 refine zd fun N4 hN4 => ?_
 refine zi ?_; (try refine zg ?_)
 refine hN4 _ _ _ ?_; clear hN4
 refine zo ?_
 refine zE ?_
 refine zU (fun q D L S => ∃ (i : Nat) (C : Chunk) (a : Option Addr) (cap : Nat), i <= 8 /\ Own8 5 C a (4 * i) cap ((s.list.take i).flatMap zQ) /\ q = 8 - i /\ D = [] /\ L = [(7, .int .i64 i), (6, .pointer (some ⟨b, 0, none⟩)), (3, .slice a (4 * i) cap)] /\ S = [C, F, [(b, .cells (rowX s.list r) e m)]]) ?_ ?_
 ·exact ⟨_, _, _, ⟨0, [], none, 0, by omega, own_nil, rfl, rfl, rfl, rfl⟩, by (repeat (first | exact True.intro | (refine And.intro ?_ ?_; (· (try simp only [evT, lookT_hit, lookT_miss, Nat.reduceBEq]); (first | done | exact rfl))))), amA⟩
 ·rintro q D L S ⟨i, C, a, cap, hi, ho, rfl, rfl, rfl, rfl⟩
  refine zd fun N5 hN5 => ?_
  refine zi ?_; (try refine zg ?_)
  refine hN5 _ _ _ ?_; clear hN5
  refine zd fun N6 hN6 => ?_
  refine xA (fun hc => ?_) (fun hc => ?_)
  ·have hc := of_decide_eq_true hc
   refine zI ?_
   refine hN6 _ _ _ ?_; clear hN6
   refine zd fun N7 hN7 => ?_
   refine zo ?_
   refine zd fun N8 hN8 => ?_
   refine Xu ?_; (try refine zg ?_)
   refine hN8 _ _ _ ?_; clear hN8
   refine zi ?_; (try refine zg ?_)
   refine ze fun K hK => ?_; refine zR ([_, _, _, _]) (by decide) rfl (rfl) (fun b1 C1 ho1 => ?_); refine hK _ _ ?_; clear hK K
   refine ze fun K hK => ?_; refine app8 (ho) pkA (ho1.rd mmA) (by omega) (fun C2 a2 cap2 ho2 => ?_); refine hK _ _ ?_; clear hK K
   rw [Qx, show 0 + i * 1 = i from by omega, <- ZY s i (by omega)] at ho2
   (try refine zz ?_); (try refine zg ?_)
   refine hN7 _ _ _ ?_; clear hN7
   refine zi ?_; (try refine zg ?_)
   exact zA ⟨i + 1, C2, a2, cap2, by omega, ho2, rfl, rfl, rfl, rfl⟩
  ·have hc := of_decide_eq_false hc
   refine zO ?_; try simp only [Cont.then, Cont.block, Cont.noGoto, reduceIte, Nat.reduceEqDiff]
   refine hN3 _ _ _ ?_; clear hN3
   obtain rfl : i = 8 := by omega
   refine zd fun N9 hN9 => ?_
   refine zi ?_; (try refine zg ?_)
   refine hN9 _ _ _ ?_; clear hN9
   refine zL ?_
   refine zb ([C, [(b, .cells (rowX s.list r) e m)]]) ?_; exact ⟨_, _, _, rfl, ho, rfl⟩
theorem Im (n : Nat) : Meets Tryz.prog 251 [.int .u64 n] [] (New8 5 (be 8 n) []) := by
 refine eN Tryz.func251 Tryz.ntmps251 Tryz.results251 fun F => ?_
 refine zd fun N1 hN1 => ?_
 refine zi ?_; (try refine zg ?_)
 refine hN1 _ _ _ ?_; clear hN1
 refine zd fun N2 hN2 => ?_
 refine zi ?_; (try refine zg ?_)
 refine hN2 _ _ _ ?_; clear hN2
 refine zd fun N3 hN3 => ?_
 refine zd fun N4 hN4 => ?_
 refine zi ?_; (try refine zg ?_)
 refine hN4 _ _ _ ?_; clear hN4
 refine zo ?_
 refine zE ?_
 refine zU (fun q D L S => ∃ (i : Nat) (C : Chunk) (a : Option Addr) (cap : Nat), i <= 8 /\ Own8 5 C a i cap ((be 8 n).take i) /\ q = 8 - i /\ D = [] /\ L = [(5, .int .i64 i), (0, .int .u64 n), (3, .slice a i cap)] /\ S = [C, F]) ?_ ?_
 ·exact ⟨_, _, _, ⟨0, [], none, 0, by omega, own_nil, rfl, rfl, rfl, rfl⟩, by (repeat (first | exact True.intro | (refine And.intro ?_ ?_; (· (try simp only [evT, lookT_hit, lookT_miss, Nat.reduceBEq]); (first | done | exact rfl))))), amA⟩
 ·rintro q D L S ⟨i, C, a, cap, hi, ho, rfl, rfl, rfl, rfl⟩
  refine zd fun N5 hN5 => ?_
  refine zi ?_; (try refine zg ?_)
  refine hN5 _ _ _ ?_; clear hN5
  refine zd fun N6 hN6 => ?_
  refine xA (fun hc => ?_) (fun hc => ?_)
  ·have hc := of_decide_eq_true hc
   refine zI ?_
   refine hN6 _ _ _ ?_; clear hN6
   refine zd fun N7 hN7 => ?_
   refine zo ?_
   refine zd fun N8 hN8 => ?_
   refine zi ?_; (try refine zg ?_)
   refine hN8 _ _ _ ?_; clear hN8
   refine zi ?_; (try refine zg ?_)
   have e : Value.int .u8 (IntKind.u8.wrap ((n : Int) / 2 ^ (8 * (7 - (i : Int))).toNat)) = b8 (UInt8.ofNat (n / 256 ^ (8 - 1 - i))) := by
    rw [show (8 * (7 - (i : Int))).toNat = 8 * (8 - 1 - i) from by omega, shift8, jZ]; rfl
   rw [e]
   refine ze fun K hK => ?_; refine zR ([_]) (by decide) rfl (rfl) (fun b1 C1 ho1 => ?_); refine hK _ _ ?_; clear hK K
   refine ze fun K hK => ?_; refine app8 (ho) pkA (ho1.rd mmA) (by omega) (fun C2 a2 cap2 ho2 => ?_); refine hK _ _ ?_; clear hK K
   rw [<- be_next 8 n i (by omega)] at ho2
   (try refine zz ?_); (try refine zg ?_)
   refine hN7 _ _ _ ?_; clear hN7
   refine zi ?_; (try refine zg ?_)
   exact zA ⟨i + 1, C2, a2, cap2, by omega, ho2, rfl, rfl, rfl, rfl⟩
  ·have hc := of_decide_eq_false hc
   refine zO ?_; try simp only [Cont.then, Cont.block, Cont.noGoto, reduceIte, Nat.reduceEqDiff]
   refine hN3 _ _ _ ?_; clear hN3
   obtain rfl : i = 8 := by omega
   refine zd fun N9 hN9 => ?_
   refine zi ?_; (try refine zg ?_)
   refine hN9 _ _ _ ?_; clear hN9
   refine zL ?_
   refine zb ([C]) ?_; exact ⟨_, _, _, rfl, ho, rfl⟩
theorem Qj (n : Nat) (hn : n < 2305843009213693952) : Meets Tryz.prog 231 [.int .u64 n] [] (New8 5 (pad n) []) := by
 refine eN Tryz.func231 Tryz.ntmps231 Tryz.results231 fun F => ?_
 refine zd fun N1 hN1 => ?_
 refine zi ?_; (try refine zg ?_)
 refine hN1 _ _ _ ?_; clear hN1
 refine zd fun N2 hN2 => ?_
 refine zi ?_; (try refine zg ?_)
 refine ze fun K hK => ?_; refine zR ([128]) (by decide) rfl (rfl) (fun b1 C1 ho1 => ?_); refine hK _ _ ?_; clear hK K
 (try refine zz ?_); (try refine zg ?_)
 refine hN2 _ _ _ ?_; clear hN2
 refine zd fun N3 hN3 => ?_
 refine zo ?_
 refine zU (fun q D L S => ∃ (i : Nat) (C : Chunk) (a : Option Addr) (cap : Nat), i <= jT n /\ Own8 5 C a (1 + i) cap (128 :: List.replicate i 0) /\ q = jT n - i /\ D = [] /\ L = [(0, .int .u64 n), (3, .slice a (1 + i) cap)] /\ S = [C, F]) ?_ ?_
 ·exact ⟨_, _, _, ⟨0, C1, _, _, by omega, ho1, rfl, rfl, rfl, rfl⟩, by (repeat (first | exact True.intro | (refine And.intro ?_ ?_; (· (try simp only [evT, lookT_hit, lookT_miss, Nat.reduceBEq]); (first | done | exact rfl))))), amA⟩
 ·rintro q D L S ⟨i, C, a, cap, hi, ho, rfl, rfl, rfl, rfl⟩
  have hz : jT n <= 63 := by unfold jT; omega
  refine zd fun N4 hN4 => ?_
  refine zd fun N5 hN5 => ?_
  refine zi ?_; (try refine zg ?_)
  refine hN5 _ _ _ ?_; clear hN5
  refine xA (fun hc => ?_) (fun hc => ?_)
  ·have hc := bne_iff_ne.1 hc
   have hlt : i < jT n := by simp only [jT] at hi ⊢; omega
   refine zI ?_
   refine hN4 _ _ _ ?_; clear hN4
   refine zo ?_
   refine zi ?_; (try refine zg ?_)
   refine ze fun K hK => ?_; refine zR ([0]) (by decide) rfl (rfl) (fun b1 C1 ho1 => ?_); refine hK _ _ ?_; clear hK K
   refine ze fun K hK => ?_; refine app8 (ho) pkA (ho1.rd mmA) (by omega) (fun C2 a2 cap2 ho2 => ?_); refine hK _ _ ?_; clear hK K
   rw [<- Ww] at ho2
   (try refine zz ?_); (try refine zg ?_)
   exact zA ⟨i + 1, C2, a2, cap2, by omega, ho2, rfl, rfl, rfl, rfl⟩
  ·have hc := bne_eq_false_iff_eq.1 hc
   refine zO ?_; try simp only [Cont.then, Cont.block, Cont.noGoto, reduceIte, Nat.reduceEqDiff]
   refine hN3 _ _ _ ?_; clear hN3
   obtain rfl : i = jT n := by unfold jT at *; omega
   refine zd fun N6 hN6 => ?_
   refine zi ?_; (try refine zg ?_)
   rw [show (8 * (n : Int)) = ((8 * n : Nat) : Int) from by omega]
   refine cA (Im (8 * n)) ?_; rintro v A ⟨C2, a2, cap2, rfl, ho2, rfl⟩; (try simp only [List.nil_append, List.cons_append])
   (try refine zz ?_); (try refine zg ?_)
   refine ze fun K hK => ?_; refine app8 (ho) pkA (ho2.rd mmA) (by rw [xZ]; omega) (fun C3 a3 cap3 ho3 => ?_); refine hK _ _ ?_; clear hK K
   (try refine zz ?_); (try refine zg ?_)
   refine hN6 _ _ _ ?_; clear hN6
   refine zL ?_
   have e : 1 + jT n + (be 8 (8 * n)).length = (pad n).length := by rw [wy, xZ]; omega
   rw [e] at ho3 ⊢
   refine zb ([C3]) ?_; exact ⟨_, _, _, rfl, ho3, rfl⟩
theorem xt (H : Chunk) (a : Option Addr) (cap : Nat) (bs : List UInt8) (hb : bs.length <= 70368744177664) (h : Rd 1 [H] a bs.length (bs.map b8)) :
  Meets Tryz.prog 81 [.slice a bs.length cap] [H] (New8 5 bs [H]) := by
 refine eN Tryz.func81 Tryz.ntmps81 Tryz.results81 fun F => ?_
 refine zd fun N1 hN1 => ?_
 refine zi ?_; (try refine zg ?_)
 refine hN1 _ _ _ ?_; clear hN1
 refine zd fun N2 hN2 => ?_
 refine zd fun N3 hN3 => ?_
 refine zi ?_; (try refine zg ?_)
 refine hN3 _ _ _ ?_; clear hN3
 refine xA (fun hc => ?_) (fun hc => ?_)
 ·have hbs : bs = [] := by
   cases bs with
   | nil => rfl
   | cons x l =>
    obtain ⟨_, _, _, _, _, h3, _⟩ := h.2 (by simp)
    subst h3; cases hc
  subst hbs
  refine zd fun N4 hN4 => ?_
  refine zi ?_; (try refine zg ?_)
  refine hN4 _ _ _ ?_; clear hN4
  refine zE ?_
  refine zL ?_
  refine zb ([[], H]) ?_; exact ⟨_, _, _, rfl, own_nil, rfl⟩
 ·refine zI ?_
  refine hN2 _ _ _ ?_; clear hN2
  refine zd fun N5 hN5 => ?_
  refine zi ?_; (try refine zg ?_)
  refine ze fun K hK => ?_; refine zR ([]) (by decide) rfl (rfl) (fun b1 C1 ho1 => ?_); refine hK _ _ ?_; clear hK K
  (try refine zz ?_); (try refine zg ?_)
  refine ze fun K hK => ?_; refine app8 (ho1) pkA (h.mem mmA) (by omega) (fun C2 a2 cap2 ho2 => ?_); refine hK _ _ ?_; clear hK K
  rw [Nat.zero_add] at ho2 ⊢
  (try refine zz ?_); (try refine zg ?_)
  refine hN5 _ _ _ ?_; clear hN5
  refine zL ?_
  refine zb ([C2, H]) ?_; exact ⟨_, _, _, rfl, ho2, rfl⟩
theorem qr (H : Chunk) (a : Option Addr) (cap : Nat) (bs : List UInt8) (hb : bs.length <= 70368744177664) (h : Rd 1 [H] a bs.length (bs.map b8)) :
  Meets Tryz.prog 86 [.slice a bs.length cap] [H] (New8 5 bs [H]) := by
 refine eN Tryz.func86 Tryz.ntmps86 Tryz.results86 fun F => ?_
 refine zd fun N1 hN1 => ?_
 refine zi ?_; (try refine zg ?_)
 refine hN1 _ _ _ ?_; clear hN1
 refine zd fun N2 hN2 => ?_
 refine zi ?_; (try refine zg ?_)
 refine ze fun K hK => ?_; refine zR ([]) (by decide) rfl (rfl) (fun b1 C1 ho1 => ?_); refine hK _ _ ?_; clear hK K
 (try refine zz ?_); (try refine zg ?_)
 refine ze fun K hK => ?_; refine app8 (ho1) pkA (h.mem mmA) (by omega) (fun C2 a2 cap2 ho2 => ?_); refine hK _ _ ?_; clear hK K
 rw [Nat.zero_add] at ho2 ⊢
 (try refine zz ?_); (try refine zg ?_)
 refine hN2 _ _ _ ?_; clear hN2
 refine zL ?_
 refine zb ([C2, H]) ?_; exact ⟨_, _, _, rfl, ho2, rfl⟩
theorem yp (A : State) (a b : Option Addr) (n m c d : Nat) (xs ys : List UInt8) (h1 : Rd 1 A a n (xs.map b8)) (h2 : Rd 1 A b m (ys.map b8)) :
  Meets Tryz.prog 68 [.slice a n c, .slice b m d] A fun v A' => v = .bool (xs == ys) /\ A' = A := by
 refine eN Tryz.func68 Tryz.ntmps68 Tryz.results68 fun F => ?_
 refine zd fun N1 hN1 => ?_
 refine zi ?_; (try refine zg ?_)
 refine hN1 _ _ _ ?_; clear hN1
 refine zd fun N2 hN2 => ?_
 refine zi ?_; (try refine zg ?_)
 refine ze fun K hK => ?_
 refine xf (h1.next F) ?_
 refine hK _ _ ?_; clear hK K
 (try refine zz ?_); (try refine zg ?_)
 refine ze fun K hK => ?_
 refine xf (h2.next F) ?_
 refine hK _ _ ?_; clear hK K
 (try refine zz ?_); (try refine zg ?_)
 refine hN2 _ _ _ ?_; clear hN2
 refine zL ?_
 exact km A (by (try simp only [evT, lookT_hit, lookT_miss, Nat.reduceBEq]); (first | done | exact rfl)) ⟨rfl, rfl⟩ (Among.refl _)
theorem Ye (m : Nat) : Value.int .u8 ((m : Int) % 256) = b8 (UInt8.ofNat m) := by
 simp only [b8, UInt8.toNat_ofNat']; congr 1
theorem wl {P : Program} {t : TypeId} {x y : Operand} {j : IntKind} {a n : Int} {κ : Value -> Prop} (h0 : 0 <= n) (h1 : n <= 64) : PureW P (do eqGuard .shr t x y (.int .i64 a) (.int j n); binOp .shr t (.int .i64 a) (.int j n)) κ = κ (.int .i64 (a / 2 ^ n.toNat)) :=
 zk (fun w => by
  have e : min n.toNat IntKind.i64.bits = n.toNat := by show min n.toNat 64 = n.toNat; omega
  have h3 : ¬ n < 0 := by omega
  show (Op.shift .shr .i64 a j n).run P w = _
  rw [Op.shift, if_neg h3, e]
  show Result.ok (Value.int .i64 (Int.fdiv a (2 ^ n.toNat))) w = _
  rw [Int.fdiv_eq_ediv_of_nonneg _ (Int.le_of_lt (Int.pow_pos (by decide)))]) κ
abbrev hib (m : Nat) : UInt8 := UInt8.ofNat m ||| 128
theorem YQ (b3 : Nat) {C : Chunk} {a : Option Addr} {cap : Nat} {out : List UInt8} (ho : Own8 5 C a out.length cap out) (hol : out.length <= 1000) (n : Nat) (hn : n < 1000000) :
  Meets Tryz.prog 218 [.int .i64 n, .pointer (some ⟨b3, 0, none⟩)] [bx b3 (.slice a out.length cap) 43, C]
  fun v A => ∃ C' a' c', Own8 5 C' a' (out ++ vi n).length c' (out ++ vi n) /\ A = [bx b3 (.slice a' (out ++ vi n).length c') 43, C'] := by
 refine eN Tryz.func218 Tryz.ntmps218 Tryz.results218 fun F => ?_
 refine gg ?_
 refine QA (fun D L S => ∃ (m : Nat) (pre : List UInt8) (C : Chunk) (a : Option Addr) (cap : Nat), m < 128 /\ vi n = pre ++ vi m /\ pre.length <= 10 /\ Own8 5 C a (out ++ pre).length cap (out ++ pre) /\ D = [] /\
  L = [(0, .int .i64 m), (1, .pointer (some ⟨b3, 0, none⟩))] /\ S = [C, bx b3 (.slice a (out ++ pre).length cap) 43, F]) ?_ ?_
 ·refine zB (fun q D L S => ∃ (m : Nat) (pre : List UInt8) (C : Chunk) (a : Option Addr) (cap : Nat), m = q /\ m < 1000000 /\ vi n = pre ++ vi m /\ Own8 5 C a (out ++ pre).length cap (out ++ pre) /\ D = [] /\
   L = [(0, .int .i64 m), (1, .pointer (some ⟨b3, 0, none⟩))] /\ S = [C, bx b3 (.slice a (out ++ pre).length cap) 43, F])
   ⟨n, [], C, a, cap, rfl, hn, rfl, by rw [List.append_nil]; exact ho, rfl, rfl, by rw [List.append_nil]⟩ ?_
  rintro q D L S ⟨m, pre, C, a, cap, rfl, hm, hv, ho, rfl, rfl, rfl⟩
  have hpl : pre.length <= 4 := by
   have h1 := congrArg List.length hv
   have h2 := UJ 4 n (by omega) (by omega)
   rw [List.length_append] at h1
   omega
  refine gg ?_
  by_cases h1 : (128 : Int) <= m
  ·rw [decide_eq_true h1]
   have hs := wo (n := m) (by omega)
   refine gg ?_
   rw [show Value.int .u8 (IntKind.u8.wrap (m : Int)) = b8 (UInt8.ofNat m) from by rw [jZ]; rfl]
   refine ze fun K hK => ?_; rw [show Value.int .u8 128 = b8 128 from rfl, Go.Ost.u8_or]; refine hK _ _ ?_; clear hK K
   refine gg ?_
   refine ze fun K hK => ?_; refine zR ([hib m]) (by decide) rfl (rfl) (fun b5 C5 ho5 => ?_); refine hK _ _ ?_; clear hK K
   refine gg ?_
   refine ze fun K hK => ?_; refine app8 (ho) pkA (ho5.rd mmA) (by rw [List.length_append]; omega) (fun C6 a6 cap6 ho6 => ?_); refine hK _ _ ?_; clear hK K
   refine gg ?_
   have e1 : (out ++ pre).length + 1 = (out ++ (pre ++ [hib m])).length := by simp; omega
   rw [List.append_assoc, e1] at ho6
   rw [e1]
   refine ze fun K hK => ?_; rw [wl (by decide) (by decide), show (m : Int) / 2 ^ (7 : Int).toNat = ((m / 128 : Nat) : Int) from by show (m : Int) / 128 = _; omega]; refine hK _ _ ?_; clear hK K
   refine gg ?_
   exact zA ⟨m / 128, pre ++ [hib m], C6, a6, cap6, rfl, by omega, by rw [hv, hs, List.append_assoc]; rfl, ho6, rfl, rfl, rfl⟩
  ·rw [decide_eq_false h1]
   refine gg ?_
   exact mid ⟨m, pre, C, a, cap, by omega, hv, by omega, ho, rfl, rfl, rfl⟩
 rintro D L S ⟨m, pre, C, a, cap, hm, hv, hpl, ho, rfl, rfl, rfl⟩
 rw [hv, Zo hm]
 refine gg ?_
 rw [show Value.int .u8 (m : Int) = b8 (UInt8.ofNat m) from by rw [<- Ye]; congr 1; omega]
 refine ze fun K hK => ?_; refine zR ([UInt8.ofNat m]) (by decide) rfl (rfl) (fun b5 C5 ho5 => ?_); refine hK _ _ ?_; clear hK K
 refine gg ?_
 refine ze fun K hK => ?_; refine app8 (ho) pkA (ho5.rd mmA) (by rw [List.length_append]; omega) (fun C6 a6 cap6 ho6 => ?_); refine hK _ _ ?_; clear hK K
 refine gg ?_
 have e1 : (out ++ pre).length + 1 = (out ++ (pre ++ [UInt8.ofNat m])).length := by simp; omega
 rw [List.append_assoc, e1] at ho6
 rw [e1]
 exact zJ [bx b3 (.slice a6 (out ++ (pre ++ [UInt8.ofNat m])).length cap6) 43, C6] ⟨C6, a6, cap6, ho6, rfl⟩
theorem Ig : Meets Tryz.prog 219 [] [] (New8 5 frontB []) := by
 refine eN Tryz.func219 Tryz.ntmps219 Tryz.results219 fun F => ?_
 refine gg ?_
 refine ze fun K hK => ?_; refine Ik (n := 28) (by decide) (fun b1 C1 ho1 => ?_); refine hK _ _ ?_; clear hK K
 refine gg ?_
 refine ze fun K hK => ?_; refine zR ([241, 84, 82, 77]) (by decide) rfl (rfl) (fun b2 C2 ho2 => ?_); refine hK _ _ ?_; clear hK K
 refine gg ?_
 refine ze fun K hK => ?_
 refine ye (l := 0) ho1 pkA (ho2.rd mmA) (Qv _) (by decide) (fun _ => by simp [Addr.add]) (fun C3 ho3 => ?_)
 refine hK _ _ ?_; clear hK K
 refine gg ?_
 have e3 : ((List.replicate 28 (0 : UInt8)).map b8).take 0 ++ ((([241, 84, 82, 77] : List UInt8).map b8).take (min 4 28) ++ ((List.replicate 28 (0 : UInt8)).map b8).drop (0 + min 4 28)) = frontB.map b8 := rfl
 rw [e3] at ho3
 refine zb ([C3]) ?_; exact ⟨_, _, _, rfl, ho3, rfl⟩
theorem Xe (k : Nat) : Value.int .u8 (IntKind.u8.wrap (k : Int)) = b8 (UInt8.ofNat k) := by rw [jZ]; rfl
theorem Wg {k : Nat} (h : k < 256) : Value.int .u8 (k : Int) = b8 (UInt8.ofNat k) := by rw [<- Ye]; congr 1; omega
theorem be4 (n : Nat) : be 4 n = [UInt8.ofNat (n / 16777216), UInt8.ofNat (n / 65536), UInt8.ofNat (n / 256), UInt8.ofNat n] := by
 simp [be, List.range, List.range.loop]
theorem yN (n : Nat) (hn : n < 1000000) : Meets Tryz.prog 178 [.int .i64 n] [] (New8 5 (hdl n) []) := by
 refine eN Tryz.func178 Tryz.ntmps178 Tryz.results178 fun F => ?_
 refine gg ?_
 refine cA (Ig) ?_; rintro v A ⟨C3, a3, c3, rfl, ho3, rfl⟩; refine gA ?_
 refine ze fun K hK => ?_; rw [wl (by decide) (by decide), show (n : Int) / 2 ^ (24 : Int).toNat = ((n / 16777216 : Nat) : Int) from by show (n : Int) / 16777216 = _; omega]; refine hK _ _ ?_; clear hK K
 refine gg ?_
 refine ze fun K hK => ?_; rw [wl (by decide) (by decide), show (n : Int) / 2 ^ (16 : Int).toNat = ((n / 65536 : Nat) : Int) from by show (n : Int) / 65536 = _; omega]; refine hK _ _ ?_; clear hK K
 refine gg ?_
 refine ze fun K hK => ?_; rw [wl (by decide) (by decide), show (n : Int) / 2 ^ (8 : Int).toNat = ((n / 256 : Nat) : Int) from by show (n : Int) / 256 = _; omega]; refine hK _ _ ?_; clear hK K
 refine gg ?_
 (try rw [Wg (show n / 16777216 < 256 by omega)])
 (try rw [Wg (show n / 65536 < 256 by omega)])
 (try rw [Xe (n / 16777216)])
 (try rw [Xe (n / 65536)])
 rw [Xe (n / 256), Xe n]
 refine ze fun K hK => ?_; refine zR ([UInt8.ofNat (n / 16777216), UInt8.ofNat (n / 65536), UInt8.ofNat (n / 256), UInt8.ofNat n]) (by decide) rfl (rfl) (fun b5 C5 ho5 => ?_); refine hK _ _ ?_; clear hK K
 refine gg ?_
 refine ze fun K hK => ?_; refine app8 (ho3) pkA (ho5.rd mmA) (by decide) (fun C6 a6 cap6 ho6 => ?_); refine hK _ _ ?_; clear hK K
 rw [<- be4] at ho6
 refine gg ?_
 refine zb ([C6]) ?_; exact ⟨_, _, _, rfl, ho6, rfl⟩
def jL (t : Tm) : List Nat := [t.k, t.rnd, t.key.length, t.txt.length, 0]
theorem nums_lt {t : Tm} (h1 : t.k <= 10) (h2 : t.rnd <= 1000) (h3 : t.key.length <= 100000) (h4 : t.txt.length <= 100000) : ∀ n ∈ jL t, n < 1000000 := by
 intro n hn
 simp only [jL, List.mem_cons, List.not_mem_nil, or_false] at hn
 omega
theorem QL : ∀ l : List Nat, (∀ n ∈ l, n < 1000000) -> (l.flatMap vi).length <= 4 * l.length
 | [], _ => by simp
 | n :: l, h => by
  have h1 := UJ 4 n (by have := h n (List.mem_cons_self ..); omega) (by omega)
  have h2 := QL l fun m hm => h m (List.mem_cons_of_mem _ hm)
  rw [List.flatMap_cons, List.length_append, List.length_cons]; omega
theorem prT_nums (t : Tm) : prT t = ([(jL t).flatMap vi, t.key, t.txt, []] : List (List UInt8)).flatten := by
 simp [prT, jL]
theorem QR (t : Tm) (h1 : t.k <= 10) (h2 : t.rnd <= 1000) (h3 : t.key.length <= 100000) (h4 : t.txt.length <= 100000) {H : Chunk} {ka xa : Option Addr} {kc xc : Nat}
  (hk0 : t.key.length <= kc) (hx0 : t.txt.length <= xc) (hk : Rd 1 [H] ka t.key.length (t.key.map b8)) (hx : Rd 1 [H] xa t.txt.length (t.txt.map b8)) :
  Meets Tryz.prog 177 [.agg #[.int .i64 t.k, .slice ka t.key.length kc, .slice xa t.txt.length xc, .int .i64 t.rnd, .slice none 0 0, .slice none 0 0]] [H]
  fun v A => v = .string (str (prT t)) /\ A = [H] := by
 have hnl := nums_lt h1 h2 h3 h4
 rw [prT_nums]
 refine eN Tryz.func177 Tryz.ntmps177 Tryz.results177 fun F => ?_
 refine gg ?_
 refine oB fun b1 => ?_
 refine gg ?_
 refine ze fun K hK => ?_; refine zv fun b3 => ?_; (try simp only [Value.cells]); refine hK _ _ ?_; clear hK K
 refine gg ?_
 refine ze fun K hK => ?_; refine xY rfl [.int .i64 t.k, .int .i64 t.rnd, .int .i64 t.key.length, .int .i64 t.txt.length, .int .i64 0] (by decide) rfl rfl (by simp [Value.cell1]) (fun b23 C23 ho23 => ?_); refine hK _ _ ?_; clear hK K
 refine gg ?_
 have hn5 : (jL t).length = 5 := rfl
 have hbl := QL (jL t) hnl
 rw [hn5] at hbl
 refine zE ?_
 refine QA (fun D L S => ∃ (C : Chunk) (a : Option Addr) (cap : Nat), Own8 5 C a ((jL t).flatMap vi).length cap ((jL t).flatMap vi) /\ D = [] /\
  L = [(4, .func (.func 218) #[] #[.pointer (some ⟨b3, 0, none⟩)]), (3, .pointer (some ⟨b3, 0, none⟩)), (1, .pointer (some ⟨b1, 0, none⟩))] /\ S = [C, bx b3 (.slice a ((jL t).flatMap vi).length cap) 43, [(b1, .cells #[.int .i64 t.k, .slice ka t.key.length kc, .slice xa t.txt.length xc, .int .i64 t.rnd, .slice none 0 0, .slice none 0 0] 253 (0, 0))], F, H]) ?_ ?_
 ·refine zB (fun q D L S => ∃ (i : Nat) (C : Chunk) (a : Option Addr) (cap : Nat), i <= 5 /\ q = 5 - i /\ Own8 5 C a (((jL t).take i).flatMap vi).length cap (((jL t).take i).flatMap vi) /\ D = [] /\
   L = [(25, .int .i64 i), (24, .int .i64 5), (23, .slice (some ⟨b23, 0, none⟩) 5 5), (4, .func (.func 218) #[] #[.pointer (some ⟨b3, 0, none⟩)]), (3, .pointer (some ⟨b3, 0, none⟩)), (1, .pointer (some ⟨b1, 0, none⟩))] /\
   S = [C, bx b3 (.slice a (((jL t).take i).flatMap vi).length cap) 43, C23, [(b1, .cells #[.int .i64 t.k, .slice ka t.key.length kc, .slice xa t.txt.length xc, .int .i64 t.rnd, .slice none 0 0, .slice none 0 0] 253 (0, 0))], F, H])
   ⟨0, [], none, 0, by omega, rfl, own_nil, rfl, rfl, rfl⟩ ?_
  rintro q D L S ⟨i, C, a, cap, hi, rfl, ho, rfl, rfl, rfl⟩
  refine gg ?_
  refine if_d (fun hc => ?_) (fun hc => ?_)
  ·have hi5 : i < 5 := by omega
   have hx : (jL t)[i]? = some (jL t)[i] := List.getElem?_eq_getElem (by rw [hn5]; exact hi5)
   have hnx : ((jL t).take (i + 1)).flatMap vi = ((jL t).take i).flatMap vi ++ vi (jL t)[i] := by
    rw [List.take_add_one, hx, List.flatMap_append]; simp
   have hv : ([.int .i64 t.k, .int .i64 t.rnd, .int .i64 t.key.length, .int .i64 t.txt.length, .int .i64 0] : List Value)[i]? = some (.int .i64 ((jL t)[i] : Nat)) := by
    match i, hi5 with
    | 0, _ => rfl
    | 1, _ => rfl
    | 2, _ => rfl
    | 3, _ => rfl
    | 4, _ => rfl
   have hb := hnl _ (List.getElem_mem (l := jL t) (n := i) (by rw [hn5]; exact hi5))
   have hol : (((jL t).take i).flatMap vi).length <= 1000 := by
    have := QL ((jL t).take i) fun n hn => hnl n (List.mem_of_mem_take hn)
    rw [List.length_take] at this; omega
   generalize (jL t)[i] = n at *
   generalize ((jL t).take i).flatMap vi = out at *
   refine gg ?_
   rw [show (⟨b23, 0 + i * 1, none⟩ : Addr) = elA (some ⟨b23, 0, none⟩) i from by simp only [elA, Option.getD_some, add_mk]; congr 1; omega]
   refine ze fun K hK => ?_; refine qw ho23 hv mmA ?_; refine hK _ _ ?_; clear hK K
   refine gg ?_
   refine cA (YQ b3 ho hol n hb) ?_; rintro v A ⟨C2, a2, c2, ho2, rfl⟩; refine gA ?_
   exact zA ⟨i + 1, C2, a2, c2, by omega, rfl, by rw [hnx]; exact ho2, rfl, rfl, by rw [hnx]⟩
  ·obtain rfl : i = 5 := by omega
   rw [show (jL t).take 5 = jL t from rfl] at ho ⊢
   refine gg ?_
   exact mid ⟨C, a, cap, ho, rfl, rfl, rfl⟩
 rintro D L S ⟨C, a, cap, ho, rfl, rfl, rfl⟩
 generalize (jL t).flatMap vi = out at *
 refine gg ?_
 refine zB (fun q D L S => q = 0 /\ D = [] /\ L = [(36, .int .i64 0), (35, .int .i64 0), (3, .pointer (some ⟨b3, 0, none⟩)), (1, .pointer (some ⟨b1, 0, none⟩))] /\ S = [C, bx b3 (.slice a out.length cap) 43, [(b1, .cells #[.int .i64 t.k, .slice ka t.key.length kc, .slice xa t.txt.length xc, .int .i64 t.rnd, .slice none 0 0, .slice none 0 0] 253 (0, 0))], F, H]) ⟨rfl, rfl, rfl, rfl⟩ ?_
 rintro q D L S ⟨rfl, rfl, rfl, rfl⟩
 refine gg ?_
 refine ze fun K hK => ?_; refine xY rfl [.slice a out.length cap, .slice ka t.key.length kc, .slice xa t.txt.length xc, .slice none 0 0] (by decide) rfl rfl (by simp [Value.cell1]) (fun b51 C51 ho51 => ?_); refine hK _ _ ?_; clear hK K
 refine gg ?_
 have hp : kE [C51, C, H] (some ⟨b51, 0, none⟩) 4 [out, t.key, t.txt, []] := by
  refine ⟨rfl, _, ho51.rd (List.mem_cons_self ..), fun i v l hv hl => ?_⟩
  match i, hv, hl with
  | 0, hv, hl => cases hv; cases hl; exact ⟨a, cap, rfl, ho.1, ho.rd (by simp)⟩
  | 1, hv, hl => cases hv; cases hl; exact ⟨ka, kc, rfl, hk0, hk.mem (by simp)⟩
  | 2, hv, hl => cases hv; cases hl; exact ⟨xa, xc, rfl, hx0, hx.mem (by simp)⟩
  | 3, hv, hl => cases hv; cases hl; exact ⟨none, 0, rfl, Nat.le_refl _, Rd.nil⟩
 refine cA (vH [C51, C, H] (some ⟨b51, 0, none⟩) 4 4 [out, t.key, t.txt, []] hp (by decide) (by decide) (by simp only [List.flatten_cons, List.flatten_nil, List.length_append, List.length_nil]; omega)) ?_; rintro v A ⟨C6, a6, c6, rfl, hc6, hr6, hlo, rfl⟩; refine gA ?_
 refine ze fun K hK => ?_; refine xf (hr6.mem mmA) ?_; refine hK _ _ ?_; clear hK K
 refine gg ?_
 refine zb [H] ?_; exact ⟨rfl, rfl⟩
theorem VW : Meets Tryz.prog 220 [.slice none 0 0] [] fun v A => v = .slice none 0 0 /\ A = [] := by
 refine eN Tryz.func220 Tryz.ntmps220 Tryz.results220 fun F => ?_
 refine gg ?_
 refine zb [] ?_; exact ⟨rfl, rfl⟩
abbrev tmV (t : Tm) (ka : Option Addr) (kc : Nat) (xa : Option Addr) (xc : Nat) : List Value := [.int .i64 t.k, .slice ka t.key.length kc, .slice xa t.txt.length xc, .int .i64 t.rnd, .slice none 0 0, .slice none 0 0]
instance tpTm : TPlaces Tryz.prog 253 [(0, 1), (1, 1), (2, 1), (3, 1), (4, 1), (5, 1)] := ⟨by kernel_rfl⟩
theorem Kn (t : Tm) (h3 : t.key.length <= 100000) (h4 : t.txt.length <= 100000) {H : Chunk} {ka xa : Option Addr} {kc xc : Nat} (hk : Rd 1 [H] ka t.key.length (t.key.map b8)) (hx : Rd 1 [H] xa t.txt.length (t.txt.map b8)) :
  Meets Tryz.prog 179 [.agg (tmV t ka kc xa xc).toArray] [H] fun v A => ∃ us : List Value, us.length = 6 /\ (∀ u ∈ us, Value.cell1 u) /\ v = .agg us.toArray /\ A = [H] := by
 refine eN Tryz.func179 Tryz.ntmps179 Tryz.results179 fun F => ?_
 refine gg ?_
 refine oB fun b1 => ?_
 refine gg ?_
 refine oA ([.int .i64 0, .slice none 0 0, .slice none 0 0, .int .i64 0, .slice none 0 0, .slice none 0 0] : List Value).toArray fun b2 => ?_
 (repeat (first | (with_reducible refine vy ?_) | ((with_reducible refine yr ?_); refine yq ?_)))
 (with_reducible refine Jg ?_)
 refine zE ?_
 refine gg ?_
 refine zn [(0, false, []), (1, false, []), (3, false, []), (4, false, []), (6, false, []), (7, false, []), (9, false, []), (10, false, []), (2, true, [4, 7, 10]), (12, false, []), (5, true, [7, 10]), (8, true, [10]), (11, true, []), (13, true, []), (14, false, []), (15, true, []), (16, false, []), (17, true, []), (18, false, []), (19, true, [])] ?_
 refine gg ?_
 refine zh fun K hK => ?_; refine zq (xt H ka kc t.key (by omega) hk) ?_; rintro v A ⟨C3, a3, c3, rfl, ho3, rfl⟩; refine pA hK ?_; clear hK K
 refine gg ?_
 refine zh fun K hK => ?_; refine zq (xt H xa xc t.txt (by omega) hx) ?_; rintro v A ⟨C4, a4, c4, rfl, ho4, rfl⟩; refine pA hK ?_; clear hK K
 refine gg ?_
 refine zh fun K hK => ?_; refine zq (VW) ?_; rintro v A ⟨rfl, rfl⟩; refine pA hK ?_; clear hK K
 refine gg ?_
 refine zh fun K hK => ?_; refine zq (xt [] none 0 [] (by decide) Rd.nil) ?_; rintro v A ⟨C5, a5, c5, rfl, ho5, rfl⟩; refine pA hK ?_; clear hK K
 refine gg ?_
 (try (refine zh fun K hK => ?_; (first | refine zS trivial upA ?_ | refine zG trivial upA (by simp) ?_); refine pBk hK ?_; clear hK K; refine gg ?_))
 (try (refine zh fun K hK => ?_; (first | refine zS trivial upA ?_ | refine zG trivial upA (by simp) ?_); refine pBk hK ?_; clear hK K; refine gg ?_))
 (try (refine zh fun K hK => ?_; (first | refine zS trivial upA ?_ | refine zG trivial upA (by simp) ?_); refine pBk hK ?_; clear hK K; refine gg ?_))
 (try (refine zh fun K hK => ?_; (first | refine zS trivial upA ?_ | refine zG trivial upA (by simp) ?_); refine pBk hK ?_; clear hK K; refine gg ?_))
 refine gM ?_
 have hc1 : ∀ u ∈ ([.int .i64 t.k, .slice a3 t.key.length c3, .slice a4 t.txt.length c4, .int .i64 t.rnd, .slice none 0 0, .slice a5 ([] : List UInt8).length c5] : List Value), Value.cell1 u := by
  intro u hu
  simp only [List.mem_cons, List.not_mem_nil, or_false] at hu
  rcases hu with rfl | rfl | rfl | rfl | rfl | rfl <;> simp [Value.cell1]
 refine oL [.int .i64 t.k, .slice a3 t.key.length c3, .slice a4 t.txt.length c4, .int .i64 t.rnd, .slice none 0 0, .slice a5 ([] : List UInt8).length c5] rfl ?_
 generalize hus : ([.int .i64 t.k, .slice a3 t.key.length c3, .slice a4 t.txt.length c4, .int .i64 t.rnd, .slice none 0 0, .slice a5 ([] : List UInt8).length c5] : List Value) = us at *
 have hul : us.length = 6 := by rw [<- hus]; rfl
 obtain ⟨u0, u1, u2, u3, u4, u5, rfl⟩ : ∃ u0 u1 u2 u3 u4 u5, us = [u0, u1, u2, u3, u4, u5] := ⟨_, _, _, _, _, _, hus.symm⟩
 clear hus
 refine oS [u0, u1, u2, u3, u4, u5] rfl hc1 ?_
 refine gg ?_
 refine zf (vs := [.agg ([u0, u1, u2, u3, u4, u5] : List Value).toArray]) [H] ⟨[u0, u1, u2, u3, u4, u5], rfl, hc1, rfl, rfl⟩ (hr := by (intro κ hκ; simp only [resW, withV, lookT_hit, lookT_miss, Nat.reduceBEq]; exact zm (vs := [u0, u1, u2, u3, u4, u5]) lkA rfl hκ))
abbrev bxB (b : Nat) (sym : Bool) (la : Option Addr) (n lc r : Nat) : Chunk := [(b, .cells #[.bool sym, .bool false, .slice la n lc, .map (some r)] 182 (0, 0))]
theorem KZ (t : Tm) (h1 : t.k <= 10) (h2 : t.rnd <= 1000) (h3 : t.key.length <= 100000) (h4 : t.txt.length <= 100000) {H : Chunk} {ka xa : Option Addr} {kc xc : Nat}
  (hk0 : t.key.length <= kc) (hx0 : t.txt.length <= xc) (hk : Rd 1 [H] ka t.key.length (t.key.map b8)) (hx : Rd 1 [H] xa t.txt.length (t.txt.map b8))
  (b : Nat) (x : BX) (hts : x.ts.length <= 1000) {la : Option Addr} {lc r : Nat} {CL CM : Chunk} {us : List Value} (hL : Ost.Own 6 253 CL la x.ts.length lc us) (hM : xB CM r (mapT x.ts 0)) :
  Meets Tryz.prog 129 [.pointer (some ⟨b, 0, none⟩), .agg (tmV t ka kc xa xc).toArray] [bxB b x.sym la x.ts.length lc r, CL, CM, H]
  fun v A => ∃ (O : Chunk) (oa : Option Addr) (oc : Nat) (la' : Option Addr) (lc' : Nat) (CL' CM' : Chunk) (us' : List Value), v = .slice oa (tagX x t).1.length oc /\ Own8 5 O oa (tagX x t).1.length oc (tagX x t).1 /\
   Ost.Own 6 253 CL' la' (tagX x t).2.ts.length lc' us' /\ xB CM' r (mapT (tagX x t).2.ts 0) /\ A = [O, bxB b x.sym la' (tagX x t).2.ts.length lc' r, CL', CM', H] := by
 have hmg := JM t x.ts 0
 refine eN Tryz.func129 Tryz.ntmps129 Tryz.results129 fun F => ?_
 refine gg ?_
 refine oB fun b3 => ?_
 refine gg ?_
 refine oL (tmV t ka kc xa xc) rfl ?_
 refine gg ?_
 refine cA (QR t h1 h2 h3 h4 hk0 hx0 hk hx) ?_; rintro v A ⟨rfl, rfl⟩; refine gA ?_
 rw [hmg]
 unfold tagX
 cases hi : tix t x.ts 0 with
 | some i =>
  have hil := (tix_ge x.ts 0 i hi).2
  simp only [Option.map_some, Option.getD_some, Option.isSome_some]
  refine gg ?_
  refine cA (yN (i + 1) (by omega)) ?_; rintro v A ⟨O, oa, oc, rfl, hO, rfl⟩; refine gA ?_
  refine zb [O, bxB b x.sym la x.ts.length lc r, CL, CM, H] ?_
  exact ⟨O, oa, oc, la, lc, CL, CM, us, rfl, hO, hL, hM, rfl⟩
 | none =>
  simp only [Option.map_none, Option.getD_none, Option.isSome_none]
  refine gg ?_
  rw [decide_eq_false (show ¬ (4096 : Int) <= x.ts.length by omega)]
  refine gg ?_
  refine zn [(0, false, []), (1, false, []), (2, false, []), (3, false, []), (4, false, []), (5, false, []), (6, true, [4]), (7, true, [4]), (8, true, []), (9, false, []), (10, false, []), (11, true, [])] ?_
  refine gg ?_
  refine qO fun K hK => ?_; refine zm (vs := tmV t ka kc xa xc) lkA rfl ?_; refine hK _ _ ?_; clear hK K
  refine gg ?_
  refine zh fun K hK => ?_; refine zq (Kn t h3 h4 hk hx) ?_; rintro v A ⟨us2, hul, huc, rfl, rfl⟩; refine pA hK ?_; clear hK K
  refine gg ?_
  refine zh fun K hK => ?_; refine xd (e := 253) (s := 6) (hs := inferInstance) (vs := us2) (by rfl) (by decide) (by decide) hul (fun b1 C1 ho1 => ?_); refine pBk hK ?_; clear hK K
  refine gg ?_
  refine zh fun K hK => ?_; refine zu (e := 253) (s := 6) (hs := inferInstance) (by rfl) (by decide) hL (.inr pkA) (ho1.rd mmA) huc (by simp only [maxLen]; omega) (by omega) (fun C3 a3 k3 ho3 => ?_); refine pBk hK ?_; clear hK K
  refine gg ?_
  (try (refine zh fun K hK => ?_; (first | refine zS trivial upA ?_ | refine zG trivial upA (by simp) ?_); refine pBk hK ?_; clear hK K; refine gg ?_))
  refine gM ?_
  refine zn [(0, false, []), (1, false, []), (2, false, []), (3, false, []), (4, false, []), (5, false, []), (6, false, []), (7, false, []), (8, false, []), (9, false, []), (10, true, [])] ?_
  refine gg ?_
  refine zh fun K hK => ?_; refine XG hM pkA (fun C9 hM9 => ?_); refine pBk hK ?_; clear hK K
  refine gg ?_
  have hmp := JK t x.ts 0 hi
  rw [Nat.zero_add] at hmp
  rw [hmp] at hM9
  refine cA (yN (x.ts.length + 1) (by omega)) ?_; rintro v A ⟨O, oa, oc, rfl, hO, rfl⟩; refine gA ?_
  have hl1 : x.ts.length + 1 = (x.ts ++ [t]).length := by simp
  rw [hl1] at ho3 hO ⊢
  refine zb [O, bxB b x.sym a3 (x.ts ++ [t]).length k3 r, C3, C9, H] ?_
  exact ⟨O, oa, oc, a3, k3, C3, C9, us ++ us2, rfl, hO, ho3, hM9, rfl⟩
end Go.Proofs.YtebikhhoppiapaaGreatDoor
namespace Go.Proofs.YtebikhhoppiapaaGreatDoor
open Go Go.Ost
theorem and64 {P : Program} {t : TypeId} {x y : Operand} {a b : Int} {κ : Value -> Prop} : PureW P (do eqGuard .and t x y (.int .u64 a) (.int .u64 b); binOp .and t (.int .u64 a) (.int .u64 b)) κ = κ (.int .u64 (IntKind.u64.wrap ((BitVec.ofInt 64 a &&& BitVec.ofInt 64 b).toNat : Int))) :=
 zk (fun w => by rfl) κ
theorem and64_1 : IntKind.u64.wrap ((BitVec.ofInt 64 1 &&& BitVec.ofInt 64 4294967295).toNat : Int) = 1 := rfl
theorem and64_2 : IntKind.u64.wrap ((BitVec.ofInt 64 64 &&& BitVec.ofInt 64 4294967295).toNat : Int) = 64 := rfl
theorem and64_3 : IntKind.u64.wrap ((BitVec.ofInt 64 0 &&& BitVec.ofInt 64 4294967295).toNat : Int) = 0 := rfl
theorem YY : Meets Tryz.prog 257 [.int .u64 1, .int .u64 64] [] fun v A => v = .tuple #[.int .u64 0, .int .u64 64] /\ A = [] := by
 refine eN Tryz.func257 Tryz.ntmps257 Tryz.results257 fun F => ?_
 refine gg ?_
 refine ze fun K hK => ?_; rw [and64, and64_1]; refine hK _ _ ?_; clear hK K
 refine gg ?_
 refine gg ?_
 refine ze fun K hK => ?_; rw [and64, and64_2]; refine hK _ _ ?_; clear hK K
 refine gg ?_
 refine ze fun K hK => ?_; rw [and64, and64_3]; refine hK _ _ ?_; clear hK K
 refine gg ?_
 refine zf [] ?_; exact ⟨by kernel_rfl, rfl⟩
theorem mul_spec : Meets Tryz.prog 250 [.int .u64 1, .int .u64 64] [] fun v A => v = .tuple #[.int .u64 0, .int .u64 64] /\ A = [] := by
 refine eN Tryz.func250 Tryz.ntmps250 Tryz.results250 fun F => ?_
 refine gg ?_
 refine cA (YY) ?_; rintro v A ⟨rfl, rfl⟩; refine gA ?_
 refine zf [] ?_; exact ⟨rfl, rfl⟩
theorem take_rep {α : Type} (x : α) (k : Nat) (r : List α) : (List.replicate k x ++ r).take k = List.replicate k x := by rw [List.take_left' (by simp)]
theorem Vq (H : Chunk) (a : Option Addr) (cap : Nat) (x : UInt8) (hcap : 1 <= cap) (h : Rd 1 [H] a 1 ([x].map b8)) :
  Meets Tryz.prog 229 [.slice a 1 cap, .int .i64 64] [H] (New8 5 (List.replicate 64 x) [H]) := by
 refine eN Tryz.func229 Tryz.ntmps229 Tryz.results229 fun F => ?_
 refine gg ?_
 refine cA (mul_spec) ?_; rintro v A ⟨rfl, rfl⟩; refine gA ?_
 refine ze fun K hK => ?_; refine wP Tryz.func183 (by kernel_rfl) (by kernel_rfl) (by kernel_rfl) (e := Extern.BytealgMakeNoZero.makeNoZero #[3] #[43]) (by kernel_rfl) ?_
 refine VN (e := 5) (n := 64) (by decide) (fun b1 cap1 us C1 ho1 => ?_); refine hK _ _ ?_; clear hK K
 have hus : us.length = 64 := ho1.2.2.1
 have ho2 := VF ho1 (l := 0) (h' := 64) (m := 64) (by decide) (by decide) (by decide) ho1.1
 have e1 : (us.drop (0 * 1)).take ((64 - 0) * 1) = us := by rw [Nat.zero_mul, List.drop_zero]; exact List.take_of_length_le (by omega)
 rw [e1] at ho2
 have hcap1 := ho1.1
 refine gg ?_
 generalize cutA 1 (some (⟨b1, 0, none⟩ : Addr)) 0 64 = p at *
 refine ze fun K hK => ?_
 refine ye (l := 0) ho2 pkA (h.mem mmA) (by simp [Value.cell1, b8]) (by decide) (fun _ => by cases p <;> simp [Addr.add]) (fun C2 ho3 => ?_)
 refine hK _ _ ?_; clear hK K
 refine gg ?_
 refine zB (fun q D L S => ∃ (k : Nat) (C' : Chunk) (r : List Value), 1 <= k /\ k <= 64 /\ Ost.Own 1 5 C' p 64 64 (List.replicate k (b8 x) ++ r) /\ q = 64 - k /\ D = [] /\
  L = [(10, .int .i64 k), (9, .slice p 64 64), (8, .int .i64 64), (7, .int .i64 64)] /\ S = [C', F, H])
  ⟨1, C2, us.drop 1, by decide, by decide, by simpa using ho3, rfl, rfl, rfl, rfl⟩ ?_
 ·rintro q D L S ⟨k, C', r, hk1, hk2, ho, rfl, rfl, rfl, rfl⟩
  have hrl : (List.replicate k (b8 x) ++ r).length = 64 := ho.2.2.1
  have hr2 : k + r.length = 64 := by simpa using hrl
  refine gg ?_
  refine if_d (fun hc => ?_) (fun hc => ?_)
  ·refine gg ?_
   rw [if_neg (show ¬ ((64 : Int) < k) by omega)]
   refine zn [(0, false, []), (1, false, []), (2, false, []), (3, false, []), (4, false, []), (5, false, []), (6, false, []), (7, true, []), (8, false, []), (9, true, [])] ?_
   have hsrc : Rd 1 [C'] (cutA 1 p 0 64) k ((List.replicate k x).map b8) := by
    have := OC (ho.rd (S := [C']) (List.mem_cons_self ..)) (l := 0) (h' := k) (m := 64) (by omega) (by omega) (by omega)
    simpa using this
   refine gg ?_
   refine zh fun K hK => ?_
   refine ye (l := k) ho pkA (hsrc.mem mmA) (fun v hv => by simp at hv; rw [hv.2]; exact KH x) (by omega) (fun hpos => by unfold cutA; rw [if_neg (by omega), Nat.mul_one]) (fun C3 ho3 => ?_)
   refine hK _ _ ?_; clear hK K
   have e2 : (List.replicate k (b8 x) ++ r).take k ++ (((List.replicate k x).map b8).take (min k (64 - k)) ++ (List.replicate k (b8 x) ++ r).drop (k + min k (64 - k))) = List.replicate (k + min k (64 - k)) (b8 x) ++ r.drop (min k (64 - k)) := by
    rw [take_rep, List.map_replicate, List.take_replicate, <- List.append_assoc, List.replicate_append_replicate, show min (min k (64 - k)) k = min k (64 - k) from by omega]
    congr 1
    rw [List.drop_append]; simp
   rw [e2] at ho3
   refine gg ?_
   refine gg ?_
   exact zA ⟨k + min k (64 - k), C3, r.drop (min k (64 - k)), by omega, by omega, ho3, rfl, rfl, rfl, rfl⟩
  ·refine gg ?_
   obtain rfl : k = 64 := by omega
   obtain rfl : r = [] := List.length_eq_zero_iff.1 (by omega)
   rw [List.append_nil] at ho
   refine zb [C', H] ?_
   exact ⟨C', p, 64, by simp, by simpa [Own8] using ho, rfl⟩
open Go.Sha
theorem ym {tg : TypeId} (G H : Chunk) (m : Nat × Nat) (hG : (3, Obj.cells (rowW odd) tg m) ∈ G) (b e : Nat) (s : St) (r : List Value) (a : Option Addr) (cap : Nat) (hcap : 64 <= cap) (bs : List UInt8) (hb : bs.length = 64) (h : Rd 1 [H] a 64 (bs.map b8)) :
  Meets Tryz.prog 186 [.pointer (some ⟨b, 0, none⟩), .slice a 64 cap] [G, H, [(b, .cells (rowX s.list r) e (0, 0))]]
   fun v A => v = .tuple #[] /\ A = [G, H, [(b, .cells (rowX (Go.Sha.step odd s bs).list r) e (0, 0))]] := by
 refine eN Tryz.func186 Tryz.ntmps186 Tryz.results186 fun F => ?_
 refine zd fun N1 hN1 => ?_
 refine zi ?_; (try refine zg ?_)
 refine cA (QZ H a cap hcap bs hb h) ?_; rintro v A ⟨rfl, rfl⟩
 (try refine zz ?_); (try refine zg ?_)
 refine ze fun K hK => ?_; refine zv fun b4 => ?_; (try simp only [Value.cells]); refine hK _ _ ?_; clear hK K
 refine ze fun K hK => ?_
 refine jq (l := spr bs 0) (l' := spr bs 64) (by (repeat (first | exact Upd.one | apply Upd.next))) (zV _ _) (zV _ _) ?_
 refine hK _ _ ?_; clear hK K
 (try refine zz ?_); (try refine zg ?_)
 refine hN1 _ _ _ ?_; clear hN1
 refine zd fun N2 hN2 => ?_
 refine zn [(0, false, []), (1, false, []), (2, false, []), (3, false, []), (4, false, []), (5, false, []), (6, false, []), (7, false, []), (8, false, []), (9, false, []), (10, false, []), (11, false, []), (12, false, []), (13, false, []), (14, false, []), (15, false, []), (16, false, []), (17, false, []), (18, false, []), (19, false, []), (20, false, []), (21, false, []), (22, false, []), (23, false, []), (24, false, []), (25, false, []), (26, false, []), (27, false, []), (28, false, []), (29, false, []), (30, false, []), (31, false, []), (32, true, [7, 11, 15, 19, 23, 27, 31]), (33, true, [11, 15, 19, 23, 27, 31]), (34, true, [15, 19, 23, 27, 31]), (35, true, [19, 23, 27, 31]), (36, true, [23, 27, 31]), (37, true, [27, 31]), (38, true, [31]), (39, true, [])] ?_
 (try refine zM ?_); (try refine zp ?_)
 refine zh fun K hK => ?_; (repeat refine jt ?_); refine hK _ _ ?_; clear hK K
 (try refine zM ?_); (try refine zp ?_)
 refine zh fun K hK => ?_; (repeat refine jt ?_); refine hK _ _ ?_; clear hK K
 (try refine zM ?_); (try refine zp ?_)
 refine zh fun K hK => ?_; (repeat refine jt ?_); refine hK _ _ ?_; clear hK K
 (try refine zM ?_); (try refine zp ?_)
 refine zh fun K hK => ?_; (repeat refine jt ?_); refine hK _ _ ?_; clear hK K
 (try refine zM ?_); (try refine zp ?_)
 refine zh fun K hK => ?_; (repeat refine jt ?_); refine hK _ _ ?_; clear hK K
 (try refine zM ?_); (try refine zp ?_)
 refine zh fun K hK => ?_; (repeat refine jt ?_); refine hK _ _ ?_; clear hK K
 (try refine zM ?_); (try refine zp ?_)
 refine zh fun K hK => ?_; (repeat refine jt ?_); refine hK _ _ ?_; clear hK K
 (try refine zM ?_); (try refine zp ?_)
 refine zh fun K hK => ?_; (repeat refine jt ?_); refine hK _ _ ?_; clear hK K
 (try refine zM ?_); (try refine zp ?_)
 refine hN2 _ _ _ ?_; clear hN2
 refine zd fun N3 hN3 => ?_
 refine zd fun N4 hN4 => ?_
 refine zi ?_; (try refine zg ?_)
 refine hN4 _ _ _ ?_; clear hN4
 refine zo ?_
 refine zU (fun q D L S => ∃ i : Nat, i <= 64 /\ q = 64 - i /\ D = [] /\ L = [(55, .int .i64 i), (5, b32 (qH odd (spr bs 64) i s).a), (6, b32 (qH odd (spr bs 64) i s).b), (7, b32 (qH odd (spr bs 64) i s).c), (8, b32 (qH odd (spr bs 64) i s).d), (9, b32 (qH odd (spr bs 64) i s).e), (10, b32 (qH odd (spr bs 64) i s).f), (11, b32 (qH odd (spr bs 64) i s).g), (12, b32 (qH odd (spr bs 64) i s).h), (0, .pointer (some ⟨b, 0, none⟩)), (4, .pointer (some ⟨b4, 0, none⟩))] /\
  S = [F, [(b4, .cells (rowW (spr bs 64)) 352 (0, 0))], G, H, [(b, .cells (rowX s.list r) e (0, 0))]]) ?_ ?_
 ·exact ⟨_, _, _, ⟨0, by omega, rfl, rfl, rfl, rfl⟩, by (repeat (first | exact True.intro | (refine And.intro ?_ ?_; (· (try simp only [evT, lookT_hit, lookT_miss, Nat.reduceBEq]); (first | done | exact rfl))))), amA⟩
 ·rintro q D L S ⟨i, hi, rfl, rfl, rfl, rfl⟩
  refine zd fun N5 hN5 => ?_
  refine zi ?_; (try refine zg ?_)
  refine hN5 _ _ _ ?_; clear hN5
  refine zd fun N6 hN6 => ?_
  refine xA (fun hc => ?_) (fun hc => ?_)
  ·have hc := of_decide_eq_true hc
   refine zI ?_
   refine hN6 _ _ _ ?_; clear hN6
   generalize hst : qH odd (spr bs 64) i s = st
   refine zd fun N7 hN7 => ?_
   refine zo ?_
   refine zd fun N8 hN8 => ?_
   refine zi ?_; (try refine zg ?_)
   refine hN8 _ _ _ ?_; clear hN8
   refine zd fun N9 hN9 => ?_
   refine zi ?_; (try refine zg ?_)
   refine cA (je _ 6 (by decide) (by decide)) ?_; rintro v A ⟨rfl, rfl⟩
   (try refine zz ?_); (try refine zg ?_)
   refine cA (je _ 11 (by decide) (by decide)) ?_; rintro v A ⟨rfl, rfl⟩
   (try refine zz ?_); (try refine zg ?_)
   refine cA (je _ 25 (by decide) (by decide)) ?_; rintro v A ⟨rfl, rfl⟩
   (try refine zz ?_); (try refine zg ?_)
   refine hN9 _ _ _ ?_; clear hN9
   refine zd fun N10 hN10 => ?_
   refine zi ?_; (try refine zg ?_)
   refine hN10 _ _ _ ?_; clear hN10
   refine zd fun N11 hN11 => ?_
   refine zn [(0, false, []), (1, false, []), (2, false, []), (3, false, []), (4, false, []), (5, false, []), (6, false, []), (7, false, []), (8, false, []), (9, false, []), (10, false, []), (11, false, []), (12, false, []), (13, true, [])] ?_
   (try refine zM ?_); (try refine zp ?_)
   refine zh fun K hK => ?_; (repeat refine jt ?_); refine hK _ _ ?_; clear hK K
   (try refine zM ?_); (try refine zp ?_)
   refine hN11 _ _ _ ?_; clear hN11
   refine zd fun N12 hN12 => ?_
   refine zi ?_; (try refine zg ?_)
   refine cA (je _ 2 (by decide) (by decide)) ?_; rintro v A ⟨rfl, rfl⟩
   (try refine zz ?_); (try refine zg ?_)
   refine cA (je _ 13 (by decide) (by decide)) ?_; rintro v A ⟨rfl, rfl⟩
   (try refine zz ?_); (try refine zg ?_)
   refine cA (je _ 22 (by decide) (by decide)) ?_; rintro v A ⟨rfl, rfl⟩
   (try refine zz ?_); (try refine zg ?_)
   refine hN12 _ _ _ ?_; clear hN12
   refine zd fun N13 hN13 => ?_
   refine zi ?_; (try refine zg ?_)
   refine hN13 _ _ _ ?_; clear hN13
   refine zi ?_; (try refine zg ?_)
   rw [show 0 + i * 1 = i from by omega, BitVec.add_assoc _ (rot 2 st.a ^^^ rot 13 st.a ^^^ rot 22 st.a) _]
   subst hst
   refine hN7 _ _ _ ?_; clear hN7
   refine zi ?_; (try refine zg ?_)
   exact zA ⟨i + 1, by omega, rfl, rfl, rfl, rfl⟩
  ·have hc := of_decide_eq_false hc
   refine zO ?_; try simp only [Cont.then, Cont.block, Cont.noGoto, reduceIte, Nat.reduceEqDiff]
   refine hN3 _ _ _ ?_; clear hN3
   obtain rfl : i = 64 := by omega
   generalize hv : qH odd (spr bs 64) 64 s = v
   refine zd fun N14 hN14 => ?_
   refine zi ?_; (try refine zg ?_)
   refine ze fun K hK => ?_
   rw [XZ rfl]
   refine hK _ _ ?_; clear hK K
   (try refine zz ?_); (try refine zg ?_)
   refine hN14 _ _ _ ?_; clear hN14
   refine zo ?_
   refine zU (fun q D L S => ∃ i : Nat, i <= 8 /\ q = 8 - i /\ D = [] /\ L = [(130, .int .i64 i), (129, .agg (rowW v.list)), (0, .pointer (some ⟨b, 0, none⟩))] /\
    S = [F, G, H, [(b, .cells (rowX (mix s v i) r) e (0, 0))]]) ?_ ?_
   ·exact ⟨_, _, _, ⟨0, by omega, rfl, rfl, rfl, rfl⟩, by (repeat (first | exact True.intro | (refine And.intro ?_ ?_; (· (try simp only [evT, lookT_hit, lookT_miss, Nat.reduceBEq]); (first | done | exact rfl))))), amA⟩
   ·rintro q D L S ⟨i, hi, rfl, rfl, rfl, rfl⟩
    refine zd fun N15 hN15 => ?_
    refine zi ?_; (try refine zg ?_)
    refine hN15 _ _ _ ?_; clear hN15
    refine zd fun N16 hN16 => ?_
    refine xA (fun hc => ?_) (fun hc => ?_)
    ·have hc := of_decide_eq_true hc
     refine zI ?_
     refine hN16 _ _ _ ?_; clear hN16
     refine zd fun N17 hN17 => ?_
     refine zo ?_
     refine zd fun N18 hN18 => ?_
     refine zi ?_; (try refine zg ?_)
     refine ze fun K hK => ?_
     rw [Iw (by omega) (by omega) (St.list_len v)]
     refine hK _ _ ?_; clear hK K
     (try refine zz ?_); (try refine zg ?_)
     refine hN18 _ _ _ ?_; clear hN18
     refine zn [(0, false, []), (1, false, []), (2, false, []), (3, false, []), (4, false, []), (5, false, []), (6, false, []), (7, false, []), (8, false, []), (9, true, [])] ?_
     (try refine zM ?_); (try refine zp ?_)
     refine zh fun K hK => ?_; (first | ((with_reducible apply vw); (· (repeat (first | with_reducible exact Upd.one | with_reducible apply Upd.next))); (· (first | (rw [ld_len]; omega) | (rw [List.length_replicate]; omega) | (rw [St.list_len]; omega) | (rw [xw]; omega) | (rw [zV]; omega) | (rw [zN _ _ _ (by omega)]; omega)))) | ((with_reducible apply wr); (· (repeat (first | with_reducible exact Upd.one | with_reducible apply Upd.next))); (· (first | (rw [ld_len]; omega) | (rw [List.length_replicate]; omega) | (rw [St.list_len]; omega) | (rw [xw]; omega) | (rw [zV]; omega) | (rw [zN _ _ _ (by omega)]; omega))))); (repeat refine jt ?_); refine hK _ _ ?_; clear hK K
     (try refine zM ?_); (try refine zp ?_)
     rw [show 0 + i * 1 = i from by omega, WF s v i (by omega)]
     refine hN17 _ _ _ ?_; clear hN17
     refine zi ?_; (try refine zg ?_)
     exact zA ⟨i + 1, by omega, rfl, rfl, rfl, rfl⟩
    ·have hc := of_decide_eq_false hc
     refine zO ?_; try simp only [Cont.then, Cont.block, Cont.noGoto, reduceIte, Nat.reduceEqDiff]
     obtain rfl : i = 8 := by omega
     subst hv
     exact ww [G, H, [(b, .cells (rowX (mix s (qH odd (spr bs 64) 64 s) 8) r) e (0, 0))]] ⟨rfl, rfl⟩ amA
structure Blk where
 bs : List UInt8
 a : Option Addr
 H : Chunk
def text (m : List UInt8) : List UInt8 := m ++ pad m.length
theorem KV (m : List UInt8) : (text m).length % 64 = 0 := by unfold text; rw [List.length_append]; exact JI _
def wQ (m : List UInt8) : Nat := (text m).length / 64
def isBlk (m : List UInt8) (pre : List Blk) (x : Blk) : Prop := pre.length < wQ m /\ x.bs = ((text m).drop (64 * pre.length)).take 64 /\ Rd 1 [x.H] x.a 64 (x.bs.map b8)
theorem KB (p : Nat) (H : Chunk) (a : Option Addr) (cap : Nat) (m : List UInt8) (hm : m.length <= 1000000) (h : Rd 1 [H] a m.length (m.map b8)) :
  IMeetsS Tryz.prog 230 [] [.pointer (some ⟨p, 0, none⟩)] (fun x : Blk => [.slice x.a 64 64]) (fun x => x.H)
  [[(p, .cells #[.slice a m.length cap] 43 (0, 0))], H] (isBlk m) (fun pre => pre.length = wQ m) false := by
 refine yM (by kernel_rfl) fun l J Jx hN hY C hC => ?_
 clear hN
 refine eN Tryz.func230 Tryz.ntmps230 Tryz.results230 fun F => ?_
 refine zd fun N1 hN1 => ?_
 refine zn [(0, false, []), (2, false, []), (3, false, []), (4, false, []), (1, true, [2, 3]), (5, true, []), (6, true, []), (7, true, [])] ?_
 (try refine xq ?_); (try refine zp ?_)
 refine zh fun K hK => ?_; refine xl (xt H a cap m (by omega) h) tkA ?_; rintro v A ⟨C1, a1, cap1, rfl, ho1, rfl⟩; (try simp only [List.nil_append, List.cons_append]); refine ⟨xo lkA rfl, trivial, ?_⟩; refine hK _ _ ?_; clear hK K
 (try refine xq ?_); (try refine zp ?_)
 refine zh fun K hK => ?_; refine xl (Qj m.length (by omega)) tkA ?_; rintro v A ⟨C2, a2, cap2, rfl, ho2, rfl⟩; (try simp only [List.nil_append, List.cons_append]); refine hK _ _ ?_; clear hK K
 (try refine xq ?_); (try refine zp ?_)
 have hpl : (pad m.length).length <= 72 := by rw [wy, jT]; omega
 refine jC (by simp only [List.getElem?_toArray, List.getElem?_cons_succ, List.getElem?_cons_zero]; rfl) fun K hK => ?_; (try simp only [gos, gob, Nat.reduceBEq, if_true, reduceIte, reduceCtorEq, Nat.reduceLT, Nat.reduceEqDiff, Nat.reduceAdd, Nat.reduceSub, Int.reduceLT, Int.reduceLE, Int.reduceBEq, Int.reduceBNe, Int.reduceToNat, Int.reduceAdd, Int.reduceSub, Int.reduceMul, Int.reduceDiv, Int.reduceMod, Int.reducePow, Int.toNat_natCast, Nat.sub_zero, goq]); (try (simp (disch := omega) only [gow, gobw]; try simp only [gos, gob, Nat.reduceBEq, if_true, reduceIte, reduceCtorEq, Nat.reduceLT, Nat.reduceEqDiff, Nat.reduceAdd, Nat.reduceSub, Int.reduceLT, Int.reduceLE, Int.reduceBEq, Int.reduceBNe, Int.reduceToNat, Int.reduceAdd, Int.reduceSub, Int.reduceMul, Int.reduceDiv, Int.reduceMod, Int.reducePow, Int.toNat_natCast, Nat.sub_zero, goq])); refine app8 ho1 pkA (ho2.rd mmA) (by omega) (fun C3 a3 cap3 ho3 => ?_); refine hK _ _ ?_; clear hK K
 (try refine xq ?_); (try refine zp ?_)
 refine zh fun K hK => ?_; refine pBk hK ?_; clear hK K
 (try refine xq ?_); (try refine zp ?_)
 refine hN1 _ _ _ ?_; clear hN1
 have hT : m.length + (pad m.length).length = (text m).length := by unfold text; rw [List.length_append]
 rw [hT] at ho3 ⊢
 have hmod := KV m
 refine zo ?_
 refine zU (fun q D L S => ∃ (pre : List Blk) (C' : Chunk) (a' : Option Addr) (c' : Nat), pre.length <= wQ m /\ J pre C' /\ ((text m).drop (64 * pre.length)).length <= c' /\ Rd 1 [C3] a' ((text m).drop (64 * pre.length)).length (((text m).drop (64 * pre.length)).map b8) /\ q = wQ m - pre.length /\ D = [] /\
  L = [(3, .slice a' ((text m).drop (64 * pre.length)).length c'), (0, .func (.yield l) #[] #[])] /\ S = [F, C', C3, [(p, .cells #[.slice a m.length cap] 43 (0, 0))], H]) ?_ ?_
 ·exact ⟨_, _, _, ⟨[], C, a3, cap3, by simp, hC, ho3.1, ho3.rd (List.mem_cons_self ..), rfl, rfl, rfl, rfl⟩, by (repeat (first | exact True.intro | (refine And.intro ?_ ?_; (· (try simp only [evT, lookT_hit, lookT_miss, Nat.reduceBEq]); (first | done | exact rfl))))), amA⟩
 ·rintro q D L S ⟨pre, C', a', c', hk, hJ, hc', hr, rfl, rfl, rfl, rfl⟩
  have hdl : ((text m).drop (64 * pre.length)).length = (text m).length - 64 * pre.length := List.length_drop
  have hbl : wQ m = (text m).length / 64 := rfl
  refine zd fun N2 hN2 => ?_
  refine zd fun N3 hN3 => ?_
  refine zi ?_; (try refine zg ?_)
  refine hN3 _ _ _ ?_; clear hN3
  refine xA (fun hc => ?_) (fun hc => ?_)
  ·have hc := of_decide_eq_true hc
   have hlt : pre.length < wQ m := by omega
   have hcut : Rd 1 [C3] (cutA 1 a' 0 64) 64 ((((text m).drop (64 * pre.length)).take 64).map b8) := qi hr (l := 0) (h' := 64) (m := 64) (by omega) (by omega) (by omega)
   have hx : isBlk m pre ⟨((text m).drop (64 * pre.length)).take 64, cutA 1 a' 0 64, C3⟩ := ⟨hlt, rfl, hcut⟩
   have e64 : ((text m).drop (64 * pre.length)).length - 64 = ((text m).drop (64 * (pre.length + 1))).length := by
    rw [List.length_drop, List.length_drop]; show (text m).length - 64 * pre.length - 64 = _; omega
   have hr2 : Rd 1 [C3] (cutA 1 a' 64 c') ((text m).drop (64 * (pre.length + 1))).length (((text m).drop (64 * (pre.length + 1))).map b8) := by
    have q := qi hr (l := 64) (h' := ((text m).drop (64 * pre.length)).length) (m := c') (by omega) (Nat.le_refl _) hc'
    rw [List.drop_drop, show 64 * pre.length + 64 = 64 * (pre.length + 1) from by omega, List.take_of_length_le (by rw [List.length_drop]; omega)] at q
    rw [<- e64]; exact q
   have hc2 : ((text m).drop (64 * (pre.length + 1))).length <= c' - 64 := by
    rw [List.length_drop]; show _ <= c' - 64; omega
   refine zI ?_
   refine hN2 _ _ _ ?_; clear hN2
   refine zo ?_
   refine zd fun N4 hN4 => ?_
   refine zd fun N5 hN5 => ?_
   refine zi ?_; (try refine zg ?_)
   refine ze fun K hK => ?_
   refine vq (hY pre ⟨((text m).drop (64 * pre.length)).take 64, cutA 1 a' 0 64, C3⟩ hx) hJ tkA (fun C4 hJ4 => ?_) (fun C4 hJ4 => ?_)
   ·refine hK _ _ ?_; clear hK K
    (try refine zz ?_); (try refine zg ?_)
    refine hN5 _ _ _ ?_; clear hN5
    refine qV (by (try simp only [evT, lookT_hit, lookT_miss, Nat.reduceBEq]); (first | done | exact rfl)) (zI ?_)
    refine hN4 _ _ _ ?_; clear hN4
    refine zi ?_; (try refine zg ?_)
    have el : (pre ++ [(⟨((text m).drop (64 * pre.length)).take 64, cutA 1 a' 0 64, C3⟩ : Blk)]).length = pre.length + 1 := by simp
    rw [e64]
    rw [<- el] at hr2 hc2 ⊢
    exact ⟨⟨_, _, _, by rw [el]; omega, ⟨_, C4, _, _, by rw [el]; omega, hJ4, hc2, hr2, rfl, rfl, rfl, rfl⟩, by (repeat (first | exact True.intro | (refine And.intro ?_ ?_; (· (try simp only [evT, lookT_hit, lookT_miss, Nat.reduceBEq]); (first | done | exact rfl))))), amA⟩⟩
   ·refine hK _ _ ?_; clear hK K
    (try refine zz ?_); (try refine zg ?_)
    refine hN5 _ _ _ ?_; clear hN5
    refine Qq (by (try simp only [evT, lookT_hit, lookT_miss, Nat.reduceBEq]); (first | done | exact rfl)) ?_
    refine yf ?_; try simp -implicitDefEqProofs only [Cont.then, Cont.block, Cont.noGoto, reduceIte]
    exact Wv [C4, [(p, .cells #[.slice a m.length cap] 43 (0, 0))], H] ⟨C4, rfl, .inr ⟨pre, _, hx, hJ4⟩⟩ amA
  ·have hc := of_decide_eq_false hc
   refine zO ?_; try simp only [Cont.then, Cont.block, Cont.noGoto, reduceIte, Nat.reduceEqDiff]
   exact ww [C', [(p, .cells #[.slice a m.length cap] 43 (0, 0))], H] ⟨C', rfl, .inl ⟨pre, by omega, hJ⟩⟩ amA
theorem KA (a : Option Addr) (n cap : Nat) : Meets Tryz.prog 185 [.slice a n cap] []
  fun v A => ∃ p, v = .func (.func 230) #[] #[.pointer (some ⟨p, 0, none⟩)] /\ A = [[(p, .cells #[.slice a n cap] 43 (0, 0))]] := by
 refine eN Tryz.func185 Tryz.ntmps185 Tryz.results185 fun F => ?_
 refine zd fun N1 hN1 => ?_
 refine zi ?_; (try refine zg ?_)
 refine oB fun b1 => ?_
 (try refine zz ?_); (try refine zg ?_)
 refine hN1 _ _ _ ?_; clear hN1
 refine zd fun N2 hN2 => ?_
 refine zi ?_; (try refine zg ?_)
 refine hN2 _ _ _ ?_; clear hN2
 refine zL ?_
 exact km [[(b1, .cells #[.slice a n cap] 43 (0, 0))]] (by (try simp only [evT, lookT_hit, lookT_miss, Nat.reduceBEq]); (first | done | exact rfl)) ⟨b1, rfl, rfl⟩ amA
theorem Wa {t0 t1 : TypeId} (G H : Chunk) (m0 m1 : Nat × Nat) (hG0 : (0, Obj.cells (rowW first.list) t0 m0) ∈ G) (hG1 : (3, Obj.cells (rowW odd) t1 m1) ∈ G) (a : Option Addr) (n c : Nat) (ls : List (List UInt8)) (hp : kE [H] a n ls) (hnc : n <= c) (hn : n <= 1000000) (hlen : ls.flatten.length <= 1000000) :
  Meets Tryz.prog 133 [.slice a n c] [G, H] (New8 5 (xC ls.flatten) [G, H]) := by
 refine eN Tryz.func133 Tryz.ntmps133 Tryz.results133 fun F => ?_
 refine zd fun N1 hN1 => ?_
 refine zi ?_; (try refine zg ?_)
 refine hN1 _ _ _ ?_; clear hN1
 refine zd fun N2 hN2 => ?_
 refine xG ?_
 refine ze fun K hK => ?_
 refine jA (l := first.list) (by (repeat (first | with_reducible exact Lies.one | with_reducible exact Lies.here (by assumption) | with_reducible apply Lies.next))) (St.list_len _) ?_
 refine hK _ _ ?_; clear hK K
 refine ze fun K hK => ?_; refine zv fun b3 => ?_; (try simp only [Value.cells]); refine hK _ _ ?_; clear hK K
 refine ze fun K hK => ?_
 refine jq (l := List.replicate 8 0) (l' := first.list) (by (repeat (first | exact Upd.one | apply Upd.next))) List.length_replicate (St.list_len _) ?_
 refine hK _ _ ?_; clear hK K
 (try refine zz ?_); (try refine zg ?_)
 refine hN2 _ _ _ ?_; clear hN2
 refine zd fun N3 hN3 => ?_
 refine zd fun N4 hN4 => ?_
 refine zi ?_; (try refine zg ?_)
 refine ze fun K hK => ?_
 refine xl (vH [H] a n c ls hp hnc hn (by omega)) tkA ?_; rintro v A ⟨C5, a5, cap5, rfl, hle5, hr5, _, rfl⟩; (try simp only [List.nil_append, List.cons_append]); refine hK _ _ ?_; clear hK K
 (try refine zz ?_); (try refine zg ?_)
 refine ze fun K hK => ?_
 refine xl (KA _ _ _) tkA ?_; rintro v A ⟨p, rfl, rfl⟩; (try simp only [List.nil_append, List.cons_append]); refine hK _ _ ?_; clear hK K
 (try refine zz ?_); (try refine zg ?_)
 refine hN4 _ _ _ ?_; clear hN4
 refine zo ?_
 have hrun : run (wQ ls.flatten) first (text ls.flatten) = whole first (text ls.flatten) := rfl
 refine yV (by (try simp only [evT, lookT_hit, lookT_miss, Nat.reduceBEq]); (first | done | exact rfl)) (KB p C5 a5 cap5 ls.flatten (by omega) hr5) (by (repeat (first | exact Take.nil _ | with_reducible exact Pick.head _ _ | with_reducible apply Pick.tail | with_reducible apply Take.cons))) (fun pre C => C = [H, [(b3, .cells (rowX (run pre.length first (text ls.flatten)).list []) 321 (0, 0))], F, G]) (fun _ _ _ => False) (fun h => by cases h) (fun _ => rfl) rfl ?_ ?_ ?_
 ·rintro l F1 C r pre x hx rfl
  have hxl : x.bs.length = 64 := by
   have h1 := hx.1
   have h2 := KV ls.flatten
   have h3 : wQ ls.flatten = (text ls.flatten).length / 64 := rfl
   rw [hx.2.1, List.length_take, List.length_drop]; omega
  have el : (pre ++ [x]).length = pre.length + 1 := by simp
  (try simp only [List.nil_append, List.cons_append])
  (try simp only [jm, putT, Nat.reduceLT, if_true, reduceIte, Array.toList, List.toList_toArray])
  refine zi ?_; (try refine zg ?_)
  refine ⟨_, Among.refl _, fun r' _ => ?_⟩
  refine zo ?_
  refine zi ?_; (try refine zg ?_)
  refine ze fun K hK => ?_
  refine xl (ym G x.H m1 hG1 b3 321 (run pre.length first (text ls.flatten)) [] x.a 64 (by omega) x.bs hxl hx.2.2) tkA ?_; rintro v A ⟨rfl, rfl⟩; (try simp only [List.nil_append, List.cons_append]); refine hK _ _ ?_; clear hK K
  rw [hx.2.1, <- kN]
  (try refine zz ?_); (try refine zg ?_)
  refine ⟨[H, [(b3, .cells (rowX (run (pre.length + 1) first (text ls.flatten)).list []) 321 (0, 0))], F, G, x.H], ⟨[H, [(b3, .cells (rowX (run (pre.length + 1) first (text ls.flatten)).list []) 321 (0, 0))], F, G], rfl, by rw [el]⟩, amA⟩
 ·rintro d pre C hd rfl
  rw [hd, hrun]
  (try simp only [List.nil_append, List.cons_append]); try simp only [Cont.then, Cont.block, Cont.noGoto, reduceIte, Nat.reduceEqDiff]
  refine hN3 _ _ _ ?_; clear hN3
  refine zd fun N5 hN5 => ?_
  refine zi ?_; (try refine zg ?_)
  refine cA (ZX b3 _ _ _ _) ?_; rintro v A ⟨C7, a7, cap7, rfl, ho7, rfl⟩; (try simp only [List.nil_append, List.cons_append])
  (try refine zz ?_); (try refine zg ?_)
  refine hN5 _ _ _ ?_; clear hN5
  refine zL ?_
  refine zf ([C7, G, H]) ?_; exact ⟨_, _, _, rfl, ho7, rfl⟩
 ·rintro d c pre x C hx hf
  exact hf.elim
theorem Jk {t0 t1 : TypeId} (G A B : Chunk) (m0 m1 : Nat × Nat) (hG0 : (0, Obj.cells (rowW first.list) t0 m0) ∈ G) (hG1 : (3, Obj.cells (rowW odd) t1 m1) ∈ G) (a : Option Addr) (n c : Nat) (ls : List (List UInt8)) (hp : kE [A ++ B] a n ls) (hnc : n <= c) (hn : n <= 1000000) (hlen : ls.flatten.length <= 1000000) :
  Meets Tryz.prog 133 [.slice a n c] [G, A, B] (New8 5 (xC ls.flatten) [G, A, B]) :=
 (Wa G (A ++ B) m0 m1 hG0 hG1 a n c ls hp hnc hn hlen).perm (by simp) (fun v A' ⟨C, a', cap', hv, ho, hA⟩ => ⟨[C, G, A, B], by rw [hA]; simp, C, a', cap', hv, ho, rfl⟩)
theorem Ob {t0 t1 : TypeId} (G A B D : Chunk) (m0 m1 : Nat × Nat) (hG0 : (0, Obj.cells (rowW first.list) t0 m0) ∈ G) (hG1 : (3, Obj.cells (rowW odd) t1 m1) ∈ G) (a : Option Addr) (n c : Nat) (ls : List (List UInt8)) (hp : kE [A ++ B ++ D] a n ls) (hnc : n <= c) (hn : n <= 1000000) (hlen : ls.flatten.length <= 1000000) :
  Meets Tryz.prog 133 [.slice a n c] [G, A, B, D] (New8 5 (xC ls.flatten) [G, A, B, D]) :=
 (Wa G (A ++ B ++ D) m0 m1 hG0 hG1 a n c ls hp hnc hn hlen).perm (by simp) (fun v A' ⟨C, a', cap', hv, ho, hA⟩ => ⟨[C, G, A, B, D], by rw [hA]; simp, C, a', cap', hv, ho, rfl⟩)
theorem num_spec (H : Chunk) (a : Option Addr) (len cap : Nat) (bs : List UInt8) (hm : len <= 4611686018427387904) (h : Rd 1 [H] a len (bs.map b8)) :
  Meets Tryz.prog 51 [.slice a len cap] [H] fun v A => v = .int .u64 (num bs) /\ A = [H] := by
 have hl : bs.length = len := by have := h.1; simpa using this
 have hr := h.next
 refine eN Tryz.func51 Tryz.ntmps51 Tryz.results51 fun F => ?_
 have hr := hr F
 refine zd fun N1 hN1 => ?_
 refine zi ?_; (try refine zg ?_)
 refine hN1 _ _ _ ?_; clear hN1
 refine zd fun N2 hN2 => ?_
 refine zi ?_; (try refine zg ?_)
 refine hN2 _ _ _ ?_; clear hN2
 refine zd fun N3 hN3 => ?_
 refine zd fun N4 hN4 => ?_
 refine zi ?_; (try refine zg ?_)
 refine hN4 _ _ _ ?_; clear hN4
 refine zo ?_
 refine zU (fun q D L S => ∃ i : Nat, i <= len /\ q = len - i /\ D = [] /\ L = [(8, .int .i64 i), (7, .int .i64 len), (6, .slice a len cap), (3, .int .u64 (num (bs.take i)))] /\ S = [F, H]) ?_ ?_
 ·exact ⟨_, _, _, ⟨0, by omega, rfl, rfl, rfl, rfl⟩, by (repeat (first | exact True.intro | (refine And.intro ?_ ?_; (· (try simp only [evT, lookT_hit, lookT_miss, Nat.reduceBEq]); (first | done | exact rfl))))), amA⟩
 ·rintro q D L S ⟨i, hi, rfl, rfl, rfl, rfl⟩
  refine zd fun N5 hN5 => ?_
  refine zi ?_; (try refine zg ?_)
  refine hN5 _ _ _ ?_; clear hN5
  refine zd fun N6 hN6 => ?_
  refine xA (fun hc => ?_) (fun hc => ?_)
  ·have hc := of_decide_eq_true hc
   refine zI ?_
   refine hN6 _ _ _ ?_; clear hN6
   refine zd fun N7 hN7 => ?_
   refine zo ?_
   refine zd fun N8 hN8 => ?_
   refine xG ?_; (repeat ((with_reducible refine xT fun K hK => ?_); (try simp only [gos, gob, Nat.reduceBEq, if_true, reduceIte, reduceCtorEq, Nat.reduceLT, Nat.reduceEqDiff, Nat.reduceAdd, Nat.reduceSub, Int.reduceLT, Int.reduceLE, Int.reduceBEq, Int.reduceBNe, Int.reduceToNat, Int.reduceAdd, Int.reduceSub, Int.reduceMul, Int.reduceDiv, Int.reduceMod, Int.reducePow, Int.toNat_natCast, Nat.sub_zero]); (try (simp (disch := omega) only [gow, gobw, kY hr]; try simp only [gos, gob, Nat.reduceBEq, if_true, reduceIte, reduceCtorEq, Nat.reduceLT, Nat.reduceEqDiff, Nat.reduceAdd, Nat.reduceSub, Int.reduceLT, Int.reduceLE, Int.reduceBEq, Int.reduceBNe, Int.reduceToNat, Int.reduceAdd, Int.reduceSub, Int.reduceMul, Int.reduceDiv, Int.reduceMod, Int.reducePow, Int.toNat_natCast, Nat.sub_zero])); (first | (with_reducible refine hK _ _ ?_) | (refine wV hr (by omega) ?_; (with_reducible refine hK _ _ ?_)) | ((with_reducible apply xo); (· (repeat (first | with_reducible exact Lies.one | with_reducible apply Lies.next))); (with_reducible refine hK _ _ ?_)) | ((with_reducible apply zD); (· (repeat (first | with_reducible exact Lies.one | with_reducible apply Lies.next))); (· exact rfl); (with_reducible refine hK _ _ ?_))); clear hK K)); try ((with_reducible refine vy ?_); try simp only [Cont.then, Cont.block, Cont.noGoto, reduceIte, Nat.reduceEqDiff])
   refine hN8 _ _ _ ?_; clear hN8
   refine zi ?_; (try refine zg ?_)
   have e : IntKind.u64.wrap (IntKind.u64.wrap (((num (bs.take i) : Nat) : Int) * 256) + ((bs.getD i 0).toNat : Int)) = (num (bs.take (i + 1)) : Int) := by
    rw [vu bs i (by omega), num_snoc, show ((num (bs.take i) : Nat) : Int) * 256 = ((num (bs.take i) * 256 : Nat) : Int) from by omega, wrap64_mod, <- Int.natCast_add, wrap64_mod]
    congr 1
    omega
   rw [e]
   refine hN7 _ _ _ ?_; clear hN7
   refine zi ?_; (try refine zg ?_)
   exact zA ⟨i + 1, by omega, rfl, rfl, rfl, rfl⟩
  ·have hc := of_decide_eq_false hc
   refine zO ?_; try simp only [Cont.then, Cont.block, Cont.noGoto, reduceIte, Nat.reduceEqDiff]
   refine hN3 _ _ _ ?_; clear hN3
   obtain rfl : i = len := by omega
   rw [<- hl, List.take_length]
   refine zd fun N9 hN9 => ?_
   refine zi ?_; (try refine zg ?_)
   refine hN9 _ _ _ ?_; clear hN9
   refine zL ?_
   refine zb [H] ?_; exact ⟨rfl, rfl⟩
theorem Jz {tg : TypeId} (G H : Chunk) (m : Nat × Nat) (hG : (4, Obj.cells (rowW odd) tg m) ∈ G) (s : St) (a : Option Addr) (cap : Nat) (hcap : 64 <= cap) (bs : List UInt8) (hb : bs.length = 64) (h : Rd 1 [H] a 64 (bs.map b8)) :
  Meets Tryz.prog 212 [.agg (rowW s.list), .slice a 64 cap] [G, H]
   fun v A => v = .agg (rowW (Go.Sha.step odd s bs).list) /\ A = [G, H] := by
 refine eN Tryz.func212 Tryz.ntmps212 Tryz.results212 fun F => ?_
 refine zd fun N1 hN1 => ?_
 refine zi ?_; (try refine zg ?_)
 refine ze fun K hK => ?_
 refine wH fun b2 => ?_; rw [show (Value.agg (rowW s.list)).cells = rowW s.list from rfl]; refine hK _ _ ?_; clear hK K
 (try refine zz ?_); (try refine zg ?_)
 refine ze fun K hK => ?_; refine zv fun b4 => ?_; (try simp only [Value.cells]); refine hK _ _ ?_; clear hK K
 (try refine zz ?_); (try refine zg ?_)
 refine hN1 _ _ _ ?_; clear hN1
 refine zd fun N2 hN2 => ?_
 refine zi ?_; (try refine zg ?_)
 refine ze fun K hK => ?_; refine zv fun b5 => ?_; (try simp only [Value.cells]); refine hK _ _ ?_; clear hK K
 (try refine zz ?_); (try refine zg ?_)
 refine hN2 _ _ _ ?_; clear hN2
 refine zd fun N3 hN3 => ?_
 refine zd fun N4 hN4 => ?_
 refine zi ?_; (try refine zg ?_)
 refine hN4 _ _ _ ?_; clear hN4
 refine zo ?_
 refine zU (fun q D L S => ∃ i : Nat, i <= 64 /\ q = 64 - i /\ D = [] /\ L = [(6, .int .i64 i), (1, .slice a 64 cap), (5, .pointer (some ⟨b5, 0, none⟩)), (2, .pointer (some ⟨b2, 0, none⟩)), (4, .pointer (some ⟨b4, 0, none⟩))] /\
  S = [[(b5, .cells (rowW (spr bs i)) 352 (0, 0))], F, G, H, [(b2, .cells (rowW s.list) 303 (0, 0))], [(b4, .cells (rowW (List.replicate 8 0)) 303 (0, 0))]]) ?_ ?_
 ·exact ⟨_, _, _, ⟨0, by omega, rfl, rfl, rfl, rfl⟩, by (repeat (first | exact True.intro | (refine And.intro ?_ ?_; (· (try simp only [evT, lookT_hit, lookT_miss, Nat.reduceBEq]); (first | done | exact rfl))))), amA⟩
 ·rintro q D L S ⟨i, hi, rfl, rfl, rfl, rfl⟩
  refine zd fun N5 hN5 => ?_
  refine zd fun N6 hN6 => ?_
  refine zi ?_; (try refine zg ?_)
  refine hN6 _ _ _ ?_; clear hN6
  refine xA (fun hc => ?_) (fun hc => ?_)
  ·have hc := of_decide_eq_true hc
   refine zI ?_
   refine hN5 _ _ _ ?_; clear hN5
   refine zd fun N7 hN7 => ?_
   refine zo ?_
   refine zd fun N8 hN8 => ?_
   refine zd fun N9 hN9 => ?_
   refine zi ?_; (try refine zg ?_)
   refine hN9 _ _ _ ?_; clear hN9
   refine xA (fun hc => ?_) (fun hc => ?_)
   ·have hc := of_decide_eq_true hc
    refine zd fun N10 hN10 => ?_
    refine zi ?_; (try refine zg ?_)
    refine cA (num_spec H _ _ _ _ (by omega) (qi h (l := (4 * (i : Int)).toNat) (h' := (4 * (i : Int) + 4).toNat) (m := cap) (by omega) (by omega) (by omega))) ?_; rintro v A ⟨rfl, rfl⟩
    refine ze fun K hK => ?_
    have e : IntKind.u32.wrap ((num ((bs.drop (4 * (i : Int)).toNat).take ((4 * (i : Int) + 4).toNat - (4 * (i : Int)).toNat)) : Nat) : Int) = (wordAt bs (4 * i)).toNat := by
     rw [show (4 * (i : Int) + 4).toNat - (4 * (i : Int)).toNat = 4 from by omega, show (4 * (i : Int)).toNat = 4 * i from by omega, wrap32_mod, <- num4 bs (4 * i) (by omega)]
     rfl
    rw [e, show Value.int .u32 ((wordAt bs (4 * i)).toNat : Int) = b32 (wordAt bs (4 * i)) from rfl]
    refine hK _ _ ?_; clear hK K
    (try refine Or ?_); (try refine zg ?_)
    have e : (spr bs i).set (0 + i * 1) (wordAt bs (4 * i)) = spr bs (i + 1) := by
     rw [show 0 + i * 1 = i from by omega]
     simp only [spr]; rw [if_pos (by omega)]
    rw [e]
    refine hN10 _ _ _ ?_; clear hN10
    refine zO ?_; try simp only [Cont.then, Cont.block, Cont.noGoto, reduceIte, Nat.reduceEqDiff]
    refine hN7 _ _ _ ?_; clear hN7
    refine zi ?_; (try refine zg ?_)
    exact zA ⟨i + 1, by omega, rfl, rfl, rfl, rfl⟩
   ·have hc := of_decide_eq_false hc
    refine zI ?_
    refine hN8 _ _ _ ?_; clear hN8
    refine zd fun N11 hN11 => ?_
    refine zn [(0, false, []), (1, false, []), (2, false, []), (3, false, []), (5, false, []), (6, false, []), (7, false, []), (8, false, []), (11, false, []), (12, false, []), (13, false, []), (14, false, []), (15, false, []), (4, true, [8, 14]), (9, true, [14]), (10, false, []), (16, false, []), (17, true, [])] ?_
    (try refine zM ?_); (try refine zp ?_)
    refine zh fun K hK => ?_; refine zq (jd _ 7 (by decide)) ?_; rintro v A ⟨rfl, rfl⟩; (try simp only [List.nil_append, List.cons_append]); (repeat refine jt ?_); refine hK _ _ ?_; clear hK K
    (try refine zM ?_); (try refine zp ?_)
    refine zh fun K hK => ?_; refine zq (jd _ 18 (by decide)) ?_; rintro v A ⟨rfl, rfl⟩; (try simp only [List.nil_append, List.cons_append]); (repeat refine jt ?_); refine hK _ _ ?_; clear hK K
    (try refine zM ?_); (try refine zp ?_)
    refine zh fun K hK => ?_; (repeat refine jt ?_); refine hK _ _ ?_; clear hK K
    (try refine xq ?_); (try refine zp ?_)
    refine hN11 _ _ _ ?_; clear hN11
    refine zd fun N12 hN12 => ?_
    refine zn [(0, false, []), (1, false, []), (2, false, []), (3, false, []), (5, false, []), (6, false, []), (7, false, []), (8, false, []), (11, false, []), (12, false, []), (13, false, []), (14, false, []), (15, false, []), (4, true, [8, 14]), (9, true, [14]), (10, false, []), (16, false, []), (17, true, [])] ?_
    (try refine zM ?_); (try refine zp ?_)
    refine zh fun K hK => ?_; refine zq (jd _ 17 (by decide)) ?_; rintro v A ⟨rfl, rfl⟩; (try simp only [List.nil_append, List.cons_append]); (repeat refine jt ?_); refine hK _ _ ?_; clear hK K
    (try refine zM ?_); (try refine zp ?_)
    refine zh fun K hK => ?_; refine zq (jd _ 19 (by decide)) ?_; rintro v A ⟨rfl, rfl⟩; (try simp only [List.nil_append, List.cons_append]); (repeat refine jt ?_); refine hK _ _ ?_; clear hK K
    (try refine zM ?_); (try refine zp ?_)
    refine zh fun K hK => ?_; (repeat refine jt ?_); refine hK _ _ ?_; clear hK K
    (try refine xq ?_); (try refine zp ?_)
    refine hN12 _ _ _ ?_; clear hN12
    refine zn [(0, false, []), (1, false, []), (2, false, []), (3, false, []), (4, false, []), (5, false, []), (6, false, []), (7, false, []), (8, false, []), (9, false, []), (10, false, []), (11, false, []), (12, false, []), (13, false, []), (14, false, []), (15, true, [])] ?_
    (try refine zM ?_); (try refine zp ?_)
    refine zh fun K hK => ?_; (first | ((with_reducible apply vw); (· (repeat (first | with_reducible exact Upd.one | with_reducible apply Upd.next))); (· (first | (rw [ld_len]; omega) | (rw [List.length_replicate]; omega) | (rw [St.list_len]; omega) | (rw [xw]; omega) | (rw [zV]; omega) | (rw [zN _ _ _ (by omega)]; omega)))) | ((with_reducible apply wr); (· (repeat (first | with_reducible exact Upd.one | with_reducible apply Upd.next))); (· (first | (rw [ld_len]; omega) | (rw [List.length_replicate]; omega) | (rw [St.list_len]; omega) | (rw [xw]; omega) | (rw [zV]; omega) | (rw [zN _ _ _ (by omega)]; omega))))); (repeat refine jt ?_); refine hK _ _ ?_; clear hK K
    (try refine xq ?_); (try refine zp ?_)
    rw [show 0 + i * 1 = i from by omega, show 0 + ((i : Int) - 16).toNat * 1 = i - 16 from by omega, show 0 + ((i : Int) - 15).toNat * 1 = i - 15 from by omega, show 0 + ((i : Int) - 7).toNat * 1 = i - 7 from by omega, show 0 + ((i : Int) - 2).toNat * 1 = i - 2 from by omega]
    refine hN7 _ _ _ ?_; clear hN7
    have e : (spr bs i).set i (s1 ((spr bs i).getD (i - 2) 0) + (spr bs i).getD (i - 7) 0 + s0 ((spr bs i).getD (i - 15) 0) + (spr bs i).getD (i - 16) 0) = spr bs (i + 1) := by
     simp only [spr]; rw [if_neg (by omega)]
     congr 1
     simp only [nxt]; ac_rfl
    refine qU (L' := [(6, .int .i64 i), (1, .slice a 64 cap), (5, .pointer (some ⟨b5, 0, none⟩)), (2, .pointer (some ⟨b2, 0, none⟩)), (4, .pointer (some ⟨b4, 0, none⟩))])
     (S' := [[(b5, .cells (rowW ((spr bs i).set i (s1 ((spr bs i).getD (i - 2) 0) + (spr bs i).getD (i - 7) 0 + s0 ((spr bs i).getD (i - 15) 0) + (spr bs i).getD (i - 16) 0))) 352 (0, 0))], F, G, H, [(b2, .cells (rowW s.list) 303 (0, 0))], [(b4, .cells (rowW (List.replicate 8 0)) 303 (0, 0))]]) (by (repeat (first | exact True.intro | (refine And.intro ?_ ?_; (· (try simp only [evT, lookT_hit, lookT_miss, Nat.reduceBEq]); (first | done | exact rfl)))))) amA ?_
    rw [e]
    refine zi ?_; (try refine zg ?_)
    exact zA ⟨i + 1, by omega, rfl, rfl, rfl, rfl⟩
  ·have hc := of_decide_eq_false hc
   refine zO ?_; try simp only [Cont.then, Cont.block, Cont.noGoto, reduceIte, Nat.reduceEqDiff]
   refine hN3 _ _ _ ?_; clear hN3
   obtain rfl : i = 64 := by omega
   refine zd fun N13 hN13 => ?_
   refine xG ?_
   refine ze fun K hK => ?_
   refine jA lkA (St.list_len _) ?_
   refine hK _ _ ?_; clear hK K
   refine ze fun K hK => ?_; refine zv fun b9 => ?_; (try simp only [Value.cells]); refine hK _ _ ?_; clear hK K
   refine ze fun K hK => ?_
   refine jq (l := List.replicate 8 0) (l' := s.list) (by (repeat (first | exact Upd.one | apply Upd.next))) rfl rfl ?_
   refine hK _ _ ?_; clear hK K
   (try refine zz ?_); (try refine zg ?_)
   refine hN13 _ _ _ ?_; clear hN13
   refine zd fun N14 hN14 => ?_
   refine zd fun N15 hN15 => ?_
   refine zi ?_; (try refine zg ?_)
   refine hN15 _ _ _ ?_; clear hN15
   refine zo ?_
   refine zU (fun q D L S => ∃ i : Nat, i <= 64 /\ q = 64 - i /\ D = [] /\ L = [(10, .int .i64 i), (5, .pointer (some ⟨b5, 0, none⟩)), (2, .pointer (some ⟨b2, 0, none⟩)), (4, .pointer (some ⟨b4, 0, none⟩)), (9, .pointer (some ⟨b9, 0, none⟩))] /\
    S = [[(b9, .cells (rowW (qH odd (spr bs 64) i s).list) 303 (0, 0))], [(b5, .cells (rowW (spr bs 64)) 352 (0, 0))], F, G, H, [(b2, .cells (rowW s.list) 303 (0, 0))], [(b4, .cells (rowW (List.replicate 8 0)) 303 (0, 0))]]) ?_ ?_
   ·exact ⟨_, _, _, ⟨0, by omega, rfl, rfl, rfl, rfl⟩, by (repeat (first | exact True.intro | (refine And.intro ?_ ?_; (· (try simp only [evT, lookT_hit, lookT_miss, Nat.reduceBEq]); (first | done | exact rfl))))), amA⟩
   ·rintro q D L S ⟨i, hi, rfl, rfl, rfl, rfl⟩
    refine zd fun N16 hN16 => ?_
    refine zd fun N17 hN17 => ?_
    refine zi ?_; (try refine zg ?_)
    refine hN17 _ _ _ ?_; clear hN17
    refine xA (fun hc => ?_) (fun hc => ?_)
    ·have hc := of_decide_eq_true hc
     refine zI ?_
     refine hN16 _ _ _ ?_; clear hN16
     have hnext : qH odd (spr bs 64) (i + 1) s = turn (odd.getD i 0) ((spr bs 64).getD i 0) (qH odd (spr bs 64) i s) := rfl
     generalize qH odd (spr bs 64) i s = st at hnext ⊢
     refine zd fun N18 hN18 => ?_
     refine zo ?_
     refine zd fun N19 hN19 => ?_
     refine Xu ?_; (try refine zg ?_)
     refine hN19 _ _ _ ?_; clear hN19
     refine zd fun N20 hN20 => ?_
     refine zn [(0, false, []), (1, false, []), (2, false, []), (4, false, []), (7, false, []), (11, false, []), (12, false, []), (13, false, []), (14, false, []), (15, false, []), (16, false, []), (17, false, []), (18, false, []), (19, false, []), (20, false, []), (22, false, []), (23, false, []), (24, false, []), (26, false, []), (27, false, []), (28, false, []), (3, true, [1, 13, 18, 24, 28]), (5, true, [1, 13, 18, 24, 28]), (6, false, []), (8, true, [1, 13, 18, 24, 28]), (9, false, []), (10, false, []), (21, false, []), (25, false, []), (29, false, []), (30, true, [])] ?_
     (try refine zM ?_); (try refine zp ?_)
     refine zh fun K hK => ?_; refine zq (jd _ 6 (by decide)) ?_; rintro v A ⟨rfl, rfl⟩; (try simp only [List.nil_append, List.cons_append]); (repeat refine jt ?_); refine hK _ _ ?_; clear hK K
     (try refine zM ?_); (try refine zp ?_)
     refine zh fun K hK => ?_; refine zq (jd _ 11 (by decide)) ?_; rintro v A ⟨rfl, rfl⟩; (try simp only [List.nil_append, List.cons_append]); (repeat refine jt ?_); refine hK _ _ ?_; clear hK K
     (try refine zM ?_); (try refine zp ?_)
     refine zh fun K hK => ?_; refine zq (jd _ 25 (by decide)) ?_; rintro v A ⟨rfl, rfl⟩; (try simp only [List.nil_append, List.cons_append]); (repeat refine jt ?_); refine hK _ _ ?_; clear hK K
     (try refine zM ?_); (try refine zp ?_)
     refine zh fun K hK => ?_; (repeat refine jt ?_); refine hK _ _ ?_; clear hK K
     (try refine xq ?_); (try refine zp ?_)
     refine hN20 _ _ _ ?_; clear hN20
     refine zd fun N21 hN21 => ?_
     refine Xu ?_; (try refine zg ?_)
     refine hN21 _ _ _ ?_; clear hN21
     refine zd fun N22 hN22 => ?_
     refine zn [(0, false, []), (2, false, []), (5, false, []), (8, false, []), (9, false, []), (10, false, []), (11, false, []), (12, false, []), (13, false, []), (14, false, []), (15, false, []), (16, false, []), (17, false, []), (18, false, []), (19, false, []), (20, false, []), (21, false, []), (22, false, []), (1, true, [10, 14, 18, 20]), (3, true, [10, 14, 18, 20]), (4, false, []), (6, true, [10, 14, 18, 20]), (7, false, []), (23, false, []), (24, true, [])] ?_
     (try refine zM ?_); (try refine zp ?_)
     refine zh fun K hK => ?_; refine zq (jd _ 2 (by decide)) ?_; rintro v A ⟨rfl, rfl⟩; (try simp only [List.nil_append, List.cons_append]); (repeat refine jt ?_); refine hK _ _ ?_; clear hK K
     (try refine zM ?_); (try refine zp ?_)
     refine zh fun K hK => ?_; refine zq (jd _ 13 (by decide)) ?_; rintro v A ⟨rfl, rfl⟩; (try simp only [List.nil_append, List.cons_append]); (repeat refine jt ?_); refine hK _ _ ?_; clear hK K
     (try refine zM ?_); (try refine zp ?_)
     refine zh fun K hK => ?_; refine zq (jd _ 22 (by decide)) ?_; rintro v A ⟨rfl, rfl⟩; (try simp only [List.nil_append, List.cons_append]); (repeat refine jt ?_); refine hK _ _ ?_; clear hK K
     (try refine zM ?_); (try refine zp ?_)
     refine zh fun K hK => ?_; (repeat refine jt ?_); refine hK _ _ ?_; clear hK K
     (try refine xq ?_); (try refine zp ?_)
     refine hN22 _ _ _ ?_; clear hN22
     refine Xu ?_; (try refine zg ?_)
     refine ze fun K hK => ?_
     rw [XZ rfl]
     refine hK _ _ ?_; clear hK K
     refine ze fun K hK => ?_
     rw [show 0 + i * 1 = i from by omega]
     simp only [St.get0, St.get1, St.get2, St.get3, St.get4, St.get5, St.get6, St.get7]
     rw [UQ]
     refine jq (l := st.list) (l' := (turn (odd.getD i 0) ((spr bs 64).getD i 0) st).list) upA (St.list_len _) (St.list_len _) ?_
     refine hK _ _ ?_; clear hK K
     (try refine zz ?_); (try refine zg ?_)
     rw [<- hnext]
     refine hN18 _ _ _ ?_; clear hN18
     refine qU (L' := [(10, .int .i64 i), (5, .pointer (some ⟨b5, 0, none⟩)), (2, .pointer (some ⟨b2, 0, none⟩)), (4, .pointer (some ⟨b4, 0, none⟩)), (9, .pointer (some ⟨b9, 0, none⟩))]) (S' := [[(b9, .cells (rowW (qH odd (spr bs 64) (i + 1) s).list) 303 (0, 0))], [(b5, .cells (rowW (spr bs 64)) 352 (0, 0))], F, G, H, [(b2, .cells (rowW s.list) 303 (0, 0))], [(b4, .cells (rowW (List.replicate 8 0)) 303 (0, 0))]]) (by (repeat (first | exact True.intro | (refine And.intro ?_ ?_; (· (try simp only [evT, lookT_hit, lookT_miss, Nat.reduceBEq]); (first | done | exact rfl)))))) (by (repeat (first | with_reducible exact Among.nil _ | with_reducible exact Pick.head _ _ | with_reducible apply Pick.tail | with_reducible apply Among.cons))) ?_
     refine zi ?_; (try refine zg ?_)
     exact zA ⟨i + 1, by omega, rfl, rfl, rfl, rfl⟩
    ·have hc := of_decide_eq_false hc
     refine zO ?_; try simp only [Cont.then, Cont.block, Cont.noGoto, reduceIte, Nat.reduceEqDiff]
     refine hN14 _ _ _ ?_; clear hN14
     obtain rfl : i = 64 := by omega
     generalize hv : qH odd (spr bs 64) 64 s = v
     refine zd fun N23 hN23 => ?_
     refine zd fun N24 hN24 => ?_
     refine zi ?_; (try refine zg ?_)
     refine hN24 _ _ _ ?_; clear hN24
     refine zo ?_
     refine zU (fun q D L S => ∃ i : Nat, i <= 8 /\ q = 8 - i /\ D = [] /\ L = [(165, .int .i64 i), (2, .pointer (some ⟨b2, 0, none⟩)), (4, .pointer (some ⟨b4, 0, none⟩)), (9, .pointer (some ⟨b9, 0, none⟩))] /\
      S = [[(b2, .cells (rowW (mix s v i)) 303 (0, 0))], [(b9, .cells (rowW v.list) 303 (0, 0))], F, G, H, [(b4, .cells (rowW (List.replicate 8 0)) 303 (0, 0))]]) ?_ ?_
     ·exact ⟨_, _, _, ⟨0, by omega, rfl, rfl, rfl, rfl⟩, by (repeat (first | exact True.intro | (refine And.intro ?_ ?_; (· (try simp only [evT, lookT_hit, lookT_miss, Nat.reduceBEq]); (first | done | exact rfl))))), amA⟩
     ·rintro q D L S ⟨i, hi, rfl, rfl, rfl, rfl⟩
      refine zd fun N25 hN25 => ?_
      refine zi ?_; (try refine zg ?_)
      refine hN25 _ _ _ ?_; clear hN25
      refine zd fun N26 hN26 => ?_
      refine xA (fun hc => ?_) (fun hc => ?_)
      ·have hc := of_decide_eq_true hc
       refine zI ?_
       refine hN26 _ _ _ ?_; clear hN26
       refine zd fun N27 hN27 => ?_
       refine zo ?_
       refine zd fun N28 hN28 => ?_
       refine zi ?_; (try refine zg ?_)
       refine hN28 _ _ _ ?_; clear hN28
       refine zn [(0, false, []), (1, false, []), (2, false, []), (3, false, []), (4, false, []), (5, false, []), (6, false, []), (7, false, []), (8, true, [])] ?_
       (try refine zM ?_); (try refine zp ?_)
       refine zh fun K hK => ?_; (first | ((with_reducible apply vw); (· (repeat (first | with_reducible exact Upd.one | with_reducible apply Upd.next))); (· (first | (rw [ld_len]; omega) | (rw [List.length_replicate]; omega) | (rw [St.list_len]; omega) | (rw [xw]; omega) | (rw [zV]; omega) | (rw [zN _ _ _ (by omega)]; omega)))) | ((with_reducible apply wr); (· (repeat (first | with_reducible exact Upd.one | with_reducible apply Upd.next))); (· (first | (rw [ld_len]; omega) | (rw [List.length_replicate]; omega) | (rw [St.list_len]; omega) | (rw [xw]; omega) | (rw [zV]; omega) | (rw [zN _ _ _ (by omega)]; omega))))); (repeat refine jt ?_); refine hK _ _ ?_; clear hK K
       (try refine xq ?_); (try refine zp ?_)
       rw [show 0 + i * 1 = i from by omega, WF s v i (by omega)]
       refine hN27 _ _ _ ?_; clear hN27
       refine zi ?_; (try refine zg ?_)
       exact zA ⟨i + 1, by omega, rfl, rfl, rfl, rfl⟩
      ·have hc := of_decide_eq_false hc
       refine zO ?_; try simp only [Cont.then, Cont.block, Cont.noGoto, reduceIte, Nat.reduceEqDiff]
       refine hN23 _ _ _ ?_; clear hN23
       obtain rfl : i = 8 := by omega
       subst hv
       refine zd fun N29 hN29 => ?_
       refine xG ?_
       refine ze fun K hK => ?_
       refine jA lkA (zN _ _ _ (by omega)) ?_
       refine hK _ _ ?_; clear hK K
       refine ze fun K hK => ?_
       refine jq (l := List.replicate 8 0) (l' := mix s (qH odd (spr bs 64) 64 s) 8) upA List.length_replicate (zN _ _ _ (by omega)) ?_
       refine hK _ _ ?_; clear hK K
       (try refine zz ?_); (try refine zg ?_)
       refine hN29 _ _ _ ?_; clear hN29
       refine zL ?_
       refine ⟨_, by simp only [xQ, List.map_cons, List.map_nil]; (repeat (first | with_reducible exact Take.nil _ | with_reducible exact Pick.head _ _ | with_reducible apply Pick.tail | with_reducible apply Take.cons)), ?_⟩; simp only [resW, withV, lookT_hit, lookT_miss, Nat.reduceBEq]; refine jA lkA (zN _ _ _ (by omega)) ?_; exact ⟨[G, H], ⟨rfl, rfl⟩, amA⟩
theorem XP : Meets Tryz.prog 168 [] [] fun v A => v = .agg (rowW first.list) /\ A = [] := by
 refine eN Tryz.func168 Tryz.ntmps168 Tryz.results168 fun F => ?_
 refine zd fun N1 hN1 => ?_
 refine zi ?_; (try refine zg ?_)
 refine ze fun K hK => ?_; refine zv fun b0 => ?_; (try simp only [Value.cells]); refine hK _ _ ?_; clear hK K
 (try refine zz ?_); (try refine zg ?_)
 refine hN1 _ _ _ ?_; clear hN1
 refine zd fun N2 hN2 => ?_
 refine zi ?_; (try refine zg ?_)
 refine ze fun K hK => ?_
 refine (XZ (κ := _) (a := 1779033703) (b := 3144134277) (c := 1013904242) (d := 2773480762) (e' := 1359893119) (f := 2600822924) (g := 528734635) (h' := 1541459225) rfl).mpr ?_
 refine hK _ _ ?_; clear hK K
 refine ze fun K hK => ?_
 refine jq (l := List.replicate 8 0) (l' := first.list) (by (repeat (first | exact Upd.one | apply Upd.next))) List.length_replicate (St.list_len _) ?_
 refine hK _ _ ?_; clear hK K
 (try refine zz ?_); (try refine zg ?_)
 refine hN2 _ _ _ ?_; clear hN2
 refine zL ?_
 refine ⟨_, by simp only [xQ, List.map_cons, List.map_nil]; (repeat (first | with_reducible exact Take.nil _ | with_reducible exact Pick.head _ _ | with_reducible apply Pick.tail | with_reducible apply Take.cons)), ?_⟩; simp only [resW, withV, lookT_hit, lookT_miss, Nat.reduceBEq]; refine jA lkA (St.list_len _) ?_; exact ⟨[], ⟨rfl, rfl⟩, amA⟩
theorem go_spec {tg : TypeId} (G H : Chunk) (m : Nat × Nat) (hG : (4, Obj.cells (rowW odd) tg m) ∈ G) (s : St) (a : Option Addr) (cap : Nat) (bs : List UInt8) (hb : bs.length <= 70368744177664) (hcap : bs.length <= cap) (h : Rd 1 [H] a bs.length (bs.map b8)) :
  Meets Tryz.prog 167 [.agg (rowW s.list), .slice a bs.length cap] [G, H]
   fun v A => ∃ a' c', v = .tuple #[.agg (rowW (whole s bs).list), .slice a' (bs.drop (64 * (bs.length / 64))).length c'] /\ Rd 1 [H] a' (bs.drop (64 * (bs.length / 64))).length ((bs.drop (64 * (bs.length / 64))).map b8) /\ A = [G, H] := by
 refine eN Tryz.func167 Tryz.ntmps167 Tryz.results167 fun F => ?_
 refine zd fun N1 hN1 => ?_
 refine zi ?_; (try refine zg ?_)
 refine ze fun K hK => ?_
 refine wH fun b2 => ?_; rw [show (Value.agg (rowW s.list)).cells = rowW s.list from rfl]; refine hK _ _ ?_; clear hK K
 (try refine zz ?_); (try refine zg ?_)
 refine ze fun K hK => ?_; refine zv fun b4 => ?_; (try simp only [Value.cells]); refine hK _ _ ?_; clear hK K
 (try refine zz ?_); (try refine zg ?_)
 refine hN1 _ _ _ ?_; clear hN1
 refine zd fun N2 hN2 => ?_
 refine zo ?_
 refine zU (fun q D L S => ∃ (i : Nat) (a' : Option Addr) (c' : Nat), 64 * i <= bs.length /\ (bs.drop (64 * i)).length <= c' /\ Rd 1 [H] a' (bs.drop (64 * i)).length ((bs.drop (64 * i)).map b8) /\ q = bs.length - 64 * i /\ D = [] /\ L = [(1, .slice a' (bs.drop (64 * i)).length c'), (2, .pointer (some ⟨b2, 0, none⟩)), (4, .pointer (some ⟨b4, 0, none⟩))] /\
  S = [F, G, H, [(b2, .cells (rowW (run i s bs).list) 303 (0, 0))], [(b4, .cells (rowW (List.replicate 8 0)) 303 (0, 0))]]) ?_ ?_
 ·exact ⟨_, _, _, ⟨0, a, cap, by omega, hcap, h, rfl, rfl, rfl, rfl⟩, by (repeat (first | exact True.intro | (refine And.intro ?_ ?_; (· (try simp only [evT, lookT_hit, lookT_miss, Nat.reduceBEq]); (first | done | exact rfl))))), amA⟩
 ·rintro q D L S ⟨i, a', c', hi, hc', hr, rfl, rfl, rfl, rfl⟩
  have hdl : (bs.drop (64 * i)).length = bs.length - 64 * i := List.length_drop
  refine zd fun N3 hN3 => ?_
  refine zd fun N4 hN4 => ?_
  refine zi ?_; (try refine zg ?_)
  refine hN4 _ _ _ ?_; clear hN4
  refine xA (fun hc => ?_) (fun hc => ?_)
  ·have hc := of_decide_eq_true hc
   refine zI ?_
   refine hN3 _ _ _ ?_; clear hN3
   refine zo ?_
   have hcut : Rd 1 [H] (cutA 1 a' 0 c') 64 (((bs.drop (64 * i)).take 64).map b8) := qi hr (l := 0) (h' := 64) (m := c') (by omega) (by omega) (by omega)
   have e64 : (bs.drop (64 * i)).length - 64 = (bs.drop (64 * (i + 1))).length := by
    rw [List.length_drop, List.length_drop]; show bs.length - 64 * i - 64 = _; omega
   have hr2 : Rd 1 [H] (cutA 1 a' 64 c') (bs.drop (64 * (i + 1))).length ((bs.drop (64 * (i + 1))).map b8) := by
    have q := qi hr (l := 64) (h' := (bs.drop (64 * i)).length) (m := c') (by omega) (Nat.le_refl _) hc'
    rw [List.drop_drop, show 64 * i + 64 = 64 * (i + 1) from by omega, List.take_of_length_le (by rw [List.length_drop]; omega)] at q
    rw [<- e64]; exact q
   have hc2 : (bs.drop (64 * (i + 1))).length <= c' - 64 := by
    rw [List.length_drop]; show _ <= c' - 64; omega
   refine zn [(0, false, []), (1, false, []), (2, false, []), (4, false, []), (5, false, []), (3, true, []), (6, true, []), (7, true, [])] ?_
   refine qO fun K hK => ?_; refine jA lkA (St.list_len _) ?_; (with_reducible refine hK _ _ ?_); clear hK K
   (try refine xq ?_); (try refine zp ?_)
   refine jC (by simp only [List.getElem?_toArray, List.getElem?_cons_succ, List.getElem?_cons_zero]; rfl) fun K hK => ?_; (try simp only [gos, gob, Nat.reduceBEq, if_true, reduceIte, reduceCtorEq, Nat.reduceLT, Nat.reduceEqDiff, Nat.reduceAdd, Nat.reduceSub, Int.reduceLT, Int.reduceLE, Int.reduceBEq, Int.reduceBNe, Int.reduceToNat, Int.reduceAdd, Int.reduceSub, Int.reduceMul, Int.reduceDiv, Int.reduceMod, Int.reducePow, Int.toNat_natCast, Nat.sub_zero, goq]); (try (simp (disch := omega) only [gow, gobw]; try simp only [gos, gob, Nat.reduceBEq, if_true, reduceIte, reduceCtorEq, Nat.reduceLT, Nat.reduceEqDiff, Nat.reduceAdd, Nat.reduceSub, Int.reduceLT, Int.reduceLE, Int.reduceBEq, Int.reduceBNe, Int.reduceToNat, Int.reduceAdd, Int.reduceSub, Int.reduceMul, Int.reduceDiv, Int.reduceMod, Int.reducePow, Int.toNat_natCast, Nat.sub_zero, goq])); refine xl (Jz G H m hG (run i s bs) (cutA 1 a' 0 c') (c' - 0) (by omega) ((bs.drop (64 * i)).take 64) (by rw [List.length_take]; omega) hcut) tkA ?_; rintro v A ⟨rfl, rfl⟩; (try simp only [List.nil_append, List.cons_append]); refine hK _ _ ?_; clear hK K
   rw [<- kN]
   (try refine xq ?_); (try refine zp ?_)
   refine jC (by simp only [List.getElem?_toArray, List.getElem?_cons_succ, List.getElem?_cons_zero]; rfl) fun K hK => ?_; (try simp only [gos, gob, Nat.reduceBEq, if_true, reduceIte, reduceCtorEq, Nat.reduceLT, Nat.reduceEqDiff, Nat.reduceAdd, Nat.reduceSub, Int.reduceLT, Int.reduceLE, Int.reduceBEq, Int.reduceBNe, Int.reduceToNat, Int.reduceAdd, Int.reduceSub, Int.reduceMul, Int.reduceDiv, Int.reduceMod, Int.reducePow, Int.toNat_natCast, Nat.sub_zero, goq]); (try (simp (disch := omega) only [gow, gobw]; try simp only [gos, gob, Nat.reduceBEq, if_true, reduceIte, reduceCtorEq, Nat.reduceLT, Nat.reduceEqDiff, Nat.reduceAdd, Nat.reduceSub, Int.reduceLT, Int.reduceLE, Int.reduceBEq, Int.reduceBNe, Int.reduceToNat, Int.reduceAdd, Int.reduceSub, Int.reduceMul, Int.reduceDiv, Int.reduceMod, Int.reducePow, Int.toNat_natCast, Nat.sub_zero, goq])); refine jq (l := (run i s bs).list) (l' := (run (i + 1) s bs).list) upA (St.list_len _) (St.list_len _) ?_; refine hK _ _ ?_; clear hK K
   (try refine xq ?_); (try refine zp ?_)
   refine zh fun K hK => ?_; refine pBk hK ?_; clear hK K
   (try refine xq ?_); (try refine zp ?_)
   rw [e64]
   exact zA ⟨i + 1, _, _, by omega, hc2, hr2, rfl, rfl, rfl, rfl⟩
  ·have hc := of_decide_eq_false hc
   refine zO ?_; try simp only [Cont.then, Cont.block, Cont.noGoto, reduceIte, Nat.reduceEqDiff]
   refine hN2 _ _ _ ?_; clear hN2
   have hi2 : i = bs.length / 64 := by omega
   subst hi2
   refine zd fun N5 hN5 => ?_
   refine xG ?_
   refine ze fun K hK => ?_
   refine jA lkA (St.list_len _) ?_
   refine hK _ _ ?_; clear hK K
   (try refine zz ?_); (try refine zg ?_)
   refine ze fun K hK => ?_
   refine jq (l := List.replicate 8 0) (l' := (run (bs.length / 64) s bs).list) upA List.length_replicate (St.list_len _) ?_
   refine hK _ _ ?_; clear hK K
   (try refine zz ?_); (try refine zg ?_)
   refine hN5 _ _ _ ?_; clear hN5
   refine zL ?_
   refine ⟨_, by simp only [xQ, List.map_cons, List.map_nil]; (repeat (first | with_reducible exact Take.nil _ | with_reducible exact Pick.head _ _ | with_reducible apply Pick.tail | with_reducible apply Take.cons)), ?_⟩; simp only [resW, withV, lookT_hit, lookT_miss, Nat.reduceBEq]; refine jA lkA (St.list_len _) ?_; exact ⟨[G, H], ⟨a', c', rfl, hr, rfl⟩, amA⟩
end Go.Proofs.YtebikhhoppiapaaGreatDoor
namespace Go.Proofs.YtebikhhoppiapaaGreatDoor
open Go Go.Ost
instance iBB_1 : TUns Tryz.prog 358 := ⟨by kernel_rfl⟩
instance iBB_2 : TLies Tryz.prog 272 := ⟨⟨_, rfl, by kernel_rfl, by kernel_rfl⟩⟩
abbrev bdB (b : Nat) (p : Option Addr) (a : Option Addr) (n cap : Nat) : Chunk := [(b, .cells #[.pointer p, .slice a n cap] 272 (0, 0))]
structure Bd (b : Nat) (l : List UInt8) (p a : Option Addr) (cap : Nat) (X : Chunk) : Prop where
 ptr : p = none ∨ p = some ⟨b, 0, none⟩
 row : cap ≠ 0 ∨ a = none
 own : Own8 5 X a l.length cap l
theorem Bd.new (b : Nat) : Bd b [] none none 0 [] := ⟨.inl rfl, .inr rfl, own_nil⟩
theorem ZW (b n cap : Nat) (p a : Option Addr) (hp : p = none ∨ p = some ⟨b, 0, none⟩) : Meets Tryz.prog 201 [.pointer (some ⟨b, 0, none⟩)] [bdB b p a n cap] fun v A => v = .tuple #[] /\ A = [bdB b (some ⟨b, 0, none⟩) a n cap] := by
 refine eN Tryz.func201 Tryz.ntmps201 Tryz.results201 fun F => ?_
 refine gg ?_
 rcases hp with rfl | rfl
 ·refine gg ?_
  refine ze fun K hK => ?_; refine US (u := 272) lkA ?_; refine hK _ _ ?_; clear hK K
  refine ze fun K hK => ?_; refine wP Tryz.func237 (by kernel_rfl) (by kernel_rfl) (by kernel_rfl) (e := Extern.AbiNoEscape.same) (by kernel_rfl) ?_
  refine ⟨fun w hw => ⟨_, w, _, Lib.run_noEscape w _, Ext.refl w, hw, ?_⟩⟩; refine hK _ _ ?_; clear hK K
  refine ze fun K hK => ?_; refine Kf (u := 272) lkA ?_; refine hK _ _ ?_; clear hK K
  refine gg ?_
  refine zJ [bdB b (some ⟨b, 0, none⟩) a n cap] ⟨rfl, rfl⟩
 ·refine gg ?_
  refine ze fun K hK => ?_; rw [JE]; refine hK _ _ ?_; clear hK K
  refine gg ?_
  refine zJ [bdB b (some ⟨b, 0, none⟩) a n cap] ⟨rfl, rfl⟩
theorem xR {b cap : Nat} {p a : Option Addr} {X : Chunk} {l : List UInt8} (h : Bd b l p a cap X) (hl : l.length <= 900000) (c : UInt8) :
  Meets Tryz.prog 154 [.pointer (some ⟨b, 0, none⟩), b8 c] [bdB b p a l.length cap, X] fun v A => v = .nilIface /\ ∃ p' a' cap' X', Bd b (l ++ [c]) p' a' cap' X' /\ A = [bdB b p' a' (l ++ [c]).length cap', X'] := by
 obtain ⟨hp, hr, hX⟩ := h
 refine eN Tryz.func154 Tryz.ntmps154 Tryz.results154 fun F => ?_
 refine gg ?_
 refine cA (ZW b l.length cap p a hp) ?_; rintro v A ⟨rfl, rfl⟩; refine gA ?_
 refine ze fun K hK => ?_; refine zR ([c]) (by decide) rfl (rfl) (fun b7 C7 ho7 => ?_); refine hK _ _ ?_; clear hK K
 refine gg ?_
 refine ze fun K hK => ?_; refine app8 (hX) pkA ((ho7.rd (List.mem_cons_self ..)).mem mmA) (by omega) (fun C9 a9 cap9 ho9 => ?_); refine hK _ _ ?_; clear hK K
 refine gg ?_
 have e : l.length + 1 = (l ++ [c]).length := by simp
 rw [e] at ho9 ⊢
 have hle := ho9.1
 refine zb [bdB b (some ⟨b, 0, none⟩) a9 (l ++ [c]).length cap9, C9] ⟨rfl, _, a9, cap9, C9, ⟨.inr rfl, .inl (by rw [<- e] at hle; omega), ho9⟩, rfl⟩
theorem vJ {b cap : Nat} {p a : Option Addr} {X : Chunk} {l : List UInt8} (h : Bd b l p a cap X) (hl : l.length <= 900000) :
  Meets Tryz.prog 150 [.pointer (some ⟨b, 0, none⟩)] [bdB b p a l.length cap, X] fun v A => v = .string (str l) /\ A = [] := by
 obtain ⟨hp, hr, hX⟩ := h
 refine eN Tryz.func150 Tryz.ntmps150 Tryz.results150 fun F => ?_
 refine gg ?_
 refine zn [(0, false, []), (1, false, []), (2, false, []), (3, false, []), (5, false, []), (6, false, []), (7, false, []), (8, false, []), (9, false, []), (4, true, [8, 9]), (10, true, []), (11, true, [])] ?_
 refine gg ?_
 refine zh fun K hK => ?_; refine Yx hr ?_; refine pBk hK ?_; clear hK K
 refine gg ?_
 by_cases h0 : l = []
 ·subst h0
  refine zh fun K hK => ?_; refine QN ?_; refine pBk hK ?_; clear hK K
  refine gg ?_
  refine zb [] ?_; exact ⟨rfl, rfl⟩
 ·refine zh fun K hK => ?_; refine Ym (e := 5) hX pkA h0 (by omega) ?_; refine pBk hK ?_; clear hK K
  refine gg ?_
  refine zb [] ?_; exact ⟨rfl, rfl⟩
open Go.Sha
theorem xU (n k : Nat) (hn : n < 18446744073709551616) (hk : k <= 1000) : Meets Tryz.prog 53 [.int .u64 n, .int .i64 k] [] (New8 5 (be k n) []) := by
 refine eN Tryz.func53 Tryz.ntmps53 Tryz.results53 fun F => ?_
 refine zd fun N1 hN1 => ?_
 refine zi ?_; (try refine zg ?_)
 refine hN1 _ _ _ ?_; clear hN1
 refine zd fun N2 hN2 => ?_
 refine zi ?_; (try refine zg ?_)
 refine ze fun K hK => ?_
 refine Ik (by omega) (fun b1 C1 ho1 => ?_)
 refine hK _ _ ?_; clear hK K
 (try refine zz ?_); (try refine zg ?_)
 refine hN2 _ _ _ ?_; clear hN2
 refine zd fun N3 hN3 => ?_
 refine zd fun N4 hN4 => ?_
 refine zi ?_; (try refine zg ?_)
 refine hN4 _ _ _ ?_; clear hN4
 refine zo ?_
 refine zU (fun q D L S => ∃ (i : Nat) (C : Chunk) (j : Int) (v : Nat), i <= k /\ j = (k : Int) - 1 - i /\ v = n / 256 ^ i /\ Own8 5 C (some ⟨b1, 0, none⟩) k k (List.replicate (k - i) 0 ++ (be k n).drop (k - i)) /\ q = k - i /\ D = [] /\ L = [(6, .int .i64 j), (0, .int .u64 (v : Int)), (5, .slice (some ⟨b1, 0, none⟩) k k)] /\ S = [C, F]) ?_ ?_
 ·refine ⟨_, _, _, ⟨0, C1, (k : Int) - 1, n, by omega, by omega, by simp, ?_, rfl, rfl, rfl, rfl⟩, by (repeat (first | exact True.intro | (refine And.intro ?_ ?_; (· (try simp only [evT, lookT_hit, lookT_miss, Nat.reduceBEq]); (first | done | exact rfl))))), amA⟩
  rw [Nat.sub_zero, List.drop_of_length_le (by rw [xZ]; omega), List.append_nil]
  exact ho1
 ·rintro q D L S ⟨i, C, j, v, hi, hj, hv, ho, rfl, rfl, rfl, rfl⟩
  have hvn : v <= n := by rw [hv]; exact Nat.div_le_self _ _
  refine zd fun N5 hN5 => ?_
  refine zd fun N6 hN6 => ?_
  refine zi ?_; (try refine zg ?_)
  refine hN6 _ _ _ ?_; clear hN6
  refine xA (fun hc => ?_) (fun hc => ?_)
  ·have hc := of_decide_eq_true hc
   refine zI ?_
   refine hN5 _ _ _ ?_; clear hN5
   refine zd fun N7 hN7 => ?_
   refine zo ?_
   refine zd fun N8 hN8 => ?_
   refine zi ?_; (try refine zg ?_)
   have e1 : Value.int .u8 ((v : Int) % 256) = b8 (UInt8.ofNat (n / 256 ^ i % 256)) := by
    simp only [b8, <- hv, UInt8.toNat_ofNat']; congr 1; omega
   have e2 : (⟨b1, 0 + j.toNat * 1, none⟩ : Addr) = elA (some ⟨b1, 0, none⟩) (k - 1 - i) := by
    simp only [elA, Option.getD_some, add_mk]; congr 1; omega
   refine ze fun K hK => ?_
   rw [e1, e2]
   refine jX ho pkA (by simp [xZ]; omega) (fun C2 ho2 => ?_)
   rw [be_back k n i (by omega)] at ho2
   refine hK _ _ ?_; clear hK K
   (try refine zz ?_); (try refine zg ?_)
   refine hN8 _ _ _ ?_; clear hN8
   refine zi ?_; (try refine zg ?_)
   refine hN7 _ _ _ ?_; clear hN7
   refine zi ?_; (try refine zg ?_)
   have hv2 : v / 256 = n / 256 ^ (i + 1) := by rw [hv, Nat.div_div_eq_div_mul, Nat.pow_succ]
   rw [show ((v : Int) / 256) = ((v / 256 : Nat) : Int) from by omega]
   exact zA ⟨i + 1, C2, j - 1, v / 256, by omega, by omega, hv2, ho2, rfl, rfl, rfl, rfl⟩
  ·have hc := of_decide_eq_false hc
   refine zO ?_; try simp only [Cont.then, Cont.block, Cont.noGoto, reduceIte, Nat.reduceEqDiff]
   refine hN3 _ _ _ ?_; clear hN3
   have e : List.replicate (k - i) 0 ++ (be k n).drop (k - i) = be k n := by rw [show k - i = 0 from by omega]; rfl
   rw [e] at ho
   refine zd fun N9 hN9 => ?_
   refine zi ?_; (try refine zg ?_)
   refine hN9 _ _ _ ?_; clear hN9
   refine zL ?_
   have e2 := xZ k n
   refine km [C] (by (try simp only [evT, lookT_hit, lookT_miss, Nat.reduceBEq]); (first | done | exact rfl)) ⟨C, some ⟨b1, 0, none⟩, k, ?_, ?_, rfl⟩ amA
   ·rw [e2]
   ·rw [e2]; exact ho
theorem qh (H : Chunk) (a : Option Addr) (cap : Nat) (bs : List UInt8) (hb : bs.length <= 1000000) (h : Rd 1 [H] a bs.length (bs.map b8)) :
  Meets Tryz.prog 52 [.slice a bs.length cap] [H] fun v A => v = .string (str (hex bs)) /\ A = [H] := by
 refine eN Tryz.func52 Tryz.ntmps52 Tryz.results52 fun F => ?_
 refine zd fun N1 hN1 => ?_
 refine zi ?_; (try refine zg ?_)
 refine hN1 _ _ _ ?_; clear hN1
 refine zd fun N2 hN2 => ?_
 refine zi ?_; (try refine zg ?_)
 refine hN2 _ _ _ ?_; clear hN2
 refine zd fun N3 hN3 => ?_
 refine zd fun N4 hN4 => ?_
 refine zi ?_; (try refine zg ?_)
 refine hN4 _ _ _ ?_; clear hN4
 refine zo ?_
 refine zU (fun q D L S => ∃ i : Nat, i <= bs.length /\ q = bs.length - i /\ D = [] /\ L = [(8, .int .i64 i), (7, .int .i64 bs.length), (6, .slice a bs.length cap), (3, .string (str (hex (bs.take i))))] /\ S = [F, H]) ?_ ?_
 ·exact ⟨_, _, _, ⟨0, by omega, rfl, rfl, rfl, rfl⟩, by (repeat (first | exact True.intro | (refine And.intro ?_ ?_; (· (try simp only [evT, lookT_hit, lookT_miss, Nat.reduceBEq]); (first | done | exact rfl))))), amA⟩
 ·rintro q D L S ⟨i, hi, rfl, rfl, rfl, rfl⟩
  refine zd fun N5 hN5 => ?_
  refine zi ?_; (try refine zg ?_)
  refine hN5 _ _ _ ?_; clear hN5
  refine zd fun N6 hN6 => ?_
  refine xA (fun hc => ?_) (fun hc => ?_)
  ·have hc := of_decide_eq_true hc
   refine zI ?_
   refine hN6 _ _ _ ?_; clear hN6
   refine zd fun N7 hN7 => ?_
   refine zo ?_
   refine zd fun N8 hN8 => ?_
   refine xG ?_; (repeat ((with_reducible refine xT fun K hK => ?_); (try simp only [gos, gob, Nat.reduceBEq, if_true, reduceIte, reduceCtorEq, Nat.reduceLT, Nat.reduceEqDiff, Nat.reduceAdd, Nat.reduceSub, Int.reduceLT, Int.reduceLE, Int.reduceBEq, Int.reduceBNe, Int.reduceToNat, Int.reduceAdd, Int.reduceSub, Int.reduceMul, Int.reduceDiv, Int.reduceMod, Int.reducePow, Int.toNat_natCast, Nat.sub_zero]); (try (simp (disch := omega) only [gow, gobw, kY (h.next F)]; try simp only [gos, gob, Nat.reduceBEq, if_true, reduceIte, reduceCtorEq, Nat.reduceLT, Nat.reduceEqDiff, Nat.reduceAdd, Nat.reduceSub, Int.reduceLT, Int.reduceLE, Int.reduceBEq, Int.reduceBNe, Int.reduceToNat, Int.reduceAdd, Int.reduceSub, Int.reduceMul, Int.reduceDiv, Int.reduceMod, Int.reducePow, Int.toNat_natCast, Nat.sub_zero])); (first | (with_reducible refine hK _ _ ?_) | (refine wV (h.next F) (by omega) ?_; (with_reducible refine hK _ _ ?_)) | ((with_reducible apply xo); (· (repeat (first | with_reducible exact Lies.one | with_reducible apply Lies.next))); (with_reducible refine hK _ _ ?_)) | ((with_reducible apply zD); (· (repeat (first | with_reducible exact Lies.one | with_reducible apply Lies.next))); (· exact rfl); (with_reducible refine hK _ _ ?_))); clear hK K)); try ((with_reducible refine vy ?_); try simp only [Cont.then, Cont.block, Cont.noGoto, reduceIte, Nat.reduceEqDiff])
   refine hN8 _ _ _ ?_; clear hN8
   rw [show b8 (bs.getD i 0) = .int .u8 (bs.getD i 0).toNat from rfl]
   have hx := (bs.getD i 0).toNat_lt
   refine zn [(0, false, []), (1, false, []), (2, false, []), (3, false, []), (4, false, []), (5, false, []), (6, false, []), (7, false, []), (8, false, []), (9, false, []), (10, false, []), (11, false, []), (12, false, []), (13, false, []), (14, false, []), (15, true, [])] ?_
   (try refine xq ?_); (try refine zp ?_)
   refine qO fun K hK => ?_
   rw [show Value.string ⟨#[48, 49, 50, 51, 52, 53, 54, 55, 56, 57, 97, 98, 99, 100, 101, 102]⟩ = .string (str digits) from rfl]
   rw [QX (by omega) (by omega) (by show _ <= (16 : Int); omega), show ((((bs.getD i 0).toNat : Int) / 16 + 1).toNat - (((bs.getD i 0).toNat : Int) / 16).toNat) = 1 from by omega, show (((bs.getD i 0).toNat : Int) / 16).toNat = (bs.getD i 0).toNat / 16 from by omega, dig1 _ (by omega)]
   (with_reducible refine hK _ _ ?_); clear hK K
   (try refine xq ?_); (try refine zp ?_)
   refine qO fun K hK => ?_
   rw [show Value.string ⟨#[48, 49, 50, 51, 52, 53, 54, 55, 56, 57, 97, 98, 99, 100, 101, 102]⟩ = .string (str digits) from rfl]
   rw [QX (by omega) (by omega) (by show _ <= (16 : Int); omega), show ((((bs.getD i 0).toNat : Int) % 16 + 1).toNat - (((bs.getD i 0).toNat : Int) % 16).toNat) = 1 from by omega, show (((bs.getD i 0).toNat : Int) % 16).toNat = (bs.getD i 0).toNat % 16 from by omega, dig1 _ (by omega)]
   (with_reducible refine hK _ _ ?_); clear hK K
   refine qO fun K hK => ?_
   rw [zF (by simp)]
   (with_reducible refine hK _ _ ?_); clear hK K
   refine qO fun K hK => ?_
   rw [zF (by rw [hex_len, List.length_take]; simp; omega)]
   (with_reducible refine hK _ _ ?_); clear hK K
   (try refine xq ?_); (try refine zp ?_)
   refine zh fun K hK => ?_; refine pBk hK ?_; clear hK K
   (try refine xq ?_); (try refine zp ?_)
   rw [show hex (bs.take i) ++ [digits.getD ((bs.getD i 0).toNat / 16) 0, digits.getD ((bs.getD i 0).toNat % 16) 0] = hex (bs.take (i + 1)) from by rw [WT bs i (by omega)]; rfl]
   refine hN7 _ _ _ ?_; clear hN7
   refine zi ?_; (try refine zg ?_)
   exact zA ⟨i + 1, by omega, rfl, rfl, rfl, rfl⟩
  ·have hc := of_decide_eq_false hc
   refine zO ?_; try simp only [Cont.then, Cont.block, Cont.noGoto, reduceIte, Nat.reduceEqDiff]
   refine hN3 _ _ _ ?_; clear hN3
   obtain rfl : i = bs.length := by omega
   rw [List.take_length]
   refine zd fun N9 hN9 => ?_
   refine zi ?_; (try refine zg ?_)
   refine hN9 _ _ _ ?_; clear hN9
   refine zL ?_
   refine zb [H] ?_; exact ⟨rfl, rfl⟩
theorem wm (H : Chunk) (a : Option Addr) (cap : Nat) (bs : List UInt8) (hb : bs.length <= 100000) (h : Rd 1 [H] a bs.length (bs.map b8)) :
  Meets Tryz.prog 105 [.slice a bs.length cap] [H] fun v A => v = .string (str (hex bs)) /\ A = [H] := by
 refine eN Tryz.func105 Tryz.ntmps105 Tryz.results105 fun F => ?_
 refine gg ?_
 refine ze fun K hK => ?_; refine zv fun b3 => ?_; (try simp only [Value.cells]); refine hK _ _ ?_; clear hK K
 refine gg ?_
 refine zE ?_
 refine zB (fun q D L S => ∃ (i : Nat) (p a' : Option Addr) (cap' : Nat) (X : Chunk), i <= bs.length /\ Bd b3 (hex (bs.take i)) p a' cap' X /\ q = bs.length - i /\ D = [] /\
  L = [(8, .int .i64 i), (7, .int .i64 bs.length), (6, .slice a bs.length cap), (3, .pointer (some ⟨b3, 0, none⟩))] /\ S = [bdB b3 p a' (hex (bs.take i)).length cap', X, F, H])
  ⟨0, none, none, 0, [], by omega, Bd.new b3, rfl, rfl, rfl, rfl⟩ ?_
 rintro q D L S ⟨i, p, a', cap', X, hi, hB, rfl, rfl, rfl, rfl⟩
 have hel := hex_len (bs.take i)
 rw [List.length_take] at hel
 refine gg ?_
 refine if_d (fun hc => ?_) (fun hc => ?_)
 ·have hil : i < bs.length := by omega
  have hnx := WT bs i hil
  have hx := (bs.getD i 0).toNat_lt
  refine gg ?_
  refine ze fun K hK => ?_
  rw [show Value.string ⟨#[48, 49, 50, 51, 52, 53, 54, 55, 56, 57, 97, 98, 99, 100, 101, 102]⟩ = .string (str digits) from rfl]
  rw [sidx (by omega) (by show _ < (16 : Int); omega), show (((bs.getD i 0).toNat / 16 : Nat) : Int).toNat = (bs.getD i 0).toNat / 16 from by omega]
  refine hK _ _ ?_; clear hK K
  refine cA (xR hB (by omega) (digits.getD ((bs.getD i 0).toNat / 16) 0)) ?_; rintro v A ⟨rfl, p1, a1, cap1, X1, hB1, rfl⟩; refine gA ?_
  refine ze fun K hK => ?_
  rw [show Value.string ⟨#[48, 49, 50, 51, 52, 53, 54, 55, 56, 57, 97, 98, 99, 100, 101, 102]⟩ = .string (str digits) from rfl]
  rw [sidx (by omega) (by show _ < (16 : Int); omega), show (((bs.getD i 0).toNat % 16 : Nat) : Int).toNat = (bs.getD i 0).toNat % 16 from by omega]
  refine hK _ _ ?_; clear hK K
  refine cA (xR hB1 (by rw [List.length_append, List.length_singleton]; omega) (digits.getD ((bs.getD i 0).toNat % 16) 0)) ?_; rintro v A ⟨rfl, p2, a2, cap2, X2, hB2, rfl⟩; refine gA ?_
  rw [show hex (bs.take i) ++ [digits.getD ((bs.getD i 0).toNat / 16) 0] ++ [digits.getD ((bs.getD i 0).toNat % 16) 0] = hex (bs.take (i + 1)) from by rw [hnx, List.append_assoc]; rfl] at hB2 ⊢
  exact zA ⟨i + 1, p2, a2, cap2, X2, by omega, hB2, rfl, rfl, rfl, rfl⟩
 ·obtain rfl : i = bs.length := by omega
  rw [List.take_length] at hB hel ⊢
  refine gg ?_
  refine cA (vJ hB (by omega)) ?_; rintro v A ⟨rfl, rfl⟩; refine gA ?_
  refine zb [H] ?_; exact ⟨rfl, rfl⟩
theorem Jj (n : Nat) (hn : n < 2305843009213693952) : Meets Tryz.prog 169 [.int .u64 n] [] (New8 5 (pad n) []) := by
 refine eN Tryz.func169 Tryz.ntmps169 Tryz.results169 fun F => ?_
 refine zd fun N1 hN1 => ?_
 refine zi ?_; (try refine zg ?_)
 refine hN1 _ _ _ ?_; clear hN1
 refine zd fun N2 hN2 => ?_
 refine zi ?_; (try refine zg ?_)
 refine ze fun K hK => ?_; refine zR ([128]) (by decide) rfl (rfl) (fun b1 C1 ho1 => ?_); refine hK _ _ ?_; clear hK K
 (try refine zz ?_); (try refine zg ?_)
 refine hN2 _ _ _ ?_; clear hN2
 refine zd fun N3 hN3 => ?_
 refine zd fun N4 hN4 => ?_
 refine zi ?_; (try refine zg ?_)
 refine hN4 _ _ _ ?_; clear hN4
 refine zo ?_
 refine zU (fun q D L S => ∃ (i : Nat) (C : Chunk) (a : Option Addr) (cap : Nat) (j : Int), i <= jT n /\ j = (n : Int) % 64 + 1 + i /\ Own8 5 C a (1 + i) cap (128 :: List.replicate i 0) /\ q = jT n - i /\ D = [] /\ L = [(4, .int .u64 j), (0, .int .u64 n), (3, .slice a (1 + i) cap)] /\ S = [C, F]) ?_ ?_
 ·exact ⟨_, _, _, ⟨0, C1, _, _, (n : Int) % 64 + 1, by omega, by simp, ho1, rfl, rfl, rfl, rfl⟩, by (repeat (first | exact True.intro | (refine And.intro ?_ ?_; (· (try simp only [evT, lookT_hit, lookT_miss, Nat.reduceBEq]); (first | done | exact rfl))))), amA⟩
 ·rintro q D L S ⟨i, C, a, cap, j, hi, hj, ho, rfl, rfl, rfl, rfl⟩
  have hz : jT n <= 63 := by unfold jT; omega
  refine zd fun N5 hN5 => ?_
  refine zd fun N6 hN6 => ?_
  refine zi ?_; (try refine zg ?_)
  refine hN6 _ _ _ ?_; clear hN6
  refine xA (fun hc => ?_) (fun hc => ?_)
  ·have hc := bne_iff_ne.1 hc
   have hlt : i < jT n := by simp only [jT] at hi ⊢; omega
   refine zI ?_
   refine hN5 _ _ _ ?_; clear hN5
   refine zd fun N7 hN7 => ?_
   refine zo ?_
   refine zi ?_; (try refine zg ?_)
   refine ze fun K hK => ?_; refine zR ([0]) (by decide) rfl (rfl) (fun b1 C1 ho1 => ?_); refine hK _ _ ?_; clear hK K
   refine ze fun K hK => ?_; refine app8 (ho) pkA (ho1.rd mmA) (by omega) (fun C2 a2 cap2 ho2 => ?_); refine hK _ _ ?_; clear hK K
   rw [<- Ww] at ho2
   (try refine zz ?_); (try refine zg ?_)
   refine hN7 _ _ _ ?_; clear hN7
   refine zi ?_; (try refine zg ?_)
   exact zA ⟨i + 1, C2, a2, cap2, j + 1, by omega, by omega, ho2, rfl, rfl, rfl, rfl⟩
  ·have hc := bne_eq_false_iff_eq.1 hc
   refine zO ?_; try simp only [Cont.then, Cont.block, Cont.noGoto, reduceIte, Nat.reduceEqDiff]
   refine hN3 _ _ _ ?_; clear hN3
   obtain rfl : i = jT n := by unfold jT at *; omega
   refine zd fun N8 hN8 => ?_
   refine zi ?_; (try refine zg ?_)
   rw [show ((n : Int) * 8) = ((8 * n : Nat) : Int) from by omega]
   refine cA (xU (8 * n) 8 (by omega) (by omega)) ?_; rintro v A ⟨C2, a2, cap2, rfl, ho2, rfl⟩; (try simp only [List.nil_append, List.cons_append])
   (try refine zz ?_); (try refine zg ?_)
   refine ze fun K hK => ?_; refine app8 (ho) pkA (ho2.rd mmA) (by rw [xZ]; omega) (fun C3 a3 cap3 ho3 => ?_); refine hK _ _ ?_; clear hK K
   (try refine zz ?_); (try refine zg ?_)
   refine hN8 _ _ _ ?_; clear hN8
   refine zL ?_
   have e : 1 + jT n + (be 8 (8 * n)).length = (pad n).length := by rw [wy, xZ]; omega
   rw [e] at ho3 ⊢
   refine zb ([C3]) ?_; exact ⟨_, _, _, rfl, ho3, rfl⟩
theorem out_spec (s : St) : Meets Tryz.prog 170 [.agg (rowW s.list)] [] (New8 5 s.bytes []) := by
 refine eN Tryz.func170 Tryz.ntmps170 Tryz.results170 fun F => ?_
 refine zd fun N1 hN1 => ?_
 refine zi ?_; (try refine zg ?_)
 refine ze fun K hK => ?_
 refine wH fun b1 => ?_; rw [show (Value.agg (rowW s.list)).cells = rowW s.list from rfl]; refine hK _ _ ?_; clear hK K
 (try refine zz ?_); (try refine zg ?_)
 refine hN1 _ _ _ ?_; clear hN1
 refine zd fun N2 hN2 => ?_
 refine zi ?_; (try refine zg ?_)
 refine hN2 _ _ _ ?_; clear hN2
 refine zd fun N3 hN3 => ?_
 refine zd fun N4 hN4 => ?_
 refine xG ?_
 refine ze fun K hK => ?_
 refine jA lkA (St.list_len _) ?_
 refine hK _ _ ?_; clear hK K
 (try refine zz ?_); (try refine zg ?_)
 refine hN4 _ _ _ ?_; clear hN4
 refine zo ?_
 refine zE ?_
 refine zU (fun q D L S => ∃ (i : Nat) (C : Chunk) (a : Option Addr) (cap : Nat), i <= 8 /\ Own8 5 C a (4 * i) cap ((s.list.take i).flatMap zQ) /\ q = 8 - i /\ D = [] /\ L = [(7, .int .i64 i), (6, .agg (rowW s.list)), (3, .slice a (4 * i) cap)] /\ S = [C, F]) ?_ ?_
 ·exact ⟨_, _, _, ⟨0, [], none, 0, by omega, own_nil, rfl, rfl, rfl, rfl⟩, by (repeat (first | exact True.intro | (refine And.intro ?_ ?_; (· (try simp only [evT, lookT_hit, lookT_miss, Nat.reduceBEq]); (first | done | exact rfl))))), amA⟩
 ·rintro q D L S ⟨i, C, a, cap, hi, ho, rfl, rfl, rfl, rfl⟩
  refine zd fun N5 hN5 => ?_
  refine zi ?_; (try refine zg ?_)
  refine hN5 _ _ _ ?_; clear hN5
  refine zd fun N6 hN6 => ?_
  refine xA (fun hc => ?_) (fun hc => ?_)
  ·have hc := of_decide_eq_true hc
   refine zI ?_
   refine hN6 _ _ _ ?_; clear hN6
   refine zd fun N7 hN7 => ?_
   refine zo ?_
   refine zd fun N8 hN8 => ?_
   refine xG ?_
   refine ze fun K hK => ?_
   rw [Iw (by omega) (by omega) (St.list_len s)]
   refine hK _ _ ?_; clear hK K
   (try refine zz ?_); (try refine zg ?_)
   refine hN8 _ _ _ ?_; clear hN8
   refine zi ?_; (try refine zg ?_)
   have hx := (s.list.getD i 0).isLt
   refine cA (xU (s.list.getD i 0).toNat 4 (by omega) (by omega)) ?_; rintro v A ⟨C1, a1, cap1, rfl, ho1, rfl⟩; (try simp only [List.nil_append, List.cons_append])
   (try refine zz ?_); (try refine zg ?_)
   rw [wj] at ho1
   rw [wj]
   refine ze fun K hK => ?_; refine app8 (ho) pkA (ho1.rd mmA) (by show 4 * i + 4 <= _; omega) (fun C2 a2 cap2 ho2 => ?_); refine hK _ _ ?_; clear hK K
   rw [<- ZY s i (by omega)] at ho2
   (try refine zz ?_); (try refine zg ?_)
   refine hN7 _ _ _ ?_; clear hN7
   refine zi ?_; (try refine zg ?_)
   exact zA ⟨i + 1, C2, a2, cap2, by omega, ho2, rfl, rfl, rfl, rfl⟩
  ·have hc := of_decide_eq_false hc
   refine zO ?_; try simp only [Cont.then, Cont.block, Cont.noGoto, reduceIte, Nat.reduceEqDiff]
   refine hN3 _ _ _ ?_; clear hN3
   obtain rfl : i = 8 := by omega
   refine zd fun N9 hN9 => ?_
   refine zi ?_; (try refine zg ?_)
   refine hN9 _ _ _ ?_; clear hN9
   refine zL ?_
   refine zb ([C]) ?_; exact ⟨_, _, _, rfl, ho, rfl⟩
theorem Vs {tg : TypeId} (G H : Chunk) (m : Nat × Nat) (hG : (4, Obj.cells (rowW odd) tg m) ∈ G) (a : Option Addr) (cap : Nat) (bs : List UInt8) (hb : bs.length <= 1000000) (h : Rd 1 [H] a bs.length (bs.map b8)) :
  Meets Tryz.prog 126 [.slice a bs.length cap] [G, H] (New8 5 (xC bs) [G, H]) := by
 refine eN Tryz.func126 Tryz.ntmps126 Tryz.results126 fun F => ?_
 refine zd fun N1 hN1 => ?_
 refine zi ?_; (try refine zg ?_)
 refine hN1 _ _ _ ?_; clear hN1
 refine zd fun N2 hN2 => ?_
 refine zi ?_; (try refine zg ?_)
 refine cA (XP) ?_; rintro v A ⟨rfl, rfl⟩
 (try refine zz ?_); (try refine zg ?_)
 refine ze fun K hK => ?_; refine zR ([]) (by decide) rfl (rfl) (fun b1 C1 ho1 => ?_); refine hK _ _ ?_; clear hK K
 (try refine zz ?_); (try refine zg ?_)
 refine ze fun K hK => ?_; refine app8 (ho1) pkA (h.mem mmA) (by omega) (fun C2 a2 cap2 ho2 => ?_); refine hK _ _ ?_; clear hK K
 (try refine zz ?_); (try refine zg ?_)
 refine cA (Jj bs.length (by omega)) ?_; rintro v A ⟨C3, a3, cap3, rfl, ho3, rfl⟩; (try simp only [List.nil_append, List.cons_append])
 (try refine zz ?_); (try refine zg ?_)
 have hpl : (pad bs.length).length <= 72 := by rw [wy, jT]; omega
 refine ze fun K hK => ?_; refine app8 (ho2) pkA (ho3.rd mmA) (by omega) (fun C4 a4 cap4 ho4 => ?_); refine hK _ _ ?_; clear hK K
 (try refine zz ?_); (try refine zg ?_)
 rw [show 0 + bs.length + (pad bs.length).length = (bs ++ pad bs.length).length from by rw [List.length_append]; omega, List.nil_append] at ho4
 rw [show 0 + bs.length + (pad bs.length).length = (bs ++ pad bs.length).length from by rw [List.length_append]; omega]
 refine ze fun K hK => ?_
 refine xl (go_spec G C4 m hG first a4 cap4 (bs ++ pad bs.length) (by rw [List.length_append]; omega) ho4.1 (ho4.rd mmA)) tkA ?_; rintro v A ⟨a5, c5, rfl, hr5, rfl⟩; (try simp only [List.nil_append, List.cons_append]); refine hK _ _ ?_; clear hK K
 (try refine zz ?_); (try refine zg ?_)
 refine ze fun K hK => ?_; refine zv fun b3 => ?_; (try simp only [Value.cells]); refine hK _ _ ?_; clear hK K
 refine ze fun K hK => ?_
 refine jq (l := List.replicate 8 0) (l' := (whole first (bs ++ pad bs.length)).list) (by (repeat (first | exact Upd.one | apply Upd.next))) List.length_replicate (St.list_len _) ?_
 refine hK _ _ ?_; clear hK K
 (try refine zz ?_); (try refine zg ?_)
 refine hN2 _ _ _ ?_; clear hN2
 refine zd fun N3 hN3 => ?_
 refine xG ?_
 refine ze fun K hK => ?_
 refine jA lkA (St.list_len _) ?_
 refine hK _ _ ?_; clear hK K
 refine cA (out_spec _) ?_; rintro v A ⟨C6, a6, cap6, rfl, ho6, rfl⟩; (try simp only [List.nil_append, List.cons_append])
 (try refine zz ?_); (try refine zg ?_)
 refine hN3 _ _ _ ?_; clear hN3
 refine zL ?_
 refine zb ([C6, G, H]) ?_; exact ⟨_, _, _, rfl, ho6, rfl⟩
theorem repeat8 (H : Chunk) (a : Option Addr) (x : UInt8) (h : Ost.Own 1 5 H a 1 1 ([x].map b8)) :
  Meets Tryz.prog 229 [.slice a 1 1, .int .i64 64] [H] (New8 5 (List.replicate 64 x) [H]) := Vq H a 1 x (by decide) (h.rd (S := [H]) (by simp))
theorem pad_spec {t0 t1 : TypeId} (G H : Chunk) (m0 m1 : Nat × Nat) (hG0 : (0, Obj.cells (rowW first.list) t0 m0) ∈ G) (hG1 : (3, Obj.cells (rowW odd) t1 m1) ∈ G)
  (a : Option Addr) (cap : Nat) (key : List UInt8) (hk : key.length <= 100000) (hcap : key.length <= cap) (h : Rd 1 [H] a key.length (key.map b8)) (x : UInt8) :
  Meets Tryz.prog 184 [.slice a key.length cap, b8 x] [G, H] (New8 5 (padK key x) [G, H]) := by
 refine eN Tryz.func184 Tryz.ntmps184 Tryz.results184 fun F => ?_
 (with_reducible refine xb ?_); refine zi ?_; (with_reducible refine vy ?_); (with_reducible refine Jg ?_)
 refine Oj (fun D L S => ∃ (X W : Chunk) (ka : Option Addr) (kc : Nat), W ∈ [X, G, H] /\ Rd 1 [W] ka (xS key).length ((xS key).map b8) /\ D = [] /\ L = [(0, .slice ka (xS key).length kc), (1, b8 x)] /\ S = [F, X, G, H]) ?_ ?_
 ·refine gg ?_
  refine if_d (fun hc => ?_) (fun hc => ?_)
  ·refine gg ?_
   refine ze fun K hK => ?_; refine xY rfl [.slice a key.length cap] (by decide) rfl rfl (by simp [Value.cell1]) (fun b1 C1 ho1 => ?_); refine hK _ _ ?_; clear hK K
   have hp : kE [C1 ++ H] (some ⟨b1, 0, none⟩) 1 [key] := by
    refine ⟨rfl, _, (ho1.rd (S := [C1]) (List.mem_cons_self ..)).wide (fun y hy => by simp [hy]), fun i v l hv hl => ?_⟩
    match i, hv, hl with
    | 0, hv, hl => cases hv; cases hl; exact ⟨_, _, rfl, hcap, h.wide (fun y hy => by simp [hy])⟩
    | i + 1, hv, hl => simp at hv
   refine cA (Jk G C1 H m0 m1 hG0 hG1 _ 1 1 [key] hp (by decide) (by decide) (by simp; omega)) ?_; rintro v A ⟨C2, a2, c2, rfl, ho2, rfl⟩; refine gA ?_
   have e : xS key = xC [key].flatten := by unfold xS; rw [if_pos (by omega)]; simp
   rw [<- e] at ho2 ⊢
   exact mid ⟨C2, C2, a2, c2, by simp, ho2.rd (by simp), rfl, rfl, rfl⟩
  ·refine zE ?_
   refine gg ?_
   have e : xS key = key := by unfold xS; rw [if_neg (by omega)]
   rw [<- e] at h
   exact mid ⟨[], H, a, cap, by simp, h, rfl, by rw [e], rfl⟩
 ·rintro D L S ⟨X, W, ka, kc, hW, hr, rfl, rfl, rfl⟩
  have hsl := Jq key
  refine gg ?_
  refine ze fun K hK => ?_; refine zR ([x]) (by decide) rfl (rfl) (fun b2 C2 ho2 => ?_); refine hK _ _ ?_; clear hK K
  refine cA (repeat8 C2 _ x ho2) ?_; rintro v A ⟨C3, p, cp, rfl, ho3, rfl⟩; refine gA ?_
  rw [List.length_replicate] at ho3 ⊢
  rw [OV x (xS key)] at ho3
  refine gg ?_
  refine zB (fun q D L S => ∃ (i : Nat) (C' : Chunk), i <= (xS key).length /\ Own8 5 C' p 64 cp ((List.range 64).map fun j => if j < i then x ^^^ (xS key).getD j 0 else x) /\ q = (xS key).length - i /\ D = [] /\
   L = [(19, .int .i64 i), (18, .int .i64 (xS key).length), (17, .slice ka (xS key).length kc), (5, .slice p 64 cp)] /\ S = [C', F, X, G, H]) ⟨0, C3, by omega, ho3, rfl, rfl, rfl, rfl⟩ ?_
  rintro q D L S ⟨i, C', hi, ho, rfl, rfl, rfl, rfl⟩
  refine gg ?_
  refine if_d (fun hc => ?_) (fun hc => ?_)
  ·refine gg ?_
   refine ze fun K hK => ?_; (apply jX ho); (· (repeat (first | with_reducible exact Pick.head _ _ | with_reducible apply Pick.tail))); (· simp; omega); (intro C4 ho4); refine hK _ _ ?_; clear hK K
   rw [JX 64 _ _ i 0 (by omega), Xo 64 (fun _ => x) (fun j => x ^^^ (xS key).getD j 0) i (by omega)] at ho4
   refine gg ?_
   exact zA ⟨i + 1, C4, by omega, ho4, rfl, rfl, rfl, rfl⟩
  ·refine gg ?_
   obtain rfl : i = (xS key).length := by omega
   rw [pad_end _ _ hsl] at ho
   refine zb [C', G, H] ?_
   exact ⟨C', p, cp, by rw [ji], by rw [ji]; exact ho, rfl⟩
structure Globs (C : Chunk) : Prop where
 g0 : ∃ t m, (0, Obj.cells (rowW first.list) t m) ∈ C
 g1 : ∃ t m, (3, Obj.cells (rowW odd) t m) ∈ C
structure Globs3 (C : Chunk) : Prop extends Globs C where
 g2 : ∃ t m, (4, Obj.cells (rowW odd) t m) ∈ C
theorem sumS {G : Chunk} (hg : Globs G) (A B : Chunk) (a : Option Addr) (n c : Nat) (ls : List (List UInt8)) (hp : kE [A ++ B] a n ls) (hnc : n <= c) (hn : n <= 1000000) (hlen : ls.flatten.length <= 1000000) :
  Meets Tryz.prog 133 [.slice a n c] [G, A, B] (New8 5 (xC ls.flatten) [G, A, B]) := by
 obtain ⟨⟨_, m0, h0⟩, ⟨_, m1, h1⟩⟩ := hg
 exact Jk G A B m0 m1 h0 h1 a n c ls hp hnc hn hlen
theorem refS {G : Chunk} (hg : Globs3 G) (H : Chunk) (a : Option Addr) (cap : Nat) (bs : List UInt8) (hb : bs.length <= 1000000) (h : Rd 1 [H] a bs.length (bs.map b8)) :
  Meets Tryz.prog 126 [.slice a bs.length cap] [G, H] (New8 5 (xC bs) [G, H]) := by
 obtain ⟨⟨⟨_, m0, h0⟩, ⟨_, m1, h1⟩⟩, ⟨_, m2, h2⟩⟩ := hg
 exact Vs G H m2 h2 a cap bs hb h
theorem padS {G : Chunk} (hg : Globs G) (H : Chunk) (a : Option Addr) (cap : Nat) (key : List UInt8) (hk : key.length <= 100000) (hcap : key.length <= cap) (h : Rd 1 [H] a key.length (key.map b8)) (x : UInt8) :
  Meets Tryz.prog 184 [.slice a key.length cap, b8 x] [G, H] (New8 5 (padK key x) [G, H]) := by
 obtain ⟨⟨_, m0, h0⟩, ⟨_, m1, h1⟩⟩ := hg
 exact pad_spec G H m0 m1 h0 h1 a cap key hk hcap h x
theorem yi {G : Chunk} (hg : Globs3 G) (H : Chunk) (a : Option Addr) (cap : Nat) (key : List UInt8) (hk : key.length <= 100000) (hcap : key.length <= cap) (h : Rd 1 [H] a key.length (key.map b8)) (x : UInt8) :
  Meets Tryz.prog 191 [.slice a key.length cap, b8 x] [G, H] (New8 5 (padK key x) [G, H]) := by
 refine eN Tryz.func191 Tryz.ntmps191 Tryz.results191 fun F => ?_
 (with_reducible refine xb ?_); refine zi ?_; (with_reducible refine vy ?_); (with_reducible refine Jg ?_)
 refine Oj (fun D L S => ∃ (X W : Chunk) (ka : Option Addr) (kc : Nat), W ∈ [X, G, H] /\ Rd 1 [W] ka (xS key).length ((xS key).map b8) /\ D = [] /\ L = [(0, .slice ka (xS key).length kc), (1, b8 x)] /\ S = [F, X, G, H]) ?_ ?_
 ·refine gg ?_
  refine if_d (fun hc => ?_) (fun hc => ?_)
  ·refine gg ?_
   refine cA (refS hg H a cap key (by omega) h) ?_; rintro v A ⟨C2, a2, c2, rfl, ho2, rfl⟩; refine gA ?_
   have e : xS key = xC key := by unfold xS; rw [if_pos (by omega)]
   rw [<- e] at ho2 ⊢
   exact mid ⟨C2, C2, a2, c2, by simp, ho2.rd (by simp), rfl, rfl, rfl⟩
  ·refine zE ?_
   refine gg ?_
   have e : xS key = key := by unfold xS; rw [if_neg (by omega)]
   rw [<- e] at h
   exact mid ⟨[], H, a, cap, by simp, h, rfl, by rw [e], rfl⟩
 ·rintro D L S ⟨X, W, ka, kc, hW, hr, rfl, rfl, rfl⟩
  have hsl := Jq key
  refine gg ?_
  refine ze fun K hK => ?_; refine Ik (n := 64) (by decide) (fun b2 C2 ho2 => ?_); refine hK _ _ ?_; clear hK K
  refine gg ?_
  refine ze fun K hK => ?_
  refine ye (l := 0) ho2 pkA (hr.mem mmA) (Qv _) (by decide) (fun _ => by simp [Addr.add]) (fun C3 ho3 => ?_)
  refine hK _ _ ?_; clear hK K
  have e3 : ((List.replicate 64 (0 : UInt8)).map b8).take 0 ++ (((xS key).map b8).take (min (xS key).length 64) ++ ((List.replicate 64 (0 : UInt8)).map b8).drop (0 + min (xS key).length 64)) =
    ((List.range 64).map fun i => if i < 0 then (xS key).getD i 0 ^^^ x else (xS key).getD i 0).map b8 := by
   rw [<- Yo _ _ hsl, Nat.min_eq_left hsl, List.take_zero, List.nil_append, List.take_of_length_le (by simp), Nat.zero_add, <- List.map_drop, List.drop_replicate, List.map_append]
  rw [e3] at ho3
  refine gg ?_
  generalize (some (⟨b2, 0, none⟩ : Addr)) = p at *
  refine zB (fun q D L S => ∃ (i : Nat) (C' : Chunk), i <= 64 /\ Own8 5 C' p 64 64 ((List.range 64).map fun j => if j < i then (xS key).getD j 0 ^^^ x else (xS key).getD j 0) /\ q = 64 - i /\ D = [] /\
   L = [(18, .int .i64 i), (17, .int .i64 64), (1, b8 x), (5, .slice p 64 64)] /\ S = [C', F, X, G, H]) ⟨0, C3, by omega, ho3, rfl, rfl, rfl, rfl⟩ ?_
  rintro q D L S ⟨i, C', hi, ho, rfl, rfl, rfl, rfl⟩
  refine gg ?_
  refine if_d (fun hc => ?_) (fun hc => ?_)
  ·refine gg ?_
   refine ze fun K hK => ?_; (apply jX ho); (· (repeat (first | with_reducible exact Pick.head _ _ | with_reducible apply Pick.tail))); (· simp; omega); (intro C4 ho4); refine hK _ _ ?_; clear hK K
   rw [JX 64 _ _ i 0 (by omega), Xo 64 (fun j => (xS key).getD j 0) (fun j => (xS key).getD j 0 ^^^ x) i (by omega)] at ho4
   refine gg ?_
   exact zA ⟨i + 1, C4, by omega, ho4, rfl, rfl, rfl, rfl⟩
  ·refine gg ?_
   obtain rfl : i = 64 := by omega
   rw [turn_end] at ho
   refine zb [C', G, H] ?_
   exact ⟨C', p, 64, by rw [ji], by rw [ji]; exact ho, rfl⟩
theorem kn {G : Chunk} (hg : Globs3 G) (H T : Chunk) (a ta : Option Addr) (cap tc : Nat) (key text : List UInt8) (hk : key.length <= 100000) (hcap : key.length <= cap) (h : Rd 1 [H] a key.length (key.map b8))
  (ht : text.length <= 100000) (hr : Rd 1 [T] ta text.length (text.map b8)) :
  Meets Tryz.prog 136 [.slice a key.length cap, .slice ta text.length tc] [G, H, T] (New8 5 (mac key text) [G, H, T]) := by
 have hl : ∀ x, (padK key x).length = 64 := ji key
 have hd : ∀ m, (xC m).length = 32 := qS
 refine eN Tryz.func136 Tryz.ntmps136 Tryz.results136 fun F => ?_
 refine gg ?_
 refine cA (yi hg H a cap key hk hcap h 92) ?_; rintro v A ⟨C1, a1, c1, rfl, ho1, rfl⟩; refine gA ?_
 refine cA (yi hg H a cap key hk hcap h 54) ?_; rintro v A ⟨C2, a2, c2, rfl, ho2, rfl⟩; refine gA ?_
 refine ze fun K hK => ?_; refine app8 (ho2) pkA (hr.mem mmA) (by rw [hl]; omega) (fun C3 a3 cap3 ho3 => ?_); refine hK _ _ ?_; clear hK K
 refine gg ?_
 rw [<- List.length_append] at ho3 ⊢
 refine cA (refS hg C3 a3 _ (padK key 54 ++ text) (by rw [List.length_append, hl]; omega) (ho3.rd (by simp))) ?_; rintro v A ⟨C4, a4, c4, rfl, ho4, rfl⟩; refine gA ?_
 refine ze fun K hK => ?_; refine app8 (ho1) pkA (ho4.rd mmA) (by rw [hl, hd]; omega) (fun C5 a5 cap5 ho5 => ?_); refine hK _ _ ?_; clear hK K
 refine gg ?_
 rw [<- List.length_append] at ho5 ⊢
 refine cA (refS hg C5 a5 _ (padK key 92 ++ xC (padK key 54 ++ text)) (by rw [List.length_append, hl, hd]; omega) (ho5.rd (by simp))) ?_; rintro v A ⟨C6, a6, c6, rfl, ho6, rfl⟩; refine gA ?_
 refine zb [C6, G, H, T] ?_
 exact ⟨C6, a6, c6, rfl, ho6, rfl⟩
theorem sumS3 {G : Chunk} (hg : Globs G) (A B D : Chunk) (a : Option Addr) (n c : Nat) (ls : List (List UInt8)) (hp : kE [A ++ (B ++ D)] a n ls) (hnc : n <= c) (hn : n <= 1000000) (hlen : ls.flatten.length <= 1000000) :
  Meets Tryz.prog 133 [.slice a n c] [G, A, B, D] (New8 5 (xC ls.flatten) [G, A, B, D]) := by
 obtain ⟨⟨_, m0, h0⟩, ⟨_, m1, h1⟩⟩ := hg
 exact Ob G A B D m0 m1 h0 h1 a n c ls (by rw [List.append_assoc]; exact hp) hnc hn hlen
theorem VP {G : Chunk} (hg : Globs G) (H W : Chunk) (a ta : Option Addr) (cap n tc : Nat) (key : List UInt8) (ls : List (List UInt8)) (hk : key.length <= 100000) (hcap : key.length <= cap) (h : Rd 1 [H] a key.length (key.map b8))
  (hp : kE [W] ta n ls) (hnc : n <= tc) (hn : n <= 1000) (hl : ls.flatten.length <= 100000) :
  Meets Tryz.prog 132 [.slice a key.length cap, .slice ta n tc] [G, H, W] (New8 5 (mac key ls.flatten) [G, H, W]) := by
 have hpl : ∀ x, (padK key x).length = 64 := ji key
 have hd : ∀ m, (xC m).length = 32 := qS
 refine eN Tryz.func132 Tryz.ntmps132 Tryz.results132 fun F => ?_
 refine gg ?_
 refine cA (padS hg H a cap key hk hcap h 54) ?_; rintro v A ⟨C1, a1, c1, rfl, ho1, rfl⟩; refine gA ?_
 refine cA (vH [W] ta n tc ls hp hnc (by omega) (by omega)) ?_; rintro v A ⟨C2, a2, c2, rfl, hle2, hr2, _, rfl⟩; refine gA ?_
 refine ze fun K hK => ?_; refine xY rfl [.slice a1 (padK key 54).length c1, .slice a2 ls.flatten.length c2] (by decide) rfl rfl (by simp [Value.cell1]) (fun b3 C3 ho3 => ?_); refine hK _ _ ?_; clear hK K
 refine cA (sumS3 hg C3 C1 C2 _ 2 2 [padK key 54, ls.flatten] (wW ho3 ((vals_nil.snoc ho1.1 ((ho1.rd (S := [C1]) (by simp)).wide1 C2)).snoc hle2 (hr2.wide2 C1))) (by decide) (by decide) (by simp only [List.flatten_cons, List.flatten_nil, List.append_nil, List.length_append, hpl]; omega)) ?_; rintro v A ⟨C4, a4, c4, rfl, ho4, rfl⟩; refine gA ?_
 have e4 : [padK key 54, ls.flatten].flatten = padK key 54 ++ ls.flatten := by simp
 rw [e4] at ho4 ⊢
 refine cA (padS hg H a cap key hk hcap h 92) ?_; rintro v A ⟨C5, a5, c5, rfl, ho5, rfl⟩; refine gA ?_
 refine ze fun K hK => ?_; refine xY rfl [.slice a5 (padK key 92).length c5, .slice a4 (xC (padK key 54 ++ ls.flatten)).length c4] (by decide) rfl rfl (by simp [Value.cell1]) (fun b6 C6 ho6 => ?_); refine hK _ _ ?_; clear hK K
 refine cA (sumS3 hg C6 C5 C4 _ 2 2 [padK key 92, xC (padK key 54 ++ ls.flatten)] (wW ho6 ((vals_nil.snoc ho5.1 ((ho5.rd (S := [C5]) (by simp)).wide1 C4)).snoc ho4.1 ((ho4.rd (S := [C4]) (by simp)).wide2 C5))) (by decide) (by decide) (by simp only [List.flatten_cons, List.flatten_nil, List.append_nil, List.length_append, hpl, hd]; omega)) ?_; rintro v A ⟨C7, a7, c7, rfl, ho7, rfl⟩; refine gA ?_
 have e7 : xC [padK key 92, xC (padK key 54 ++ ls.flatten)].flatten = mac key ls.flatten := by simp [mac]
 rw [e7] at ho7 ⊢
 refine zb [C7, G, H, W] ?_
 exact ⟨C7, a7, c7, rfl, ho7, rfl⟩
theorem or_zero8 (a b : UInt8) : a ||| b = 0 ↔ a = 0 /\ b = 0 := by
 constructor
 ·intro h
  have h1 : a.toBitVec ||| b.toBitVec = 0#8 := by rw [<- UInt8.toBitVec_or, h]; rfl
  have key : ∀ x y : BitVec 8, x ||| y = 0#8 -> x = 0#8 /\ y = 0#8 := by
   intro x y e
   constructor
   ·apply BitVec.eq_of_getLsbD_eq; intro i hi
    have := congrArg (fun v => v.getLsbD i) e
    simp at this ⊢; exact this.1
   ·apply BitVec.eq_of_getLsbD_eq; intro i hi
    have := congrArg (fun v => v.getLsbD i) e
    simp at this ⊢; exact this.2
  obtain ⟨k1, k2⟩ := key _ _ h1
  exact ⟨UInt8.toBitVec_inj.1 k1, UInt8.toBitVec_inj.1 k2⟩
 ·rintro ⟨rfl, rfl⟩; rfl
theorem xor_zero8 (a b : UInt8) : a ^^^ b = 0 ↔ a = b := by
 constructor
 ·intro h
  have : (a ^^^ b) ^^^ b = 0 ^^^ b := by rw [h]
  rw [UInt8.xor_assoc, UInt8.xor_self, UInt8.xor_zero, UInt8.zero_xor] at this
  exact this
 ·rintro rfl; exact UInt8.xor_self
theorem If (n m : Nat) : (if (m : Int) < (n : Int) then (m : Int) else (n : Int)) = ((min n m : Nat) : Int) := by split <;> omega
theorem XS (A B : Chunk) (a b : Option Addr) (ca cb : Nat) (xs ys : List UInt8) (hx : xs.length <= 100000) (hy : ys.length <= 100000) (h1 : Rd 1 [A] a xs.length (xs.map b8)) (h2 : Rd 1 [B] b ys.length (ys.map b8)) :
  Meets Tryz.prog 118 [.slice a xs.length ca, .slice b ys.length cb] [A, B] fun v S => v = .bool (xs == ys) /\ S = [A, B] := by
 refine eN Tryz.func118 Tryz.ntmps118 Tryz.results118 fun F => ?_
 refine gg ?_
 refine if_nb (fun hc => ?_) (fun hc => ?_)
 ·refine gg ?_
  refine zb [A, B] ?_
  refine ⟨?_, rfl⟩
  have : xs ≠ ys := fun e => hc (by rw [e])
  rw [beq_eq_false_iff_ne.2 this]
 ·refine gg ?_
  have hl : xs.length = ys.length := by omega
  refine zB (fun q D L S => ∃ (i : Nat) (z : UInt8), i <= xs.length /\ (z = 0 ↔ xs.take i = ys.take i) /\ q = xs.length - i /\ D = [] /\
   L = [(14, .int .i64 i), (13, .int .i64 xs.length), (0, .slice a xs.length ca), (1, .slice b ys.length cb), (5, b8 z)] /\ S = [F, A, B]) ⟨0, 0, by omega, by simp, rfl, rfl, rfl, rfl⟩ ?_
  rintro q D L S ⟨i, z, hi, hz, rfl, rfl, rfl, rfl⟩
  refine gg ?_
  refine if_d (fun hc => ?_) (fun hc => ?_)
  ·refine gg ?_
   refine zn [(0, false, []), (1, false, []), (2, false, []), (3, false, []), (4, false, []), (5, false, []), (6, false, []), (7, false, []), (8, false, []), (9, false, []), (10, false, []), (11, true, [])] ?_
   refine gg ?_
   refine gg ?_
   refine zA ⟨i + 1, z ||| (xs.getD i 0 ^^^ ys.getD i 0), by omega, ?_, rfl, rfl, rfl, rfl⟩
   rw [or_zero8, xor_zero8, hz, vu xs i (by omega), vu ys i (by omega)]
   constructor
   ·rintro ⟨e1, e2⟩; rw [e1, e2]
   ·intro e
    have e3 := List.append_inj e (by simp; omega)
    exact ⟨e3.1, by simpa using e3.2⟩
  ·refine gg ?_
   obtain rfl : i = xs.length := by omega
   refine zb [A, B] ?_
   refine ⟨?_, rfl⟩
   congr 1
   rw [List.take_length, hl, List.take_length] at hz
   by_cases e : xs = ys
   ·rw [hz.2 e, e]; simp
   ·rw [beq_eq_false_iff_ne.2 e]
    have : z.toNat ≠ 0 := fun h0 => e (hz.1 (UInt8.toNat_inj.1 h0))
    rw [beq_eq_false_iff_ne]; omega
theorem xor_spec (A B : Chunk) (a b : Option Addr) (ca cb : Nat) (xs ys : List UInt8) (hx : xs.length <= 100000) (hy : ys.length <= 100000) (h1 : Rd 1 [A] a xs.length (xs.map b8)) (h2 : Rd 1 [B] b ys.length (ys.map b8)) :
  Meets Tryz.prog 228 [.slice a xs.length ca, .slice b ys.length cb] [A, B] (New8 5 (xorB xs ys) [A, B]) := by
 refine eN Tryz.func228 Tryz.ntmps228 Tryz.results228 fun F => ?_
 refine gg ?_
 rw [If]
 refine zE ?_
 have hm : min xs.length ys.length <= xs.length /\ min xs.length ys.length <= ys.length := ⟨Nat.min_le_left _ _, Nat.min_le_right _ _⟩
 have hxl := vK xs ys
 refine zB (fun q D L S => ∃ (i : Nat) (C : Chunk) (p : Option Addr) (cp : Nat), i <= min xs.length ys.length /\ Own8 5 C p ((xorB xs ys).take i).length cp ((xorB xs ys).take i) /\ q = min xs.length ys.length - i /\ D = [] /\
  L = [(12, .int .i64 i), (11, .int .i64 (min xs.length ys.length : Nat)), (0, .slice a xs.length ca), (1, .slice b ys.length cb), (5, .slice p ((xorB xs ys).take i).length cp)] /\ S = [C, F, A, B]) ⟨0, [], none, 0, by omega, own_nil, rfl, rfl, rfl, rfl⟩ ?_
 rintro q D L S ⟨i, C, p, cp, hi, ho, rfl, rfl, rfl, rfl⟩
 refine gg ?_
 refine if_d (fun hc => ?_) (fun hc => ?_)
 ·refine gg ?_
  refine zn [(0, false, []), (1, false, []), (2, false, []), (3, false, []), (4, false, []), (5, false, []), (6, false, []), (7, false, []), (8, false, []), (9, false, []), (10, true, []), (11, true, []), (12, true, [])] ?_
  refine gg ?_
  refine zh fun K hK => ?_; refine zR [xs.getD i 0 ^^^ ys.getD i 0] (by decide) rfl rfl (fun b1 C1 ho1 => ?_); refine hK _ _ ?_; clear hK K
  refine gg ?_
  refine zh fun K hK => ?_; refine app8 ho pkA (ho1.rd mmA) (by simp; omega) (fun C2 a2 cap2 ho2 => ?_); refine hK _ _ ?_; clear hK K
  rw [<- UF xs ys i (by omega)] at ho2
  have el : ((xorB xs ys).take i).length + 1 = ((xorB xs ys).take (i + 1)).length := by rw [List.length_take, List.length_take]; omega
  rw [el] at ho2 ⊢
  refine gg ?_
  refine gg ?_
  exact zA ⟨i + 1, C2, a2, cap2, by omega, ho2, rfl, rfl, rfl, rfl⟩
 ·refine gg ?_
  obtain rfl : i = min xs.length ys.length := by omega
  rw [List.take_of_length_le (by omega)] at ho ⊢
  refine zb [C, A, B] ?_
  exact ⟨C, p, cp, rfl, ho, rfl⟩
instance iQN0_1 : TPlaces Tryz.prog 383 [(0, 8), (8, 1), (9, 1)] := ⟨by kernel_rfl⟩
abbrev kb (l : List W) (v : Value) (n : Nat) : Obj := .cells (rowX l [v, .int .u64 n]) 383 (0, 0)
theorem new_spec {t0 : TypeId} (G : Chunk) (m0 : Nat × Nat) (hG0 : (0, Obj.cells (rowW first.list) t0 m0) ∈ G) : Meets Tryz.prog 255 [] [G] fun v A => ∃ b, v = .pointer (some ⟨b, 0, none⟩) /\ A = [[(b, kb first.list (.slice none 0 0) 0)], G] := by
 refine eN Tryz.func255 Tryz.ntmps255 Tryz.results255 fun F => ?_
 refine zd fun N1 hN1 => ?_
 refine zi ?_; (try refine zg ?_)
 refine hN1 _ _ _ ?_; clear hN1
 refine zd fun N2 hN2 => ?_
 refine xG ?_
 refine ze fun K hK => ?_
 refine jA (l := first.list) (by (repeat (first | with_reducible exact Lies.one | with_reducible exact Lies.here (by assumption) | with_reducible apply Lies.next))) (St.list_len _) ?_
 refine hK _ _ ?_; clear hK K
 refine ze fun K hK => ?_
 rw [zP (ps := [(0, .agg (rowW first.list))]) (cs := rowX first.list [.slice none 0 0, .int .u64 0]) rfl]
 refine hK _ _ ?_; clear hK K
 refine ze fun K hK => ?_
 refine wH fun b => ?_
 rw [show (Value.agg (rowX first.list [.slice none 0 0, .int .u64 0])).cells = rowX first.list [.slice none 0 0, .int .u64 0] from rfl]
 refine hK _ _ ?_; clear hK K
 (try refine zz ?_); (try refine zg ?_)
 refine hN2 _ _ _ ?_; clear hN2
 refine zL ?_
 exact km [[(b, kb first.list (.slice none 0 0) 0)], G] (by (try simp only [evT, lookT_hit, lookT_miss, Nat.reduceBEq]); (first | done | exact rfl)) ⟨b, rfl, rfl⟩ amA
theorem Yj {t1 : TypeId} (G C H : Chunk) (m1 : Nat × Nat) (hG1 : (3, Obj.cells (rowW odd) t1 m1) ∈ G) (b n : Nat) (s : St) (ar ap : Option Addr) (cr cp : Nat) (rest p : List UInt8) (hn : n <= 4611686018427387904) (hr : rest.length <= 1000000) (hp : p.length <= 1000000)
  (ho : Own8 5 C ar rest.length cr rest) (h : Rd 1 [H] ap p.length (p.map b8)) :
  Meets Tryz.prog 248 [.pointer (some ⟨b, 0, none⟩), .slice ap p.length cp] [G, [(b, kb s.list (.slice ar rest.length cr) n)], C, H]
   fun v A => v = .int .i64 p.length /\ ∃ C' a' c', Own8 5 C' a' ((rest ++ p).drop (64 * ((rest ++ p).length / 64))).length c' ((rest ++ p).drop (64 * ((rest ++ p).length / 64))) /\
    A = [G, [(b, kb (Go.Sha.whole s (rest ++ p)).list (.slice a' ((rest ++ p).drop (64 * ((rest ++ p).length / 64))).length c') (n + p.length))], C', H] := by
 refine eN Tryz.func248 Tryz.ntmps248 Tryz.results248 fun F => ?_
 refine zd fun N1 hN1 => ?_
 refine zi ?_; (try refine zg ?_)
 refine hN1 _ _ _ ?_; clear hN1
 refine zd fun N2 hN2 => ?_
 refine zd fun N3 hN3 => ?_
 refine zi ?_; (try refine zg ?_)
 refine hN3 _ _ _ ?_; clear hN3
 refine qV (by (try simp only [evT, lookT_hit, lookT_miss, Nat.reduceBEq]); (first | done | exact rfl)) (zI ?_)
 refine hN2 _ _ _ ?_; clear hN2
 refine zd fun N5 hN5 => ?_
 refine wx ?_; (try refine zg ?_)
 refine hN5 _ _ _ ?_; clear hN5
 refine zd fun N6 hN6 => ?_
 refine wx ?_; (try refine zg ?_)
 refine ze fun K hK => ?_; refine app8 (ho) pkA (h.mem mmA) (by omega) (fun C1 a1 cap1 ho1 => ?_); refine hK _ _ ?_; clear hK K
 (try refine Vj ?_); (try refine zg ?_)
 refine hN6 _ _ _ ?_; clear hN6
 rw [show ((n : Int) + (p.length : Int)) = ((n + p.length : Nat) : Int) from by omega, show rest.length + p.length = (rest ++ p).length from List.length_append.symm]
 rw [show rest.length + p.length = (rest ++ p).length from List.length_append.symm] at ho1
 have hTl : (rest ++ p).length <= 2000000 := by rw [List.length_append]; omega
 generalize rest ++ p = T at ho1 hTl ⊢
 generalize n + p.length = N
 refine zd fun N7 hN7 => ?_
 refine zo ?_
 refine zU (fun q D L S => ∃ (i : Nat) (a' : Option Addr) (c' : Nat), 64 * i <= T.length /\ (T.drop (64 * i)).length <= c' /\ Rd 1 [C1] a' (T.drop (64 * i)).length ((T.drop (64 * i)).map b8) /\ q = T.length - 64 * i /\ D = [] /\ L = [(0, .pointer (some ⟨b, 0, none⟩)), (1, .slice ap p.length cp)] /\
  S = [C1, F, G, [(b, kb (run i s T).list (.slice a' (T.drop (64 * i)).length c') N)], H]) ?_ ?_
 ·exact ⟨_, _, _, ⟨0, a1, cap1, by omega, ho1.1, ho1.rd (List.mem_cons_self ..), rfl, rfl, rfl, rfl⟩, by (repeat (first | exact True.intro | (refine And.intro ?_ ?_; (· (try simp only [evT, lookT_hit, lookT_miss, Nat.reduceBEq]); (first | done | exact rfl))))), amA⟩
 ·rintro q D L S ⟨i, a', c', hi, hc', hr', rfl, rfl, rfl, rfl⟩
  have hdl : (T.drop (64 * i)).length = T.length - 64 * i := List.length_drop
  refine zd fun N8 hN8 => ?_
  refine zd fun N9 hN9 => ?_
  refine wx ?_; (try refine zg ?_)
  refine hN9 _ _ _ ?_; clear hN9
  refine xA (fun hc => ?_) (fun hc => ?_)
  ·have hc := of_decide_eq_true hc
   have hcut : Rd 1 [C1] (cutA 1 a' 0 c') 64 (((T.drop (64 * i)).take 64).map b8) := qi hr' (l := 0) (h' := 64) (m := c') (by omega) (by omega) (by omega)
   have e64 : (T.drop (64 * i)).length - 64 = (T.drop (64 * (i + 1))).length := by
    rw [List.length_drop, List.length_drop]; show T.length - 64 * i - 64 = _; omega
   have hr2 : Rd 1 [C1] (cutA 1 a' 64 c') (T.drop (64 * (i + 1))).length ((T.drop (64 * (i + 1))).map b8) := by
    have q := qi hr' (l := 64) (h' := (T.drop (64 * i)).length) (m := c') (by omega) (Nat.le_refl _) hc'
    rw [List.drop_drop, show 64 * i + 64 = 64 * (i + 1) from by omega, List.take_of_length_le (by rw [List.length_drop]; omega)] at q
    rw [<- e64]; exact q
   have hc2 : (T.drop (64 * (i + 1))).length <= c' - 64 := by
    rw [List.length_drop]; show _ <= c' - 64; omega
   refine zI ?_
   refine hN8 _ _ _ ?_; clear hN8
   refine zo ?_
   refine zd fun N10 hN10 => ?_
   refine zn [(0, false, []), (1, false, []), (2, false, []), (3, false, []), (4, false, []), (5, false, []), (6, false, []), (7, false, []), (8, true, [])] ?_
   (try refine vU ?_); (try refine zp ?_)
   refine zh fun K hK => ?_; refine xl (ym G C1 m1 hG1 b 383 (run i s T) _ (cutA 1 a' 0 c') (c' - 0) (by omega) ((T.drop (64 * i)).take 64) (by rw [List.length_take]; omega) hcut) tkA ?_; rintro v A ⟨rfl, rfl⟩; (try simp only [List.nil_append, List.cons_append]); refine hK _ _ ?_; clear hK K
   rw [<- kN]
   (try refine xq ?_); (try refine zp ?_)
   refine hN10 _ _ _ ?_; clear hN10
   refine wx ?_; (try refine zg ?_)
   rw [e64]
   exact zA ⟨i + 1, _, _, by omega, hc2, hr2, rfl, rfl, rfl, rfl⟩
  ·have hc := of_decide_eq_false hc
   refine zO ?_; try simp only [Cont.then, Cont.block, Cont.noGoto, reduceIte, Nat.reduceEqDiff]
   refine hN7 _ _ _ ?_; clear hN7
   have hi2 : i = T.length / 64 := by omega
   subst hi2
   refine zd fun N11 hN11 => ?_
   refine wx ?_; (try refine zg ?_)
   refine cA (xt C1 a' c' _ (by omega) hr') ?_; rintro v A ⟨C2, a2, cap2, rfl, ho2, rfl⟩; (try simp only [List.nil_append, List.cons_append])
   (try refine Vj ?_); (try refine zg ?_)
   refine hN11 _ _ _ ?_; clear hN11
   refine zd fun N12 hN12 => ?_
   refine zi ?_; (try refine zg ?_)
   refine hN12 _ _ _ ?_; clear hN12
   refine zL ?_
   exact km [G, [(b, kb (Go.Sha.whole s T).list (.slice a2 (T.drop (64 * (T.length / 64))).length cap2) N)], C2, H] (by (try simp only [evT, lookT_hit, lookT_miss, Nat.reduceBEq]); (first | done | exact rfl)) ⟨rfl, C2, a2, cap2, ho2, rfl⟩ amA
theorem Iz {t1 : TypeId} (G C : Chunk) (m1 : Nat × Nat) (hG1 : (3, Obj.cells (rowW odd) t1 m1) ∈ G) (b n : Nat) (s : St) (ar : Option Addr) (cr : Nat) (rest : List UInt8) (hn : n < 2305843009213693952) (hr : rest.length <= 1000000) (hmod : (rest.length + (pad n).length) % 64 = 0)
  (ho : Rd 1 [C] ar rest.length (rest.map b8)) :
  Meets Tryz.prog 249 [.pointer (some ⟨b, 0, none⟩)] [G, [(b, kb s.list (.slice ar rest.length cr) n)], C]
   (New8 5 (Go.Sha.whole s (rest ++ pad n)).bytes [G, [(b, kb s.list (.slice ar rest.length cr) n)], C]) := by
 have hpl : (pad n).length <= 72 := by rw [wy, jT]; omega
 refine eN Tryz.func249 Tryz.ntmps249 Tryz.results249 fun F => ?_
 refine zd fun N1 hN1 => ?_
 refine zi ?_; (try refine zg ?_)
 refine hN1 _ _ _ ?_; clear hN1
 refine zd fun N2 hN2 => ?_
 refine zd fun N3 hN3 => ?_
 refine zi ?_; (try refine zg ?_)
 refine hN3 _ _ _ ?_; clear hN3
 refine qV (by (try simp only [evT, lookT_hit, lookT_miss, Nat.reduceBEq]); (first | done | exact rfl)) (zI ?_)
 refine hN2 _ _ _ ?_; clear hN2
 refine zd fun N5 hN5 => ?_
 refine zi ?_; (try refine zg ?_)
 refine ze fun K hK => ?_
 refine load_rx lkA (St.list_len _) ?_
 refine hK _ _ ?_; clear hK K
 refine ze fun K hK => ?_; refine zv fun b3 => ?_; (try simp only [Value.cells]); refine hK _ _ ?_; clear hK K
 refine ze fun K hK => ?_
 refine jq (l := List.replicate 8 0) (l' := s.list) (by (repeat (first | exact Upd.one | apply Upd.next))) List.length_replicate (St.list_len _) ?_
 refine hK _ _ ?_; clear hK K
 (try refine zz ?_); (try refine zg ?_)
 refine hN5 _ _ _ ?_; clear hN5
 refine zd fun N6 hN6 => ?_
 refine zn [(0, false, []), (1, false, []), (2, false, []), (3, false, []), (5, false, []), (6, false, []), (7, false, []), (8, false, []), (4, true, [8]), (9, true, []), (10, true, []), (11, true, [])] ?_
 (try refine vU ?_); (try refine zp ?_)
 refine zh fun K hK => ?_; refine xl (xt C ar cr rest (by omega) ho) tkA ?_; rintro v A ⟨C4, a4, cap4, rfl, ho4, rfl⟩; (try simp only [List.nil_append, List.cons_append]); (repeat refine pendh ?_); refine hK _ _ ?_; clear hK K
 (try refine vU ?_); (try refine zp ?_)
 refine zh fun K hK => ?_; refine xl (Qj n hn) tkA ?_; rintro v A ⟨C5, a5, cap5, rfl, ho5, rfl⟩; (try simp only [List.nil_append, List.cons_append]); refine hK _ _ ?_; clear hK K
 (try refine vU ?_); (try refine zp ?_)
 refine jC (by simp only [List.getElem?_toArray, List.getElem?_cons_succ, List.getElem?_cons_zero]; rfl) fun K hK => ?_; (try simp only [gos, gob, Nat.reduceBEq, if_true, reduceIte, reduceCtorEq, Nat.reduceLT, Nat.reduceEqDiff, Nat.reduceAdd, Nat.reduceSub, Int.reduceLT, Int.reduceLE, Int.reduceBEq, Int.reduceBNe, Int.reduceToNat, Int.reduceAdd, Int.reduceSub, Int.reduceMul, Int.reduceDiv, Int.reduceMod, Int.reducePow, Int.toNat_natCast, Nat.sub_zero, goq]); (try (simp (disch := omega) only [gow, gobw]; try simp only [gos, gob, Nat.reduceBEq, if_true, reduceIte, reduceCtorEq, Nat.reduceLT, Nat.reduceEqDiff, Nat.reduceAdd, Nat.reduceSub, Int.reduceLT, Int.reduceLE, Int.reduceBEq, Int.reduceBNe, Int.reduceToNat, Int.reduceAdd, Int.reduceSub, Int.reduceMul, Int.reduceDiv, Int.reduceMod, Int.reducePow, Int.toNat_natCast, Nat.sub_zero, goq])); refine app8 ho4 pkA (ho5.rd mmA) (by omega) (fun C6 a6 cap6 ho6 => ?_); refine hK _ _ ?_; clear hK K
 (try refine vU ?_); (try refine zp ?_)
 refine zh fun K hK => ?_; refine pBk hK ?_; clear hK K
 (try refine vU ?_); (try refine zp ?_)
 refine hN6 _ _ _ ?_; clear hN6
 rw [show rest.length + (pad n).length = (rest ++ pad n).length from List.length_append.symm]
 rw [show rest.length + (pad n).length = (rest ++ pad n).length from List.length_append.symm] at ho6 hmod
 have hTl : (rest ++ pad n).length <= 2000000 := by rw [List.length_append]; omega
 generalize rest ++ pad n = T at ho6 hTl hmod ⊢
 rw [show rowW s.list = rowX s.list [] from by simp [rowW, rowX]]
 refine zd fun N7 hN7 => ?_
 refine zo ?_
 refine zU (fun q D L S => ∃ (i : Nat) (a' : Option Addr) (c' : Nat), 64 * i <= T.length /\ (T.drop (64 * i)).length <= c' /\ Rd 1 [C6] a' (T.drop (64 * i)).length ((T.drop (64 * i)).map b8) /\ q = T.length - 64 * i /\ D = [] /\ L = [(4, .slice a' (T.drop (64 * i)).length c'), (3, .pointer (some ⟨b3, 0, none⟩))] /\
  S = [C6, C, [(b3, .cells (rowX (run i s T).list []) 321 (0, 0))], F, G, [(b, kb s.list (.slice ar rest.length cr) n)]]) ?_ ?_
 ·exact ⟨_, _, _, ⟨0, a6, cap6, by omega, ho6.1, ho6.rd (List.mem_cons_self ..), rfl, rfl, rfl, rfl⟩, by (repeat (first | exact True.intro | (refine And.intro ?_ ?_; (· (try simp only [evT, lookT_hit, lookT_miss, Nat.reduceBEq]); (first | done | exact rfl))))), amA⟩
 ·rintro q D L S ⟨i, a', c', hi, hc', hr', rfl, rfl, rfl, rfl⟩
  have hdl : (T.drop (64 * i)).length = T.length - 64 * i := List.length_drop
  refine zd fun N8 hN8 => ?_
  refine zd fun N9 hN9 => ?_
  refine zi ?_; (try refine zg ?_)
  refine hN9 _ _ _ ?_; clear hN9
  refine xA (fun hc => ?_) (fun hc => ?_)
  ·have hc := of_decide_eq_true hc
   have hcut : Rd 1 [C6] (cutA 1 a' 0 c') 64 (((T.drop (64 * i)).take 64).map b8) := qi hr' (l := 0) (h' := 64) (m := c') (by omega) (by omega) (by omega)
   have e64 : (T.drop (64 * i)).length - 64 = (T.drop (64 * (i + 1))).length := by
    rw [List.length_drop, List.length_drop]; show T.length - 64 * i - 64 = _; omega
   have hr2 : Rd 1 [C6] (cutA 1 a' 64 c') (T.drop (64 * (i + 1))).length ((T.drop (64 * (i + 1))).map b8) := by
    have q := qi hr' (l := 64) (h' := (T.drop (64 * i)).length) (m := c') (by omega) (by omega) hc'
    rw [List.drop_drop, show 64 * i + 64 = 64 * (i + 1) from by omega, List.take_of_length_le (by rw [List.length_drop]; omega)] at q
    rw [<- e64]; exact q
   have hc2 : (T.drop (64 * (i + 1))).length <= c' - 64 := by
    rw [List.length_drop]; show _ <= c' - 64; omega
   refine zI ?_
   refine hN8 _ _ _ ?_; clear hN8
   refine zd fun N10 hN10 => ?_
   refine zo ?_
   refine zi ?_; (try refine zg ?_)
   refine ze fun K hK => ?_
   refine xl (ym G C6 m1 hG1 b3 321 (run i s T) [] (cutA 1 a' 0 c') (c' - 0) (by omega) ((T.drop (64 * i)).take 64) (by rw [List.length_take]; omega) hcut) tkA ?_; rintro v A ⟨rfl, rfl⟩; (try simp only [List.nil_append, List.cons_append]); refine hK _ _ ?_; clear hK K
   rw [<- kN]
   (try refine zz ?_); (try refine zg ?_)
   refine hN10 _ _ _ ?_; clear hN10
   refine zi ?_; (try refine zg ?_)
   rw [e64]
   exact zA ⟨i + 1, _, _, by omega, hc2, hr2, rfl, rfl, rfl, rfl⟩
  ·have hc := of_decide_eq_false hc
   refine zO ?_; try simp only [Cont.then, Cont.block, Cont.noGoto, reduceIte, Nat.reduceEqDiff]
   refine hN7 _ _ _ ?_; clear hN7
   have hi2 : i = T.length / 64 := by omega
   subst hi2
   refine zd fun N11 hN11 => ?_
   refine zi ?_; (try refine zg ?_)
   refine cA (ZX b3 _ _ _ _) ?_; rintro v A ⟨C7, a7, cap7, rfl, ho7, rfl⟩; (try simp only [List.nil_append, List.cons_append])
   (try refine zz ?_); (try refine zg ?_)
   refine hN11 _ _ _ ?_; clear hN11
   refine zL ?_
   refine zb ([C7, G, [(b, kb s.list (.slice ar rest.length cr) n)], C]) ?_; exact ⟨_, _, _, rfl, ho7, rfl⟩
theorem Ue (C : Chunk) (b n : Nat) (s : St) (ar : Option Addr) (cr : Nat) (rest : List UInt8) (hr : rest.length <= 1000000) (ho : Rd 1 [C] ar rest.length (rest.map b8)) :
  Meets Tryz.prog 247 [.pointer (some ⟨b, 0, none⟩)] [[(b, kb s.list (.slice ar rest.length cr) n)], C]
   fun v A => ∃ b' C' a' c', v = .pointer (some ⟨b', 0, none⟩) /\ Own8 5 C' a' rest.length c' rest /\ A = [[(b', kb s.list (.slice a' rest.length c') n)], C', [(b, kb s.list (.slice ar rest.length cr) n)], C] := by
 refine eN Tryz.func247 Tryz.ntmps247 Tryz.results247 fun F => ?_
 refine zd fun N1 hN1 => ?_
 refine zi ?_; (try refine zg ?_)
 refine hN1 _ _ _ ?_; clear hN1
 refine zd fun N2 hN2 => ?_
 refine zd fun N3 hN3 => ?_
 refine zi ?_; (try refine zg ?_)
 refine hN3 _ _ _ ?_; clear hN3
 refine qV (by (try simp only [evT, lookT_hit, lookT_miss, Nat.reduceBEq]); (first | done | exact rfl)) (zI ?_)
 refine hN2 _ _ _ ?_; clear hN2
 refine zd fun N5 hN5 => ?_
 refine zi ?_; (try refine zg ?_)
 refine ze fun K hK => ?_
 refine load_ra (l := s.list) (r := [.slice ar rest.length cr, .int .u64 n]) lkA (show s.list.length + 2 = 10 from rfl) ?_
 refine hK _ _ ?_; clear hK K
 refine ze fun K hK => ?_; refine zv fun b3 => ?_; (try simp only [Value.cells]); refine hK _ _ ?_; clear hK K
 refine ze fun K hK => ?_
 refine store_ra (l := List.replicate 8 0) (r := [.slice none 0 0, .int .u64 0]) (l' := s.list) (r' := [.slice ar rest.length cr, .int .u64 n]) (by simp [Value.cell1]) (by (repeat (first | exact Upd.one | apply Upd.next))) (show (List.replicate 8 (0 : W)).length + 2 = 10 from rfl) (show s.list.length + 2 = 10 from rfl) ?_
 refine hK _ _ ?_; clear hK K
 (try refine zz ?_); (try refine zg ?_)
 refine hN5 _ _ _ ?_; clear hN5
 refine zd fun N6 hN6 => ?_
 refine wx ?_; (try refine zg ?_)
 refine cA (xt C ar cr rest (by omega) ho) ?_; rintro v A ⟨C4, a4, cap4, rfl, ho4, rfl⟩; (try simp only [List.nil_append, List.cons_append])
 (try refine Vj ?_); (try refine zg ?_)
 refine hN6 _ _ _ ?_; clear hN6
 refine zd fun N7 hN7 => ?_
 refine zi ?_; (try refine zg ?_)
 refine hN7 _ _ _ ?_; clear hN7
 refine zL ?_
 exact km [[(b3, kb s.list (.slice a4 rest.length cap4) n)], C4, [(b, kb s.list (.slice ar rest.length cr) n)], C] (by (try simp only [evT, lookT_hit, lookT_miss, Nat.reduceBEq]); (first | done | exact rfl)) ⟨b3, C4, a4, cap4, rfl, ho4, rfl⟩ amA
def wd (b : Nat) (all : List UInt8) (a : Option Addr) (c : Nat) : Chunk := [(b, kb (Go.Sha.whole first all).list (.slice a (all.drop (64 * (all.length / 64))).length c) all.length)]
def left (all : List UInt8) : List UInt8 := all.drop (64 * (all.length / 64))
theorem Ia {t0 : TypeId} (G : Chunk) (m0 : Nat × Nat) (hG0 : (0, Obj.cells (rowW first.list) t0 m0) ∈ G) : Meets Tryz.prog 255 [] [G] fun v A => ∃ b, v = .pointer (some ⟨b, 0, none⟩) /\ A = [wd b [] none 0, G] := new_spec G m0 hG0
theorem QI {t1 : TypeId} (G C H : Chunk) (m1 : Nat × Nat) (hG1 : (3, Obj.cells (rowW odd) t1 m1) ∈ G) (b : Nat) (all : List UInt8) (ar ap : Option Addr) (cr cp : Nat) (p : List UInt8) (hn : all.length <= 1000000) (hp : p.length <= 1000000)
  (ho : Own8 5 C ar (left all).length cr (left all)) (h : Rd 1 [H] ap p.length (p.map b8)) :
  Meets Tryz.prog 248 [.pointer (some ⟨b, 0, none⟩), .slice ap p.length cp] [G, wd b all ar cr, C, H]
   fun v A => v = .int .i64 p.length /\ ∃ C' a' c', Own8 5 C' a' (left (all ++ p)).length c' (left (all ++ p)) /\ A = [G, wd b (all ++ p) a' c', C', H] := by
 have hW := Yj G C H m1 hG1 b all.length (Go.Sha.whole first all) ar ap cr cp (left all) p (by omega) (by unfold left; rw [kR]; omega) hp ho h
 unfold left at hW
 rw [rest_on, <- KO, <- List.length_append] at hW
 exact hW
theorem Ud {t1 : TypeId} (G C : Chunk) (m1 : Nat × Nat) (hG1 : (3, Obj.cells (rowW odd) t1 m1) ∈ G) (b : Nat) (all : List UInt8) (ar : Option Addr) (cr : Nat) (hn : all.length <= 1000000) (ho : Rd 1 [C] ar (left all).length ((left all).map b8)) :
  Meets Tryz.prog 249 [.pointer (some ⟨b, 0, none⟩)] [G, wd b all ar cr, C] (New8 5 (xC all) [G, wd b all ar cr, C]) := by
 have h := Iz G C m1 hG1 b all.length (Go.Sha.whole first all) ar cr (left all) (by omega) (by unfold left; rw [kR]; omega) (by have := JI all.length; unfold left; rw [kR]; omega) ho
 unfold left at h
 rw [<- KO] at h
 exact h
theorem VZ (C : Chunk) (b : Nat) (all : List UInt8) (ar : Option Addr) (cr : Nat) (hn : all.length <= 1000000) (ho : Rd 1 [C] ar (left all).length ((left all).map b8)) :
  Meets Tryz.prog 247 [.pointer (some ⟨b, 0, none⟩)] [wd b all ar cr, C]
   fun v A => ∃ b' C' a' c', v = .pointer (some ⟨b', 0, none⟩) /\ Own8 5 C' a' (left all).length c' (left all) /\ A = [wd b' all a' c', C', wd b all ar cr, C] :=
 Ue C b all.length (Go.Sha.whole first all) ar cr (left all) (by unfold left; rw [kR]; omega) ho
def jx (C : Chunk) (b : Nat) (all : List UInt8) : Prop := ∃ R a c, Own8 5 R a (left all).length c (left all) /\ C = wd b all a c ++ R
theorem newH {G : Chunk} (hg : Globs G) : Meets Tryz.prog 255 [] [G] fun v A => ∃ b C, v = .pointer (some ⟨b, 0, none⟩) /\ jx C b [] /\ A = [C, G] := by
 obtain ⟨⟨_, m0, h0⟩, ⟨_, m1, h1⟩⟩ := hg
 refine (Ia G m0 h0).perm (by simp) ?_
 rintro v A ⟨b, rfl, rfl⟩
 exact ⟨[wd b [] none 0, G], List.Perm.refl _, b, _, rfl, ⟨[], none, 0, own_nil, by simp⟩, rfl⟩
theorem UG {G : Chunk} (hg : Globs G) (C H : Chunk) (b : Nat) (all : List UInt8) (hC : jx C b all) (ap : Option Addr) (cp : Nat) (p : List UInt8) (hn : all.length <= 1000000) (hp : p.length <= 1000000) (h : Rd 1 [H] ap p.length (p.map b8)) :
  Meets Tryz.prog 248 [.pointer (some ⟨b, 0, none⟩), .slice ap p.length cp] [G, C, H]
   fun v A => v = .int .i64 p.length /\ ∃ C', jx C' b (all ++ p) /\ A = [G, C', H] := by
 obtain ⟨⟨_, m0, h0⟩, ⟨_, m1, h1⟩⟩ := hg
 obtain ⟨R, a, c, ho, rfl⟩ := hC
 refine (QI G R H m1 h1 b all a ap c cp p hn hp ho h).perm (by simp) ?_
 rintro v A ⟨rfl, R', a', c', ho', rfl⟩
 exact ⟨[G, wd b (all ++ p) a' c' ++ R', H], by simp, rfl, _, ⟨R', a', c', ho', rfl⟩, rfl⟩
theorem sumH {G : Chunk} (hg : Globs G) (C : Chunk) (b : Nat) (all : List UInt8) (hC : jx C b all) (hn : all.length <= 1000000) :
  Meets Tryz.prog 249 [.pointer (some ⟨b, 0, none⟩)] [G, C] (New8 5 (xC all) [G, C]) := by
 obtain ⟨⟨_, m0, h0⟩, ⟨_, m1, h1⟩⟩ := hg
 obtain ⟨R, a, c, ho, rfl⟩ := hC
 refine (Ud G R m1 h1 b all a c hn (ho.rd (by simp))).perm (by simp) ?_
 rintro v A ⟨D, a', c', rfl, ho', rfl⟩
 exact ⟨[D, G, wd b all a c ++ R], by simp, D, a', c', rfl, ho', rfl⟩
theorem copyH (C : Chunk) (b : Nat) (all : List UInt8) (hC : jx C b all) (hn : all.length <= 1000000) :
  Meets Tryz.prog 247 [.pointer (some ⟨b, 0, none⟩)] [C] fun v A => ∃ b' C', v = .pointer (some ⟨b', 0, none⟩) /\ jx C' b' all /\ A = [C', C] := by
 obtain ⟨R, a, c, ho, rfl⟩ := hC
 refine (VZ R b all a c hn (ho.rd (by simp))).perm (by simp) ?_
 rintro v A ⟨b', R', a', c', rfl, ho', rfl⟩
 exact ⟨[wd b' all a' c' ++ R', wd b all a c ++ R], by simp, b', _, rfl, ⟨R', a', c', ho', rfl⟩, rfl⟩
abbrev macO (bi bo bn : Nat) : Obj := .cells #[.pointer (some ⟨bi, 0, none⟩), .pointer (some ⟨bo, 0, none⟩), .pointer (some ⟨bn, 0, none⟩)] 374 (0, 0)
def kF (C : Chunk) (m : Nat) (key all : List UInt8) : Prop := ∃ bi bo bn Ci Co Cn, jx Ci bi (padK key 54) /\ jx Co bo (padK key 92) /\ jx Cn bn (padK key 54 ++ all) /\ C = [(m, macO bi bo bn)] ++ (Ci ++ (Co ++ Cn))
instance iHE_1 : TPlaces Tryz.prog 374 [(0, 1), (1, 1), (2, 1)] := ⟨by kernel_rfl⟩
theorem begunH {G : Chunk} (hg : Globs G) (H : Chunk) (ap : Option Addr) (cp : Nat) (p : List UInt8) (hp : p.length <= 1000000) (h : Rd 1 [H] ap p.length (p.map b8)) :
  Meets Tryz.prog 246 [.slice ap p.length cp] [G, H] fun v A => ∃ b C, v = .pointer (some ⟨b, 0, none⟩) /\ jx C b p /\ A = [C, G, H] := by
 refine eN Tryz.func246 Tryz.ntmps246 Tryz.results246 fun F => ?_
 refine gg ?_
 refine cA (newH hg) ?_; rintro v A ⟨b, C, rfl, hC, rfl⟩; refine gA ?_
 refine cA (UG hg C H b [] hC ap cp p (by simp) hp h) ?_; rintro v A ⟨rfl, C', hC', rfl⟩; refine gA ?_
 refine zb [C', G, H] ?_
 exact ⟨b, C', rfl, hC', rfl⟩
theorem ZB (m bi bo : Nat) (vn : Value) (Ci : Chunk) (key : List UInt8) (hi : jx Ci bi (padK key 54)) :
  Meets Tryz.prog 224 [.pointer (some ⟨m, 0, none⟩)] [[(m, .cells #[.pointer (some ⟨bi, 0, none⟩), .pointer (some ⟨bo, 0, none⟩), vn] 374 (0, 0))], Ci] fun v A => ∃ b C, jx C b (padK key 54) /\ A = [[(m, macO bi bo b)], Ci, C] := by
 refine eN Tryz.func224 Tryz.ntmps224 Tryz.results224 fun F => ?_
 refine gg ?_
 refine cA (copyH Ci bi _ hi (by rw [ji]; decide)) ?_; rintro v A ⟨b', C', rfl, hC', rfl⟩; refine gA ?_
 exact zJ [[(m, .cells #[.pointer (some ⟨bi, 0, none⟩), .pointer (some ⟨bo, 0, none⟩), .pointer (some ⟨b', 0, none⟩)] 374 (0, 0))], Ci, C'] ⟨b', C', hC', rfl⟩
theorem YH (C : Chunk) (m : Nat) (key all : List UInt8) (hC : kF C m key all) :
  Meets Tryz.prog 224 [.pointer (some ⟨m, 0, none⟩)] [C] fun v A => ∃ C', kF C' m key [] /\ A = [C'] := by
 obtain ⟨bi, bo, bn, Ci, Co, Cn, hi, ho, hn, rfl⟩ := hC
 refine Meets.conv [[(m, macO bi bo bn)], Ci, Co, Cn] (ZB m bi bo (.pointer (some ⟨bn, 0, none⟩)) Ci key hi) flA tkA ?_; rintro v A ⟨b, C', hC', rfl⟩
 exact ⟨[[(m, macO bi bo b)] ++ (Ci ++ (Co ++ C'))], [[(m, macO bi bo b)], Ci, Co, C'], flA, amA, _, ⟨bi, bo, b, Ci, Co, C', hi, ho, by rw [List.append_nil]; exact hC', rfl⟩, rfl⟩
theorem VM {G : Chunk} (hg : Globs G) (m bi bo bn : Nat) (Cn H : Chunk) (all : List UInt8) (hn : jx Cn bn all) (ha : all.length <= 1000000) (ap : Option Addr) (cp : Nat) (p : List UInt8) (hp : p.length <= 1000000) (h : Rd 1 [H] ap p.length (p.map b8)) :
  Meets Tryz.prog 225 [.pointer (some ⟨m, 0, none⟩), .slice ap p.length cp] [G, [(m, macO bi bo bn)], Cn, H] fun v A => v = .int .i64 p.length /\ ∃ C, jx C bn (all ++ p) /\ A = [G, [(m, macO bi bo bn)], C, H] := by
 unfold macO
 refine eN Tryz.func225 Tryz.ntmps225 Tryz.results225 fun F => ?_
 refine gg ?_
 refine cA (UG hg Cn H bn all hn ap cp p ha hp h) ?_; rintro v A ⟨rfl, C', hC', rfl⟩; refine gA ?_
 refine zb [G, [(m, .cells #[.pointer (some ⟨bi, 0, none⟩), .pointer (some ⟨bo, 0, none⟩), .pointer (some ⟨bn, 0, none⟩)] 374 (0, 0))], C', H] ?_
 exact ⟨rfl, C', hC', rfl⟩
theorem VL {G : Chunk} (hg : Globs G) (C H : Chunk) (m : Nat) (key all : List UInt8) (hC : kF C m key all) (ha : all.length <= 900000) (ap : Option Addr) (cp : Nat) (p : List UInt8) (hp : p.length <= 1000000) (h : Rd 1 [H] ap p.length (p.map b8)) :
  Meets Tryz.prog 225 [.pointer (some ⟨m, 0, none⟩), .slice ap p.length cp] [G, C, H] fun v A => v = .int .i64 p.length /\ ∃ C', kF C' m key (all ++ p) /\ A = [G, C', H] := by
 obtain ⟨bi, bo, bn, Ci, Co, Cn, hi, ho, hn, rfl⟩ := hC
 refine Meets.conv [G, [(m, macO bi bo bn)], Ci, Co, Cn, H] (VM hg m bi bo bn Cn H _ hn (by rw [List.length_append, ji]; omega) ap cp p hp h) flA tkA ?_; rintro v A ⟨rfl, C', hC', rfl⟩
 exact ⟨[G, [(m, macO bi bo bn)] ++ (Ci ++ (Co ++ C')), H], [G, [(m, macO bi bo bn)], Ci, Co, C', H], flA, amA, rfl, _, ⟨bi, bo, bn, Ci, Co, C', hi, ho, by rw [<- List.append_assoc]; exact hC', rfl⟩, rfl⟩
theorem Ic {G : Chunk} (hg : Globs G) (m bi bo bn : Nat) (Co Cn : Chunk) (key all : List UInt8) (ho : jx Co bo (padK key 92)) (hn : jx Cn bn all) (ha : all.length <= 1000000) :
  Meets Tryz.prog 226 [.pointer (some ⟨m, 0, none⟩)] [G, [(m, macO bi bo bn)], Co, Cn] (New8 5 (xC (padK key 92 ++ xC all)) [G, [(m, macO bi bo bn)], Co, Cn]) := by
 have hpl : ∀ x, (padK key x).length = 64 := ji key
 have hd : ∀ m, (xC m).length = 32 := qS
 unfold macO
 refine eN Tryz.func226 Tryz.ntmps226 Tryz.results226 fun F => ?_
 refine gg ?_
 refine cA (copyH Co bo _ ho (by rw [ji]; decide)) ?_; rintro v A ⟨b', C', rfl, hC', rfl⟩; refine gA ?_
 refine cA (sumH hg Cn bn _ hn ha) ?_; rintro v A ⟨C2, a2, c2, rfl, ho2, rfl⟩; refine gA ?_
 refine cA (UG hg C' C2 b' _ hC' a2 c2 (xC all) (by rw [hpl]; decide) (by rw [hd]; decide) (ho2.rd (by simp))) ?_; rintro v A ⟨rfl, C3, hC3, rfl⟩; refine gA ?_
 refine cA (sumH hg C3 b' _ hC3 (by rw [List.length_append, hpl, hd]; decide)) ?_; rintro v A ⟨C4, a4, c4, rfl, ho4, rfl⟩; refine gA ?_
 refine zb [C4, G, [(m, .cells #[.pointer (some ⟨bi, 0, none⟩), .pointer (some ⟨bo, 0, none⟩), .pointer (some ⟨bn, 0, none⟩)] 374 (0, 0))], Co, Cn] ?_
 exact ⟨C4, a4, c4, rfl, ho4, rfl⟩
theorem Ib {G : Chunk} (hg : Globs G) (C : Chunk) (m : Nat) (key all : List UInt8) (hC : kF C m key all) (ha : all.length <= 900000) :
  Meets Tryz.prog 226 [.pointer (some ⟨m, 0, none⟩)] [G, C] (New8 5 (mac key all) [G, C]) := by
 obtain ⟨bi, bo, bn, Ci, Co, Cn, hi, ho, hn, rfl⟩ := hC
 refine Meets.conv [G, [(m, macO bi bo bn)], Ci, Co, Cn] (Ic hg m bi bo bn Co Cn key _ ho hn (by rw [List.length_append, ji]; omega)) flA tkA ?_; rintro v A ⟨D, a, c, rfl, hD, rfl⟩
 exact ⟨[D, G, [(m, macO bi bo bn)] ++ (Ci ++ (Co ++ Cn))], [D, G, [(m, macO bi bo bn)], Ci, Co, Cn], flA, amA, D, a, c, rfl, hD, rfl⟩
theorem Ie {G : Chunk} (hg : Globs G) (H : Chunk) (a : Option Addr) (cap : Nat) (key : List UInt8) (hk : key.length <= 100000) (hcap : key.length <= cap) (h : Rd 1 [H] a key.length (key.map b8)) :
  Meets Tryz.prog 222 [.slice a key.length cap] [G, H] fun v A => ∃ m bi bo bn Ci Co Cn, v = .pointer (some ⟨m, 0, none⟩) /\ jx Ci bi (padK key 54) /\ jx Co bo (padK key 92) /\ jx Cn bn (padK key 54) /\ A = [[(m, macO bi bo bn)], Ci, Co, Cn, G, H] := by
 have hpl : ∀ x, (padK key x).length = 64 := ji key
 refine eN Tryz.func222 Tryz.ntmps222 Tryz.results222 fun F => ?_
 refine gg ?_
 refine cA (padS hg H a cap key hk hcap h 54) ?_; rintro v A ⟨C1, a1, c1, rfl, ho1, rfl⟩; refine gA ?_
 refine cA (begunH hg C1 a1 c1 _ (by rw [hpl]; decide) (ho1.rd (by simp))) ?_; rintro v A ⟨bi, Ci, rfl, hi, rfl⟩; refine gA ?_
 refine cA (padS hg H a cap key hk hcap h 92) ?_; rintro v A ⟨C2, a2, c2, rfl, ho2, rfl⟩; refine gA ?_
 refine cA (begunH hg C2 a2 c2 _ (by rw [hpl]; decide) (ho2.rd (by simp))) ?_; rintro v A ⟨bo, Co, rfl, ho, rfl⟩; refine gA ?_
 refine oT [(0, .pointer (some ⟨bi, 0, none⟩)), (1, .pointer (some ⟨bo, 0, none⟩))] #[.pointer (some ⟨bi, 0, none⟩), .pointer (some ⟨bo, 0, none⟩), .pointer none] ?_
 refine oB fun m => ?_
 refine gg ?_
 refine cA (ZB m bi bo (.pointer none) Ci key hi) ?_; rintro v A ⟨bn, Cn, hn, rfl⟩; refine gA ?_
 refine zb [[(m, macO bi bo bn)], Ci, Co, Cn, G, H] ?_
 exact ⟨m, bi, bo, bn, Ci, Co, Cn, rfl, hi, ho, hn, rfl⟩
theorem Id {G : Chunk} (hg : Globs G) (H : Chunk) (a : Option Addr) (cap : Nat) (key : List UInt8) (hk : key.length <= 100000) (hcap : key.length <= cap) (h : Rd 1 [H] a key.length (key.map b8)) :
  Meets Tryz.prog 222 [.slice a key.length cap] [G, H] fun v A => ∃ m C, v = .pointer (some ⟨m, 0, none⟩) /\ kF C m key [] /\ A = [C, G, H] := by
 refine Meets.conv [G, H] (Ie hg H a cap key hk hcap h) flA tkA ?_; rintro v A ⟨m, bi, bo, bn, Ci, Co, Cn, rfl, hi, ho, hn, rfl⟩
 exact ⟨[[(m, macO bi bo bn)] ++ (Ci ++ (Co ++ Cn)), G, H], [[(m, macO bi bo bn)], Ci, Co, Cn, G, H], flA, amA, m, _, rfl, ⟨bi, bo, bn, Ci, Co, Cn, hi, ho, by rw [List.append_nil]; exact hn, rfl⟩, rfl⟩
structure Pc where
 bs : List UInt8
 a : Option Addr
 c : Nat
 H : Chunk
def isPc (blk : Nat -> List UInt8) (pre : List Pc) (x : Pc) : Prop := x.bs = blk pre.length /\ 32 <= x.c /\ Rd 1 [x.H] x.a 32 (x.bs.map b8)
theorem WM (blk : Nat -> List UInt8) (h : ∀ k, (blk k).length = 32) (size k : Nat) (h1 : size <= 32 * k) (h2 : 32 * k < size + 32) (h3 : 1 <= size) : (cat blk k).take size = (cat blk (many size)).take size := by
 have : many size = k := by unfold many; omega
 rw [this]
theorem VY (blk : Nat -> List UInt8) (hblk : ∀ k, (blk k).length = 32) (size : Nat) (h1 : 1 <= size) (h2 : size <= 128) {f : FuncId} {captured : Array Value} {A : State}
  (it : IMeetsS Tryz.prog f [] captured.toList (fun x : Pc => [.slice x.a 32 x.c]) (fun x => x.H) A (isPc blk) (fun _ => False) true) :
  Meets Tryz.prog 181 [.int .i64 size, .func (.func f) #[] captured] A (New8 5 ((cat blk (many size)).take size) A) := by
 have hcl := XY blk hblk
 refine eN Tryz.func181 Tryz.ntmps181 Tryz.results181 fun F => ?_
 refine gg ?_
 refine oB fun b2 => ?_
 refine gg ?_
 refine ze fun K hK => ?_; refine zv fun b5 => ?_; (try simp only [Value.cells]); refine hK _ _ ?_; clear hK K
 refine gg ?_
 refine zE ?_
 refine yV (by (try simp only [evT, lookT_hit, lookT_miss, Nat.reduceBEq]); (first | done | exact rfl)) it (Jh A [[], [(b5, .cells #[.slice none 0 0] 43 (0, 0))], [(b2, .cells #[.int .i64 size] 3 (0, 0))], F]) (fun pre C => 32 * pre.length < size /\ ∃ (O : Chunk) (oa : Option Addr) (oc : Nat), Own8 5 O oa (cat blk pre.length).length oc (cat blk pre.length) /\ C = [O, [(b5, .cells #[.slice oa (cat blk pre.length).length oc] 43 (0, 0))], [(b2, .cells #[.int .i64 size] 3 (0, 0))], F])
  (fun c pre C => c = .exit 0 /\ size <= 32 * pre.length /\ 32 * pre.length < size + 32 /\ ∃ (O : Chunk) (oa : Option Addr) (oc : Nat), Own8 5 O oa (cat blk pre.length).length oc (cat blk pre.length) /\ C = [O, [(b5, .cells #[.slice oa (cat blk pre.length).length oc] 43 (0, 0))], [(b2, .cells #[.int .i64 size] 3 (0, 0))], F])
  (fun _ => ⟨128, by decide, fun pre C h => by obtain ⟨h, _⟩ := h; omega⟩) (fun _ => rfl) ⟨by simp; omega, [], none, 0, own_nil, rfl⟩ ?_ ?_ ?_
 ·rintro l F1 C r pre x ⟨hxb, hxc, hxr⟩ ⟨hlt, O, oa, oc, ho, rfl⟩
  have el : (pre ++ [x]).length = pre.length + 1 := by simp
  have hbs : x.bs.length = 32 := by rw [hxb, hblk]
  (try simp only [List.nil_append, List.cons_append])
  (try simp only [jm, putT, Nat.reduceLT, if_true, reduceIte, Array.toList, List.toList_toArray])
  refine gg ?_
  refine ⟨_, Among.refl _, fun r' _ => ?_⟩
  refine gg ?_
  refine ze fun K hK => ?_; refine app8 ho pkA (hxr.mem mmA) (by rw [hcl]; omega) (fun C3 a3 cap3 ho3 => ?_); refine hK _ _ ?_; clear hK K
  have e3 : cat blk pre.length ++ x.bs = cat blk (pre ++ [x]).length := by rw [el, cat, hxb]
  have e4 : (cat blk pre.length).length + 32 = (cat blk (pre ++ [x]).length).length := by rw [<- e3, List.length_append, hbs]
  rw [e3, e4] at ho3
  rw [e4]
  refine gg ?_
  have e5 := hcl (pre ++ [x]).length
  refine if_d (fun hc => ?_) (fun hc => ?_)
  ·refine gg ?_
   exact ⟨[C3, [(b5, .cells #[.slice a3 (cat blk (pre ++ [x]).length).length cap3] 43 (0, 0))], [(b2, .cells #[.int .i64 size] 3 (0, 0))], F, x.H], ⟨[C3, [(b5, .cells #[.slice a3 (cat blk (pre ++ [x]).length).length cap3] 43 (0, 0))], [(b2, .cells #[.int .i64 size] 3 (0, 0))], F], rfl, rfl, by omega, by omega, C3, a3, cap3, ho3, rfl⟩, amA⟩
  ·refine gg ?_
   exact ⟨[C3, [(b5, .cells #[.slice a3 (cat blk (pre ++ [x]).length).length cap3] 43 (0, 0))], [(b2, .cells #[.int .i64 size] 3 (0, 0))], F, x.H], ⟨[C3, [(b5, .cells #[.slice a3 (cat blk (pre ++ [x]).length).length cap3] 43 (0, 0))], [(b2, .cells #[.int .i64 size] 3 (0, 0))], F], rfl, by omega, C3, a3, cap3, ho3, rfl⟩, amA⟩
 ·rintro d pre C hd _
  exact hd.elim
 ·rintro d c pre x C hx ⟨rfl, hge, hlt, O, oa, oc, ho, rfl⟩
  have e5 := hcl (pre ++ [x]).length
  have hoc := ho.1
  (try simp only [List.nil_append, List.cons_append])
  refine gg ?_
  have hcut : Rd 1 [O] (cutA 1 oa 0 oc) size (((cat blk (many size)).take size).map b8) := by
   have := qi (ho.rd (S := [O]) (by simp)) (l := 0) (h' := size) (m := oc) (by omega) (by omega) (by omega)
   rw [List.drop_zero, Nat.sub_zero, WM blk hblk size _ hge hlt h1] at this
   exact this
  have es : ((cat blk (many size)).take size).length = size := by rw [List.length_take, hcl]; unfold many; omega
  have hcl2 := xt O (cutA 1 oa 0 oc) oc ((cat blk (many size)).take size) (by rw [es]; omega) (by rw [es]; exact hcut)
  rw [es] at hcl2
  refine ze fun K hK => ?_; refine xl hcl2 (by (repeat (first | exact Take.nil _ | with_reducible exact Pick.head _ _ | with_reducible apply Pick.tail | with_reducible apply Take.cons))) ?_; rintro v A' ⟨D1, a1, c1, rfl, ho1, rfl⟩; (try simp only [List.nil_append, List.cons_append]); refine hK _ _ ?_; clear hK K
  refine gg ?_
  refine zf (D1 :: A) ?_ (hs := ?_)
  ·exact ⟨D1, a1, c1, rfl, ho1, rfl⟩
  ·refine .cons pkA (.cons (.head _ _) ?_)
   exact Xa A [O, [(b5, .cells #[.slice oa (cat blk (pre ++ [x]).length).length oc] 43 (0, 0))], [(b2, .cells #[.int .i64 size] 3 (0, 0))]]
theorem Vc {P : Program} {t : TypeId} {x y : Operand} {j : IntKind} {a n : Int} {κ : Value -> Prop} (h0 : 0 <= n) (h1 : n <= 64) : PureW P (do eqGuard .shr t x y (.int .i64 a) (.int j n); binOp .shr t (.int .i64 a) (.int j n)) κ = κ (.int .i64 (a / 2 ^ n.toNat)) :=
 zk (fun w => by
  have e : min n.toNat IntKind.i64.bits = n.toNat := by show min n.toNat 64 = n.toNat; omega
  have h3 : ¬ n < 0 := by omega
  show (Op.shift .shr .i64 a j n).run P w = _
  rw [Op.shift, if_neg h3, e]
  show Result.ok (Value.int .i64 (Int.fdiv a (2 ^ n.toNat))) w = _
  rw [Int.fdiv_eq_ediv_of_nonneg _ (Int.le_of_lt (Int.pow_pos (by decide)))]) κ
theorem IG (n : Nat) (hn : n <= 4611686018427387905) : Meets Tryz.prog 227 [.int .i64 n] [] (New8 5 (be 4 n) []) := by
 refine eN Tryz.func227 Tryz.ntmps227 Tryz.results227 fun F => ?_
 refine gg ?_
 refine ze fun K hK => ?_; rw [Vc (by decide) (by decide)]; refine hK _ _ ?_; clear hK K
 refine gg ?_
 refine ze fun K hK => ?_; rw [Vc (by decide) (by decide)]; refine hK _ _ ?_; clear hK K
 refine gg ?_
 refine ze fun K hK => ?_; rw [Vc (by decide) (by decide)]; refine hK _ _ ?_; clear hK K
 refine gg ?_
 have e1 : ∀ k : Nat, IntKind.u8.wrap ((n : Int) / ((2 ^ k : Nat) : Int)) = ((UInt8.ofNat (n / 2 ^ k)).toNat : Int) := fun k => by rw [<- Int.natCast_ediv, jZ]
 have e2 : IntKind.u8.wrap (n : Int) = ((UInt8.ofNat n).toNat : Int) := jZ n
 rw [show ((n : Int) / 16777216) = (n : Int) / ((2 ^ 24 : Nat) : Int) from rfl, show ((n : Int) / 65536) = (n : Int) / ((2 ^ 16 : Nat) : Int) from rfl, show ((n : Int) / 256) = (n : Int) / ((2 ^ 8 : Nat) : Int) from rfl, e1, e1, e1, e2]
 refine ze fun K hK => ?_; refine zR ([UInt8.ofNat (n / 2 ^ 24), UInt8.ofNat (n / 2 ^ 16), UInt8.ofNat (n / 2 ^ 8), UInt8.ofNat n]) (by decide) rfl (rfl) (fun b1 C1 ho1 => ?_); refine hK _ _ ?_; clear hK K
 refine gg ?_
 have e3 : be 4 n = [UInt8.ofNat (n / 2 ^ 24), UInt8.ofNat (n / 2 ^ 16), UInt8.ofNat (n / 2 ^ 8), UInt8.ofNat n] := by
  simp [be, List.range, List.range.loop]
 rw [e3]
 refine zb [C1] ?_
 exact ⟨C1, _, 4, rfl, ho1, rfl⟩
theorem wM : ∀ (ls : List (List UInt8)) (i : Nat) (h : i < ls.length), (ls.take (i + 1)).flatten = (ls.take i).flatten ++ ls[i]
 | [], i, h => by simp at h
 | x :: l, 0, h => by simp
 | x :: l, i + 1, h => by
  have := wM l i (by simpa using h)
  simp only [List.take_succ_cons, List.flatten_cons, List.getElem_cons_succ, List.append_assoc]
  rw [<- this]
theorem wL (ls : List (List UInt8)) (i : Nat) : (ls.take i).flatten.length <= ls.flatten.length := by
 have := congrArg (fun l => l.flatten.length) (List.take_append_drop i ls)
 simp only [List.flatten_append, List.length_append] at this
 omega
theorem JJ {G : Chunk} (hg : Globs G) (bx m : Nat) (Cm W : Chunk) (key all : List UInt8) (hC : kF Cm m key all) (pa : Option Addr) (n pc : Nat) (ls : List (List UInt8)) (hp : kE [W] pa n ls) (hn : n <= 1000) (hl : ls.flatten.length <= 100000) :
  Meets Tryz.prog 223 [.slice pa n pc, .pointer (some ⟨bx, 0, none⟩)] [G, [(bx, .cells #[.pointer (some ⟨m, 0, none⟩)] 347 (0, 0))], Cm, W]
   fun v A => ∃ D a c Cm', v = .slice a 32 c /\ kF Cm' m key ls.flatten /\ Own8 5 D a 32 c (mac key ls.flatten) /\ A = [D, G, [(bx, .cells #[.pointer (some ⟨m, 0, none⟩)] 347 (0, 0))], Cm', W] := by
 obtain ⟨hll, us, hr, hu⟩ := hp
 have hul : us.length = n := by have := hr.1; omega
 refine eN Tryz.func223 Tryz.ntmps223 Tryz.results223 fun F => ?_
 refine gg ?_
 refine cA (YH Cm m key all hC) ?_; rintro v A ⟨C1, hC1, rfl⟩; refine gA ?_
 refine zB (fun q D L S => ∃ (i : Nat) (C' : Chunk), i <= n /\ kF C' m key (ls.take i).flatten /\ q = n - i /\ D = [] /\
  L = [(10, .int .i64 i), (9, .int .i64 n), (8, .slice pa n pc), (1, .pointer (some ⟨bx, 0, none⟩))] /\ S = [C', F, G, [(bx, .cells #[.pointer (some ⟨m, 0, none⟩)] 347 (0, 0))], W]) ⟨0, C1, by omega, hC1, rfl, rfl, rfl, rfl⟩ ?_
 rintro q D L S ⟨i, C', hi, hC', rfl, rfl, rfl, rfl⟩
 refine gg ?_
 refine if_d (fun hc => ?_) (fun hc => ?_)
 ·have hin : i < n := by omega
  obtain ⟨p, c, hv, hpc, hpr⟩ := hu i us[i] ls[i] (List.getElem?_eq_getElem (by omega)) (List.getElem?_eq_getElem (by omega))
  have hui : us[i]? = some (.slice p ls[i].length c) := by rw [List.getElem?_eq_getElem (by omega), hv]
  have hle := wL ls i
  have hst := wM ls i (by omega)
  have hle2 := wL ls (i + 1)
  rw [hst, List.length_append] at hle2
  refine gg ?_
  refine cA (VL hg C' W m key _ hC' (by omega) p c ls[i] (by omega) hpr) ?_; rintro v A ⟨rfl, C2, hC2, rfl⟩; refine gA ?_
  rw [<- hst] at hC2
  exact zA ⟨i + 1, C2, by omega, hC2, rfl, rfl, rfl, rfl⟩
 ·refine gg ?_
  obtain rfl : i = n := by omega
  rw [List.take_of_length_le (by omega)] at hC'
  refine cA (Ib hg C' m key _ hC' (by omega)) ?_; rintro v A ⟨D1, a1, c1, rfl, ho1, rfl⟩; refine gA ?_
  refine zb [D1, G, [(bx, .cells #[.pointer (some ⟨m, 0, none⟩)] 347 (0, 0))], C', W] ?_
  exact ⟨D1, a1, c1, C', rfl, hC', ho1, rfl⟩
theorem once3 {G : Chunk} (hg : Globs G) (bx m : Nat) (Cm X Y Z : Chunk) (key all : List UInt8) (hC : kF Cm m key all) (pa : Option Addr) (n pc : Nat) (ls : List (List UInt8)) (hp : kE [X ++ (Y ++ Z)] pa n ls) (hn : n <= 1000) (hl : ls.flatten.length <= 100000) :
  Meets Tryz.prog 223 [.slice pa n pc, .pointer (some ⟨bx, 0, none⟩)] [G, [(bx, .cells #[.pointer (some ⟨m, 0, none⟩)] 347 (0, 0))], Cm, X, Y, Z]
   fun v A => ∃ D a c Cm', v = .slice a 32 c /\ kF Cm' m key ls.flatten /\ Own8 5 D a 32 c (mac key ls.flatten) /\ A = [D, G, [(bx, .cells #[.pointer (some ⟨m, 0, none⟩)] 347 (0, 0))], Cm', X, Y, Z] := by
 refine Meets.conv [G, [(bx, .cells #[.pointer (some ⟨m, 0, none⟩)] 347 (0, 0))], Cm, X ++ (Y ++ Z)] (JJ hg bx m Cm (X ++ (Y ++ Z)) key all hC pa n pc ls hp hn hl) flA tkA ?_; rintro v A ⟨D, a, c, Cm', rfl, hC', ho, rfl⟩
 exact ⟨[D, G, [(bx, .cells #[.pointer (some ⟨m, 0, none⟩)] 347 (0, 0))], Cm', X, Y, Z], [D, G, [(bx, .cells #[.pointer (some ⟨m, 0, none⟩)] 347 (0, 0))], Cm', X ++ (Y ++ Z)], flA, amA, D, a, c, Cm', rfl, hC', ho, rfl⟩
theorem once2 {G : Chunk} (hg : Globs G) (bx m : Nat) (Cm X Y : Chunk) (key all : List UInt8) (hC : kF Cm m key all) (pa : Option Addr) (n pc : Nat) (ls : List (List UInt8)) (hp : kE [X ++ Y] pa n ls) (hn : n <= 1000) (hl : ls.flatten.length <= 100000) :
  Meets Tryz.prog 223 [.slice pa n pc, .pointer (some ⟨bx, 0, none⟩)] [G, [(bx, .cells #[.pointer (some ⟨m, 0, none⟩)] 347 (0, 0))], Cm, X, Y]
   fun v A => ∃ D a c Cm', v = .slice a 32 c /\ kF Cm' m key ls.flatten /\ Own8 5 D a 32 c (mac key ls.flatten) /\ A = [D, G, [(bx, .cells #[.pointer (some ⟨m, 0, none⟩)] 347 (0, 0))], Cm', X, Y] := by
 refine Meets.conv [G, [(bx, .cells #[.pointer (some ⟨m, 0, none⟩)] 347 (0, 0))], Cm, X ++ Y] (JJ hg bx m Cm (X ++ Y) key all hC pa n pc ls hp hn hl) flA tkA ?_; rintro v A ⟨D, a, c, Cm', rfl, hC', ho, rfl⟩
 exact ⟨[D, G, [(bx, .cells #[.pointer (some ⟨m, 0, none⟩)] 347 (0, 0))], Cm', X, Y], [D, G, [(bx, .cells #[.pointer (some ⟨m, 0, none⟩)] 347 (0, 0))], Cm', X ++ Y], flA, amA, D, a, c, Cm', rfl, hC', ho, rfl⟩
abbrev boxS (p : Nat) (v : Value) (t : TypeId) : Chunk := [(p, .cells #[v] t (0, 0))]
theorem VB {G : Chunk} (hg : Globs G) (p1 p2 p3 : Nat) (Hp Hs : Chunk) (pa sa : Option Addr) (pcap scap : Nat) (pass salt : List UInt8) (rounds : Nat) (hr1 : 1 <= rounds) (hr2 : rounds <= 1000)
  (hp1 : pass.length <= 10000) (hp2 : pass.length <= pcap) (hp3 : Rd 1 [Hp] pa pass.length (pass.map b8)) (hs1 : salt.length <= 10000) (hs2 : salt.length <= scap) (hs3 : Rd 1 [Hs] sa salt.length (salt.map b8)) :
  IMeetsS Tryz.prog 221 [] [.pointer (some ⟨p1, 0, none⟩), .pointer (some ⟨p2, 0, none⟩), .pointer (some ⟨p3, 0, none⟩)] (fun x : Pc => [.slice x.a 32 x.c]) (fun x => x.H)
   [boxS p1 (.slice pa pass.length pcap) 43, boxS p2 (.slice sa salt.length scap) 43, boxS p3 (.int .i64 rounds) 3, G, Hp, Hs]
   (isPc fun k => qj pass salt rounds (k + 1)) (fun _ => False) true := by
 refine yM (by kernel_rfl) fun l J Jx hN hY C hC => ?_
 obtain ⟨N, hN0, hN⟩ := hN rfl
 refine eN Tryz.func221 Tryz.ntmps221 Tryz.results221 fun F => ?_
 refine gg ?_
 refine cA (Id hg Hp pa pcap pass (by omega) hp2 hp3) ?_; rintro v A ⟨m, C1, rfl, hC1, rfl⟩; refine gA ?_
 refine ze fun K hK => ?_; refine zv fun bx => ?_; (try simp only [Value.cells]); refine hK _ _ ?_; clear hK K
 refine gg ?_
 refine zB (fun q D L S => ∃ (pre : List Pc) (C' Cm : Chunk) (all : List UInt8), J pre C' /\ kF Cm m pass all /\ q = N + 1 - pre.length /\ D = [] /\
  L = [(7, .int .i64 (pre.length + 1 : Nat)), (6, .func (.func 223) #[] #[.pointer (some ⟨bx, 0, none⟩)]), (0, .func (.yield l) #[] #[]), (1, .pointer (some ⟨p1, 0, none⟩)), (2, .pointer (some ⟨p2, 0, none⟩)), (3, .pointer (some ⟨p3, 0, none⟩))] /\
  S = [Cm, C', boxS bx (.pointer (some ⟨m, 0, none⟩)) 347, F, boxS p1 (.slice pa pass.length pcap) 43, boxS p2 (.slice sa salt.length scap) 43, boxS p3 (.int .i64 rounds) 3, G, Hp, Hs])
  ⟨[], C, C1, [], hC, hC1, rfl, rfl, rfl, rfl⟩ ?_
 rintro q D L S ⟨pre, C', Cm, all, hJ, hCm, rfl, rfl, rfl, rfl⟩
 have hpN := hN pre C' hJ
 refine gg ?_
 refine zn [(0, false, []), (1, false, []), (2, false, []), (3, true, [1]), (4, true, []), (5, true, []), (6, true, [])] ?_
 refine gg ?_
 refine zh fun K hK => ?_; refine zq (IG (pre.length + 1) (by omega)) ?_; rintro v A ⟨C2, a2, c2, rfl, ho2, rfl⟩; refine pA hK ?_; clear hK K
 have hbl : (be 4 (pre.length + 1)).length = 4 := xZ _ _
 refine gg ?_
 refine zh fun K hK => ?_; refine xY rfl [.slice sa salt.length scap, .slice a2 (be 4 (pre.length + 1)).length c2] (by decide) rfl rfl (by simp [Value.cell1]) (fun b3 C3 ho3 => ?_); refine hK _ _ ?_; clear hK K
 refine gg ?_
 refine zh fun K hK => ?_; refine zq (once3 hg bx m Cm C3 C2 Hs pass all hCm _ 2 2 [salt, be 4 (pre.length + 1)] (wW ho3 ((vals_nil.snoc hs2 (hs3.wide2 C2)).snoc ho2.1 ((ho2.rd (S := [C2]) (by simp)).wide1 Hs))) (by decide) (by simp only [List.flatten_cons, List.flatten_nil, List.append_nil, List.length_append, hbl]; omega)) ?_; rintro v A ⟨D1, a1, c1, Cm1, rfl, hCm1, ho1, rfl⟩; refine pA hK ?_; clear hK K
 have e1 : [salt, be 4 (pre.length + 1)].flatten = salt ++ be 4 (pre.length + 1) := by simp
 rw [e1] at ho1 hCm1
 refine gg ?_
 refine gg ?_
 generalize hu0 : mac pass (salt ++ be 4 (pre.length + 1)) = u0 at *
 have hpc : qj pass salt rounds (pre.length + 1) = strT pass u0 u0 (rounds - 1) := by unfold qj; rw [hu0]
 have hul : u0.length = 32 := by rw [<- hu0]; exact vE _ _
 refine zE ?_
 refine zB (fun q D L S => ∃ (i : Nat) (X U T Cm' : Chunk) (all' u t : List UInt8) (ua ta : Option Addr) (uc tc : Nat), i <= rounds - 1 /\ kF Cm' m pass all' /\ u.length = 32 /\ t.length = 32 /\ Own8 5 U ua 32 uc u /\ T ∈ [U, X] /\ 32 <= tc /\ Rd 1 [T] ta 32 (t.map b8) /\
   qj pass salt rounds (pre.length + 1) = strT pass u t (rounds - 1 - i) /\ q = rounds - 1 - i /\ D = [] /\
  L = [(24, .int .i64 i), (23, .int .i64 ((rounds : Int) - 1)), (8, .slice ua 32 uc), (9, .slice ta 32 tc), (7, .int .i64 (pre.length + 1 : Nat)), (6, .func (.func 223) #[] #[.pointer (some ⟨bx, 0, none⟩)]), (0, .func (.yield l) #[] #[]), (1, .pointer (some ⟨p1, 0, none⟩)), (2, .pointer (some ⟨p2, 0, none⟩)), (3, .pointer (some ⟨p3, 0, none⟩))] /\
  S = [U, X, Cm', C', boxS bx (.pointer (some ⟨m, 0, none⟩)) 347, F, boxS p1 (.slice pa pass.length pcap) 43, boxS p2 (.slice sa salt.length scap) 43, boxS p3 (.int .i64 rounds) 3, G, Hp, Hs])
  ⟨0, [], D1, D1, Cm1, _, u0, u0, a1, a1, c1, c1, by omega, hCm1, hul, hul, ho1, by simp, ho1.1, ho1.rd (by simp), hpc, rfl, rfl, rfl, rfl⟩ ?_
 rintro q D L S ⟨i, X, U, T, Cm', all', u, t, ua, ta, uc, tc, hi, hCm', hul, htl, hoU, hT, htc, hrt, hpi, rfl, rfl, rfl, rfl⟩
 refine gg ?_
 refine if_d (fun hc => ?_) (fun hc => ?_)
 ·refine gg ?_
  refine ze fun K hK => ?_; refine xY rfl [.slice ua 32 uc] (by decide) rfl rfl (by simp [Value.cell1]) (fun b4 C4 ho4 => ?_); refine hK _ _ ?_; clear hK K
  have hrU := hoU.rd (S := [U]) (by simp)
  refine cA (once2 hg bx m Cm' C4 U pass all' hCm' _ 1 1 [u] (wW ho4 (by rw [<- hul]; exact vals_nil.snoc (by rw [hul]; exact hoU.1) (by rw [hul]; exact hrU))) (by decide) (by simp only [List.flatten_cons, List.flatten_nil, List.append_nil]; omega)) ?_; rintro v A ⟨D5, a5, c5, Cm5, rfl, hCm5, ho5, rfl⟩; refine gA ?_
  rw [show [u].flatten = u from by simp] at hCm5 ho5
  have hrD := ho5.rd (S := [D5]) (by simp)
  have hml : (mac pass u).length = 32 := vE _ _
  have hxs := xor_spec T D5 ta a5 tc c5 t (mac pass u) (by omega) (by omega) (by rw [htl]; exact hrt) (by rw [hml]; exact hrD)
  rw [htl, hml] at hxs
  have hxl : (xorB t (mac pass u)).length = 32 := by rw [vK, htl, hml]; decide
  have hst : strT pass u t (rounds - 1 - i) = strT pass (mac pass u) (xorB t (mac pass u)) (rounds - 1 - (i + 1)) := by
   rw [show rounds - 1 - i = (rounds - 1 - (i + 1)) + 1 from by omega]; rfl
  rw [hst] at hpi
  simp only [List.mem_cons, List.not_mem_nil, or_false] at hT
  rcases hT with rfl | rfl
  ·refine cA (hxs) ?_; rintro v A ⟨D6, a6, c6, rfl, ho6, rfl⟩; refine gA ?_
   rw [hxl] at ho6 ⊢
   exact zA ⟨i + 1, D6, D5, D6, Cm5, _, mac pass u, xorB t (mac pass u), a5, a6, c5, c6, by omega, hCm5, hml, hxl, ho5, by simp, ho6.1, ho6.rd (by simp), hpi, rfl, rfl, rfl, rfl⟩
  ·refine cA (hxs) ?_; rintro v A ⟨D6, a6, c6, rfl, ho6, rfl⟩; refine gA ?_
   rw [hxl] at ho6 ⊢
   exact zA ⟨i + 1, D6, D5, D6, Cm5, _, mac pass u, xorB t (mac pass u), a5, a6, c5, c6, by omega, hCm5, hml, hxl, ho5, by simp, ho6.1, ho6.rd (by simp), hpi, rfl, rfl, rfl, rfl⟩
 ·obtain rfl : i = rounds - 1 := by omega
  rw [Nat.sub_self] at hpi
  have ht : qj pass salt rounds (pre.length + 1) = t := hpi
  have hx : isPc (fun k => qj pass salt rounds (k + 1)) pre ⟨t, ta, tc, T⟩ := ⟨ht.symm, htc, hrt⟩
  have el : (pre ++ [(⟨t, ta, tc, T⟩ : Pc)]).length = pre.length + 1 := by simp
  simp only [List.mem_cons, List.not_mem_nil, or_false] at hT
  rcases hT with rfl | rfl
  ·refine gg ?_
   refine ze fun K hK => ?_
   refine vq (hY pre ⟨t, ta, tc, T⟩ hx) hJ tkA (fun C4 hJ4 => ?_) (fun C4 hJ4 => ?_)
   ·refine hK _ _ ?_; clear hK K
    refine gg ?_
    have hq := hN _ _ hJ4
    rw [el] at hq
    refine zA ⟨pre ++ [⟨t, ta, tc, T⟩], C4, Cm', all', hJ4, hCm', rfl, rfl, by rw [el], rfl⟩ (hm := by rw [el]; omega)
   ·refine hK _ _ ?_; clear hK K
    refine gg ?_
    exact xE [C4, boxS p1 (.slice pa pass.length pcap) 43, boxS p2 (.slice sa salt.length scap) 43, boxS p3 (.int .i64 rounds) 3, G, Hp, Hs] ⟨C4, rfl, .inr ⟨pre, _, hx, hJ4⟩⟩
  ·refine gg ?_
   refine ze fun K hK => ?_
   refine vq (hY pre ⟨t, ta, tc, T⟩ hx) hJ tkA (fun C4 hJ4 => ?_) (fun C4 hJ4 => ?_)
   ·refine hK _ _ ?_; clear hK K
    refine gg ?_
    have hq := hN _ _ hJ4
    rw [el] at hq
    refine zA ⟨pre ++ [⟨t, ta, tc, T⟩], C4, Cm', all', hJ4, hCm', rfl, rfl, by rw [el], rfl⟩ (hm := by rw [el]; omega)
   ·refine hK _ _ ?_; clear hK K
    refine gg ?_
    exact xE [C4, boxS p1 (.slice pa pass.length pcap) 43, boxS p2 (.slice sa salt.length scap) 43, boxS p3 (.int .i64 rounds) 3, G, Hp, Hs] ⟨C4, rfl, .inr ⟨pre, _, hx, hJ4⟩⟩
theorem VA (pa sa : Option Addr) (pn pc sn sc : Nat) (rounds : Int) : Meets Tryz.prog 182 [.slice pa pn pc, .slice sa sn sc, .int .i64 rounds] []
  fun v A => ∃ p1 p2 p3, v = .func (.func 221) #[] #[.pointer (some ⟨p1, 0, none⟩), .pointer (some ⟨p2, 0, none⟩), .pointer (some ⟨p3, 0, none⟩)] /\
   A = [boxS p1 (.slice pa pn pc) 43, boxS p2 (.slice sa sn sc) 43, boxS p3 (.int .i64 rounds) 3] := by
 refine eN Tryz.func182 Tryz.ntmps182 Tryz.results182 fun F => ?_
 refine gg ?_
 refine oB fun p1 => ?_
 refine gg ?_
 refine oB fun p2 => ?_
 refine gg ?_
 refine oB fun p3 => ?_
 refine gg ?_
 refine zb [boxS p1 (.slice pa pn pc) 43, boxS p2 (.slice sa sn sc) 43, boxS p3 (.int .i64 rounds) 3] ?_
 exact ⟨p1, p2, p3, rfl, rfl⟩
theorem Xl (n : Int) : Meets Tryz.prog 180 [.int .i64 n] [] fun v A => v = .bool (decide (1 <= n /\ n <= 128)) /\ A = [] := by
 refine eN Tryz.func180 Tryz.ntmps180 Tryz.results180 fun F => ?_
 by_cases h1 : 1 <= n
 ·have e : decide (1 <= n) = true := decide_eq_true h1
  refine gg ?_
  rw [e]
  refine gg ?_
  refine zb [] ?_; exact ⟨by simp [h1], rfl⟩
 ·have e : decide (1 <= n) = false := decide_eq_false h1
  refine gg ?_
  rw [e]
  refine gg ?_
  refine zb [] ?_; exact ⟨by simp [h1], rfl⟩
theorem QW {G : Chunk} (hg : Globs G) (Hp Hs : Chunk) (pa sa : Option Addr) (pcap scap : Nat) (pass salt : List UInt8) (rounds size : Nat) (hr1 : 1 <= rounds) (hr2 : rounds <= 64) (hz1 : 1 <= size) (hz2 : size <= 128)
  (hp1 : pass.length <= 10000) (hp2 : pass.length <= pcap) (hp3 : Rd 1 [Hp] pa pass.length (pass.map b8)) (hs1 : salt.length <= 10000) (hs2 : salt.length <= scap) (hs3 : Rd 1 [Hs] sa salt.length (salt.map b8)) :
  Meets Tryz.prog 130 [.slice pa pass.length pcap, .slice sa salt.length scap, .int .i64 rounds, .int .i64 size] [G, Hp, Hs]
   fun v A => ∃ C a c, v = .tuple #[.slice a (qB pass salt rounds size).length c, .int .i64 0] /\ Own8 5 C a (qB pass salt rounds size).length c (qB pass salt rounds size) /\ A = [C, G, Hp, Hs] := by
 refine eN Tryz.func130 Tryz.ntmps130 Tryz.results130 fun F => ?_
 refine gg ?_
 rw [decide_eq_false (show ¬ (rounds : Int) < 1 by omega)]
 refine gg ?_
 rw [decide_eq_false (show ¬ (64 : Int) < rounds by omega)]
 refine gg ?_
 refine cA (Xl size) ?_; rintro v A ⟨rfl, rfl⟩; (try simp only [List.nil_append, List.cons_append])
 rw [decide_eq_true (show (1 : Int) <= size /\ (size : Int) <= 128 by omega)]
 refine gg ?_
 refine cA (VA pa sa _ pcap _ scap rounds) ?_; rintro v A ⟨p1, p2, p3, rfl, rfl⟩; (try simp only [List.nil_append, List.cons_append])
 refine gg ?_
 refine ze fun K hK => ?_
 refine zq (VY (fun k => qj pass salt rounds (k + 1)) (fun k => JH _ _ _ _) size hz1 hz2 (captured := #[.pointer (some ⟨p1, 0, none⟩), .pointer (some ⟨p2, 0, none⟩), .pointer (some ⟨p3, 0, none⟩)]) (VB hg p1 p2 p3 Hp Hs pa sa pcap scap pass salt rounds hr1 (by omega) hp1 hp2 hp3 hs1 hs2 hs3)) ?_
 rintro v A ⟨C1, a1, c1, rfl, ho1, rfl⟩
 (try simp only [List.nil_append, List.cons_append])
 refine hK _ _ ?_; clear hK K
 refine gg ?_
 refine zf [C1, G, Hp, Hs] ?_
 exact ⟨C1, a1, c1, rfl, ho1, rfl⟩
theorem rd_l {s : Nat} {A B : Chunk} {a : Option Addr} {n : Nat} {us : List Value} (h : Rd s [A] a n us) : Rd s [A ++ B] a n us :=
 ⟨h.1, fun hne => let ⟨b, o, cs, e, m, h1, h2, h3⟩ := h.2 hne; ⟨b, o, cs, e, m, h1, .here (by have := h2.mem; simp at this; exact List.mem_append_left _ this), h3⟩⟩
theorem rd_r {s : Nat} {A B : Chunk} {a : Option Addr} {n : Nat} {us : List Value} (h : Rd s [B] a n us) : Rd s [A ++ B] a n us :=
 ⟨h.1, fun hne => let ⟨b, o, cs, e, m, h1, h2, h3⟩ := h.2 hne; ⟨b, o, cs, e, m, h1, .here (by have := h2.mem; simp at this; exact List.mem_append_right _ this), h3⟩⟩
structure Part1 (A B : Chunk) (pa : Option Addr) (ma : Option Addr) (mc : Nat) (m : List UInt8) : Prop where
 arr : Rd 1 [A] pa 1 [.slice ma m.length mc]
 cap : m.length <= mc
 rd : Rd 1 [B] ma m.length (m.map b8)
 len : m.length <= 100000
theorem Part1.flat {A B : Chunk} {pa ma : Option Addr} {mc : Nat} {m : List UInt8} (h : Part1 A B pa ma mc m) : kE [A ++ B] pa 1 [m] := by
 refine ⟨rfl, _, rd_l h.arr, fun i v l hv hl => ?_⟩
 match i, hv, hl with
 | 0, hv, hl => cases hv; cases hl; exact ⟨ma, mc, rfl, h.cap, rd_r h.rd⟩
theorem Part1.two {A B : Chunk} {pa ma : Option Addr} {mc : Nat} {m : List UInt8} (h : Part1 A B pa ma mc m) : kE [A, B] pa 1 [m] := by
 refine ⟨rfl, _, h.arr.mem (by simp), fun i v l hv hl => ?_⟩
 match i, hv, hl with
 | 0, hv, hl => cases hv; cases hl; exact ⟨ma, mc, rfl, h.cap, h.rd.mem (by simp)⟩
theorem Qc (m : List UInt8) : ([m] : List (List UInt8)).flatten = m := by simp
theorem mac1 {G : Chunk} (hg : Globs G) (H A B : Chunk) (a : Option Addr) (cap : Nat) (key : List UInt8) (hk : key.length <= 100000) (hcap : key.length <= cap) (h : Rd 1 [H] a key.length (key.map b8)) {pa ma : Option Addr} {mc : Nat} {m : List UInt8} (hp : Part1 A B pa ma mc m) :
  Meets Tryz.prog 132 [.slice a key.length cap, .slice pa 1 1] [G, H, A, B] (New8 5 (mac key m) [G, H, A, B]) := by
 have hl := hp.len
 have k : Meets Tryz.prog 132 [.slice a key.length cap, .slice pa 1 1] [G, H, A, B] (New8 5 (mac key ([m] : List (List UInt8)).flatten) [G, H, A, B]) := (VP hg H (A ++ B) a pa cap 1 1 key [m] hk hcap h hp.flat (by decide) (by decide) (by rw [Qc]; omega)).perm (by simp) (fun v A' ⟨C, a', cap', hv, ho, hA⟩ => ⟨[C, G, H, A, B], by rw [hA]; simp, C, a', cap', hv, ho, rfl⟩)
 rw [Qc] at k
 exact k
theorem sum1 {G : Chunk} (hg : Globs G) (A B : Chunk) {pa ma : Option Addr} {mc : Nat} {m : List UInt8} (hp : Part1 A B pa ma mc m) :
  Meets Tryz.prog 133 [.slice pa 1 1] [G, A, B] (New8 5 (xC m) [G, A, B]) := by
 have hl := hp.len
 have k := sumS hg A B pa 1 1 [m] hp.flat (by decide) (by decide) (by rw [Qc]; omega)
 rw [Qc] at k
 exact k
def qG (C : Chunk) (b : Nat) (x : BX) : Prop := ∃ (la : Option Addr) (lc r : Nat) (CL CM : Chunk) (us : List Value), C = bxB b x.sym la x.ts.length lc r ++ (CL ++ CM) /\ Ost.Own 6 253 CL la x.ts.length lc us /\ xB CM r (mapT x.ts 0)
def Out (b : Nat) (y : List UInt8 × BX) (R : State) (v : Value) (A : State) : Prop := ∃ (O C' : Chunk) (oa : Option Addr) (oc : Nat), v = .slice oa y.1.length oc /\ Own8 5 O oa y.1.length oc y.1 /\ qG C' b y.2 /\ A = O :: C' :: R
theorem IB {G : Chunk} (hg : Globs G) {A B : Chunk} {pa ma : Option Addr} {mc : Nat} {m : List UInt8} (hp : Part1 A B pa ma mc m)
  (b : Nat) (x : BX) (hts : x.ts.length <= 1000) {la : Option Addr} {lc r : Nat} {CL CM : Chunk} {us : List Value} (hL : Ost.Own 6 253 CL la x.ts.length lc us) (hM : xB CM r (mapT x.ts 0)) :
  Meets Tryz.prog 82 [.pointer (some ⟨b, 0, none⟩), .slice pa 1 1] [bxB b x.sym la x.ts.length lc r, CL, CM, G, A, B]
  fun v A' => ∃ (O : Chunk) (oa : Option Addr) (oc : Nat) (la' : Option Addr) (lc' : Nat) (CL' CM' : Chunk) (us' : List Value), v = .slice oa (xx x m).1.length oc /\ Own8 5 O oa (xx x m).1.length oc (xx x m).1 /\
   Ost.Own 6 253 CL' la' (xx x m).2.ts.length lc' us' /\ xB CM' r (mapT (xx x m).2.ts 0) /\ A' = [O, bxB b x.sym la' (xx x m).2.ts.length lc' r, CL', CM', G, A, B] := by
 have hml := hp.len
 unfold xx
 refine eN Tryz.func82 Tryz.ntmps82 Tryz.results82 fun F => ?_
 refine gg ?_
 cases hs : x.sym with
 | true =>
  rw [if_pos rfl]
  refine gg ?_
  refine cA (vH [A, B] pa 1 1 [m] hp.two (by decide) (by decide) (by rw [Qc]; omega)) ?_; rintro v A ⟨J, ja, jc, rfl, hjc, hjr, hjl, rfl⟩; refine gA ?_
  rw [Qc] at hjc hjr ⊢
  refine oT [(0, .int .i64 1), (2, .slice ja m.length jc)] (tmV ⟨1, [], m, 0⟩ none 0 ja jc).toArray ?_
  refine gg ?_
  have ht := KZ (ka := none) ⟨1, [], m, 0⟩ (by show 1 <= 10; decide) (by show 0 <= 1000; decide) (by show 0 <= 100000; decide) hml (Nat.le_refl _) hjc Rd.nil hjr b x hts hL hM
  rw [hs] at ht
  refine cA (ht) ?_; rintro v A ⟨O, oa, oc, la', lc', CL', CM', us', rfl, hO, hL', hM', rfl⟩; refine gA ?_
  refine zb [O, bxB b true la' (tagX x ⟨1, [], m, 0⟩).2.ts.length lc' r, CL', CM', G, A, B] ?_
  exact ⟨O, oa, oc, la', lc', CL', CM', us', rfl, hO, hL', hM', rfl⟩
 | false =>
  rw [if_neg (by simp)]
  refine gg ?_
  refine cA (sum1 hg A B hp) ?_; rintro v A ⟨O, oa, oc, rfl, hO, rfl⟩; refine gA ?_
  refine zb [O, bxB b false la x.ts.length lc r, CL, CM, G, A, B] ?_
  exact ⟨O, oa, oc, la, lc, CL, CM, us, rfl, hO, hL, hM, rfl⟩
theorem Oa (t : Tm) (h1 : t.k <= 10) (h2 : t.rnd <= 1000) (h3 : t.key.length <= 100000) (h4 : t.txt.length <= 100000) {Kc J : Chunk} {ka xa : Option Addr} {kc xc : Nat}
  (hk0 : t.key.length <= kc) (hx0 : t.txt.length <= xc) (hk : Rd 1 [Kc] ka t.key.length (t.key.map b8)) (hx : Rd 1 [J] xa t.txt.length (t.txt.map b8))
  (b : Nat) (x : BX) (hts : x.ts.length <= 1000) {la : Option Addr} {lc r : Nat} {CL CM : Chunk} {us : List Value} (hL : Ost.Own 6 253 CL la x.ts.length lc us) (hM : xB CM r (mapT x.ts 0)) :
  Meets Tryz.prog 129 [.pointer (some ⟨b, 0, none⟩), .agg (tmV t ka kc xa xc).toArray] [bxB b x.sym la x.ts.length lc r, CL, CM, Kc, J]
  fun v A => ∃ (O : Chunk) (oa : Option Addr) (oc : Nat) (la' : Option Addr) (lc' : Nat) (CL' CM' : Chunk) (us' : List Value), v = .slice oa (tagX x t).1.length oc /\ Own8 5 O oa (tagX x t).1.length oc (tagX x t).1 /\
   Ost.Own 6 253 CL' la' (tagX x t).2.ts.length lc' us' /\ xB CM' r (mapT (tagX x t).2.ts 0) /\ A = [O, bxB b x.sym la' (tagX x t).2.ts.length lc' r, CL', CM', Kc, J] :=
 (KZ t h1 h2 h3 h4 (H := Kc ++ J) hk0 hx0 (rd_l hk) (rd_r hx) b x hts hL hM).perm (by simp) (fun v A' ⟨O, oa, oc, la', lc', CL', CM', us', hv, hO, hL', hM', hA⟩ =>
  ⟨[O, bxB b x.sym la' (tagX x t).2.ts.length lc' r, CL', CM', Kc, J], by rw [hA]; simp, O, oa, oc, la', lc', CL', CM', us', hv, hO, hL', hM', rfl⟩)
theorem mac_open {G : Chunk} (hg : Globs G) {Kc A B : Chunk} {ka : Option Addr} {kc : Nat} {key : List UInt8} (hkl : key.length <= 100000) (hk0 : key.length <= kc) (hk : Rd 1 [Kc] ka key.length (key.map b8)) {pa ma : Option Addr} {mc : Nat} {m : List UInt8} (hp : Part1 A B pa ma mc m)
  (b : Nat) (x : BX) (hts : x.ts.length <= 1000) {la : Option Addr} {lc r : Nat} {CL CM : Chunk} {us : List Value} (hL : Ost.Own 6 253 CL la x.ts.length lc us) (hM : xB CM r (mapT x.ts 0)) :
  Meets Tryz.prog 80 [.pointer (some ⟨b, 0, none⟩), .slice ka key.length kc, .slice pa 1 1] [bxB b x.sym la x.ts.length lc r, CL, CM, G, Kc, A, B]
  fun v A' => ∃ (O : Chunk) (oa : Option Addr) (oc : Nat) (la' : Option Addr) (lc' : Nat) (CL' CM' : Chunk) (us' : List Value), v = .slice oa (macX x key m).1.length oc /\ Own8 5 O oa (macX x key m).1.length oc (macX x key m).1 /\
   Ost.Own 6 253 CL' la' (macX x key m).2.ts.length lc' us' /\ xB CM' r (mapT (macX x key m).2.ts 0) /\ A' = [O, bxB b x.sym la' (macX x key m).2.ts.length lc' r, CL', CM', G, Kc, A, B] := by
 have hml := hp.len
 unfold macX
 refine eN Tryz.func80 Tryz.ntmps80 Tryz.results80 fun F => ?_
 refine gg ?_
 cases hs : x.sym with
 | true =>
  rw [if_pos rfl]
  refine gg ?_
  refine cA (vH [A, B] pa 1 1 [m] hp.two (by decide) (by decide) (by rw [Qc]; omega)) ?_; rintro v A ⟨J, ja, jc, rfl, hjc, hjr, hjl, rfl⟩; refine gA ?_
  rw [Qc] at hjc hjr ⊢
  refine oT [(0, .int .i64 2), (1, .slice ka key.length kc), (2, .slice ja m.length jc)] (tmV ⟨2, key, m, 0⟩ ka kc ja jc).toArray ?_
  refine gg ?_
  have ht := Oa ⟨2, key, m, 0⟩ (by show 2 <= 10; decide) (by show 0 <= 1000; decide) hkl hml hk0 hjc hk hjr b x hts hL hM
  rw [hs] at ht
  refine cA (ht) ?_; rintro v A ⟨O, oa, oc, la', lc', CL', CM', us', rfl, hO, hL', hM', rfl⟩; refine gA ?_
  refine zb [O, bxB b true la' (tagX x ⟨2, key, m, 0⟩).2.ts.length lc' r, CL', CM', G, Kc, A, B] ?_
  exact ⟨O, oa, oc, la', lc', CL', CM', us', rfl, hO, hL', hM', rfl⟩
 | false =>
  rw [if_neg (by simp)]
  refine gg ?_
  refine cA (mac1 hg Kc A B ka kc key hkl hk0 hk hp) ?_; rintro v A ⟨O, oa, oc, rfl, hO, rfl⟩; refine gA ?_
  refine zb [O, bxB b false la x.ts.length lc r, CL, CM, G, Kc, A, B] ?_
  exact ⟨O, oa, oc, la, lc, CL, CM, us, rfl, hO, hL, hM, rfl⟩
theorem str_open {G : Chunk} (hg : Globs G) {Pc Sc : Chunk} {pa sa : Option Addr} {pc sc : Nat} {pass salt : List UInt8} (hp1 : pass.length <= 10000) (hp2 : pass.length <= pc) (hp3 : Rd 1 [Pc] pa pass.length (pass.map b8)) (hs1 : salt.length <= 10000) (hs2 : salt.length <= sc) (hs3 : Rd 1 [Sc] sa salt.length (salt.map b8)) (rounds : Nat) (hr1 : 1 <= rounds) (hr2 : rounds <= 64)
  (b : Nat) (x : BX) (hts : x.ts.length <= 1000) {la : Option Addr} {lc r : Nat} {CL CM : Chunk} {us : List Value} (hL : Ost.Own 6 253 CL la x.ts.length lc us) (hM : xB CM r (mapT x.ts 0)) :
  Meets Tryz.prog 79 [.pointer (some ⟨b, 0, none⟩), .slice pa pass.length pc, .slice sa salt.length sc, .int .i64 rounds] [bxB b x.sym la x.ts.length lc r, CL, CM, G, Pc, Sc]
  fun v A' => ∃ (O : Chunk) (oa : Option Addr) (oc : Nat) (la' : Option Addr) (lc' : Nat) (CL' CM' : Chunk) (us' : List Value), v = .tuple #[.slice oa (strX x pass salt rounds).1.length oc, .int .i64 0] /\ Own8 5 O oa (strX x pass salt rounds).1.length oc (strX x pass salt rounds).1 /\
   Ost.Own 6 253 CL' la' (strX x pass salt rounds).2.ts.length lc' us' /\ xB CM' r (mapT (strX x pass salt rounds).2.ts 0) /\ A' = [O, bxB b x.sym la' (strX x pass salt rounds).2.ts.length lc' r, CL', CM', G, Pc, Sc] := by
 unfold strX
 refine eN Tryz.func79 Tryz.ntmps79 Tryz.results79 fun F => ?_
 refine gg ?_
 rw [decide_eq_false (show ¬ (rounds : Int) < 1 by omega)]
 refine gg ?_
 rw [decide_eq_false (show ¬ (64 : Int) < rounds by omega)]
 refine gg ?_
 cases hs : x.sym with
 | true =>
  rw [if_pos rfl]
  refine gg ?_
  refine oT [(0, .int .i64 3), (1, .slice pa pass.length pc), (2, .slice sa salt.length sc), (3, .int .i64 rounds)] (tmV ⟨3, pass, salt, rounds⟩ pa pc sa sc).toArray ?_
  refine gg ?_
  have ht := Oa ⟨3, pass, salt, rounds⟩ (by show 3 <= 10; decide) (by show rounds <= 1000; omega) (by show pass.length <= _; omega) (by show salt.length <= _; omega) hp2 hs2 hp3 hs3 b x hts hL hM
  rw [hs] at ht
  refine cA (ht) ?_; rintro v A ⟨O, oa, oc, la', lc', CL', CM', us', rfl, hO, hL', hM', rfl⟩; refine gA ?_
  refine zf (vs := [.slice oa (tagX x ⟨3, pass, salt, rounds⟩).1.length oc, .int .i64 0]) [O, bxB b true la' (tagX x ⟨3, pass, salt, rounds⟩).2.ts.length lc' r, CL', CM', G, Pc, Sc] ?_
  exact ⟨O, oa, oc, la', lc', CL', CM', us', rfl, hO, hL', hM', rfl⟩
 | false =>
  rw [if_neg (by simp)]
  refine gg ?_
  refine cA (QW hg Pc Sc pa sa pc sc pass salt rounds 32 hr1 hr2 (by decide) (by decide) hp1 hp2 hp3 hs1 hs2 hs3) ?_; rintro v A ⟨O, oa, oc, rfl, hO, rfl⟩; refine gA ?_
  refine zf (vs := [.slice oa (qB pass salt rounds 32).length oc, .int .i64 0]) [O, bxB b false la x.ts.length lc r, CL, CM, G, Pc, Sc] ?_
  exact ⟨O, oa, oc, la, lc, CL, CM, us, rfl, hO, hL, hM, rfl⟩
theorem qX {G : Chunk} (hg : Globs G) {A B : Chunk} {pa ma : Option Addr} {mc : Nat} {m : List UInt8} (hp : Part1 A B pa ma mc m) {C : Chunk} {b : Nat} {x : BX} (hC : qG C b x) (hts : x.ts.length <= 1000) :
  Meets Tryz.prog 82 [.pointer (some ⟨b, 0, none⟩), .slice pa 1 1] [C, G, A, B] (Out b (xx x m) [G, A, B]) := by
 obtain ⟨la, lc, r, CL, CM, us, rfl, hL, hM⟩ := hC
 refine Meets.conv [bxB b x.sym la x.ts.length lc r, CL, CM, G, A, B] (IB hg hp b x hts hL hM) flA tkA ?_; rintro v A ⟨O, oa, oc, la', lc', CL', CM', us', rfl, hO, hL', hM', rfl⟩
 exact ⟨[O, bxB b x.sym la' (xx x m).2.ts.length lc' r ++ (CL' ++ CM'), G, A, B], [O, bxB b x.sym la' (xx x m).2.ts.length lc' r, CL', CM', G, A, B], flA, amA, O, _, oa, oc, rfl, hO, ⟨la', lc', r, CL', CM', us', by rw [(xK x m).2], hL', hM'⟩, rfl⟩
theorem Qy {G : Chunk} (hg : Globs G) {Kc A B : Chunk} {ka : Option Addr} {kc : Nat} {key : List UInt8} (hkl : key.length <= 100000) (hk0 : key.length <= kc) (hk : Rd 1 [Kc] ka key.length (key.map b8)) {pa ma : Option Addr} {mc : Nat} {m : List UInt8} (hp : Part1 A B pa ma mc m) {C : Chunk} {b : Nat} {x : BX} (hC : qG C b x) (hts : x.ts.length <= 1000) :
  Meets Tryz.prog 80 [.pointer (some ⟨b, 0, none⟩), .slice ka key.length kc, .slice pa 1 1] [C, G, Kc, A, B] (Out b (macX x key m) [G, Kc, A, B]) := by
 obtain ⟨la, lc, r, CL, CM, us, rfl, hL, hM⟩ := hC
 refine Meets.conv [bxB b x.sym la x.ts.length lc r, CL, CM, G, Kc, A, B] (mac_open hg hkl hk0 hk hp b x hts hL hM) flA tkA ?_; rintro v A ⟨O, oa, oc, la', lc', CL', CM', us', rfl, hO, hL', hM', rfl⟩
 exact ⟨[O, bxB b x.sym la' (macX x key m).2.ts.length lc' r ++ (CL' ++ CM'), G, Kc, A, B], [O, bxB b x.sym la' (macX x key m).2.ts.length lc' r, CL', CM', G, Kc, A, B], flA, amA, O, _, oa, oc, rfl, hO, ⟨la', lc', r, CL', CM', us', by rw [(vF x key m).2], hL', hM'⟩, rfl⟩
theorem bstr_spec {G : Chunk} (hg : Globs G) {Pc Sc : Chunk} {pa sa : Option Addr} {pc sc : Nat} {pass salt : List UInt8} (hp1 : pass.length <= 10000) (hp2 : pass.length <= pc) (hp3 : Rd 1 [Pc] pa pass.length (pass.map b8)) (hs1 : salt.length <= 10000) (hs2 : salt.length <= sc) (hs3 : Rd 1 [Sc] sa salt.length (salt.map b8)) (rounds : Nat) (hr1 : 1 <= rounds) (hr2 : rounds <= 64) {C : Chunk} {b : Nat} {x : BX} (hC : qG C b x) (hts : x.ts.length <= 1000) :
  Meets Tryz.prog 79 [.pointer (some ⟨b, 0, none⟩), .slice pa pass.length pc, .slice sa salt.length sc, .int .i64 rounds] [C, G, Pc, Sc]
  fun v A' => ∃ w, v = .tuple #[w, .int .i64 0] /\ Out b (strX x pass salt rounds) [G, Pc, Sc] w A' := by
 obtain ⟨la, lc, r, CL, CM, us, rfl, hL, hM⟩ := hC
 refine Meets.conv [bxB b x.sym la x.ts.length lc r, CL, CM, G, Pc, Sc] (str_open hg hp1 hp2 hp3 hs1 hs2 hs3 rounds hr1 hr2 b x hts hL hM) flA tkA ?_; rintro v A ⟨O, oa, oc, la', lc', CL', CM', us', rfl, hO, hL', hM', rfl⟩
 exact ⟨[O, bxB b x.sym la' (strX x pass salt rounds).2.ts.length lc' r ++ (CL' ++ CM'), G, Pc, Sc], [O, bxB b x.sym la' (strX x pass salt rounds).2.ts.length lc' r, CL', CM', G, Pc, Sc], flA, amA, _, rfl, O, _, oa, oc, rfl, hO, ⟨la', lc', r, CL', CM', us', by rw [(yl x pass salt rounds).2], hL', hM'⟩, rfl⟩
instance tpBox : TPlaces Tryz.prog 182 [(0, 1), (1, 1), (2, 1), (3, 1)] := ⟨by kernel_rfl⟩
theorem bnew_spec (sym : Bool) : Meets Tryz.prog 26 [.bool sym] [] fun v A => ∃ b C, v = .pointer (some ⟨b, 0, none⟩) /\ qG C b ⟨sym, []⟩ /\ A = [C] := by
 have k : Meets Tryz.prog 26 [.bool sym] [] fun v A => ∃ b r CM, v = .pointer (some ⟨b, 0, none⟩) /\ xB CM r [] /\ A = [bxB b sym none 0 0 r, CM] := by
  refine eN Tryz.func26 Tryz.ntmps26 Tryz.results26 fun F => ?_
  refine gg ?_
  refine ze fun K hK => ?_; refine XH fun r CM hM => ?_; refine hK _ _ ?_; clear hK K
  refine gg ?_
  refine oT [(0, .bool sym), (3, .map (some r))] ([.bool sym, .bool false, .slice none 0 0, .map (some r)] : List Value).toArray ?_
  refine gg ?_
  refine oB fun b => ?_
  refine gg ?_
  refine zb [bxB b sym none 0 0 r, CM] ?_
  exact ⟨b, r, CM, rfl, hM, rfl⟩
 refine Meets.conv [] (k) flA tkA ?_; rintro v A ⟨b, r, CM, rfl, hM, rfl⟩
 exact ⟨[bxB b sym none 0 0 r ++ CM], [bxB b sym none 0 0 r, CM], flA, amA, b, _, rfl, ⟨none, 0, r, [], CM, [], rfl, own_nil, hM⟩, rfl⟩
end Go.Proofs.YtebikhhoppiapaaGreatDoor
namespace Go.Proofs.YtebikhhoppiapaaGreatDoor
open Go Go.Ost Go.Nam
def wC (i : Nat) : List Value := [.int .i64 ((i : Int) + 1), b8 (mk i), b8 (ld i), .int .i32 (ls i)]
def formsV : List Value := [0, 1, 2, 3].flatMap wC
def yn (p : Int × Int) : List Value := [.int .i32 p.1, .int .i32 p.2]
structure GNam (C : Chunk) : Prop where
 g0 : ∃ t m, (7, Obj.cells formsV.toArray t m) ∈ C
 g1 : ∃ t m, (1, Obj.cells (barred.flatMap yn).toArray t m) ∈ C
 g2 : ∃ t m, (5, Obj.cells (blanks.flatMap yn).toArray t m) ∈ C
 g3 : ∃ t m, (6, Obj.cells (nothing.flatMap yn).toArray t m) ∈ C
theorem Jp (r : Int) : Meets Tryz.prog 245 [.int .i32 r] [] fun v A => v = .bool (sgn r) /\ A = [] := by
 refine eN Tryz.func245 Tryz.ntmps245 Tryz.results245 fun F => ?_
 refine gg ?_
 unfold sgn
 by_cases h1 : 0 <= r
 ·rw [decide_eq_true h1]
  refine gg ?_
  by_cases h2 : r <= 1114111
  ·rw [decide_eq_true h2]
   refine gg ?_
   by_cases h3 : r < 55296
   ·rw [decide_eq_true h3]
    refine gg ?_
    refine zb [] ?_; exact ⟨rfl, rfl⟩
   ·rw [decide_eq_false h3]
    refine gg ?_
    refine zb [] ?_; exact ⟨rfl, rfl⟩
  ·rw [decide_eq_false h2]
   refine gg ?_
   refine zb [] ?_; exact ⟨rfl, rfl⟩
 ·rw [decide_eq_false h1]
  refine gg ?_
  refine zb [] ?_; exact ⟨rfl, rfl⟩
theorem UZ (c : UInt8) : Meets Tryz.prog 242 [b8 c] [] fun v A => v = .bool (isTail c) /\ A = [] := by
 refine eN Tryz.func242 Tryz.ntmps242 Tryz.results242 fun F => ?_
 refine gg ?_
 have hlt := c.toNat_lt
 by_cases h1 : (128 : Int) <= c.toNat
 ·rw [decide_eq_true h1]
  refine gg ?_
  rw [show decide ((c.toNat : Int) <= 191) = isTail c from by unfold isTail; rw [decide_eq_true (show 128 <= c.toNat by omega), Bool.true_and]; by_cases h : c.toNat <= 191; rw [decide_eq_true h, decide_eq_true (by omega)]; rw [decide_eq_false h, decide_eq_false (by omega)]]
  refine zb [] ?_; exact ⟨rfl, rfl⟩
 ·rw [decide_eq_false h1]
  refine gg ?_
  rw [show isTail c = false from by unfold isTail; rw [decide_eq_false (show ¬ 128 <= c.toNat by omega), Bool.false_and]]
  refine zb [] ?_; exact ⟨rfl, rfl⟩
theorem kh {C : Chunk} {a : Option Addr} {cap : Nat} (l : List (Int × Int)) (hl : l.length <= 100) (hr : Rd 2 [C] a l.length (l.flatMap yn)) (r : Int) :
  Meets Tryz.prog 216 [.int .i32 r, .slice a l.length cap] [C] fun v A => v = .bool (Nam.within r l) /\ A = [C] := by
 have hs : ∀ p : Int × Int, (yn p).length = 2 := fun _ => rfl
 refine eN Tryz.func216 Tryz.ntmps216 Tryz.results216 fun F => ?_
 refine gg ?_
 refine zB (fun q D L S => ∃ i : Nat, i <= l.length /\ Nam.within r l = Nam.within r (l.drop i) /\ q = l.length - i /\ D = [] /\ L = [(9, .int .i64 i), (8, .int .i64 l.length), (7, .slice a l.length cap), (0, .int .i32 r)] /\ S = [C, F])
  ⟨0, by omega, rfl, rfl, rfl, rfl, rfl⟩ ?_
 rintro q D L S ⟨i, hi, hw, rfl, rfl, rfl, rfl⟩
 refine gg ?_
 refine if_d (fun hc => ?_) (fun hc => ?_)
 ·have hil : i < l.length := by omega
  have hx : l[i]? = some l[i] := List.getElem?_eq_getElem hil
  rw [List.drop_eq_getElem_cons hil] at hw
  generalize l[i] = p at *
  obtain ⟨f, t⟩ := p
  simp only [Nam.within] at hw
  refine gg ?_
  refine ze fun K hK => ?_; rw [el_at hr (by omega) (by omega) (by decide), Int.toNat_natCast]; refine hK _ _ ?_; clear hK K
  refine ze fun K hK => ?_; refine VQ hr hs hx (by decide) mmA ?_; refine hK _ _ ?_; clear hK K
  refine ze fun K hK => ?_; refine zv fun b6 => ?_; (try simp only [Value.cells]); refine hK _ _ ?_; clear hK K
  refine gg ?_
  refine oS [.int .i32 f, .int .i32 t] rfl (by simp [Value.cell1]) ?_
  refine gg ?_
  by_cases h1 : f <= r
  ·rw [decide_eq_true h1] at hw ⊢
   refine gg ?_
   refine if_d (fun hc => ?_) (fun hc => ?_)
   ·rw [decide_eq_true hc, Bool.true_and, Bool.true_or] at hw
    rw [hw]
    refine gg ?_
    refine zb [C] ?_; exact ⟨rfl, rfl⟩
   ·rw [decide_eq_false hc, Bool.and_false, Bool.false_or] at hw
    refine gg ?_
    exact zA ⟨i + 1, by omega, hw, rfl, rfl, rfl, rfl⟩
  ·rw [decide_eq_false h1] at hw ⊢
   rw [Bool.false_and, Bool.false_or] at hw
   refine gg ?_
   exact zA ⟨i + 1, by omega, hw, rfl, rfl, rfl, rfl⟩
 ·obtain rfl : i = l.length := by omega
  rw [List.drop_length] at hw
  rw [hw]
  refine gg ?_
  refine zb [C] ?_; exact ⟨rfl, rfl⟩
theorem WV (i : Nat) (h : i < 4) : formsV.toArray.extract (i * 4) (i * 4 + 4) = (wC i).toArray := by
 match i, h with
 | 0, _ => rfl
 | 1, _ => rfl
 | 2, _ => rfl
 | 3, _ => rfl
 | i + 4, h => omega
theorem or_add (m k : Nat) (h : k < 64) : m * 64 ||| k = m * 64 + k := by
 have := Nat.two_pow_add_eq_or_of_lt (i := 6) (b := k) (by omega) m
 rw [Nat.mul_comm m 64]; exact this.symm
theorem JY (c : UInt8) (l : List UInt8) (k : Nat) (h1 : 1 <= k) (h2 : k <= l.length) : l.drop (k - 1) = (c :: l).getD k 0 :: l.drop k := by
 obtain ⟨k, rfl⟩ : ∃ j, k = j + 1 := ⟨k - 1, by omega⟩
 rw [Nat.add_sub_cancel, List.drop_eq_getElem_cons (by omega)]
 congr 1
 rw [List.getD, List.getElem?_cons_succ, List.getElem?_eq_getElem (by omega), Option.getD_some]
theorem tail_int (x : UInt8) : (((x &&& ~~~(UInt8.ofNat 63)).toNat : Int) != 128) = !isTail x :=
 eq_of_beq (all8 (fun x => (((x &&& ~~~(UInt8.ofNat 63)).toNat : Int) != 128) == !isTail x) (by decide +kernel) x)
theorem Kl {C : Chunk} (hG : GNam C) (c : UInt8) (l : List UInt8) (hlen : l.length <= 1000000) :
  Meets Tryz.prog 254 [.string (str (c :: l))] [C] fun v A => v = .tuple #[.int .i32 (dec (c :: l)).1, .int .i64 (dec (c :: l)).2] /\ A = [C] := by
 obtain ⟨tg, mg, hg0⟩ := hG.g0
 have hz : (c :: l).length = l.length + 1 := rfl
 refine eN Tryz.func254 Tryz.ntmps254 Tryz.results254 fun F => ?_
 refine gg ?_
 refine ze fun K hK => ?_; refine zm (vs := formsV) (XJ hg0 mmA) rfl ?_; refine hK _ _ ?_; clear hK K
 refine gg ?_
 refine zB (fun q D L S => ∃ i : Nat, i <= 4 /\ (∀ j, j < i -> inr j c = true -> l.length < j) /\ q = 4 - i /\ D = [] /\ L = [(9, .int .i64 i), (8, .agg formsV.toArray), (0, .string (str (c :: l)))] /\ S = [C, F])
  ⟨0, by omega, by omega, rfl, rfl, rfl, rfl⟩ ?_
 rintro q D L S ⟨i, hi, hno, rfl, rfl, rfl, rfl⟩
 refine gg ?_
 refine if_d (fun hc => ?_) (fun hc => ?_)
 ·have hi4 : i < 4 := by omega
  refine gg ?_
  refine ze fun K hK => ?_; rw [arr_el (by omega) (by omega), Int.toNat_natCast, WV i hi4]; refine hK _ _ ?_; clear hK K
  refine ze fun K hK => ?_; refine zv fun b5 => ?_; (try simp only [Value.cells]); refine hK _ _ ?_; clear hK K
  refine gg ?_
  refine oS (wC i) rfl (by simp [wC, Value.cell1, b8]) ?_
  simp only [wC]
  refine gg ?_
  refine zn [(0, false, []), (1, false, []), (2, false, []), (3, false, []), (4, false, []), (5, false, []), (6, false, []), (7, false, []), (8, false, []), (9, false, []), (10, false, []), (11, false, []), (12, false, []), (13, false, []), (14, false, [])] ?_
  refine gg ?_
  rw [show (c :: l).getD 0 0 = c from rfl, Ug i hi4 c]
  cases hin : inr i c with
  | false =>
   refine gg ?_
   have hno' : ∀ j, j < i + 1 -> inr j c = true -> l.length < j := fun j hj hjc => by
    rcases Nat.lt_or_eq_of_le (Nat.le_of_lt_succ hj) with h | h
    ·exact hno j h hjc
    ·subst h; rw [hin] at hjc; cases hjc
   exact zA ⟨i + 1, by omega, hno', rfl, rfl, rfl, rfl⟩
  | true =>
   refine gg ?_
   by_cases hlt : l.length < i
   ·rw [decide_eq_true (show ((c :: l).length : Int) < (i : Int) + 1 by rw [hz]; omega)]
    refine gg ?_
    have hno' : ∀ j, j < i + 1 -> inr j c = true -> l.length < j := fun j hj hjc => by
     rcases Nat.lt_or_eq_of_le (Nat.le_of_lt_succ hj) with h | h
     ·exact hno j h hjc
     ·subst h; exact hlt
    exact zA ⟨i + 1, by omega, hno', rfl, rfl, rfl, rfl⟩
   ·rw [decide_eq_false (show ¬ ((c :: l).length : Int) < (i : Int) + 1 by rw [hz]; omega)]
    have hdec := vh i hi4 c l hin
    have hval := form_val i hi4 c hin
    have hr0 : c.toNat - lo i < 128 := by
     have := c.toNat_lt
     simp only [inr, Bool.and_eq_true, decide_eq_true_eq] at hin
     match i, hi4 with
     | 0, _ => simp [lo, Nam.hi] at *; omega
     | 1, _ => simp [lo, Nam.hi] at *; omega
     | 2, _ => simp [lo, Nam.hi] at *; omega
     | 3, _ => simp [lo, Nam.hi] at *; omega
     | i + 4, h => omega
    refine gg ?_
    refine zn [(0, false, []), (1, false, []), (2, false, []), (3, false, []), (4, false, []), (5, false, []), (6, true, [])] ?_
    refine gg ?_
    refine qO fun K hK => ?_; rw [cq_b8_i32]; refine hK _ _ ?_; clear hK K
    refine gg ?_
    rw [show (c :: l).getD 0 0 = c from rfl, hval]
    generalize c.toNat - lo i = r0 at *
    refine zB (fun q D L S => ∃ k r : Nat, 1 <= k /\ k <= i + 1 /\ xO i r0 l = xO (i + 1 - k) r (l.drop (k - 1)) /\ r < 128 * 64 ^ (k - 1) /\ q = i + 1 - k /\ D = [] /\
     L = [(7, .int .i64 k), (6, .int .i32 r), (5, .pointer (some ⟨b5, 0, none⟩)), (0, .string (str (c :: l)))] /\ S = [[(b5, .cells #[.int .i64 ((i : Int) + 1), b8 (mk i), b8 (ld i), .int .i32 (ls i)] 369 (0, 0))], C, F])
     ⟨1, r0, by omega, by omega, rfl, by simpa using hr0, rfl, rfl, rfl, rfl⟩ ?_
    rintro q D L S ⟨k, r, hk1, hk2, ht, hb, rfl, rfl, rfl, rfl⟩
    refine gg ?_
    refine if_d (fun hc => ?_) (fun hc => ?_)
    ·have hki : k <= i := by omega
     have hb2 : (64 : Nat) ^ (k - 1) <= 64 ^ 2 := Nat.pow_le_pow_right (by omega) (by omega)
     obtain ⟨x, hx⟩ : ∃ x, (c :: l).getD k 0 = x := ⟨_, rfl⟩
     have hd := JY c l k hk1 (by omega)
     rw [hx] at hd
     rw [hd, show i + 1 - k = (i - k) + 1 from by omega, xO] at ht
     refine gg ?_
     rw [hx, tail_int x]
     cases htl : isTail x with
     | false =>
      rw [htl] at ht
      simp only [Bool.false_eq_true, if_false] at ht
      rw [ht] at hdec
      rw [hdec]
      refine gg ?_
      refine zf [C] ?_; exact ⟨rfl, rfl⟩
     | true =>
      rw [htl] at ht
      simp only [if_true] at ht
      have hx64 := tail_val x htl
      have hx2 : x.toNat - 128 < 64 := by
       simp only [isTail, Bool.and_eq_true, decide_eq_true_eq] at htl; omega
      refine gg ?_
      refine ze fun K hK => ?_; rw [i32_shl6 (by omega) (by omega)]; refine hK _ _ ?_; clear hK K
      refine gg ?_
      refine ze fun K hK => ?_; rw [Kr, hx, show (x &&& UInt8.ofNat 63).toNat = x.toNat - 128 from hx64]; refine hK _ _ ?_; clear hK K
      refine ze fun K hK => ?_; rw [i32_or (by omega) (by omega) (by omega) (by omega), show ((r : Int) * 64).toNat = r * 64 from by omega, Int.toNat_natCast, or_add _ _ hx2]; refine hK _ _ ?_; clear hK K
      refine gg ?_
      have e64 : (64 : Nat) ^ k = 64 * 64 ^ (k - 1) := by
       obtain ⟨j, rfl⟩ : ∃ j, k = j + 1 := ⟨k - 1, by omega⟩
       rw [Nat.add_sub_cancel, Nat.pow_succ, Nat.mul_comm]
      exact zA ⟨k + 1, r * 64 + (x.toNat - 128), by omega, by omega, by rw [ht, show i + 1 - (k + 1) = i - k from by omega, Nat.add_sub_cancel], by rw [Nat.add_sub_cancel, e64]; omega, rfl, rfl, rfl, rfl⟩
    ·have hki : k = i + 1 := by omega
     subst hki
     rw [Nat.sub_self, xO] at ht
     rw [ht] at hdec
     simp only at hdec
     rw [hdec]
     refine gg ?_
     by_cases hls : ls i <= (r : Int)
     ·rw [decide_eq_true hls]
      refine gg ?_
      refine cA (Jp r) ?_; rintro v A ⟨rfl, rfl⟩; refine gA ?_
      cases hsg : sgn (r : Int) with
      | true =>
       refine gg ?_
       refine zn [(0, false, []), (1, false, []), (2, false, []), (3, true, [2]), (4, true, [])] ?_
       refine gg ?_
       refine zf [C] ?_; exact ⟨rfl, rfl⟩
      | false =>
       refine gg ?_
       refine zf [C] ?_; exact ⟨rfl, rfl⟩
     ·rw [decide_eq_false hls]
      refine gg ?_
      refine zf [C] ?_; exact ⟨rfl, rfl⟩
 ·have hnn : ∀ j, j < 4 -> inr j c = true -> l.length < j := fun j hj h => hno j (by omega) h
  rw [IH c l hnn]
  refine gg ?_
  refine zf [C] ?_; exact ⟨rfl, rfl⟩
theorem dec_size (c : UInt8) (l : List UInt8) (h : jk c.toNat ≠ 0) : dec (c :: l) = match xO (jk c.toNat - 1) (fval c.toNat) l with
  | none => (-1, 1)
  | some r => if okR (jk c.toNat) r then ((r : Int), jk c.toNat) else (-1, 1) := by
 simp only [dec]; rw [if_neg h]
 cases xO (jk c.toNat - 1) (fval c.toNat) l <;> rfl
theorem Uh (c : UInt8) (l : List UInt8) (hlen : l.length <= 1000000) :
  Meets Tryz.prog 213 [.string (str (c :: l))] [] fun v A => v = .tuple #[.int .i64 (dec (c :: l)).1, .int .i64 (dec (c :: l)).2] /\ A = [] := by
 have hz : (c :: l).length = l.length + 1 := rfl
 have hc256 := c.toNat_lt
 obtain ⟨cn, hcn⟩ : ∃ cn : Int, (c.toNat : Int) = cn := ⟨_, rfl⟩
 refine eN Tryz.func213 Tryz.ntmps213 Tryz.results213 fun F => ?_
 (with_reducible refine xb ?_); refine zZ (fun D L S => D = [] /\ L = [(0, .string (str (c :: l)))] /\ S = [F]) ?_ ?_
 ·refine gg ?_
  exact mid ⟨rfl, rfl, rfl⟩
 rintro D L S ⟨rfl, rfl, rfl⟩
 (with_reducible refine xb ?_); refine zZ (fun D L S => D = [] /\ L = [(4, .int .i64 cn), (0, .string (str (c :: l)))] /\ S = [F]) ?_ ?_
 ·refine gg ?_
  (try rw [show (c :: l).getD 0 0 = c from rfl])
  rw [hcn]
  exact mid ⟨rfl, rfl, rfl⟩
 rintro D L S ⟨rfl, rfl, rfl⟩
 (with_reducible refine xb ?_); refine zZ (fun D L S => D = [] /\ L = [(4, .int .i64 cn), (0, .string (str (c :: l)))] /\ S = [F]) ?_ ?_
 ·refine gg ?_
  exact mid ⟨rfl, rfl, rfl⟩
 rintro D L S ⟨rfl, rfl, rfl⟩
 (with_reducible refine xb ?_); refine zZ (fun D L S => ∃ n r0 : Nat, jk c.toNat = n /\ fval c.toNat = r0 /\ 2 <= n /\ n <= 4 /\ r0 < 32 /\ D = [] /\ L = [(5, .int .i64 n), (6, .int .i64 r0), (0, .string (str (c :: l)))] /\ S = [F]) ?_ ?_
 ·refine gg ?_
  by_cases h1 : cn < 128
  ·rw [decide_eq_true (show cn < 128 by omega)]
   rw [OR c l (by omega), hcn]
   refine gg ?_
   refine zf [] ?_; exact ⟨rfl, rfl⟩
  ·rw [decide_eq_false (show ¬ cn < 128 by omega)]
   refine gg ?_
   by_cases h2 : 194 <= cn
   ·rw [decide_eq_true (show (194 : Int) <= cn by omega)]
    refine gg ?_
    by_cases h3 : cn <= 223
    ·rw [decide_eq_true (show cn <= 223 by omega)]
     refine gg ?_
     rw [show cn - 192 = ((c.toNat - 192 : Nat) : Int) from by omega]
     exact mid ⟨2, c.toNat - 192, by unfold jk; rw [if_neg (by omega), if_pos (by omega)], by unfold fval; rw [if_neg (by omega), if_pos (by omega)], by omega, by omega, by omega, rfl, rfl, rfl⟩
    ·rw [decide_eq_false (show ¬ cn <= 223 by omega)]
     refine gg ?_
     rw [decide_eq_true (show (224 : Int) <= cn by omega)]
     refine gg ?_
     by_cases h4 : cn <= 239
     ·rw [decide_eq_true (show cn <= 239 by omega)]
      refine gg ?_
      rw [show cn - 224 = ((c.toNat - 224 : Nat) : Int) from by omega]
      exact mid ⟨3, c.toNat - 224, by unfold jk; rw [if_neg (by omega), if_neg (by omega), if_pos (by omega)], by unfold fval; rw [if_neg (by omega), if_neg (by omega), if_pos (by omega)], by omega, by omega, by omega, rfl, rfl, rfl⟩
     ·rw [decide_eq_false (show ¬ cn <= 239 by omega)]
      refine gg ?_
      rw [decide_eq_true (show (240 : Int) <= cn by omega)]
      refine gg ?_
      by_cases h5 : cn <= 244
      ·rw [decide_eq_true (show cn <= 244 by omega)]
       refine gg ?_
       rw [show cn - 240 = ((c.toNat - 240 : Nat) : Int) from by omega]
       exact mid ⟨4, c.toNat - 240, by unfold jk; rw [if_neg (by omega), if_neg (by omega), if_neg (by omega), if_pos (by omega)], by unfold fval; rw [if_neg (by omega), if_neg (by omega), if_neg (by omega)], by omega, by omega, by omega, rfl, rfl, rfl⟩
      ·rw [decide_eq_false (show ¬ cn <= 244 by omega)]
       refine gg ?_
       have e1 : jk c.toNat = 0 := by unfold jk; rw [if_neg (by omega), if_neg (by omega), if_neg (by omega), if_neg (by omega)]
       rw [show dec (c :: l) = (-1, 1) from by simp only [dec, e1, if_true]]
       refine zf [] ?_; exact ⟨rfl, rfl⟩
   ·rw [decide_eq_false (show ¬ (194 : Int) <= cn by omega)]
    refine gg ?_
    rw [decide_eq_false (show ¬ (224 : Int) <= cn by omega)]
    refine gg ?_
    rw [decide_eq_false (show ¬ (240 : Int) <= cn by omega)]
    refine gg ?_
    have e1 : jk c.toNat = 0 := by unfold jk; rw [if_neg (by omega), if_neg (by omega), if_neg (by omega), if_neg (by omega)]
    rw [show dec (c :: l) = (-1, 1) from by simp only [dec, e1, if_true]]
    refine zf [] ?_; exact ⟨rfl, rfl⟩
 rintro D L S ⟨n, r0, hn, hr0, hn2, hn4, hr32, rfl, rfl, rfl⟩
 have hdec := dec_size c l (by omega)
 rw [hn, hr0] at hdec
 refine gg ?_
 refine if_d (fun hc => ?_) (fun hc => ?_)
 ·rw [yj (n - 1) r0 l (by rw [hz] at hc; omega)] at hdec
  rw [hdec]
  refine gg ?_
  refine zf [] ?_; exact ⟨rfl, rfl⟩
 ·have hcn : n <= l.length + 1 := by rw [hz] at hc; omega
  refine gg ?_
  refine zB (fun q D L S => ∃ k r : Nat, 1 <= k /\ k <= n /\ xO (n - 1) r0 l = xO (n - k) r (l.drop (k - 1)) /\ r < 128 * 64 ^ (k - 1) /\ q = n - k /\ D = [] /\
   L = [(7, .int .i64 k), (6, .int .i64 r), (5, .int .i64 n), (0, .string (str (c :: l)))] /\ S = [F])
   ⟨1, r0, by omega, by omega, rfl, by simp; omega, rfl, rfl, rfl, rfl⟩ ?_
  rintro q D L S ⟨k, r, hk1, hk2, ht, hb, rfl, rfl, rfl, rfl⟩
  refine gg ?_
  refine if_d (fun hc => ?_) (fun hc => ?_)
  ·have hki : k < n := by omega
   have hb2 : (64 : Nat) ^ (k - 1) <= 64 ^ 2 := Nat.pow_le_pow_right (by omega) (by omega)
   obtain ⟨x, hx⟩ : ∃ x, (c :: l).getD k 0 = x := ⟨_, rfl⟩
   have hd := JY c l k hk1 (by omega)
   rw [hx] at hd
   rw [hd, show n - k = (n - k - 1) + 1 from by omega, xO] at ht
   have hx256 := x.toNat_lt
   refine gg ?_
   rw [hx]
   refine cA (UZ x) ?_; rintro v A ⟨rfl, rfl⟩; refine gA ?_
   cases htl : isTail x with
   | false =>
    rw [htl] at ht
    simp only [Bool.false_eq_true, if_false] at ht
    rw [ht] at hdec
    rw [hdec]
    refine gg ?_
    refine zf [] ?_; exact ⟨rfl, rfl⟩
   | true =>
    rw [htl] at ht
    simp only [if_true] at ht
    have htl' := htl
    simp only [isTail, Bool.and_eq_true, decide_eq_true_eq] at htl'
    refine gg ?_
    rw [hx]
    obtain ⟨xn, hxn⟩ : ∃ xn, x.toNat = xn := ⟨_, rfl⟩
    refine ze fun K hK => ?_; rw [UP hxn (by omega) (by omega)]; refine hK _ _ ?_; clear hK K
    refine gg ?_
    have e64 : (64 : Nat) ^ k = 64 * 64 ^ (k - 1) := by
     obtain ⟨j, rfl⟩ : ∃ j, k = j + 1 := ⟨k - 1, by omega⟩
     rw [Nat.add_sub_cancel, Nat.pow_succ, Nat.mul_comm]
    exact zA ⟨k + 1, r * 64 + (xn - 128), by omega, by omega, by rw [ht, hxn, show n - (k + 1) = n - k - 1 from by omega, Nat.add_sub_cancel], by rw [Nat.add_sub_cancel, e64]; omega, rfl, rfl, rfl, rfl⟩
  ·have hki : k = n := by omega
   subst hki
   rw [Nat.sub_self, xO] at ht
   rw [ht] at hdec
   simp only at hdec
   rw [hdec]
   have hbd := qY _ _ _ _ (show xO (k - 1) r0 l = some r from ht)
   have hk : k = 2 ∨ k = 3 ∨ k = 4 := by omega
   obtain ⟨ri, hri⟩ : ∃ ri : Int, (r : Int) = ri := ⟨_, rfl⟩
   refine gg ?_
   rw [hri]
   rcases hk with rfl | rfl | rfl
   ·simp only [Nat.reduceSub, Nat.reducePow] at hbd
    rw [if_pos (show okR 2 r = true by simp [okR]; omega)]
    refine gg ?_
    rw [decide_eq_false (show ¬ 55296 <= ri by omega)]
    refine gg ?_
    rw [decide_eq_false (show ¬ 1114111 < ri by omega)]
    refine gg ?_
    (try rw [hri])
    refine zf [] ?_; exact ⟨rfl, rfl⟩
   ·simp only [Nat.reduceSub, Nat.reducePow] at hbd
    refine gg ?_
    by_cases g1 : ri < 2048
    ·rw [decide_eq_true g1, if_neg (show ¬ okR 3 r = true by simp [okR]; omega)]
     refine gg ?_
     refine zf [] ?_; exact ⟨rfl, rfl⟩
    ·rw [decide_eq_false g1]
     refine gg ?_
     by_cases g2 : 55296 <= ri
     ·rw [decide_eq_true g2]
      refine gg ?_
      by_cases g3 : ri <= 57343
      ·rw [decide_eq_true g3, if_neg (show ¬ okR 3 r = true by simp [okR]; omega)]
       refine gg ?_
       refine zf [] ?_; exact ⟨rfl, rfl⟩
      ·rw [decide_eq_false g3]
       refine gg ?_
       rw [decide_eq_false (show ¬ 1114111 < ri by omega), if_pos (show okR 3 r = true by simp [okR]; omega)]
       refine gg ?_
       (try rw [hri])
       refine zf [] ?_; exact ⟨rfl, rfl⟩
     ·rw [decide_eq_false g2]
      refine gg ?_
      rw [decide_eq_false (show ¬ 1114111 < ri by omega), if_pos (show okR 3 r = true by simp [okR]; omega)]
      refine gg ?_
      (try rw [hri])
      refine zf [] ?_; exact ⟨rfl, rfl⟩
   ·simp only [Nat.reduceSub, Nat.reducePow] at hbd
    refine gg ?_
    by_cases g1 : ri < 65536
    ·rw [decide_eq_true g1, if_neg (show ¬ okR 4 r = true by simp [okR]; omega)]
     refine gg ?_
     refine zf [] ?_; exact ⟨rfl, rfl⟩
    ·rw [decide_eq_false g1]
     refine gg ?_
     rw [decide_eq_true (show 55296 <= ri by omega)]
     refine gg ?_
     rw [decide_eq_false (show ¬ ri <= 57343 by omega)]
     refine gg ?_
     by_cases g3 : 1114111 < ri
     ·rw [decide_eq_true g3, if_neg (show ¬ okR 4 r = true by simp [okR]; omega)]
      refine gg ?_
      refine zf [] ?_; exact ⟨rfl, rfl⟩
     ·rw [decide_eq_false g3, if_pos (show okR 4 r = true by simp [okR]; omega)]
      refine gg ?_
      (try rw [hri])
      refine zf [] ?_; exact ⟨rfl, rfl⟩
def encS (p : Nat × Int) : List Value := [.int .i64 p.1, .int .i64 p.2]
theorem encS_len (p : Nat × Int) : (encS p).length = 2 := rfl
theorem cell_S (p : Nat × Int) : ∀ v ∈ encS p, Value.cell1 v := fun v h => by
 simp only [encS, List.mem_cons, List.not_mem_nil, or_false] at h
 rcases h with rfl | rfl <;> trivial
abbrev OwnS (C : Chunk) (a : Option Addr) (cap : Nat) (l : List (Nat × Int)) : Prop := Ost.Own 2 312 C a l.length cap (l.flatMap encS)
instance iNE_1 : TPlaces Tryz.prog 312 [(0, 1), (1, 1)] := ⟨by kernel_rfl⟩
instance iNE_2 : TEq Tryz.prog 312 [.i, .i] := ⟨by kernel_rfl⟩
theorem yT {s : List UInt8} {k : Nat} (h : k < s.length) : s.drop k ≠ [] := fun e => by
 have := congrArg List.length e
 rw [List.length_drop, List.length_nil] at this; omega
theorem Ql {s : List UInt8} {k : Nat} (h : k < s.length) : ∃ c l, s.drop k = c :: l /\ l.length + 1 = s.length - k := by
 obtain ⟨c, l, e⟩ := List.exists_cons_of_ne_nil (yT h)
 refine ⟨c, l, e, ?_⟩
 have := congrArg List.length e
 rw [List.length_drop, List.length_cons] at this; omega
theorem Vl (s : List UInt8) (hlen : s.length <= 1000000) :
  Meets Tryz.prog 171 [.string (str s)] [] fun v A => ∃ X a cap, v = .slice a (sg 0 s).length cap /\ OwnS X a cap (sg 0 s) /\ A = [X] := by
 refine eN Tryz.func171 Tryz.ntmps171 Tryz.results171 fun F => ?_
 refine gg ?_
 refine zE ?_
 refine zB (fun q D L S => ∃ (k : Nat) (pre : List (Nat × Int)) (X : Chunk) (xa : Option Addr) (xc : Nat), k <= s.length /\ sg 0 s = pre ++ sg k (s.drop k) /\ OwnS X xa xc pre /\ pre.length <= k /\ q = s.length - k /\ D = [] /\
  L = [(4, .int .i64 k), (3, .slice xa pre.length xc), (0, .string (str s))] /\ S = [X, F])
  ⟨0, [], [], none, 0, by omega, rfl, own_nil, by simp, rfl, rfl, rfl, rfl⟩ ?_
 rintro q D L S ⟨k, pre, X, xa, xc, hk, he, hX, hpl, rfl, rfl, rfl, rfl⟩
 refine gg ?_
 refine if_d (fun hc => ?_) (fun hc => ?_)
 ·have hlt : k < s.length := by omega
  obtain ⟨c, l, hcl, hl⟩ := Ql hlt
  have hstep := Vd k (yT hlt)
  have hpos := yU (s.drop k)
  have hln := Yd (yT hlt)
  rw [List.length_drop] at hln
  rw [List.drop_drop] at hstep
  have hf := Uh c l (by omega)
  rw [<- hcl] at hf
  refine gg ?_
  refine cA (hf) ?_; rintro v A ⟨rfl, rfl⟩; refine gA ?_
  generalize dec (s.drop k) = d at *
  refine oT [(0, .int .i64 k), (1, .int .i64 d.1)] #[.int .i64 k, .int .i64 d.1] ?_
  refine ze fun K hK => ?_; refine xd (e := 312) (s := 2) (hs := inferInstance) (vs := encS (k, d.1)) (by rfl) (by decide) (by decide) rfl (fun b1 C1 ho1 => ?_); refine hK _ _ ?_; clear hK K
  refine ze fun K hK => ?_; refine zu (e := 312) (s := 2) (hs := inferInstance) (by rfl) (by decide) hX (.inr pkA) (ho1.rd mmA) (cell_S _) (by simp only [maxLen]; omega) (by omega) (fun C3 a3 cap3 ho3 => ?_); refine hK _ _ ?_; clear hK K
  have e1 : pre.length + 1 = (pre ++ [(k, d.1)]).length := by simp
  have e2 : pre.flatMap encS ++ encS (k, d.1) = (pre ++ [(k, d.1)]).flatMap encS := by simp
  rw [e1, e2] at ho3
  rw [e1]
  refine gg ?_
  exact zA ⟨k + d.2, pre ++ [(k, d.1)], C3, a3, cap3, by omega, by rw [he, hstep]; simp, ho3, by simp; omega, rfl, rfl, rfl, rfl⟩
 ·obtain rfl : k = s.length := by omega
  rw [List.drop_length, sg_nil, List.append_nil] at he
  subst he
  refine gg ?_
  refine zb [X] ⟨X, xa, xc, rfl, hX, rfl⟩
theorem Zz (s : List UInt8) : Meets Tryz.prog 243 [.string (str s)] []
  fun u A => ∃ p, u = .func (.func 253) #[] #[.pointer (some ⟨p, 0, none⟩)] /\ A = [bx p (.string (str s)) 9] := by
 refine eN Tryz.func243 Tryz.ntmps243 Tryz.results243 fun F => ?_
 refine gg ?_
 refine oB fun p1 => ?_
 refine gg ?_
 refine zb [bx p1 (.string (str s)) 9] ⟨p1, rfl, rfl⟩
def encN (x : Nat × Int) : List Value := [.int .i64 x.1, .int .i32 x.2]
abbrev withC (C : Chunk) (_ : List (Nat × Int)) (_ : Nat × Int) (H : State) : Prop := H = [C]
theorem ZA {C : Chunk} (hG : GNam C) (p : Nat) (s : List UInt8) (hlen : s.length <= 1000000) :
  IMeetsG Tryz.prog 253 [] [.pointer (some ⟨p, 0, none⟩)] encN [bx p (.string (str s)) 9, C]
   (fun T => T = []) (withC C) (withC C) (withC C) (UE (sg 0 s)) (fun pre => pre = sg 0 s)
   (fun _ A => A = [bx p (.string (str s)) 9, C]) (fun _ A => A = [bx p (.string (str s)) 9, C]) false := by
 refine jB (by kernel_rfl) fun l0 J Jx hN hT hY Cj hC => ?_
 refine eN Tryz.func253 Tryz.ntmps253 Tryz.results253 fun F => ?_
 refine gg ?_
 refine zB (fun q D L S => ∃ (k : Nat) (pre : List (Nat × Int)) (Cj : Chunk), k <= s.length /\ sg 0 s = pre ++ sg k (s.drop k) /\ J pre Cj /\ q = s.length - k /\ D = [] /\
  L = [(3, .int .i64 k), (0, .func (.yield l0) #[] #[]), (1, .pointer (some ⟨p, 0, none⟩))] /\ S = [Cj, bx p (.string (str s)) 9, C, F])
  ⟨0, [], Cj, by omega, rfl, hC, rfl, rfl, rfl, rfl⟩ ?_
 rintro q D L S ⟨k, pre, Cj, hk, he, hJ, rfl, rfl, rfl, rfl⟩
 refine gg ?_
 refine if_d (fun hc => ?_) (fun hc => ?_)
 ·have hlt : k < s.length := by omega
  obtain ⟨c, l, hcl, hl⟩ := Ql hlt
  have hstep := Vd k (yT hlt)
  have hpos := yU (s.drop k)
  have hln := Yd (yT hlt)
  rw [List.length_drop] at hln
  rw [List.drop_drop] at hstep
  have hf := Kl hG c l (by omega)
  rw [<- hcl] at hf
  refine gg ?_
  refine cA (hf) ?_; rintro v A ⟨rfl, rfl⟩; refine gA ?_
  generalize dec (s.drop k) = d at *
  rw [hstep] at he
  refine ze fun K hK => ?_
  refine xy (hY pre (k, d.1) ⟨_, he⟩) hJ rfl tkA (fun C4 H4 hJ4 hH4 => ?_) (fun C4 H4 hJ4 hH4 => ?_)
  ·subst hH4
   (try simp only [List.nil_append, List.cons_append])
   refine hK _ _ ?_; clear hK K
   refine gg ?_
   exact zA ⟨k + d.2, pre ++ [(k, d.1)], C4, by omega, by rw [he]; simp, hJ4, rfl, rfl, rfl, rfl⟩
  ·subst hH4
   (try simp only [List.nil_append, List.cons_append])
   refine hK _ _ ?_; clear hK K
   refine gg ?_
   exact xE [C4, bx p (.string (str s)) 9, C] ⟨C4, _, rfl, .inr ⟨pre, _, ⟨_, he⟩, hJ4, rfl⟩⟩
 ·obtain rfl : k = s.length := by omega
  rw [List.drop_length, sg_nil, List.append_nil] at he
  subst he
  refine gg ?_
  exact zJ [Cj, bx p (.string (str s)) 9, C] ⟨Cj, _, rfl, .inl ⟨_, rfl, hJ, rfl⟩⟩
theorem next_rng {s : List UInt8} {pre : List (Nat × Int)} {x : Nat × Int} (h : UE (sg 0 s) pre x) : -1 <= x.2 /\ x.2 <= 1114111 /\ pre.length + 1 <= s.length /\ (0 <= x.2 -> sgn x.2 = true) := by
 obtain ⟨post, h⟩ := h
 have hm : x.2 ∈ rs s := by rw [<- Jr _ 0 s (Nat.le_refl _), h]; simp
 have h1 := Ow _ s (Nat.le_refl _) _ hm
 have h2 := Wq _ s (Nat.le_refl _)
 have h3 := sg_len 0 s
 rw [h, List.length_append, List.length_cons] at h3
 exact ⟨h1.1, h1.2, by omega, Wp _ s (Nat.le_refl _) _ hm⟩
def badB (s : List UInt8) : Bool := (rs s).any (fun r => decide (r < 0))
theorem Yl {C : Chunk} (hG : GNam C) (s : List UInt8) (hlen : s.length <= 1000000) :
  Meets Tryz.prog 214 [.string (str s)] [C] fun v A => v = .bool (!badB s) /\ A = [C] := by
 refine eN Tryz.func214 Tryz.ntmps214 Tryz.results214 fun F => ?_
 refine gg ?_
 refine ze fun K hK => ?_; refine zv fun b2 => ?_; (try simp only [Value.cells]); refine hK _ _ ?_; clear hK K
 refine gg ?_
 refine cA (Zz s) ?_; rintro v A ⟨p, rfl, rfl⟩; refine gA ?_
 refine xH (by (try simp only [evT, lookT_hit, lookT_miss, Nat.reduceBEq]); (first | done | exact rfl)) (ZA hG p s hlen) (by (repeat (first | exact Take.nil _ | with_reducible exact Pick.head _ _ | with_reducible apply Pick.tail | with_reducible apply Take.cons))) (fun pre Cl => (∀ x ∈ pre, 0 <= x.2) /\ Cl = [bx b2 (.bool false) 4, F])
  (fun k pre Cl => k = .ret /\ (∃ x ∈ sg 0 s, x.2 < 0) /\ Cl = [bx b2 (.bool false) 4, F]) (fun h => by cases h) (fun Cl hC => ?_) (fun _ => rfl) ⟨by simp, rfl⟩ ?_ ?_ ?_
 ·exact ⟨[], _, rfl, .refl _⟩
 ·rintro l F1 Cl H r pre x hx ⟨hp, rfl⟩ rfl
  obtain ⟨hr1, hr2, hr3, _⟩ := next_rng hx
  have hmem : x ∈ sg 0 s := by obtain ⟨post, h⟩ := hx; rw [h]; simp
  obtain ⟨k, v⟩ := x
  simp only at hr1 hr2
  (try simp only [List.nil_append, List.cons_append, List.append_nil, encN])
  (try simp only [jm, putT, Nat.reduceLT, if_true, reduceIte, Array.toList, List.toList_toArray])
  refine gg ?_
  refine ⟨_, .cons (.head _ _) (Among.refl _), fun r' _ => ?_⟩
  refine gg ?_
  refine if_b (fun hc => ?_) (fun hc => ?_)
  ·refine gg ?_
   exact ⟨_, ⟨_, [C], rfl, ⟨rfl, ⟨_, hmem, by simp only; omega⟩, rfl⟩, rfl⟩, by (try simp only [List.cons_append, List.nil_append]); first | ((repeat (first | with_reducible exact Among.nil _ | with_reducible exact Pick.head _ _ | with_reducible apply Pick.tail | with_reducible apply Among.cons)); done) | ((repeat (first | exact Among.nil _ | exact Pick.head _ _ | apply Pick.tail | apply Among.cons)); done)⟩
  ·refine gg ?_
   exact ⟨_, ⟨_, [C], rfl, ⟨fun y hy => by
    rcases List.mem_append.1 hy with hy | hy
    ·exact hp y hy
    ·rw [List.mem_singleton.1 hy]; simp only; omega, rfl⟩, rfl⟩, by (try simp only [List.cons_append, List.nil_append]); first | ((repeat (first | with_reducible exact Among.nil _ | with_reducible exact Pick.head _ _ | with_reducible apply Pick.tail | with_reducible apply Among.cons)); done) | ((repeat (first | exact Among.nil _ | exact Pick.head _ _ | apply Pick.tail | apply Among.cons)); done)⟩
 ·rintro d pre Cl A rfl ⟨hp, rfl⟩ rfl
  have hb : badB s = false := by
   unfold badB
   rw [<- Jr _ 0 s (Nat.le_refl _), Ze]
   intro r hr
   obtain ⟨x, hx, rfl⟩ := List.mem_map.1 hr
   exact hp x hx
  rw [hb]
  (try simp only [List.nil_append, List.cons_append])
  refine gg ?_
  refine zf [C] ⟨rfl, rfl⟩
 ·rintro d k pre x Cl A hx ⟨rfl, ⟨y, hy, hy0⟩, rfl⟩ rfl
  have hb : badB s = true := by
   unfold badB
   rw [<- Jr _ 0 s (Nat.le_refl _), List.any_eq_true]
   exact ⟨y.2, List.mem_map.2 ⟨y, hy, rfl⟩, decide_eq_true hy0⟩
  rw [hb]
  (try simp only [List.nil_append, List.cons_append])
  refine gg ?_
  refine zf [C] ⟨rfl, rfl⟩
theorem val8 {a : Int} {n : Nat} (h : a = (n : Int)) (hn : n < 256) : Value.int .u8 a = b8 (UInt8.ofNat n) := by
 rw [Yh (n := a) (by omega) (by omega)]
 congr 2; omega
theorem one8 {i : Nat} {x u : Value} (h : x = u) : ([(i, x)] : List (Nat × Value)).map (·.2) = [u] := by rw [h]; rfl
theorem two8 {i j : Nat} {x y u v : Value} (h : x = u) (h2 : y = v) : ([(i, x), (j, y)] : List (Nat × Value)).map (·.2) = [u, v] := by rw [h, h2]; rfl
theorem three8 {i j k : Nat} {x y z u v w : Value} (h : x = u) (h2 : y = v) (h3 : z = w) : ([(i, x), (j, y), (k, z)] : List (Nat × Value)).map (·.2) = [u, v, w] := by rw [h, h2, h3]; rfl
theorem four8 {i j k l : Nat} {x y z t u v w s : Value} (h : x = u) (h2 : y = v) (h3 : z = w) (h4 : t = s) : ([(i, x), (j, y), (k, z), (l, t)] : List (Nat × Value)).map (·.2) = [u, v, w, s] := by rw [h, h2, h3, h4]; rfl
theorem Vu (r : Int) (hr : r <= 4294967296) : Meets Tryz.prog 175 [.int .i64 r] [] (New8 5 (enc r) []) := by
 have hodd : sgn r = false -> enc r = [239, 191, 189] := fun h => by unfold enc; rw [if_pos h]
 refine eN Tryz.func175 Tryz.ntmps175 Tryz.results175 fun F => ?_
 refine gg ?_
 by_cases h1 : r < 0
 ·rw [decide_eq_true h1, hodd (by simp [sgn]; omega)]
  refine gg ?_
  refine ze fun K hK => ?_; refine zR ([239, 191, 189]) (by decide) rfl (rfl) (fun b9 C9 ho9 => ?_); refine hK _ _ ?_; clear hK K
  refine gg ?_
  refine zb ([C9]) ?_; exact ⟨_, _, _, rfl, ho9, rfl⟩
 rw [decide_eq_false h1]
 refine gg ?_
 by_cases h2 : 1114111 < r
 ·rw [decide_eq_true h2, hodd (by simp [sgn]; omega)]
  refine gg ?_
  refine ze fun K hK => ?_; refine zR ([239, 191, 189]) (by decide) rfl (rfl) (fun b9 C9 ho9 => ?_); refine hK _ _ ?_; clear hK K
  refine gg ?_
  refine zb ([C9]) ?_; exact ⟨_, _, _, rfl, ho9, rfl⟩
 rw [decide_eq_false h2]
 refine gg ?_
 have hlow : r < 55296 ∨ 57343 < r -> ¬ sgn r = false := fun h => by simp [sgn]; omega
 by_cases h3 : 55296 <= r
 ·rw [decide_eq_true h3]
  refine gg ?_
  by_cases h4 : r <= 57343
  ·rw [decide_eq_true h4, hodd (by simp [sgn]; omega)]
   refine gg ?_
   refine ze fun K hK => ?_; refine zR ([239, 191, 189]) (by decide) rfl (rfl) (fun b9 C9 ho9 => ?_); refine hK _ _ ?_; clear hK K
   refine gg ?_
   refine zb ([C9]) ?_; exact ⟨_, _, _, rfl, ho9, rfl⟩
  ·rw [decide_eq_false h4]
   refine gg ?_
   rw [decide_eq_false (show ¬ r < 128 by omega)]
   refine gg ?_
   rw [decide_eq_false (show ¬ r < 2048 by omega)]
   refine gg ?_
   by_cases h5 : r < 65536
   ·rw [decide_eq_true h5]
    have he : enc r = [UInt8.ofNat (224 + r.toNat / 4096), UInt8.ofNat (128 + r.toNat / 64 % 64), UInt8.ofNat (128 + r.toNat % 64)] := by
     unfold enc; rw [if_neg (hlow (by omega)), if_neg (by omega), if_neg (by omega), if_pos h5]
    rw [he]
    refine gg ?_
    refine ze fun K hK => ?_; refine zR ([UInt8.ofNat (224 + r.toNat / 4096), UInt8.ofNat (128 + r.toNat / 64 % 64), UInt8.ofNat (128 + r.toNat % 64)]) (by decide) rfl (three8 (val8 (by omega) (by omega)) (val8 (by omega) (by omega)) (val8 (by omega) (by omega))) (fun b9 C9 ho9 => ?_); refine hK _ _ ?_; clear hK K
    refine gg ?_
    refine zb ([C9]) ?_; exact ⟨_, _, _, rfl, ho9, rfl⟩
   ·rw [decide_eq_false h5]
    have he : enc r = [UInt8.ofNat (240 + r.toNat / 262144), UInt8.ofNat (128 + r.toNat / 4096 % 64), UInt8.ofNat (128 + r.toNat / 64 % 64), UInt8.ofNat (128 + r.toNat % 64)] := by
     unfold enc; rw [if_neg (hlow (by omega)), if_neg (by omega), if_neg (by omega), if_neg h5]
    rw [he]
    refine gg ?_
    refine ze fun K hK => ?_; refine zR ([UInt8.ofNat (240 + r.toNat / 262144), UInt8.ofNat (128 + r.toNat / 4096 % 64), UInt8.ofNat (128 + r.toNat / 64 % 64), UInt8.ofNat (128 + r.toNat % 64)]) (by decide) rfl (four8 (val8 (by omega) (by omega)) (val8 (by omega) (by omega)) (val8 (by omega) (by omega)) (val8 (by omega) (by omega))) (fun b9 C9 ho9 => ?_); refine hK _ _ ?_; clear hK K
    refine gg ?_
    refine zb ([C9]) ?_; exact ⟨_, _, _, rfl, ho9, rfl⟩
 ·rw [decide_eq_false h3]
  refine gg ?_
  by_cases h4 : r < 128
  ·rw [decide_eq_true h4]
   have he : enc r = [UInt8.ofNat r.toNat] := by
    unfold enc; rw [if_neg (hlow (by omega)), if_pos h4]
   rw [he]
   refine gg ?_
   refine ze fun K hK => ?_; refine zR ([UInt8.ofNat r.toNat]) (by decide) rfl (one8 (val8 (by omega) (by omega))) (fun b9 C9 ho9 => ?_); refine hK _ _ ?_; clear hK K
   refine gg ?_
   refine zb ([C9]) ?_; exact ⟨_, _, _, rfl, ho9, rfl⟩
  ·rw [decide_eq_false h4]
   refine gg ?_
   by_cases h5 : r < 2048
   ·rw [decide_eq_true h5]
    have he : enc r = [UInt8.ofNat (192 + r.toNat / 64), UInt8.ofNat (128 + r.toNat % 64)] := by
     unfold enc; rw [if_neg (hlow (by omega)), if_neg h4, if_pos h5]
    rw [he]
    refine gg ?_
    refine ze fun K hK => ?_; refine zR ([UInt8.ofNat (192 + r.toNat / 64), UInt8.ofNat (128 + r.toNat % 64)]) (by decide) rfl (two8 (val8 (by omega) (by omega)) (val8 (by omega) (by omega))) (fun b9 C9 ho9 => ?_); refine hK _ _ ?_; clear hK K
    refine gg ?_
    refine zb ([C9]) ?_; exact ⟨_, _, _, rfl, ho9, rfl⟩
   ·rw [decide_eq_false h5]
    refine gg ?_
    rw [decide_eq_true (show r < 65536 by omega)]
    have he : enc r = [UInt8.ofNat (224 + r.toNat / 4096), UInt8.ofNat (128 + r.toNat / 64 % 64), UInt8.ofNat (128 + r.toNat % 64)] := by
     unfold enc; rw [if_neg (hlow (by omega)), if_neg h4, if_neg h5, if_pos (by omega)]
    rw [he]
    refine gg ?_
    refine ze fun K hK => ?_; refine zR ([UInt8.ofNat (224 + r.toNat / 4096), UInt8.ofNat (128 + r.toNat / 64 % 64), UInt8.ofNat (128 + r.toNat % 64)]) (by decide) rfl (three8 (val8 (by omega) (by omega)) (val8 (by omega) (by omega)) (val8 (by omega) (by omega))) (fun b9 C9 ho9 => ?_); refine hK _ _ ?_; clear hK K
    refine gg ?_
    refine zb ([C9]) ?_; exact ⟨_, _, _, rfl, ho9, rfl⟩
theorem XW {H : Chunk} {a : Option Addr} {cap : Nat} (p : List UInt8) (hp : p.length <= 1000000) (hr : Rd 1 [H] a p.length (p.map b8)) :
  Meets Tryz.prog 81 [.slice a p.length cap] [H] (New8 5 p [H]) := by
 refine eN Tryz.func81 Tryz.ntmps81 Tryz.results81 fun F => ?_
 refine gg ?_
 cases a with
 | none =>
  have hz : p = [] := by
   rcases p with _ | ⟨x, p⟩
   ·rfl
   ·obtain ⟨_, _, _, _, _, h, _⟩ := hr.2 (by simp)
    cases h
  subst hz
  refine zE ?_
  refine gg ?_
  refine zb ([[], H]) ?_; exact ⟨_, _, _, rfl, own_nil, rfl⟩
 | some a =>
  refine gg ?_
  refine ze fun K hK => ?_; refine zR ([]) (by decide) rfl (rfl) (fun b7 C7 ho7 => ?_); refine hK _ _ ?_; clear hK K
  refine gg ?_
  refine ze fun K hK => ?_; refine app8 (ho7) pkA (hr.mem mmA) (by omega) (fun C9 a9 cap9 ho9 => ?_); refine hK _ _ ?_; clear hK K
  (try simp only [List.nil_append, Nat.zero_add] at ho9 ⊢)
  refine gg ?_
  refine zb ([C9, H]) ?_; exact ⟨_, _, _, rfl, ho9, rfl⟩
def kk : Nat -> Int -> Nat
 | 0, _ => 0
 | i + 1, r => if ls i <= r then i else kk i r
theorem kk4 (r : Int) : kk 4 r = if 65536 <= r then 3 else if 2048 <= r then 2 else if 128 <= r then 1 else 0 := by
 simp only [kk, ls]
 split
 ·rfl
 ·split
  ·rfl
  ·split
   ·rfl
   ·split <;> rfl
def bt (r k m : Nat) : UInt8 := if m = 0 then ld k ||| UInt8.ofNat (r / 2 ^ (6 * k)) else UInt8.ofNat 128 ||| (UInt8.ofNat (r / 2 ^ (6 * (k - m))) &&& UInt8.ofNat 63)
theorem low_or (m : Nat) : UInt8.ofNat 128 ||| (UInt8.ofNat m &&& UInt8.ofNat 63) = UInt8.ofNat (128 + m % 64) := by
 have := all8 (fun c => UInt8.ofNat 128 ||| (c &&& UInt8.ofNat 63) == UInt8.ofNat (128 + c.toNat % 64)) (by decide +kernel) (UInt8.ofNat m)
 rw [eq_of_beq this, UInt8.toNat_ofNat', show m % 2 ^ 8 % 64 = m % 64 from by omega]
theorem XK (k m : Nat) (h : (k = 0 /\ m < 128) ∨ (k = 1 /\ m < 32) ∨ (k = 2 /\ m < 16) ∨ (k = 3 /\ m < 8)) : ld k ||| UInt8.ofNat m = UInt8.ofNat ((ld k).toNat + m) := by
 have h0 : ∀ (b : UInt8) (n : Nat), (List.range n).all (fun m => b ||| UInt8.ofNat m == UInt8.ofNat (b.toNat + m)) = true -> m < n -> b ||| UInt8.ofNat m = UInt8.ofNat (b.toNat + m) := fun b n ha hm =>
  eq_of_beq (List.all_eq_true.1 ha m (by simpa using hm))
 rcases h with ⟨rfl, h⟩ | ⟨rfl, h⟩ | ⟨rfl, h⟩ | ⟨rfl, h⟩
 ·exact h0 (ld 0) 128 (by decide +kernel) h
 ·exact h0 (ld 1) 32 (by decide +kernel) h
 ·exact h0 (ld 2) 16 (by decide +kernel) h
 ·exact h0 (ld 3) 8 (by decide +kernel) h
theorem enc_bt (r : Nat) (h : sgn (r : Int) = true) : enc (r : Int) = (List.range (kk 4 (r : Int) + 1)).map (bt r (kk 4 (r : Int))) := by
 have h' := h
 simp only [sgn, Bool.and_eq_true, Bool.or_eq_true, decide_eq_true_eq] at h'
 unfold enc
 rw [if_neg (by rw [h]; simp), kk4]
 simp only [Int.toNat_natCast]
 by_cases h3 : (65536 : Int) <= r
 ·rw [if_neg (by omega), if_neg (by omega), if_neg (by omega), if_pos h3]
  have e : (List.range (3 + 1)).map (bt r 3) = [bt r 3 0, bt r 3 1, bt r 3 2, bt r 3 3] := rfl
  rw [e]
  simp only [bt, low_or, if_true, Nat.reduceMul, Nat.reduceSub, Nat.reducePow, Nat.one_ne_zero, reduceIte, Nat.reduceEqDiff, if_false, Nat.div_one]
  rw [XK 3 (r / 262144) (.inr (.inr (.inr ⟨rfl, by omega⟩)))]
  rfl
 ·rw [if_neg h3]
  by_cases h2 : (2048 : Int) <= r
  ·rw [if_neg (by omega), if_neg (by omega), if_pos (by omega), if_pos h2]
   have e : (List.range (2 + 1)).map (bt r 2) = [bt r 2 0, bt r 2 1, bt r 2 2] := rfl
   rw [e]
   simp only [bt, low_or, if_true, Nat.reduceMul, Nat.reduceSub, Nat.reducePow, Nat.one_ne_zero, reduceIte, Nat.reduceEqDiff, if_false, Nat.div_one]
   rw [XK 2 (r / 4096) (.inr (.inr (.inl ⟨rfl, by omega⟩)))]
   rfl
  ·rw [if_neg h2]
   by_cases h1 : (128 : Int) <= r
   ·rw [if_neg (by omega), if_pos (by omega), if_pos h1]
    have e : (List.range (1 + 1)).map (bt r 1) = [bt r 1 0, bt r 1 1] := rfl
    rw [e]
    simp only [bt, low_or, if_true, Nat.reduceMul, Nat.reduceSub, Nat.reducePow, Nat.one_ne_zero, reduceIte, Nat.reduceEqDiff, if_false, Nat.div_one]
    rw [XK 1 (r / 64) (.inr (.inl ⟨rfl, by omega⟩))]
    rfl
   ·rw [if_pos (by omega), if_neg h1]
    have e : (List.range (0 + 1)).map (bt r 0) = [bt r 0 0] := rfl
    rw [e]
    simp only [bt, if_true, Nat.reduceMul, Nat.pow_zero, Nat.div_one, reduceIte]
    rw [XK 0 r (.inl ⟨rfl, by omega⟩)]
    simp [ld]
theorem KJ {C H : Chunk} (hG : GNam C) {a : Option Addr} {cap : Nat} (p : List UInt8) (hp : p.length <= 900000) (hr : Rd 1 [H] a p.length (p.map b8)) (r0 : Int) :
  Meets Tryz.prog 217 [.slice a p.length cap, .int .i32 r0] [H, C] (New8 5 (p ++ enc r0) [H, C]) := by
 obtain ⟨tg, mg, hg0⟩ := hG.g0
 refine eN Tryz.func217 Tryz.ntmps217 Tryz.results217 fun F => ?_
 (with_reducible refine xb ?_); refine zZ (fun D L S => D = [] /\ L = [(0, .slice a p.length cap), (1, .int .i32 r0)] /\ S = [H, C, F]) ?_ ?_
 ·refine gg ?_
  exact mid ⟨rfl, rfl, rfl⟩
 rintro D L S ⟨rfl, rfl, rfl⟩
 (with_reducible refine xb ?_); refine zZ (fun D L S => ∃ r : Nat, sgn (r : Int) = true /\ enc r0 = enc (r : Int) /\ r <= 1114111 /\ D = [] /\ L = [(0, .slice a p.length cap), (1, .int .i32 r)] /\ S = [H, C, F]) ?_ ?_
 ·refine gg ?_
  refine cA (Jp r0) ?_; rintro v A ⟨rfl, rfl⟩; refine gA ?_
  cases hs : sgn r0 with
  | true =>
   have hs' := hs
   simp only [sgn, Bool.and_eq_true, Bool.or_eq_true, decide_eq_true_eq] at hs'
   obtain ⟨n, rfl⟩ : ∃ n : Nat, r0 = n := ⟨r0.toNat, by omega⟩
   refine gg ?_
   exact mid ⟨n, hs, rfl, by omega, rfl, rfl, rfl⟩
  | false =>
   refine gg ?_
   exact mid ⟨65533, by decide, by unfold enc; rw [if_pos hs]; decide, by omega, rfl, rfl, rfl⟩
 rintro D L S ⟨r, hs, he, hr2, rfl, rfl, rfl⟩
 rw [he]
 refine gg ?_
 refine cA (XW p (by omega) hr) ?_; rintro v A ⟨X, xa, xc, rfl, hX, rfl⟩; refine gA ?_
 refine ze fun K hK => ?_; refine vR (vs := formsV) (ws := wC 0) (o := 0) (XJ hg0 mmA) (by decide) rfl ?_; refine hK _ _ ?_; clear hK K
 refine ze fun K hK => ?_; refine zv fun b6 => ?_; (try simp only [Value.cells]); refine hK _ _ ?_; clear hK K
 refine gg ?_
 refine oS (wC 0) rfl (by simp [wC, Value.cell1, b8]) ?_
 refine gg ?_
 refine ze fun K hK => ?_; refine zm (vs := formsV) (XJ hg0 mmA) rfl ?_; refine hK _ _ ?_; clear hK K
 refine gg ?_
 obtain ⟨ri, hri⟩ : ∃ ri : Int, (r : Int) = ri := ⟨_, rfl⟩
 refine zB (fun q D L S => ∃ i : Nat, i <= 4 /\ q = 4 - i /\ D = [] /\ L = [(19, .int .i64 i), (18, .agg formsV.toArray), (1, .int .i32 ri), (5, .slice xa p.length xc), (6, .pointer (some ⟨b6, 0, none⟩))] /\
  S = [[(b6, .cells (wC (kk i ri)).toArray 369 (0, 0))], X, H, C, F])
  ⟨0, by omega, rfl, rfl, by rw [<- hri], rfl⟩ ?_
 ·rintro q D L S ⟨i, hi, rfl, rfl, rfl, rfl⟩
  refine gg ?_
  refine if_d (fun hc => ?_) (fun hc => ?_)
  ·have hi4 : i < 4 := by omega
   refine gg ?_
   refine ze fun K hK => ?_; rw [arr_el (by omega) (by omega), Int.toNat_natCast, WV i hi4]; refine hK _ _ ?_; clear hK K
   refine ze fun K hK => ?_; refine zv fun b8' => ?_; (try simp only [Value.cells]); refine hK _ _ ?_; clear hK K
   refine gg ?_
   refine oS (wC i) rfl (by simp [wC, Value.cell1, b8]) ?_
   simp only [wC]
   refine gg ?_
   have hk : kk (i + 1) ri = if ls i <= ri then i else kk i ri := rfl
   refine if_d (fun hc => ?_) (fun hc => ?_)
   ·rw [if_pos hc] at hk
    refine gg ?_
    refine oL [.int .i64 ((i : Int) + 1), b8 (mk i), b8 (ld i), .int .i32 (ls i)] rfl ?_
    refine oS ([.int .i64 ((i : Int) + 1), b8 (mk i), b8 (ld i), .int .i32 (ls i)]) rfl (by simp [Value.cell1, b8]) ?_
    refine gg ?_
    exact zA ⟨i + 1, by omega, rfl, rfl, rfl, by rw [hk]⟩
   ·rw [if_neg hc] at hk
    refine gg ?_
    exact zA ⟨i + 1, by omega, rfl, rfl, rfl, by rw [hk]⟩
  ·obtain rfl : i = 4 := by omega
   have hen := enc_bt r hs
   rw [hen]
   have hk4 : kk 4 ri < 4 := by rw [kk4]; split <;> (try split) <;> (try split) <;> omega
   rw [hri]
   generalize kk 4 ri = k at *
   have hrn : ri.toNat = r := by omega
   simp only [wC]
   refine gg ?_
   rw [show (k : Int) + 1 - 1 = (k : Int) - ((0 : Nat) : Int) from by omega]
   have hll : ((List.range (k + 1)).map (bt r k)).length = k + 1 := by simp
   obtain ⟨lst, hlst⟩ : ∃ lst, (List.range (k + 1)).map (bt r k) = lst := ⟨_, rfl⟩
   have hbt : ∀ m, m <= k -> lst.take (m + 1) = lst.take m ++ [bt r k m] := fun m hm => by
    rw [<- hlst, List.take_add_one, List.getElem?_map, List.getElem?_range (by omega)]; rfl
   rw [hlst] at hll ⊢
   refine zB (fun q D L S => ∃ (m : Nat) (Y : Chunk) (ya : Option Addr) (yc : Nat), m <= k + 1 /\ Own8 5 Y ya (p.length + m) yc (p ++ lst.take m) /\ q = k + 1 - m /\ D = [] /\
    L = [(9, .int .i64 ((k : Int) - m)), (1, .int .i32 ri), (5, .slice ya (p.length + m) yc), (6, .pointer (some ⟨b6, 0, none⟩))] /\
    S = [Y, [(b6, .cells #[.int .i64 ((k : Int) + 1), b8 (mk k), b8 (ld k), .int .i32 (ls k)] 369 (0, 0))], H, C, F])
    ⟨0, X, xa, xc, by omega, by simpa using hX, rfl, rfl, rfl, rfl⟩ ?_
   rintro q D L S ⟨m, Y, ya, yc, hm, hY, rfl, rfl, rfl, rfl⟩
   refine gg ?_
   refine if_d (fun hc => ?_) (fun hc => ?_)
   ·have hmk : m <= k := by omega
    have hb := hbt m hmk
    refine gg ?_
    refine ze fun K hK => ?_; rw [i32_shr (by omega) (by omega) (by omega), hrn, show (6 * ((k : Int) - m)).toNat = 6 * (k - m) from by omega]; refine hK _ _ ?_; clear hK K
    refine gg ?_
    refine if_b (fun hc => ?_) (fun hc => ?_)
    ·obtain rfl : m = 0 := by omega
     have hbe : bt r k 0 = ld k ||| UInt8.ofNat (r / 2 ^ (6 * k)) := by unfold bt; rw [if_pos rfl]
     refine gg ?_
     refine ze fun K hK => ?_; rw [UO, Ost.u8_or, <- hbe]; refine hK _ _ ?_; clear hK K
     refine gg ?_
     refine ze fun K hK => ?_; refine zR ([bt r k 0]) (by decide) rfl (rfl) (fun b7 C7 ho7 => ?_); refine hK _ _ ?_; clear hK K
     refine gg ?_
     refine ze fun K hK => ?_; refine app8 (hY) pkA ((ho7.rd (List.mem_cons_self ..)).mem mmA) (by omega) (fun C9 a9 cap9 ho9 => ?_); refine hK _ _ ?_; clear hK K
     refine gg ?_
     rw [show (k : Int) - 0 - 1 = (k : Int) - ((0 + 1 : Nat) : Int) from by omega]
     exact zA ⟨0 + 1, C9, a9, cap9, by omega, by rw [hb, <- List.append_assoc]; exact ho9, rfl, rfl, rfl, rfl⟩
    ·have hm0 : m ≠ 0 := fun h => hc (by subst h; omega)
     have hbe : bt r k m = UInt8.ofNat 128 ||| (UInt8.ofNat (r / 2 ^ (6 * (k - m))) &&& UInt8.ofNat 63) := by unfold bt; rw [if_neg hm0]
     refine gg ?_
     refine ze fun K hK => ?_; rw [UO, Ost.u8n_and _ _ _ _ 63 _ (by decide) (by decide)]; refine hK _ _ ?_; clear hK K
     refine gg ?_
     (try simp only [Int.reduceToNat])
     rw [<- hbe]
     refine ze fun K hK => ?_; refine zR ([bt r k m]) (by decide) rfl (rfl) (fun b7 C7 ho7 => ?_); refine hK _ _ ?_; clear hK K
     refine gg ?_
     refine ze fun K hK => ?_; refine app8 (hY) pkA ((ho7.rd (List.mem_cons_self ..)).mem mmA) (by omega) (fun C9 a9 cap9 ho9 => ?_); refine hK _ _ ?_; clear hK K
     refine gg ?_
     rw [show (k : Int) - (m : Int) - 1 = (k : Int) - ((m + 1 : Nat) : Int) from by omega]
     exact zA ⟨m + 1, C9, a9, cap9, by omega, by rw [hb, <- List.append_assoc]; exact ho9, rfl, rfl, rfl, rfl⟩
   ·obtain rfl : m = k + 1 := by omega
    rw [List.take_of_length_le (by omega)] at hY
    rw [show p.length + (k + 1) = (p ++ lst).length from by rw [List.length_append, hll]] at hY ⊢
    refine gg ?_
    refine zb ([Y, H, C]) ?_; exact ⟨_, _, _, rfl, hY, rfl⟩
theorem rd2 {C : Chunk} (hG : GNam C) : Rd 2 [C] (some ⟨5, 0, none⟩) blanks.length (blanks.flatMap yn) := by
 obtain ⟨t, m, h⟩ := hG.g2; exact Xx h rfl
theorem rd3 {C : Chunk} (hG : GNam C) : Rd 2 [C] (some ⟨6, 0, none⟩) nothing.length (nothing.flatMap yn) := by
 obtain ⟨t, m, h⟩ := hG.g3; exact Xx h rfl
theorem rd1 {C : Chunk} (hG : GNam C) : Rd 2 [C] (some ⟨1, 0, none⟩) barred.length (barred.flatMap yn) := by
 obtain ⟨t, m, h⟩ := hG.g1; exact Xx h rfl
theorem blank_in {C : Chunk} (hG : GNam C) (r : Int) : Meets Tryz.prog 216 [.int .i32 r, .slice (some ⟨5, 0, none⟩) 6 6] [C] fun v A => v = .bool (xv r) /\ A = [C] := kh blanks (by decide) (rd2 hG) r
theorem goes_in {C : Chunk} (hG : GNam C) (r : Int) : Meets Tryz.prog 216 [.int .i32 r, .slice (some ⟨6, 0, none⟩) 5 5] [C] fun v A => v = .bool (xM r) /\ A = [C] := kh nothing (by decide) (rd3 hG) r
theorem bars_in {C : Chunk} (hG : GNam C) (r : Int) : Meets Tryz.prog 216 [.int .i32 r, .slice (some ⟨1, 0, none⟩) 9 9] [C] fun v A => v = .bool (Nam.within r barred) /\ A = [C] := kh barred (by decide) (rd1 hG) r
theorem Xz (s : List UInt8) : Meets Tryz.prog 215 [.string (str s)] []
  fun u A => ∃ p, u = .func (.func 244) #[] #[.pointer (some ⟨p, 0, none⟩)] /\ A = [bx p (.string (str s)) 9] := by
 refine eN Tryz.func215 Tryz.ntmps215 Tryz.results215 fun F => ?_
 refine gg ?_
 refine oB fun p1 => ?_
 refine gg ?_
 refine zb [bx p1 (.string (str s)) 9] ⟨p1, rfl, rfl⟩
def kp (pre : List (Nat × Int)) : List Int := keep (pre.map (·.2))
theorem kp_snoc (pre : List (Nat × Int)) (x : Nat × Int) : kp (pre ++ [x]) = kp pre ++ qn x.2 := by
 unfold kp; rw [List.map_append, keep_app]; simp [keep]
theorem kp_next {s : List UInt8} {pre : List (Nat × Int)} {x : Nat × Int} {y : Int} (h : UE (sg 0 s) pre x) (hy : qn x.2 = [y]) : UE (keep (rs s)) (kp pre) y := by
 obtain ⟨post, h⟩ := h
 refine ⟨kp post, ?_⟩
 rw [<- Jr _ 0 s (Nat.le_refl _), h]
 unfold kp
 rw [List.map_append, List.map_cons, keep_app, show keep (x.2 :: post.map (·.2)) = qn x.2 ++ keep (post.map (·.2)) from rfl, hy]; rfl
def encI (x : Int) : List Value := [.int .i32 x]
abbrev withI (C : Chunk) (_ : List Int) (_ : Int) (H : State) : Prop := H = [C]
theorem XA {C : Chunk} (hG : GNam C) (p : Nat) (s : List UInt8) (hlen : s.length <= 1000000) :
  IMeetsG Tryz.prog 244 [] [.pointer (some ⟨p, 0, none⟩)] encI [bx p (.string (str s)) 9, C]
   (fun T => T = []) (withI C) (withI C) (withI C) (UE (keep (rs s))) (fun pre => pre = keep (rs s))
   (fun _ A => A = [bx p (.string (str s)) 9, C]) (fun _ A => A = [bx p (.string (str s)) 9, C]) false := by
 refine jB (by kernel_rfl) fun l0 J Jx hN hT hY Cj hC => ?_
 refine eN Tryz.func244 Tryz.ntmps244 Tryz.results244 fun F => ?_
 refine gg ?_
 refine oB fun b2 => ?_
 refine gg ?_
 refine cA (Zz s) ?_; rintro v A ⟨p2, rfl, rfl⟩; refine gA ?_
 refine xH (by (try simp only [evT, lookT_hit, lookT_miss, Nat.reduceBEq]); (first | done | exact rfl)) (ZA hG p2 s hlen) (by (repeat (first | exact Take.nil _ | with_reducible exact Pick.head _ _ | with_reducible apply Pick.tail | with_reducible apply Take.cons))) (fun pre S => ∃ Cj, J (kp pre) Cj /\ S = [bx b2 (.func (.yield l0) #[] #[]) 365, F, Cj, bx p (.string (str s)) 9])
  (fun k pre S => k = .ret /\ ∃ kpre y Cj, UE (keep (rs s)) kpre y /\ Jx (kpre ++ [y]) Cj /\ S = [bx b2 (.func (.yield l0) #[] #[]) 365, F, Cj, bx p (.string (str s)) 9]) (fun h => by cases h) (fun S hS => ?_) (fun _ => rfl) ⟨Cj, hC, rfl⟩ ?_ ?_ ?_
 ·exact ⟨[], _, rfl, .refl _⟩
 ·rintro l F1 S H r pre x hx ⟨Cj, hJ, rfl⟩ rfl
  have hks := kp_snoc pre x
  have hkn := fun y (hy : qn x.2 = [y]) => kp_next hx hy
  obtain ⟨k, v⟩ := x
  simp only at hks hkn
  (try simp only [List.nil_append, List.cons_append, List.append_nil, encN])
  (try simp only [jm, putT, Nat.reduceLT, if_true, reduceIte, Array.toList, List.toList_toArray])
  refine gg ?_
  refine ⟨_, .cons (.head _ _) (Among.refl _), fun r' _ => ?_⟩
  have fin : ∀ (y : Int), qn v = [y] -> ∀ (L : Env), True := fun _ _ _ => trivial
  refine gg ?_
  refine ze fun K hK => ?_; rw [KI]; refine hK _ _ ?_; clear hK K
  refine cA (blank_in hG v) ?_; rintro v A ⟨rfl, rfl⟩; refine gA ?_
  cases hb : xv v with
  | true =>
   have hk1 : qn v = [32] := by unfold qn; rw [hb]; rfl
   rw [hk1] at hks
   refine gg ?_
   refine ze fun K hK => ?_
   refine xy (hY (kp pre) 32 (hkn 32 hk1)) hJ rfl tkA (fun C4 H4 hJ4 hH4 => ?_) (fun C4 H4 hJ4 hH4 => ?_)
   ·subst hH4
    (try simp only [List.nil_append, List.cons_append])
    refine hK _ _ ?_; clear hK K
    refine gg ?_
    exact ⟨_, ⟨_, [C], rfl, ⟨C4, by rw [hks]; exact hJ4, rfl⟩, rfl⟩, by (try simp only [List.cons_append, List.nil_append]); first | ((repeat (first | with_reducible exact Among.nil _ | with_reducible exact Pick.head _ _ | with_reducible apply Pick.tail | with_reducible apply Among.cons)); done) | ((repeat (first | exact Among.nil _ | exact Pick.head _ _ | apply Pick.tail | apply Among.cons)); done)⟩
   ·subst hH4
    (try simp only [List.nil_append, List.cons_append])
    refine hK _ _ ?_; clear hK K
    refine gg ?_
    exact ⟨_, ⟨_, [C], rfl, ⟨rfl, _, _, C4, hkn 32 hk1, hJ4, rfl⟩, rfl⟩, by (try simp only [List.cons_append, List.nil_append]); first | ((repeat (first | with_reducible exact Among.nil _ | with_reducible exact Pick.head _ _ | with_reducible apply Pick.tail | with_reducible apply Among.cons)); done) | ((repeat (first | exact Among.nil _ | exact Pick.head _ _ | apply Pick.tail | apply Among.cons)); done)⟩
  | false =>
   refine gg ?_
   refine ze fun K hK => ?_; rw [KI]; refine hK _ _ ?_; clear hK K
   refine cA (goes_in hG v) ?_; rintro v A ⟨rfl, rfl⟩; refine gA ?_
   cases hg : xM v with
   | true =>
    have hk1 : qn v = [] := by unfold qn; rw [hb, hg]; rfl
    rw [hk1, List.append_nil] at hks
    refine gg ?_
    exact ⟨_, ⟨_, [C], rfl, ⟨Cj, by rw [hks]; exact hJ, rfl⟩, rfl⟩, by (try simp only [List.cons_append, List.nil_append]); first | ((repeat (first | with_reducible exact Among.nil _ | with_reducible exact Pick.head _ _ | with_reducible apply Pick.tail | with_reducible apply Among.cons)); done) | ((repeat (first | exact Among.nil _ | exact Pick.head _ _ | apply Pick.tail | apply Among.cons)); done)⟩
   | false =>
    have hk1 : qn v = [v] := by unfold qn; rw [hb, hg]; rfl
    rw [hk1] at hks
    refine gg ?_
    refine ze fun K hK => ?_
    refine xy (hY (kp pre) v (hkn v hk1)) hJ rfl tkA (fun C4 H4 hJ4 hH4 => ?_) (fun C4 H4 hJ4 hH4 => ?_)
    ·subst hH4
     (try simp only [List.nil_append, List.cons_append])
     refine hK _ _ ?_; clear hK K
     refine gg ?_
     exact ⟨_, ⟨_, [C], rfl, ⟨C4, by rw [hks]; exact hJ4, rfl⟩, rfl⟩, by (try simp only [List.cons_append, List.nil_append]); first | ((repeat (first | with_reducible exact Among.nil _ | with_reducible exact Pick.head _ _ | with_reducible apply Pick.tail | with_reducible apply Among.cons)); done) | ((repeat (first | exact Among.nil _ | exact Pick.head _ _ | apply Pick.tail | apply Among.cons)); done)⟩
    ·subst hH4
     (try simp only [List.nil_append, List.cons_append])
     refine hK _ _ ?_; clear hK K
     refine gg ?_
     exact ⟨_, ⟨_, [C], rfl, ⟨rfl, _, _, C4, hkn v hk1, hJ4, rfl⟩, rfl⟩, by (try simp only [List.cons_append, List.nil_append]); first | ((repeat (first | with_reducible exact Among.nil _ | with_reducible exact Pick.head _ _ | with_reducible apply Pick.tail | with_reducible apply Among.cons)); done) | ((repeat (first | exact Among.nil _ | exact Pick.head _ _ | apply Pick.tail | apply Among.cons)); done)⟩
 ·rintro d pre S A rfl ⟨Cj, hJ, rfl⟩ rfl
  have he : kp (sg 0 s) = keep (rs s) := by unfold kp; rw [Jr _ 0 s (Nat.le_refl _)]
  rw [he] at hJ
  (try simp only [List.nil_append, List.cons_append])
  refine gg ?_
  refine wR (vs := []) [Cj, bx p (.string (str s)) 9, C] ⟨Cj, _, rfl, .inl ⟨_, rfl, hJ, rfl⟩⟩
 ·rintro d k pre x S A hx ⟨rfl, kpre, y, Cj, hky, hJ, rfl⟩ rfl
  (try simp only [List.nil_append, List.cons_append])
  refine gg ?_
  refine zf (vs := []) [Cj, bx p (.string (str s)) 9, C] ⟨Cj, _, rfl, .inr ⟨kpre, y, hky, hJ, rfl⟩⟩
theorem and_odd (n : Nat) : (n &&& 65534 == 65534) = decide (65534 <= n % 65536) := by
 have h1 : (n &&& 65534) / 2 = n / 2 % 32768 := by
  have := Nat.and_div_two_pow (a := n) (b := 65534) (n := 1)
  simp only [Nat.pow_one, Nat.reduceDiv] at this
  rw [this]
  exact Nat.and_two_pow_sub_one_eq_mod (n / 2) 15
 have h2 : (n &&& 65534) % 2 = 0 := by
  have := Nat.and_mod_two_pow (a := n) (b := 65534) (n := 1)
  simp only [Nat.pow_one, Nat.reduceMod, Nat.and_zero] at this
  exact this
 rw [Bool.eq_iff_iff, beq_iff_eq, decide_eq_true_eq]
 omega
theorem Is (L : List Int) : (L.flatMap enc).length <= 4 * L.length := by
 induction L with
 | nil => simp
 | cons x L ih =>
  have := (XT x).2
  rw [List.flatMap_cons, List.length_append, List.length_cons]; omega
theorem keep_le (l : List Int) : (keep l).length <= l.length := by
 induction l with
 | nil => simp [keep]
 | cons x l ih =>
  have h1 : (qn x).length <= 1 := by unfold qn; split; simp; split <;> simp
  rw [show keep (x :: l) = qn x ++ keep l from rfl, List.length_append, List.length_cons]; omega
theorem JG {C : Chunk} (hG : GNam C) (s : List UInt8) (hlen : s.length <= 100000) :
  Meets Tryz.prog 176 [.string (str s)] [C] fun v A => v = .tuple #[.string (str (prep s).1), .int .i64 (prep s).2] /\ A = [C] := by
 refine eN Tryz.func176 Tryz.ntmps176 Tryz.results176 fun F => ?_
 refine gg ?_
 refine ze fun K hK => ?_; refine zv fun b2 => ?_; (try simp only [Value.cells]); refine hK _ _ ?_; clear hK K
 refine ze fun K hK => ?_; refine zv fun b3 => ?_; (try simp only [Value.cells]); refine hK _ _ ?_; clear hK K
 refine gg ?_
 refine cA (Yl hG s (by omega)) ?_; rintro v A ⟨rfl, rfl⟩; refine gA ?_
 cases hb : badB s with
 | true =>
  have e : prep s = ([], 4) := by unfold prep; unfold badB at hb; rw [if_pos hb]
  rw [e]
  refine gg ?_
  refine zf (vs := [.string (str []), .int .i64 4]) [C] ⟨rfl, rfl⟩
 | false =>
  have e : prep s = if (keep (rs s)).any qt then ([], 5) else ((keep (rs s)).flatMap enc, 0) := by unfold prep; rw [if_neg (by unfold badB at hb; rw [hb]; simp)]
  have hkl : (keep (rs s)).length <= s.length := Nat.le_trans (keep_le _) (Wq _ s (Nat.le_refl _))
  have hsg : ∀ r ∈ keep (rs s), sgn r = true := WP fun r hr => Wp _ s (Nat.le_refl _) r hr (Ze.1 hb r hr)
  rw [e]
  refine gg ?_
  refine ze fun K hK => ?_; refine zv fun b4 => ?_; (try simp only [Value.cells]); refine hK _ _ ?_; clear hK K
  refine gg ?_
  refine cA (Xz s) ?_; rintro v A ⟨p, rfl, rfl⟩; refine gA ?_
  refine zE ?_
  refine xH (by (try simp only [evT, lookT_hit, lookT_miss, Nat.reduceBEq]); (first | done | exact rfl)) (XA hG p s (by omega)) (by (repeat (first | exact Take.nil _ | with_reducible exact Pick.head _ _ | with_reducible apply Pick.tail | with_reducible apply Take.cons))) (fun pre Cl => (∀ x ∈ pre, qt x = false) /\ ∃ X xa xc, Own8 5 X xa (pre.flatMap enc).length xc (pre.flatMap enc) /\
    Cl = [X, bx b4 (.slice xa (pre.flatMap enc).length xc) 43, bx b3 (.int .i64 0) 35, bx b2 (.string (str [])) 9, F])
   (fun k pre Cl => k = .ret /\ (keep (rs s)).any qt = true /\ Cl = [bx b3 (.int .i64 5) 35, bx b2 (.string (str [])) 9, F]) (fun h => by cases h) (fun Cl hC => ?_) (fun _ => rfl) ⟨by simp, [], none, 0, own_nil, rfl⟩ ?_ ?_ ?_
  ·exact ⟨[], _, rfl, .refl _⟩
  ·rintro l F1 Cl H r pre x hx ⟨hbar, X, xa, xc, hX, rfl⟩ rfl
   obtain ⟨post, hx⟩ := hx
   have hmem : x ∈ keep (rs s) := by rw [hx]; simp
   have hxs := hsg x hmem
   have hpl : pre.length + 1 <= s.length := by
    have := congrArg List.length hx
    rw [List.length_append, List.length_cons] at this; omega
   have hol := Is pre
   have hel := XT x
   have hxs' := hxs
   simp only [sgn, Bool.and_eq_true, Bool.or_eq_true, decide_eq_true_eq] at hxs'
   (try simp only [List.nil_append, List.cons_append, List.append_nil, encI])
   (try simp only [jm, putT, Nat.reduceLT, if_true, reduceIte, Array.toList, List.toList_toArray])
   refine gg ?_
   refine ⟨_, .cons (.head _ _) (Among.refl _), fun r' _ => ?_⟩
   refine gg ?_
   refine ze fun K hK => ?_; rw [KI]; refine hK _ _ ?_; clear hK K
   refine cA (bars_in hG x) ?_; rintro v A ⟨rfl, rfl⟩; refine gA ?_
   have hbx : qt x = (Nam.within x barred || decide (65534 <= x % 65536)) := rfl
   have hodd : ((((x.toNat &&& (65534 : Int).toNat : Nat) : Int)) == 65534) = decide (65534 <= x % 65536) := by
    have h1 := and_odd x.toNat
    rw [show decide (65534 <= x % 65536) = decide (65534 <= x.toNat % 65536) from by
     by_cases h : 65534 <= x.toNat % 65536
     ·rw [decide_eq_true h, decide_eq_true (by omega)]
     ·rw [decide_eq_false h, decide_eq_false (by omega)], <- h1]
    rw [Bool.eq_iff_iff, beq_iff_eq, beq_iff_eq]
    show ((x.toNat &&& 65534 : Nat) : Int) = 65534 ↔ _
    omega
   cases hw : Nam.within x barred with
   | true =>
    rw [hw, Bool.true_or] at hbx
    refine gg ?_
    exact ⟨_, ⟨_, [C], rfl, ⟨rfl, by rw [List.any_eq_true]; exact ⟨x, hmem, hbx⟩, rfl⟩, rfl⟩, by (try simp only [List.cons_append, List.nil_append]); first | ((repeat (first | with_reducible exact Among.nil _ | with_reducible exact Pick.head _ _ | with_reducible apply Pick.tail | with_reducible apply Among.cons)); done) | ((repeat (first | exact Among.nil _ | exact Pick.head _ _ | apply Pick.tail | apply Among.cons)); done)⟩
   | false =>
    rw [hw, Bool.false_or] at hbx
    refine gg ?_
    refine ze fun K hK => ?_; rw [i32_and (by omega) (by omega) (by omega) (by omega)]; refine hK _ _ ?_; clear hK K
    refine gg ?_
    rw [show (((x.toNat &&& 65534 : Nat) : Int) == 65534) = qt x from hodd.trans hbx.symm]
    cases hbb : qt x with
    | true =>
     refine gg ?_
     exact ⟨_, ⟨_, [C], rfl, ⟨rfl, by rw [List.any_eq_true]; exact ⟨x, hmem, hbb⟩, rfl⟩, rfl⟩, by (try simp only [List.cons_append, List.nil_append]); first | ((repeat (first | with_reducible exact Among.nil _ | with_reducible exact Pick.head _ _ | with_reducible apply Pick.tail | with_reducible apply Among.cons)); done) | ((repeat (first | exact Among.nil _ | exact Pick.head _ _ | apply Pick.tail | apply Among.cons)); done)⟩
    | false =>
     refine gg ?_
     refine cA (KJ hG (pre.flatMap enc) (by omega) (hX.rd (List.mem_cons_self ..)) x) ?_; rintro v A ⟨C7, a7, cap7, rfl, ho7, rfl⟩; refine gA ?_
     have e2 : pre.flatMap enc ++ enc x = (pre ++ [x]).flatMap enc := by simp
     rw [e2] at ho7 ⊢
     have hbar' : ∀ y ∈ pre ++ [x], qt y = false := fun y hy => by
      rcases List.mem_append.1 hy with hy | hy
      ·exact hbar y hy
      ·rw [List.mem_singleton.1 hy]; exact hbb
     exact ⟨_, ⟨_, [C], rfl, ⟨hbar', C7, a7, cap7, ho7, rfl⟩, rfl⟩, by (try simp only [List.cons_append, List.nil_append]); first | ((repeat (first | with_reducible exact Among.nil _ | with_reducible exact Pick.head _ _ | with_reducible apply Pick.tail | with_reducible apply Among.cons)); done) | ((repeat (first | exact Among.nil _ | exact Pick.head _ _ | apply Pick.tail | apply Among.cons)); done)⟩
  ·rintro d pre Cl A rfl ⟨hbar, X, xa, xc, hX, rfl⟩ rfl
   have ha : (keep (rs s)).any qt = false := by rw [List.any_eq_false]; intro x hx; rw [hbar x hx]; simp
   rw [ha, if_neg (by simp)]
   (try simp only [List.nil_append, List.cons_append])
   refine gg ?_
   refine ze fun K hK => ?_; refine xf (hX.rd mmA) ?_; refine hK _ _ ?_; clear hK K
   refine gg ?_
   refine zf (vs := [.string (str ((keep (rs s)).flatMap enc)), .int .i64 0]) [C] ⟨rfl, rfl⟩
  ·rintro d k pre x Cl A hx ⟨rfl, ha, rfl⟩ rfl
   rw [ha, if_pos rfl]
   (try simp only [List.nil_append, List.cons_append])
   refine gg ?_
   refine zf (vs := [.string (str []), .int .i64 5]) [C] ⟨rfl, rfl⟩
end Go.Proofs.YtebikhhoppiapaaGreatDoor
namespace Go.Proofs.YtebikhhoppiapaaGreatDoor
open Go Go.Ost
theorem yh {b cap : Nat} {p a : Option Addr} {X : Chunk} {l : List UInt8} (h : Bd b l p a cap X) (xs : List UInt8) (hl : l.length + xs.length <= 900000) (h1 : 1 <= xs.length) :
  Meets Tryz.prog 146 [.pointer (some ⟨b, 0, none⟩), .string (str xs)] [bdB b p a l.length cap, X] fun v A => (∃ u, v = u) /\ ∃ p' a' cap' X', Bd b (l ++ xs) p' a' cap' X' /\ A = [bdB b p' a' (l ++ xs).length cap', X'] := by
 obtain ⟨hp, hr, hX⟩ := h
 refine eN Tryz.func146 Tryz.ntmps146 Tryz.results146 fun F => ?_
 refine gg ?_
 refine cA (ZW b l.length cap p a hp) ?_; rintro v A ⟨rfl, rfl⟩; refine gA ?_
 refine ze fun K hK => ?_; refine app_str hX (.inr pkA) (by omega) (fun C9 a9 cap9 ho9 => ?_); refine hK _ _ ?_; clear hK K
 refine gg ?_
 have e : l.length + xs.length = (l ++ xs).length := by simp
 rw [e] at ho9 ⊢
 have hle := ho9.1
 refine zf [bdB b (some ⟨b, 0, none⟩) a9 (l ++ xs).length cap9, C9] ⟨⟨_, rfl⟩, _, a9, cap9, C9, ⟨.inr rfl, .inl (by rw [<- e] at hle; omega), ho9⟩, rfl⟩
open Go.Nam
instance iNK_1 : TUns Tryz.prog 358 := ⟨by kernel_rfl⟩
instance iNK_2 : TLies Tryz.prog 272 := ⟨⟨_, rfl, by kernel_rfl, by kernel_rfl⟩⟩
theorem UX {s : List UInt8} {i : Nat} (h : i < s.length) : s.take (i + 1) = s.take i ++ [s.getD i 0] := by
 rw [List.take_add_one, List.getD, List.getElem?_eq_getElem h]; rfl
theorem Vv (r : Int) : Meets Tryz.prog 172 [.int .i64 r] [] fun v A => v = .bool (xv r) /\ A = [] := by
 refine eN Tryz.func172 Tryz.ntmps172 Tryz.results172 fun F => ?_
 refine gg ?_
 by_cases h0 : r = 160
 ·rw [beq_iff_eq.2 h0]
  rw [show xv r = true from by simp [xv, Nam.within, blanks]; omega]
  refine gg ?_
  refine zb [] ?_; exact ⟨rfl, rfl⟩
 rw [beq_eq_false_iff_ne.2 h0]
 refine gg ?_
 by_cases h1 : r = 5760
 ·rw [beq_iff_eq.2 h1]
  rw [show xv r = true from by simp [xv, Nam.within, blanks]; omega]
  refine gg ?_
  refine zb [] ?_; exact ⟨rfl, rfl⟩
 rw [beq_eq_false_iff_ne.2 h1]
 refine gg ?_
 by_cases h2 : 8192 <= r
 ·rw [decide_eq_true h2]
  refine gg ?_
  by_cases g2 : r <= 8202
  ·rw [decide_eq_true g2]
   rw [show xv r = true from by simp [xv, Nam.within, blanks]; omega]
   refine gg ?_
   refine zb [] ?_; exact ⟨rfl, rfl⟩
  ·rw [decide_eq_false g2]
   refine gg ?_
   by_cases h3 : r = 8239
   ·rw [beq_iff_eq.2 h3]
    rw [show xv r = true from by simp [xv, Nam.within, blanks]; omega]
    refine gg ?_
    refine zb [] ?_; exact ⟨rfl, rfl⟩
   rw [beq_eq_false_iff_ne.2 h3]
   refine gg ?_
   by_cases h4 : r = 8287
   ·rw [beq_iff_eq.2 h4]
    rw [show xv r = true from by simp [xv, Nam.within, blanks]; omega]
    refine gg ?_
    refine zb [] ?_; exact ⟨rfl, rfl⟩
   rw [beq_eq_false_iff_ne.2 h4]
   refine gg ?_
   by_cases h5 : r = 12288
   ·rw [beq_iff_eq.2 h5]
    rw [show xv r = true from by simp [xv, Nam.within, blanks]; omega]
    refine gg ?_
    refine zb [] ?_; exact ⟨rfl, rfl⟩
   rw [beq_eq_false_iff_ne.2 h5]
   rw [show xv r = false from by simp [xv, Nam.within, blanks]; omega]
   refine gg ?_
   refine zb [] ?_; exact ⟨rfl, rfl⟩
 ·rw [decide_eq_false h2]
  refine gg ?_
  by_cases h3 : r = 8239
  ·rw [beq_iff_eq.2 h3]
   rw [show xv r = true from by simp [xv, Nam.within, blanks]; omega]
   refine gg ?_
   refine zb [] ?_; exact ⟨rfl, rfl⟩
  rw [beq_eq_false_iff_ne.2 h3]
  refine gg ?_
  by_cases h4 : r = 8287
  ·rw [beq_iff_eq.2 h4]
   rw [show xv r = true from by simp [xv, Nam.within, blanks]; omega]
   refine gg ?_
   refine zb [] ?_; exact ⟨rfl, rfl⟩
  rw [beq_eq_false_iff_ne.2 h4]
  refine gg ?_
  by_cases h5 : r = 12288
  ·rw [beq_iff_eq.2 h5]
   rw [show xv r = true from by simp [xv, Nam.within, blanks]; omega]
   refine gg ?_
   refine zb [] ?_; exact ⟨rfl, rfl⟩
  rw [beq_eq_false_iff_ne.2 h5]
  rw [show xv r = false from by simp [xv, Nam.within, blanks]; omega]
  refine gg ?_
  refine zb [] ?_; exact ⟨rfl, rfl⟩
theorem YG (r : Int) : Meets Tryz.prog 173 [.int .i64 r] [] fun v A => v = .bool (xM r) /\ A = [] := by
 refine eN Tryz.func173 Tryz.ntmps173 Tryz.results173 fun F => ?_
 refine gg ?_
 by_cases h0 : r = 173
 ·rw [beq_iff_eq.2 h0]
  rw [show xM r = true from by simp [xM, Nam.within, nothing]; omega]
  refine gg ?_
  refine zb [] ?_; exact ⟨rfl, rfl⟩
 rw [beq_eq_false_iff_ne.2 h0]
 refine gg ?_
 by_cases h1 : 8203 <= r
 ·rw [decide_eq_true h1]
  refine gg ?_
  by_cases g1 : r <= 8205
  ·rw [decide_eq_true g1]
   rw [show xM r = true from by simp [xM, Nam.within, nothing]; omega]
   refine gg ?_
   refine zb [] ?_; exact ⟨rfl, rfl⟩
  ·rw [decide_eq_false g1]
   refine gg ?_
   by_cases h2 : r = 8288
   ·rw [beq_iff_eq.2 h2]
    rw [show xM r = true from by simp [xM, Nam.within, nothing]; omega]
    refine gg ?_
    refine zb [] ?_; exact ⟨rfl, rfl⟩
   rw [beq_eq_false_iff_ne.2 h2]
   refine gg ?_
   by_cases h3 : 65024 <= r
   ·rw [decide_eq_true h3]
    refine gg ?_
    by_cases g3 : r <= 65039
    ·rw [decide_eq_true g3]
     rw [show xM r = true from by simp [xM, Nam.within, nothing]; omega]
     refine gg ?_
     refine zb [] ?_; exact ⟨rfl, rfl⟩
    ·rw [decide_eq_false g3]
     refine gg ?_
     by_cases h4 : r = 65279
     ·rw [beq_iff_eq.2 h4]
      rw [show xM r = true from by simp [xM, Nam.within, nothing]; omega]
      refine gg ?_
      refine zb [] ?_; exact ⟨rfl, rfl⟩
     rw [beq_eq_false_iff_ne.2 h4]
     rw [show xM r = false from by simp [xM, Nam.within, nothing]; omega]
     refine gg ?_
     refine zb [] ?_; exact ⟨rfl, rfl⟩
   ·rw [decide_eq_false h3]
    refine gg ?_
    by_cases h4 : r = 65279
    ·rw [beq_iff_eq.2 h4]
     rw [show xM r = true from by simp [xM, Nam.within, nothing]; omega]
     refine gg ?_
     refine zb [] ?_; exact ⟨rfl, rfl⟩
    rw [beq_eq_false_iff_ne.2 h4]
    rw [show xM r = false from by simp [xM, Nam.within, nothing]; omega]
    refine gg ?_
    refine zb [] ?_; exact ⟨rfl, rfl⟩
 ·rw [decide_eq_false h1]
  refine gg ?_
  by_cases h2 : r = 8288
  ·rw [beq_iff_eq.2 h2]
   rw [show xM r = true from by simp [xM, Nam.within, nothing]; omega]
   refine gg ?_
   refine zb [] ?_; exact ⟨rfl, rfl⟩
  rw [beq_eq_false_iff_ne.2 h2]
  refine gg ?_
  by_cases h3 : 65024 <= r
  ·rw [decide_eq_true h3]
   refine gg ?_
   by_cases g3 : r <= 65039
   ·rw [decide_eq_true g3]
    rw [show xM r = true from by simp [xM, Nam.within, nothing]; omega]
    refine gg ?_
    refine zb [] ?_; exact ⟨rfl, rfl⟩
   ·rw [decide_eq_false g3]
    refine gg ?_
    by_cases h4 : r = 65279
    ·rw [beq_iff_eq.2 h4]
     rw [show xM r = true from by simp [xM, Nam.within, nothing]; omega]
     refine gg ?_
     refine zb [] ?_; exact ⟨rfl, rfl⟩
    rw [beq_eq_false_iff_ne.2 h4]
    rw [show xM r = false from by simp [xM, Nam.within, nothing]; omega]
    refine gg ?_
    refine zb [] ?_; exact ⟨rfl, rfl⟩
  ·rw [decide_eq_false h3]
   refine gg ?_
   by_cases h4 : r = 65279
   ·rw [beq_iff_eq.2 h4]
    rw [show xM r = true from by simp [xM, Nam.within, nothing]; omega]
    refine gg ?_
    refine zb [] ?_; exact ⟨rfl, rfl⟩
   rw [beq_eq_false_iff_ne.2 h4]
   rw [show xM r = false from by simp [xM, Nam.within, nothing]; omega]
   refine gg ?_
   refine zb [] ?_; exact ⟨rfl, rfl⟩
def bar1 (r : Int) : Bool := decide (r <= 31 ∨ (127 <= r /\ r <= 159) ∨ (8232 <= r /\ r <= 8238) ∨ (8294 <= r /\ r <= 8297) ∨ (57344 <= r /\ r <= 63743))
def bar2 (r : Int) : Prop := 983040 <= r ∨ (65529 <= r /\ r <= 65533) ∨ (64976 <= r /\ r <= 65007)
theorem QB {r : Int} (h : r <= 31 ∨ (127 <= r /\ r <= 159) ∨ (8232 <= r /\ r <= 8238) ∨ (8294 <= r /\ r <= 8297) ∨ (57344 <= r /\ r <= 63743)) : bar1 r = true := decide_eq_true h
theorem QC {r : Int} (h : ¬ (r <= 31 ∨ (127 <= r /\ r <= 159) ∨ (8232 <= r /\ r <= 8238) ∨ (8294 <= r /\ r <= 8297) ∨ (57344 <= r /\ r <= 63743))) : bar1 r = false := decide_eq_false h
theorem YI (r : Int) (h0 : 0 <= r) (hr : r <= 1114111) : Meets Tryz.prog 174 [.int .i64 r] [] fun v A => v = .bool (qt r) /\ A = [] := by
 have yes : (bar1 r = true ∨ (983040 <= r ∨ (65529 <= r /\ r <= 65533) ∨ (64976 <= r /\ r <= 65007))) -> qt r = true := fun h => by
  have : Nam.within r barred = true := by
   simp only [bar1, decide_eq_true_eq] at h
   simp [Nam.within, barred]; omega
  unfold qt; rw [this, Bool.true_or]
 have no : ¬ bar2 r -> bar1 r = false -> qt r = decide (65534 <= r % 65536) := fun h h2 => by
  have : Nam.within r barred = false := by
   simp only [bar1, decide_eq_false_iff_not] at h2
   unfold bar2 at h
   simp [Nam.within, barred]; omega
  unfold qt; rw [this, Bool.false_or]
 refine eN Tryz.func174 Tryz.ntmps174 Tryz.results174 fun F => ?_
 (with_reducible refine xb ?_); refine zZ (fun D L S => D = [] /\ L = [(0, .int .i64 r)] /\ S = [F]) ?_ ?_
 ·refine gg ?_
  exact mid ⟨rfl, rfl, rfl⟩
 rintro D L S ⟨rfl, rfl, rfl⟩
 (with_reducible refine xb ?_); refine zZ (fun D L S => ¬ bar2 r /\ bar1 r = false /\ D = [] /\ L = [(0, .int .i64 r)] /\ S = [F]) ?_ ?_
 ·refine zo ?_
  (with_reducible refine xb ?_); refine zZ (fun D L S => ∃ w : Bool, w = bar1 r /\ D = [] /\ L = [(3, .bool w), (0, .int .i64 r)] /\ S = [F]) ?_ ?_
  ·refine gg ?_
   by_cases h : r <= 31
   ·rw [decide_eq_true h]
    refine gg ?_
    exact mid ⟨true, (QB (by omega)).symm, rfl, rfl, rfl⟩
   rw [decide_eq_false h]
   refine gg ?_
   by_cases h0 : 127 <= r
   ·rw [decide_eq_true h0]
    refine gg ?_
    by_cases g0 : r <= 159
    ·rw [decide_eq_true g0]
     refine gg ?_
     exact mid ⟨true, (QB (by omega)).symm, rfl, rfl, rfl⟩
    ·rw [decide_eq_false g0]
     refine gg ?_
     by_cases h1 : 8232 <= r
     ·rw [decide_eq_true h1]
      refine gg ?_
      by_cases g1 : r <= 8238
      ·rw [decide_eq_true g1]
       refine gg ?_
       exact mid ⟨true, (QB (by omega)).symm, rfl, rfl, rfl⟩
      ·rw [decide_eq_false g1]
       refine gg ?_
       by_cases h2 : 8294 <= r
       ·rw [decide_eq_true h2]
        refine gg ?_
        by_cases g2 : r <= 8297
        ·rw [decide_eq_true g2]
         refine gg ?_
         exact mid ⟨true, (QB (by omega)).symm, rfl, rfl, rfl⟩
        ·rw [decide_eq_false g2]
         refine gg ?_
         by_cases h3 : 57344 <= r
         ·rw [decide_eq_true h3]
          refine gg ?_
          by_cases g3 : r <= 63743
          ·rw [decide_eq_true g3]
           refine gg ?_
           exact mid ⟨true, (QB (by omega)).symm, rfl, rfl, rfl⟩
          ·rw [decide_eq_false g3]
           refine gg ?_
           exact mid ⟨false, (QC (by omega)).symm, rfl, rfl, rfl⟩
         ·rw [decide_eq_false h3]
          refine gg ?_
          exact mid ⟨false, (QC (by omega)).symm, rfl, rfl, rfl⟩
       ·rw [decide_eq_false h2]
        refine gg ?_
        rw [decide_eq_false (show ¬ 57344 <= r by omega)]
        refine gg ?_
        exact mid ⟨false, (QC (by omega)).symm, rfl, rfl, rfl⟩
     ·rw [decide_eq_false h1]
      refine gg ?_
      rw [decide_eq_false (show ¬ 8294 <= r by omega)]
      refine gg ?_
      rw [decide_eq_false (show ¬ 57344 <= r by omega)]
      refine gg ?_
      exact mid ⟨false, (QC (by omega)).symm, rfl, rfl, rfl⟩
   ·rw [decide_eq_false h0]
    refine gg ?_
    rw [decide_eq_false (show ¬ 8232 <= r by omega)]
    refine gg ?_
    rw [decide_eq_false (show ¬ 8294 <= r by omega)]
    refine gg ?_
    rw [decide_eq_false (show ¬ 57344 <= r by omega)]
    refine gg ?_
    exact mid ⟨false, (QC (by omega)).symm, rfl, rfl, rfl⟩
  rintro D L S ⟨w, hw, rfl, rfl, rfl⟩
  cases w with
  | true =>
   refine gg ?_
   rw [yes (.inl hw.symm)]
   refine zb [] ?_; exact ⟨rfl, rfl⟩
  | false =>
   refine gg ?_
   by_cases k0 : 983040 <= r
   ·rw [decide_eq_true k0]
    refine gg ?_
    rw [yes (.inr (by omega))]
    refine zb [] ?_; exact ⟨rfl, rfl⟩
   rw [decide_eq_false k0]
   refine gg ?_
   by_cases k1 : 65529 <= r
   ·rw [decide_eq_true k1]
    refine gg ?_
    by_cases k2 : r <= 65533
    ·rw [decide_eq_true k2]
     refine gg ?_
     rw [yes (.inr (by omega))]
     refine zb [] ?_; exact ⟨rfl, rfl⟩
    ·rw [decide_eq_false k2]
     refine gg ?_
     rw [decide_eq_true (show 64976 <= r by omega)]
     refine gg ?_
     rw [decide_eq_false (show ¬ r <= 65007 by omega)]
     refine gg ?_
     exact mid ⟨by unfold bar2; omega, hw.symm, rfl, rfl, rfl⟩
   ·rw [decide_eq_false k1]
    refine gg ?_
    by_cases k3 : 64976 <= r
    ·rw [decide_eq_true k3]
     refine gg ?_
     by_cases k4 : r <= 65007
     ·rw [decide_eq_true k4]
      refine gg ?_
      rw [yes (.inr (by omega))]
      refine zb [] ?_; exact ⟨rfl, rfl⟩
     ·rw [decide_eq_false k4]
      refine gg ?_
      exact mid ⟨by unfold bar2; omega, hw.symm, rfl, rfl, rfl⟩
    ·rw [decide_eq_false k3]
     refine gg ?_
     exact mid ⟨by unfold bar2; omega, hw.symm, rfl, rfl, rfl⟩
 rintro D L S ⟨hno, hno1, rfl, rfl, rfl⟩
 refine gg ?_
 rw [no hno hno1]
 refine zb [] ?_; exact ⟨rfl, rfl⟩
end Go.Proofs.YtebikhhoppiapaaGreatDoor
