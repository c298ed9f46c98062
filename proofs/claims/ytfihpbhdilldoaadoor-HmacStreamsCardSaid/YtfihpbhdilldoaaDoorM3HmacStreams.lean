/- Texts in a row: the walk's rules and contracts, as each says. Conditions: as each says. -/
import Derived.Test.YtfihpbhdilldoaaDoorM2HmacStreams
import Derived.Test.YtfihpbhdilldoaaDoorM1HmacStreams
/- Bytes of words and of numbers. Conditions: as each says. -/
set_option linter.unusedSimpArgs false
set_option linter.unusedVariables false
namespace Go.Proofs.YtfihpbhdilldoaaDoor
open Go Go.Ost Go.Sha

theorem bytes_spec (b e : Nat) (m : Nat × Nat) (s : St) (r : List Value) :
    Meets Tryd.prog 43 [.pointer (some ⟨b, 0, none⟩)] [[(b, .cells (rowX s.list r) e m)]] (New8 5 s.bytes [[(b, .cells (rowX s.list r) e m)]]) := by
  refine spec_intro Tryd.func43 rfl (by kernel_rfl) (by rw [Tryd.ntmps43]; simp) fun F => ?_; rw [Tryd.ntmps43, Tryd.results43]
  refine code_seq_k fun N1 hN1 => ?_
  refine reg_to ?_; (try refine run_end ?_)
  refine hN1 _ _ _ ?_; clear hN1
  refine code_seq_k fun N2 hN2 => ?_
  refine reg_to ?_; (try refine run_end ?_)
  refine hN2 _ _ _ ?_; clear hN2
  refine code_seq_k fun N3 hN3 => ?_
  refine code_seq_k fun N4 hN4 => ?_
  refine reg_to ?_; (try refine run_end ?_)
  refine hN4 _ _ _ ?_; clear hN4
  refine code_block ?_
  refine code_nil ?_
  refine code_loop (fun q D L S => ∃ (i : Nat) (C : Chunk) (a : Option Addr) (cap : Nat), i ≤ 8 ∧ Own8 5 C a (4 * i) cap ((s.list.take i).flatMap bytes4) ∧ q = 8 - i ∧ D = [] ∧ L = [(7, .int .i64 i), (6, .pointer (some ⟨b, 0, none⟩)), (3, .slice a (4 * i) cap)] ∧ S = [C, F, [(b, .cells (rowX s.list r) e m)]]) ?_ ?_
  · exact ⟨_, _, _, ⟨0, [], none, 0, by omega, own_nil, rfl, rfl, rfl, rfl⟩, by (repeat (first | exact True.intro | (refine And.intro ?_ ?_; (· (try simp only [evT, lookT_hit, lookT_miss, Nat.reduceBEq]); (first | done | exact rfl))))), by first | ((repeat (first | with_reducible exact Among.nil _ | with_reducible exact Pick.head _ _ | with_reducible apply Pick.tail | with_reducible apply Among.cons)); done) | ((repeat (first | exact Among.nil _ | exact Pick.head _ _ | apply Pick.tail | apply Among.cons)); done)⟩
  · rintro q D L S ⟨i, C, a, cap, hi, ho, rfl, rfl, rfl, rfl⟩
    refine code_seq_k fun N5 hN5 => ?_
    refine reg_to ?_; (try refine run_end ?_)
    refine hN5 _ _ _ ?_; clear hN5
    refine code_seq_k fun N6 hN6 => ?_
    refine code_if (fun hc => ?_) (fun hc => ?_)
    · have hc := of_decide_eq_true hc
      refine code_skip ?_
      refine hN6 _ _ _ ?_; clear hN6
      refine code_seq_k fun N7 hN7 => ?_
      refine code_block ?_
      refine code_seq_k fun N8 hN8 => ?_
      refine regv_to ?_; (try refine run_end ?_)
      refine hN8 _ _ _ ?_; clear hN8
      refine reg_to ?_; (try refine run_end ?_)
      refine run_op fun K hK => ?_; refine build8 ([_, _, _, _]) (by decide) rfl (rfl) (fun b1 C1 ho1 => ?_); refine hK _ _ ?_; clear hK K
      refine run_op fun K hK => ?_; refine app8 (ho) (by (repeat (first | with_reducible exact Pick.head _ _ | with_reducible apply Pick.tail))) (ho1.rd (by (repeat (first | with_reducible assumption | with_reducible exact List.mem_cons_self .. | with_reducible apply List.mem_cons_of_mem)))) (by omega) (fun C2 a2 cap2 ho2 => ?_); refine hK _ _ ?_; clear hK K
      rw [bytes4_eq, show 0 + i * 1 = i from by omega, ← bytes_next s i (by omega)] at ho2
      (try refine run_to ?_); (try refine run_end ?_)
      refine hN7 _ _ _ ?_; clear hN7
      refine reg_to ?_; (try refine run_end ?_)
      exact again ⟨i + 1, C2, a2, cap2, by omega, ho2, rfl, rfl, rfl, rfl⟩
    · have hc := of_decide_eq_false hc
      refine code_exit ?_; try simp only [Cont.then, Cont.block, Cont.noGoto, reduceIte, Nat.reduceEqDiff]
      refine hN3 _ _ _ ?_; clear hN3
      obtain rfl : i = 8 := by omega
      refine code_seq_k fun N9 hN9 => ?_
      refine reg_to ?_; (try refine run_end ?_)
      refine hN9 _ _ _ ?_; clear hN9
      refine code_back ?_
      refine back_tmp ([C, [(b, .cells (rowX s.list r) e m)]]) ?_; exact ⟨_, _, _, rfl, ho, rfl⟩

theorem long_spec (n : Nat) : Meets Tryd.prog 62 [.int .u64 n] [] (New8 5 (be 8 n) []) := by
  refine spec_intro Tryd.func62 rfl (by kernel_rfl) (by rw [Tryd.ntmps62]; simp) fun F => ?_; rw [Tryd.ntmps62, Tryd.results62]
  refine code_seq_k fun N1 hN1 => ?_
  refine reg_to ?_; (try refine run_end ?_)
  refine hN1 _ _ _ ?_; clear hN1
  refine code_seq_k fun N2 hN2 => ?_
  refine reg_to ?_; (try refine run_end ?_)
  refine hN2 _ _ _ ?_; clear hN2
  refine code_seq_k fun N3 hN3 => ?_
  refine code_seq_k fun N4 hN4 => ?_
  refine reg_to ?_; (try refine run_end ?_)
  refine hN4 _ _ _ ?_; clear hN4
  refine code_block ?_
  refine code_nil ?_
  refine code_loop (fun q D L S => ∃ (i : Nat) (C : Chunk) (a : Option Addr) (cap : Nat), i ≤ 8 ∧ Own8 5 C a i cap ((be 8 n).take i) ∧ q = 8 - i ∧ D = [] ∧ L = [(5, .int .i64 i), (0, .int .u64 n), (3, .slice a i cap)] ∧ S = [C, F]) ?_ ?_
  · exact ⟨_, _, _, ⟨0, [], none, 0, by omega, own_nil, rfl, rfl, rfl, rfl⟩, by (repeat (first | exact True.intro | (refine And.intro ?_ ?_; (· (try simp only [evT, lookT_hit, lookT_miss, Nat.reduceBEq]); (first | done | exact rfl))))), by first | ((repeat (first | with_reducible exact Among.nil _ | with_reducible exact Pick.head _ _ | with_reducible apply Pick.tail | with_reducible apply Among.cons)); done) | ((repeat (first | exact Among.nil _ | exact Pick.head _ _ | apply Pick.tail | apply Among.cons)); done)⟩
  · rintro q D L S ⟨i, C, a, cap, hi, ho, rfl, rfl, rfl, rfl⟩
    refine code_seq_k fun N5 hN5 => ?_
    refine reg_to ?_; (try refine run_end ?_)
    refine hN5 _ _ _ ?_; clear hN5
    refine code_seq_k fun N6 hN6 => ?_
    refine code_if (fun hc => ?_) (fun hc => ?_)
    · have hc := of_decide_eq_true hc
      refine code_skip ?_
      refine hN6 _ _ _ ?_; clear hN6
      refine code_seq_k fun N7 hN7 => ?_
      refine code_block ?_
      refine code_seq_k fun N8 hN8 => ?_
      refine reg_to ?_; (try refine run_end ?_)
      refine hN8 _ _ _ ?_; clear hN8
      refine reg_to ?_; (try refine run_end ?_)
      have e : Value.int .u8 (IntKind.u8.wrap ((n : Int) / 2 ^ (8 * (7 - (i : Int))).toNat)) = b8 (UInt8.ofNat (n / 256 ^ (8 - 1 - i))) := by
        rw [show (8 * (7 - (i : Int))).toNat = 8 * (8 - 1 - i) from by omega, shift8, wrap8_mod]; rfl
      rw [e]
      refine run_op fun K hK => ?_; refine build8 ([_]) (by decide) rfl (rfl) (fun b1 C1 ho1 => ?_); refine hK _ _ ?_; clear hK K
      refine run_op fun K hK => ?_; refine app8 (ho) (by (repeat (first | with_reducible exact Pick.head _ _ | with_reducible apply Pick.tail))) (ho1.rd (by (repeat (first | with_reducible assumption | with_reducible exact List.mem_cons_self .. | with_reducible apply List.mem_cons_of_mem)))) (by omega) (fun C2 a2 cap2 ho2 => ?_); refine hK _ _ ?_; clear hK K
      rw [← be_next 8 n i (by omega)] at ho2
      (try refine run_to ?_); (try refine run_end ?_)
      refine hN7 _ _ _ ?_; clear hN7
      refine reg_to ?_; (try refine run_end ?_)
      exact again ⟨i + 1, C2, a2, cap2, by omega, ho2, rfl, rfl, rfl, rfl⟩
    · have hc := of_decide_eq_false hc
      refine code_exit ?_; try simp only [Cont.then, Cont.block, Cont.noGoto, reduceIte, Nat.reduceEqDiff]
      refine hN3 _ _ _ ?_; clear hN3
      obtain rfl : i = 8 := by omega
      refine code_seq_k fun N9 hN9 => ?_
      refine reg_to ?_; (try refine run_end ?_)
      refine hN9 _ _ _ ?_; clear hN9
      refine code_back ?_
      refine back_tmp ([C]) ?_; exact ⟨_, _, _, rfl, ho, rfl⟩

theorem ends_spec (n : Nat) (hn : n < 2305843009213693952) : Meets Tryd.prog 52 [.int .u64 n] [] (New8 5 (pad n) []) := by
  refine spec_intro Tryd.func52 rfl (by kernel_rfl) (by rw [Tryd.ntmps52]; simp) fun F => ?_; rw [Tryd.ntmps52, Tryd.results52]
  refine code_seq_k fun N1 hN1 => ?_
  refine reg_to ?_; (try refine run_end ?_)
  refine hN1 _ _ _ ?_; clear hN1
  refine code_seq_k fun N2 hN2 => ?_
  refine reg_to ?_; (try refine run_end ?_)
  refine run_op fun K hK => ?_; refine build8 ([128]) (by decide) rfl (rfl) (fun b1 C1 ho1 => ?_); refine hK _ _ ?_; clear hK K
  (try refine run_to ?_); (try refine run_end ?_)
  refine hN2 _ _ _ ?_; clear hN2
  refine code_seq_k fun N3 hN3 => ?_
  refine code_block ?_
  refine code_loop (fun q D L S => ∃ (i : Nat) (C : Chunk) (a : Option Addr) (cap : Nat), i ≤ zeros n ∧ Own8 5 C a (1 + i) cap (128 :: List.replicate i 0) ∧ q = zeros n - i ∧ D = [] ∧ L = [(0, .int .u64 n), (3, .slice a (1 + i) cap)] ∧ S = [C, F]) ?_ ?_
  · exact ⟨_, _, _, ⟨0, C1, _, _, by omega, ho1, rfl, rfl, rfl, rfl⟩, by (repeat (first | exact True.intro | (refine And.intro ?_ ?_; (· (try simp only [evT, lookT_hit, lookT_miss, Nat.reduceBEq]); (first | done | exact rfl))))), by first | ((repeat (first | with_reducible exact Among.nil _ | with_reducible exact Pick.head _ _ | with_reducible apply Pick.tail | with_reducible apply Among.cons)); done) | ((repeat (first | exact Among.nil _ | exact Pick.head _ _ | apply Pick.tail | apply Among.cons)); done)⟩
  · rintro q D L S ⟨i, C, a, cap, hi, ho, rfl, rfl, rfl, rfl⟩
    have hz : zeros n ≤ 63 := by unfold zeros; omega
    refine code_seq_k fun N4 hN4 => ?_
    refine code_seq_k fun N5 hN5 => ?_
    refine reg_to ?_; (try refine run_end ?_)
    refine hN5 _ _ _ ?_; clear hN5
    refine code_if (fun hc => ?_) (fun hc => ?_)
    · have hc := bne_iff_ne.1 hc
      have hlt : i < zeros n := by simp only [zeros] at hi ⊢; omega
      refine code_skip ?_
      refine hN4 _ _ _ ?_; clear hN4
      refine code_block ?_
      refine reg_to ?_; (try refine run_end ?_)
      refine run_op fun K hK => ?_; refine build8 ([0]) (by decide) rfl (rfl) (fun b1 C1 ho1 => ?_); refine hK _ _ ?_; clear hK K
      refine run_op fun K hK => ?_; refine app8 (ho) (by (repeat (first | with_reducible exact Pick.head _ _ | with_reducible apply Pick.tail))) (ho1.rd (by (repeat (first | with_reducible assumption | with_reducible exact List.mem_cons_self .. | with_reducible apply List.mem_cons_of_mem)))) (by omega) (fun C2 a2 cap2 ho2 => ?_); refine hK _ _ ?_; clear hK K
      rw [← rep_next] at ho2
      (try refine run_to ?_); (try refine run_end ?_)
      exact again ⟨i + 1, C2, a2, cap2, by omega, ho2, rfl, rfl, rfl, rfl⟩
    · have hc := bne_eq_false_iff_eq.1 hc
      refine code_exit ?_; try simp only [Cont.then, Cont.block, Cont.noGoto, reduceIte, Nat.reduceEqDiff]
      refine hN3 _ _ _ ?_; clear hN3
      obtain rfl : i = zeros n := by unfold zeros at *; omega
      refine code_seq_k fun N6 hN6 => ?_
      refine reg_to ?_; (try refine run_end ?_)
      rw [show (8 * (n : Int)) = ((8 * n : Nat) : Int) from by omega]
      refine run_op fun K hK => ?_; refine calls_to (long_spec (8 * n)) ?_; rintro v A ⟨C2, a2, cap2, rfl, ho2, rfl⟩; (try simp only [List.nil_append, List.cons_append]); refine hK _ _ ?_; clear hK K
      (try refine run_to ?_); (try refine run_end ?_)
      refine run_op fun K hK => ?_; refine app8 (ho) (by (repeat (first | with_reducible exact Pick.head _ _ | with_reducible apply Pick.tail))) (ho2.rd (by (repeat (first | with_reducible assumption | with_reducible exact List.mem_cons_self .. | with_reducible apply List.mem_cons_of_mem)))) (by rw [be_len]; omega) (fun C3 a3 cap3 ho3 => ?_); refine hK _ _ ?_; clear hK K
      (try refine run_to ?_); (try refine run_end ?_)
      refine hN6 _ _ _ ?_; clear hN6
      refine code_back ?_
      have e : 1 + zeros n + (be 8 (8 * n)).length = (pad n).length := by rw [pad_len, be_len]; omega
      rw [e] at ho3 ⊢
      refine back_tmp ([C3]) ?_; exact ⟨_, _, _, rfl, ho3, rfl⟩

theorem clone_spec (H : Chunk) (a : Option Addr) (cap : Nat) (bs : List UInt8) (hb : bs.length ≤ 70368744177664) (h : Rd 1 [H] a bs.length (bs.map b8)) :
    Meets Tryd.prog 51 [.slice a bs.length cap] [H] (New8 5 bs [H]) := by
  refine spec_intro Tryd.func51 rfl (by kernel_rfl) (by rw [Tryd.ntmps51]; simp) fun F => ?_; rw [Tryd.ntmps51, Tryd.results51]
  refine code_seq_k fun N1 hN1 => ?_
  refine reg_to ?_; (try refine run_end ?_)
  refine hN1 _ _ _ ?_; clear hN1
  refine code_seq_k fun N2 hN2 => ?_
  refine code_seq_k fun N3 hN3 => ?_
  refine reg_to ?_; (try refine run_end ?_)
  refine hN3 _ _ _ ?_; clear hN3
  refine code_if (fun hc => ?_) (fun hc => ?_)
  · have hbs : bs = [] := by
      cases bs with
      | nil => rfl
      | cons x l =>
        obtain ⟨_, _, _, _, _, h3, _⟩ := h.2 (by simp)
        subst h3; cases hc
    subst hbs
    refine code_seq_k fun N4 hN4 => ?_
    refine reg_to ?_; (try refine run_end ?_)
    refine hN4 _ _ _ ?_; clear hN4
    refine code_nil ?_
    refine code_back ?_
    refine back_tmp ([[], H]) ?_; exact ⟨_, _, _, rfl, own_nil, rfl⟩
  · refine code_skip ?_
    refine hN2 _ _ _ ?_; clear hN2
    refine code_seq_k fun N5 hN5 => ?_
    refine reg_to ?_; (try refine run_end ?_)
    refine run_op fun K hK => ?_; refine build8 ([]) (by decide) rfl (rfl) (fun b1 C1 ho1 => ?_); refine hK _ _ ?_; clear hK K
    (try refine run_to ?_); (try refine run_end ?_)
    refine run_op fun K hK => ?_; refine app8 (ho1) (by (repeat (first | with_reducible exact Pick.head _ _ | with_reducible apply Pick.tail))) (h.mem (by (repeat (first | with_reducible assumption | with_reducible exact List.mem_cons_self .. | with_reducible apply List.mem_cons_of_mem)))) (by omega) (fun C2 a2 cap2 ho2 => ?_); refine hK _ _ ?_; clear hK K
    rw [Nat.zero_add] at ho2 ⊢
    (try refine run_to ?_); (try refine run_end ?_)
    refine hN5 _ _ _ ?_; clear hN5
    refine code_back ?_
    refine back_tmp ([C2, H]) ?_; exact ⟨_, _, _, rfl, ho2, rfl⟩

theorem copy_spec (H : Chunk) (a : Option Addr) (cap : Nat) (bs : List UInt8) (hb : bs.length ≤ 70368744177664) (h : Rd 1 [H] a bs.length (bs.map b8)) :
    Meets Tryd.prog 10 [.slice a bs.length cap] [H] (New8 5 bs [H]) := by
  refine spec_intro Tryd.func10 rfl (by kernel_rfl) (by rw [Tryd.ntmps10]; simp) fun F => ?_; rw [Tryd.ntmps10, Tryd.results10]
  refine code_seq_k fun N1 hN1 => ?_
  refine reg_to ?_; (try refine run_end ?_)
  refine hN1 _ _ _ ?_; clear hN1
  refine code_seq_k fun N2 hN2 => ?_
  refine reg_to ?_; (try refine run_end ?_)
  refine run_op fun K hK => ?_; refine build8 ([]) (by decide) rfl (rfl) (fun b1 C1 ho1 => ?_); refine hK _ _ ?_; clear hK K
  (try refine run_to ?_); (try refine run_end ?_)
  refine run_op fun K hK => ?_; refine app8 (ho1) (by (repeat (first | with_reducible exact Pick.head _ _ | with_reducible apply Pick.tail))) (h.mem (by (repeat (first | with_reducible assumption | with_reducible exact List.mem_cons_self .. | with_reducible apply List.mem_cons_of_mem)))) (by omega) (fun C2 a2 cap2 ho2 => ?_); refine hK _ _ ?_; clear hK K
  rw [Nat.zero_add] at ho2 ⊢
  (try refine run_to ?_); (try refine run_end ?_)
  refine hN2 _ _ _ ?_; clear hN2
  refine code_back ?_
  refine back_tmp ([C2, H]) ?_; exact ⟨_, _, _, rfl, ho2, rfl⟩

theorem cut_spec (H : Chunk) (a : Option Addr) (cap n : Nat) (bs : List UInt8) (hcap : bs.length ≤ cap) (hn : n ≤ 70368744177664) (h : Rd 1 [H] a bs.length (bs.map b8)) :
    Meets Tryd.prog 9 [.slice a bs.length cap, .int .i64 n] [H] (New8 5 (bs.take n) [H]) := by
  refine spec_intro Tryd.func9 rfl (by kernel_rfl) (by rw [Tryd.ntmps9]; simp) fun F => ?_; rw [Tryd.ntmps9, Tryd.results9]
  refine code_seq_k fun N1 hN1 => ?_
  refine reg_to ?_; (try refine run_end ?_)
  refine hN1 _ _ _ ?_; clear hN1
  refine code_seq_k fun N2 hN2 => ?_
  refine reg_to ?_; (try refine run_end ?_)
  refine run_op fun K hK => ?_; refine build8 ([]) (by decide) rfl (rfl) (fun b1 C1 ho1 => ?_); refine hK _ _ ?_; clear hK K
  (try refine run_to ?_); (try refine run_end ?_)
  have hX : (if ((n : Int) < (bs.length : Int)) then (n : Int) else bs.length).toNat = (bs.take n).length := by rw [List.length_take]; split <;> omega
  rw [hX]
  have hr := rd_cut1 h (l := 0) (h' := (bs.take n).length) (m := cap) (by omega) (by rw [List.length_take]; omega) (by rw [List.length_take]; omega)
  rw [List.drop_zero, Nat.sub_zero, take_min] at hr
  refine run_op fun K hK => ?_; refine app8 (ho1) (by (repeat (first | with_reducible exact Pick.head _ _ | with_reducible apply Pick.tail))) (hr.mem (by (repeat (first | with_reducible assumption | with_reducible exact List.mem_cons_self .. | with_reducible apply List.mem_cons_of_mem)))) (by rw [List.length_take]; omega) (fun C2 a2 cap2 ho2 => ?_); refine hK _ _ ?_; clear hK K
  rw [Nat.zero_add] at ho2 ⊢
  (try refine run_to ?_); (try refine run_end ?_)
  refine hN2 _ _ _ ?_; clear hN2
  refine code_back ?_
  refine back_tmp ([C2, H]) ?_; exact ⟨_, _, _, rfl, ho2, rfl⟩

theorem same_spec (A : State) (a b : Option Addr) (n m c d : Nat) (xs ys : List UInt8) (h1 : Rd 1 A a n (xs.map b8)) (h2 : Rd 1 A b m (ys.map b8)) :
    Meets Tryd.prog 12 [.slice a n c, .slice b m d] A fun v A' => v = .bool (xs == ys) ∧ A' = A := by
  refine spec_intro Tryd.func12 rfl (by kernel_rfl) (by rw [Tryd.ntmps12]; simp) fun F => ?_; rw [Tryd.ntmps12, Tryd.results12]
  refine code_seq_k fun N1 hN1 => ?_
  refine reg_to ?_; (try refine run_end ?_)
  refine hN1 _ _ _ ?_; clear hN1
  refine code_seq_k fun N2 hN2 => ?_
  refine reg_to ?_; (try refine run_end ?_)
  refine run_op fun K hK => ?_
  refine conv_bytes_string (h1.next F) ?_
  refine hK _ _ ?_; clear hK K
  (try refine run_to ?_); (try refine run_end ?_)
  refine run_op fun K hK => ?_
  refine conv_bytes_string (h2.next F) ?_
  refine hK _ _ ?_; clear hK K
  (try refine run_to ?_); (try refine run_end ?_)
  refine hN2 _ _ _ ?_; clear hN2
  refine code_back ?_
  exact ret_tmp A (by (try simp only [evT, lookT_hit, lookT_miss, Nat.reduceBEq]); (first | done | exact rfl)) ⟨rfl, rfl⟩ (Among.refl _)

end Go.Proofs.YtfihpbhdilldoaaDoor

/- bytes.Join, by the kit's shelf. Conditions: as each says. -/
set_option linter.unusedSimpArgs false
set_option linter.unusedVariables false
namespace Go.Proofs.YtfihpbhdilldoaaDoor
open Go Go.Ost Go.Shelf Go.RowKit

def renJ : Ren := ⟨fun x => if x = 14 then 29 else if x = 15 then 45 else x, fun x => if x = 22 then 22 else if x = 26 then 23 else x, fun x => x⟩
instance : TSized Tryd.prog 0 (.tuple #[]) 1 0 := ⟨by kernel_rfl⟩
instance : TFlat Tryd.prog 0 := ⟨by kernel_rfl⟩
instance : TSized Tryd.prog 20 .nilIface 1 16 := ⟨by kernel_rfl⟩
instance : TFlat Tryd.prog 20 := ⟨by kernel_rfl⟩

theorem laysJ : SlLaysJ.n14 Tryd.prog renJ where
  mixed := by kernel_rfl
  f14 := by kernel_rfl
  f15 := by kernel_rfl
  t0 := by kernel_rfl
  a0 := run_isAgg_flat (t := 0) inferInstance
  z0 := run_size (t := 0) inferInstance
  v0 := run_zero (t := 0) inferInstance
  t3 := by kernel_rfl
  a3 := run_isAgg_flat (t := 3) inferInstance
  z3 := run_size (t := 3) inferInstance
  v3 := run_zero (t := 3) inferInstance
  t4 := by kernel_rfl
  a4 := run_isAgg_flat (t := 4) inferInstance
  z4 := run_size (t := 4) inferInstance
  v4 := run_zero (t := 4) inferInstance
  t9 := by kernel_rfl
  a9 := run_isAgg_flat (t := 9) inferInstance
  z9 := run_size (t := 9) inferInstance
  v9 := run_zero (t := 9) inferInstance
  t20 := by kernel_rfl
  a20 := run_isAgg_flat (t := 20) inferInstance
  z20 := run_size (t := 20) inferInstance
  v20 := run_zero (t := 20) inferInstance
  t22 := by kernel_rfl
  a22 := run_isAgg_flat (t := 22) inferInstance
  z22 := run_size (t := 22) inferInstance
  v22 := run_zero (t := 22) inferInstance
  t26 := by kernel_rfl
  a26 := run_isAgg_flat (t := 23) inferInstance
  z26 := run_size (t := 23) inferInstance
  v26 := run_zero (t := 23) inferInstance
  t5 := by kernel_rfl
  z5 := run_size (t := 5) inferInstance
  i5 := by kernel_rfl

theorem join_spec (A : State) (a : Option Addr) (n c : Nat) (ls : List (List UInt8)) (hp : Parts A a n ls) (hnc : n ≤ c) (hn : n ≤ 1000000) (hlen : ls.flatten.length ≤ 1000000000) :
    Meets Tryd.prog 29 [.slice a n c, .slice none 0 0] A (Got8 ls.flatten A) := by
  refine meets_of_calls rfl rfl (by kernel_rfl) fun w hw => ?_
  obtain ⟨hl, vs, hr, hv⟩ := hp
  have hvl : vs.length = n := by have := hr.1; omega
  match ls, hl, hlen, hv with
  | [], hl, _, _ =>
    have h0 : n = 0 := by simpa using hl.symm
    subst h0
    refine (Any.bytes_Join_none laysJ a c (.slice none 0 0) w).mono ?_
    rintro e w' ⟨rfl, rfl⟩
    refine ⟨_, rfl, ⟨rfl, rfl, rfl, by simp, fun k hk => ?_⟩, [], fun k o hm => (by cases hm), by simp, ⟨[], some ⟨w.heap.size, 0, none⟩, 0, rfl, Nat.le_refl _, Rd.nil, fun h => absurd h (by simp), rfl⟩⟩
    simp only [World.alloc]
    rw [Array.getElem?_push, if_neg (by omega)]
  | [l], hl, hlen, hv =>
    have h1 : n = 1 := by simpa using hl.symm
    subst h1
    obtain ⟨v, hv0⟩ : ∃ v, vs[0]? = some v := ⟨vs[0], List.getElem?_eq_getElem (by omega)⟩
    obtain ⟨p, c2, rfl, hlc, hrl⟩ := hv 0 v l hv0 rfl
    obtain ⟨b, o, rfl, hcell⟩ := rd_cell hr hw hv0
    simp only [List.flatten_cons, List.flatten_nil, List.append_nil] at hlen ⊢
    by_cases h0 : l.length = 0
    · have : l = [] := List.length_eq_zero_iff.1 h0
      subst this
      refine (Any.bytes_Join_one_empty laysJ b o c p c2 (.slice none 0 0) w hcell).mono ?_
      rintro e w' ⟨rfl, rfl⟩
      exact ⟨_, rfl, Below.refl _ _, [], fun k o hm => (by cases hm), by simp, ⟨[], none, 0, rfl, Nat.le_refl _, Rd.nil, fun h => absurd h (by simp), rfl⟩⟩
    · obtain ⟨b1, o1, cs, e, m, rfl, hb1, hc1⟩ := hrl.2 (by intro e; rw [List.map_eq_nil_iff] at e; subst e; simp at h0)
      refine (Any.bytes_Join_one laysJ b o c ⟨b1, o1, none⟩ c2 l (.slice none 0 0) w hcell (fun i x hx => ?_) (by omega) (by omega)).mono ?_
      · obtain ⟨b', o', e', hc'⟩ := rd_cell hrl hw (i := i) (v := b8 x) (by simp [hx])
        cases e'
        rw [add_mk]; exact hc'
      · rintro e w' ⟨v', rfl, hfb, hbe⟩
        obtain ⟨C, a2, cap, rfl, h1, h2, h3, h4, h5⟩ := fresh_chunk hfb
        exact ⟨_, rfl, hbe, C, h2, h3, C, a2, cap, rfl, h1, h4, h5, rfl⟩
  | l1 :: l2 :: ls', hl, hlen, hv =>
    have h2n : 2 ≤ n := by simp at hl; omega
    obtain ⟨v, hv0⟩ : ∃ v, vs[0]? = some v := ⟨vs[0], List.getElem?_eq_getElem (by omega)⟩
    obtain ⟨b, o, rfl, _⟩ := rd_cell hr hw hv0
    have hparts : Lib.PartsAt w ⟨b, o, none⟩ vs (l1 :: l2 :: ls') := by
      refine ⟨by omega, fun i v hi => ?_, fun i v l hi hi2 => ?_⟩
      · obtain ⟨b', o', e', hc'⟩ := rd_cell hr hw hi
        cases e'
        rw [add_mk]; exact hc'
      · obtain ⟨p, c2, rfl, _, hrl⟩ := hv i v l hi hi2
        exact holds_of hrl hw
    have hsep : Lib.HoldsBytes w (.slice none 0 0) [] := ⟨none, 0, rfl, fun _ => rfl, fun a ha => by cases ha⟩
    have hlens : ∀ xs : List (List UInt8), Lib.lens xs = xs.flatten.length := fun xs => by simp [Lib.lens, List.length_flatten]
    refine (Any.bytes_Join_many laysJ b o n c vs (l1 :: l2 :: ls') (.slice none 0 0) [] w hl h2n hparts hnc hsep (by omega) (by rw [hlens]; simp only [List.length_nil, Nat.zero_mul, Nat.add_zero]; omega)).mono ?_
    rintro e w' ⟨v', rfl, hfb, hbe⟩
    have hj : ∀ xs : List (List UInt8), Lib.join xs [] = xs.flatten := fun xs => by
      cases xs with
      | nil => rfl
      | cons x r => rw [Lib.join_cons]; simp [Lib.joinTail]
    rw [hj] at hfb
    obtain ⟨C, a2, cap, rfl, h1, h2, h3, h4, h5⟩ := fresh_chunk hfb
    exact ⟨_, rfl, hbe, C, h2, h3, C, a2, cap, rfl, h1, h4, h5, rfl⟩

end Go.Proofs.YtfihpbhdilldoaaDoor

/- A text's blocks one by one, and the sum. Conditions: as each says. -/
set_option linter.unusedSimpArgs false
set_option linter.unusedVariables false
namespace Go.Proofs.YtfihpbhdilldoaaDoor
open Go Go.Ost Go.Sha

structure Blk where
  bs : List UInt8
  a : Option Addr
  H : Chunk

def text (m : List UInt8) : List UInt8 := m ++ pad m.length
theorem text_mod (m : List UInt8) : (text m).length % 64 = 0 := by unfold text; rw [List.length_append]; exact pad_whole _
def blocks (m : List UInt8) : Nat := (text m).length / 64
def isBlk (m : List UInt8) (pre : List Blk) (x : Blk) : Prop := pre.length < blocks m ∧ x.bs = ((text m).drop (64 * pre.length)).take 64 ∧ Rd 1 [x.H] x.a 64 (x.bs.map b8)

theorem blocks_iter (p : Nat) (H : Chunk) (a : Option Addr) (cap : Nat) (m : List UInt8) (hm : m.length ≤ 1000000) (h : Rd 1 [H] a m.length (m.map b8)) :
    IMeetsS Tryd.prog 57 [] [.pointer (some ⟨p, 0, none⟩)] (fun x : Blk => [.slice x.a 64 64]) (fun x => x.H)
    [[(p, .cells #[.slice a m.length cap] 22 (0, 0))], H] (isBlk m) (fun pre => pre.length = blocks m) false := by
  refine iter_introS (by kernel_rfl) fun l J Jx hN hY C hC => ?_
  clear hN
  refine spec_intro Tryd.func57 rfl (by kernel_rfl) (by rw [Tryd.ntmps57]; simp) fun F => ?_; rw [Tryd.ntmps57, Tryd.results57]
  refine code_seq_k fun N1 hN1 => ?_
  refine code_draw [[], [0], [], [2], [2, 3], [0, 1, 2, 3, 4], [0, 1, 2, 3, 4, 5], [0, 1, 2, 3, 4, 5, 6]] [(0, false, []), (2, false, []), (3, false, []), (4, false, []), (1, true, [2, 3]), (5, true, []), (6, true, []), (7, true, [])] (by kernel_rfl) (by kernel_rfl) ?_
  (try refine draw_to ?_); (try refine draw_end ?_)
  refine draw_op fun K hK => ?_; refine calls_spec (clone_spec H a cap m (by omega) h) (by (repeat (first | with_reducible exact Take.nil _ | with_reducible exact Pick.head _ _ | with_reducible apply Pick.tail | with_reducible apply Take.cons))) ?_; rintro v A ⟨C1, a1, cap1, rfl, ho1, rfl⟩; (try simp only [List.nil_append, List.cons_append]); refine ⟨load_box (by (repeat (first | with_reducible exact Lies.one | with_reducible apply Lies.next))) rfl, trivial, ?_⟩; refine hK _ _ ?_; clear hK K
  (try refine draw_to ?_); (try refine draw_end ?_)
  refine draw_op fun K hK => ?_; refine calls_spec (ends_spec m.length (by omega)) (by (repeat (first | with_reducible exact Take.nil _ | with_reducible exact Pick.head _ _ | with_reducible apply Pick.tail | with_reducible apply Take.cons))) ?_; rintro v A ⟨C2, a2, cap2, rfl, ho2, rfl⟩; (try simp only [List.nil_append, List.cons_append]); refine hK _ _ ?_; clear hK K
  (try refine draw_to ?_); (try refine draw_end ?_)
  have hpl : (pad m.length).length ≤ 72 := by rw [pad_len, zeros]; omega
  refine draw_effect (by simp only [List.getElem?_toArray, List.getElem?_cons_succ, List.getElem?_cons_zero]; rfl) fun K hK => ?_; (try simp only [gos, gob, Nat.reduceBEq, if_true, reduceIte, reduceCtorEq, Nat.reduceLT, Nat.reduceEqDiff, Nat.reduceAdd, Nat.reduceSub, Int.reduceLT, Int.reduceLE, Int.reduceBEq, Int.reduceBNe, Int.reduceToNat, Int.reduceAdd, Int.reduceSub, Int.reduceMul, Int.reduceDiv, Int.reduceMod, Int.reducePow, Int.toNat_natCast, Nat.sub_zero, goq]); (try (simp (disch := omega) only [gow, gobw]; try simp only [gos, gob, Nat.reduceBEq, if_true, reduceIte, reduceCtorEq, Nat.reduceLT, Nat.reduceEqDiff, Nat.reduceAdd, Nat.reduceSub, Int.reduceLT, Int.reduceLE, Int.reduceBEq, Int.reduceBNe, Int.reduceToNat, Int.reduceAdd, Int.reduceSub, Int.reduceMul, Int.reduceDiv, Int.reduceMod, Int.reducePow, Int.toNat_natCast, Nat.sub_zero, goq])); refine app8 ho1 (by (repeat (first | with_reducible exact Pick.head _ _ | with_reducible apply Pick.tail))) (ho2.rd (by (repeat (first | with_reducible assumption | with_reducible exact List.mem_cons_self .. | with_reducible apply List.mem_cons_of_mem)))) (by omega) (fun C3 a3 cap3 ho3 => ?_); refine hK _ _ ?_; clear hK K
  (try refine draw_to ?_); (try refine draw_end ?_)
  refine draw_op fun K hK => ?_; (repeat refine pend ?_); refine hK _ _ ?_; clear hK K
  (try refine draw_to ?_); (try refine draw_end ?_)
  refine hN1 _ _ _ ?_; clear hN1
  have hT : m.length + (pad m.length).length = (text m).length := by unfold text; rw [List.length_append]
  rw [hT] at ho3 ⊢
  have hmod := text_mod m
  refine code_block ?_
  refine code_loop (fun q D L S => ∃ (pre : List Blk) (C' : Chunk) (a' : Option Addr) (c' : Nat), pre.length ≤ blocks m ∧ J pre C' ∧ ((text m).drop (64 * pre.length)).length ≤ c' ∧ Rd 1 [C3] a' ((text m).drop (64 * pre.length)).length (((text m).drop (64 * pre.length)).map b8) ∧ q = blocks m - pre.length ∧ D = [] ∧
    L = [(3, .slice a' ((text m).drop (64 * pre.length)).length c'), (0, .func (.yield l) #[] #[])] ∧ S = [F, C', C3, [(p, .cells #[.slice a m.length cap] 22 (0, 0))], H]) ?_ ?_
  · exact ⟨_, _, _, ⟨[], C, a3, cap3, by simp, hC, ho3.1, ho3.rd (List.mem_cons_self ..), rfl, rfl, rfl, rfl⟩, by (repeat (first | exact True.intro | (refine And.intro ?_ ?_; (· (try simp only [evT, lookT_hit, lookT_miss, Nat.reduceBEq]); (first | done | exact rfl))))), by first | ((repeat (first | with_reducible exact Among.nil _ | with_reducible exact Pick.head _ _ | with_reducible apply Pick.tail | with_reducible apply Among.cons)); done) | ((repeat (first | exact Among.nil _ | exact Pick.head _ _ | apply Pick.tail | apply Among.cons)); done)⟩
  · rintro q D L S ⟨pre, C', a', c', hk, hJ, hc', hr, rfl, rfl, rfl, rfl⟩
    have hdl : ((text m).drop (64 * pre.length)).length = (text m).length - 64 * pre.length := List.length_drop
    have hbl : blocks m = (text m).length / 64 := rfl
    refine code_seq_k fun N2 hN2 => ?_
    refine code_seq_k fun N3 hN3 => ?_
    refine reg_to ?_; (try refine run_end ?_)
    refine hN3 _ _ _ ?_; clear hN3
    refine code_if (fun hc => ?_) (fun hc => ?_)
    · have hc := of_decide_eq_true hc
      have hlt : pre.length < blocks m := by omega
      have hcut : Rd 1 [C3] (cutA 1 a' 0 64) 64 ((((text m).drop (64 * pre.length)).take 64).map b8) := rd_cut1 hr (l := 0) (h' := 64) (m := 64) (by omega) (by omega) (by omega)
      have hx : isBlk m pre ⟨((text m).drop (64 * pre.length)).take 64, cutA 1 a' 0 64, C3⟩ := ⟨hlt, rfl, hcut⟩
      have e64 : ((text m).drop (64 * pre.length)).length - 64 = ((text m).drop (64 * (pre.length + 1))).length := by
        rw [List.length_drop, List.length_drop]; show (text m).length - 64 * pre.length - 64 = _; omega
      have hr2 : Rd 1 [C3] (cutA 1 a' 64 c') ((text m).drop (64 * (pre.length + 1))).length (((text m).drop (64 * (pre.length + 1))).map b8) := by
        have q := rd_cut1 hr (l := 64) (h' := ((text m).drop (64 * pre.length)).length) (m := c') (by omega) (Nat.le_refl _) hc'
        rw [List.drop_drop, show 64 * pre.length + 64 = 64 * (pre.length + 1) from by omega, List.take_of_length_le (by rw [List.length_drop]; omega)] at q
        rw [← e64]; exact q
      have hc2 : ((text m).drop (64 * (pre.length + 1))).length ≤ c' - 64 := by
        rw [List.length_drop]; show _ ≤ c' - 64; omega
      refine code_skip ?_
      refine hN2 _ _ _ ?_; clear hN2
      refine code_block ?_
      refine code_seq_k fun N4 hN4 => ?_
      refine code_seq_k fun N5 hN5 => ?_
      refine reg_to ?_; (try refine run_end ?_)
      refine run_op fun K hK => ?_
      refine yield_meetsS (hY pre ⟨((text m).drop (64 * pre.length)).take 64, cutA 1 a' 0 64, C3⟩ hx) hJ (by (repeat (first | with_reducible exact Take.nil _ | with_reducible exact Pick.head _ _ | with_reducible apply Pick.tail | with_reducible apply Take.cons))) (fun C4 hJ4 => ?_) (fun C4 hJ4 => ?_)
      · refine hK _ _ ?_; clear hK K
        (try refine run_to ?_); (try refine run_end ?_)
        refine hN5 _ _ _ ?_; clear hN5
        refine code_false (by (try simp only [evT, lookT_hit, lookT_miss, Nat.reduceBEq]); (first | done | exact rfl)) (code_skip ?_)
        refine hN4 _ _ _ ?_; clear hN4
        refine reg_to ?_; (try refine run_end ?_)
        have el : (pre ++ [(⟨((text m).drop (64 * pre.length)).take 64, cutA 1 a' 0 64, C3⟩ : Blk)]).length = pre.length + 1 := by simp
        rw [e64]
        rw [← el] at hr2 hc2 ⊢
        exact ⟨⟨_, _, _, by rw [el]; omega, ⟨_, C4, _, _, by rw [el]; omega, hJ4, hc2, hr2, rfl, rfl, rfl, rfl⟩, by (repeat (first | exact True.intro | (refine And.intro ?_ ?_; (· (try simp only [evT, lookT_hit, lookT_miss, Nat.reduceBEq]); (first | done | exact rfl))))), by first | ((repeat (first | with_reducible exact Among.nil _ | with_reducible exact Pick.head _ _ | with_reducible apply Pick.tail | with_reducible apply Among.cons)); done) | ((repeat (first | exact Among.nil _ | exact Pick.head _ _ | apply Pick.tail | apply Among.cons)); done)⟩⟩
      · refine hK _ _ ?_; clear hK K
        (try refine run_to ?_); (try refine run_end ?_)
        refine hN5 _ _ _ ?_; clear hN5
        refine code_true (by (try simp only [evT, lookT_hit, lookT_miss, Nat.reduceBEq]); (first | done | exact rfl)) ?_
        refine code_ret ?_; try simp -implicitDefEqProofs only [Cont.then, Cont.block, Cont.noGoto, reduceIte]
        exact ret_none [C4, [(p, .cells #[.slice a m.length cap] 22 (0, 0))], H] ⟨C4, rfl, .inr ⟨pre, _, hx, hJ4⟩⟩ (by first | ((repeat (first | with_reducible exact Among.nil _ | with_reducible exact Pick.head _ _ | with_reducible apply Pick.tail | with_reducible apply Among.cons)); done) | ((repeat (first | exact Among.nil _ | exact Pick.head _ _ | apply Pick.tail | apply Among.cons)); done))
    · have hc := of_decide_eq_false hc
      refine code_exit ?_; try simp only [Cont.then, Cont.block, Cont.noGoto, reduceIte, Nat.reduceEqDiff]
      exact ret_none_n [C', [(p, .cells #[.slice a m.length cap] 22 (0, 0))], H] ⟨C', rfl, .inl ⟨pre, by omega, hJ⟩⟩ (by first | ((repeat (first | with_reducible exact Among.nil _ | with_reducible exact Pick.head _ _ | with_reducible apply Pick.tail | with_reducible apply Among.cons)); done) | ((repeat (first | exact Among.nil _ | exact Pick.head _ _ | apply Pick.tail | apply Among.cons)); done))

theorem blocks_spec (a : Option Addr) (n cap : Nat) : Meets Tryd.prog 41 [.slice a n cap] []
    fun v A => ∃ p, v = .func (.func 57) #[] #[.pointer (some ⟨p, 0, none⟩)] ∧ A = [[(p, .cells #[.slice a n cap] 22 (0, 0))]] := by
  refine spec_intro Tryd.func41 rfl (by kernel_rfl) (by rw [Tryd.ntmps41]; simp) fun F => ?_; rw [Tryd.ntmps41, Tryd.results41]
  refine code_seq_k fun N1 hN1 => ?_
  refine reg_to ?_; (try refine run_end ?_)
  refine run_op fun K hK => ?_; refine box_new fun b1 => ?_; (try simp only [Value.cells]); refine hK _ _ ?_; clear hK K
  (try refine run_to ?_); (try refine run_end ?_)
  refine hN1 _ _ _ ?_; clear hN1
  refine code_seq_k fun N2 hN2 => ?_
  refine reg_to ?_; (try refine run_end ?_)
  refine hN2 _ _ _ ?_; clear hN2
  refine code_back ?_
  exact ret_tmp [[(b1, .cells #[.slice a n cap] 22 (0, 0))]] (by (try simp only [evT, lookT_hit, lookT_miss, Nat.reduceBEq]); (first | done | exact rfl)) ⟨b1, rfl, rfl⟩ (by first | ((repeat (first | with_reducible exact Among.nil _ | with_reducible exact Pick.head _ _ | with_reducible apply Pick.tail | with_reducible apply Among.cons)); done) | ((repeat (first | exact Among.nil _ | exact Pick.head _ _ | apply Pick.tail | apply Among.cons)); done))

theorem sum_spec {t0 t1 : TypeId} (G H : Chunk) (m0 m1 : Nat × Nat) (hG0 : (0, Obj.cells (rowW first.list) t0 m0) ∈ G) (hG1 : (1, Obj.cells (rowW odd) t1 m1) ∈ G) (a : Option Addr) (n c : Nat) (ls : List (List UInt8)) (hp : Parts [H] a n ls) (hnc : n ≤ c) (hn : n ≤ 1000000) (hlen : ls.flatten.length ≤ 1000000) :
    Meets Tryd.prog 27 [.slice a n c] [G, H] (New8 5 (digest ls.flatten) [G, H]) := by
  refine spec_intro Tryd.func27 rfl (by kernel_rfl) (by rw [Tryd.ntmps27]; simp) fun F => ?_; rw [Tryd.ntmps27, Tryd.results27]
  refine code_seq_k fun N1 hN1 => ?_
  refine reg_to ?_; (try refine run_end ?_)
  refine hN1 _ _ _ ?_; clear hN1
  refine code_seq_k fun N2 hN2 => ?_
  refine code_reg ?_
  refine run_op fun K hK => ?_
  refine load_rw (l := first.list) (by (repeat (first | with_reducible exact Lies.one | with_reducible exact Lies.here (by assumption) | with_reducible apply Lies.next))) (St.list_len _) ?_
  refine hK _ _ ?_; clear hK K
  refine run_op fun K hK => ?_; refine alloc_new fun b3 => ?_; (try simp only [Value.cells]); refine hK _ _ ?_; clear hK K
  refine run_op fun K hK => ?_
  refine store_rw (l := List.replicate 8 0) (l' := first.list) (by (repeat (first | exact Upd.one | apply Upd.next))) List.length_replicate (St.list_len _) ?_
  refine hK _ _ ?_; clear hK K
  (try refine run_to ?_); (try refine run_end ?_)
  refine hN2 _ _ _ ?_; clear hN2
  refine code_seq_k fun N3 hN3 => ?_
  refine code_seq_k fun N4 hN4 => ?_
  refine reg_to ?_; (try refine run_end ?_)
  refine run_op fun K hK => ?_
  refine calls_spec (join_spec [H] a n c ls hp hnc hn (by omega)) (by (repeat (first | with_reducible exact Take.nil _ | with_reducible exact Pick.head _ _ | with_reducible apply Pick.tail | with_reducible apply Take.cons))) ?_; rintro v A ⟨C5, a5, cap5, rfl, hle5, hr5, _, rfl⟩; (try simp only [List.nil_append, List.cons_append]); refine hK _ _ ?_; clear hK K
  (try refine run_to ?_); (try refine run_end ?_)
  refine run_op fun K hK => ?_
  refine calls_spec (blocks_spec _ _ _) (by (repeat (first | with_reducible exact Take.nil _ | with_reducible exact Pick.head _ _ | with_reducible apply Pick.tail | with_reducible apply Take.cons))) ?_; rintro v A ⟨p, rfl, rfl⟩; (try simp only [List.nil_append, List.cons_append]); refine hK _ _ ?_; clear hK K
  (try refine run_to ?_); (try refine run_end ?_)
  refine hN4 _ _ _ ?_; clear hN4
  refine code_block ?_
  have hrun : run (blocks ls.flatten) first (text ls.flatten) = whole first (text ls.flatten) := rfl
  refine code_rangeS (by (try simp only [evT, lookT_hit, lookT_miss, Nat.reduceBEq]); (first | done | exact rfl)) (blocks_iter p C5 a5 cap5 ls.flatten (by omega) hr5) (by (repeat (first | exact Take.nil _ | with_reducible exact Pick.head _ _ | with_reducible apply Pick.tail | with_reducible apply Take.cons))) (fun pre C => C = [H, [(b3, .cells (rowX (run pre.length first (text ls.flatten)).list []) 62 (0, 0))], F, G]) (fun _ _ _ => False) (fun h => by cases h) (fun _ => rfl) rfl ?_ ?_ ?_
  · rintro l F1 C r pre x hx rfl
    have hxl : x.bs.length = 64 := by
      have h1 := hx.1
      have h2 := text_mod ls.flatten
      have h3 : blocks ls.flatten = (text ls.flatten).length / 64 := rfl
      rw [hx.2.1, List.length_take, List.length_drop]; omega
    have el : (pre ++ [x]).length = pre.length + 1 := by simp
    (try simp only [List.nil_append, List.cons_append])
    (try simp only [putAll, putT, Nat.reduceLT, if_true, reduceIte, Array.toList, List.toList_toArray])
    refine reg_to ?_; (try refine run_end ?_)
    refine ⟨_, Among.refl _, fun r' _ => ?_⟩
    refine code_block ?_
    refine reg_to ?_; (try refine run_end ?_)
    refine run_op fun K hK => ?_
    refine calls_spec (step_spec G x.H m1 hG1 b3 62 (run pre.length first (text ls.flatten)) [] x.a 64 (by omega) x.bs hxl hx.2.2) (by (repeat (first | with_reducible exact Take.nil _ | with_reducible exact Pick.head _ _ | with_reducible apply Pick.tail | with_reducible apply Take.cons))) ?_; rintro v A ⟨rfl, rfl⟩; (try simp only [List.nil_append, List.cons_append]); refine hK _ _ ?_; clear hK K
    rw [hx.2.1, ← run_next]
    (try refine run_to ?_); (try refine run_end ?_)
    refine ⟨[H, [(b3, .cells (rowX (run (pre.length + 1) first (text ls.flatten)).list []) 62 (0, 0))], F, G, x.H], ⟨[H, [(b3, .cells (rowX (run (pre.length + 1) first (text ls.flatten)).list []) 62 (0, 0))], F, G], rfl, by rw [el]⟩, by first | ((repeat (first | with_reducible exact Among.nil _ | with_reducible exact Pick.head _ _ | with_reducible apply Pick.tail | with_reducible apply Among.cons)); done) | ((repeat (first | exact Among.nil _ | exact Pick.head _ _ | apply Pick.tail | apply Among.cons)); done)⟩
  · rintro d pre C hd rfl
    rw [hd, hrun]
    (try simp only [List.nil_append, List.cons_append]); try simp only [Cont.then, Cont.block, Cont.noGoto, reduceIte, Nat.reduceEqDiff]
    refine hN3 _ _ _ ?_; clear hN3
    refine code_seq_k fun N5 hN5 => ?_
    refine reg_to ?_; (try refine run_end ?_)
    refine run_op fun K hK => ?_; refine calls_to (bytes_spec b3 _ _ _ _) ?_; rintro v A ⟨C7, a7, cap7, rfl, ho7, rfl⟩; (try simp only [List.nil_append, List.cons_append]); refine hK _ _ ?_; clear hK K
    (try refine run_to ?_); (try refine run_end ?_)
    refine hN5 _ _ _ ?_; clear hN5
    refine code_back ?_
    refine back_cells ([C7, G, H]) ?_; exact ⟨_, _, _, rfl, ho7, rfl⟩
  · rintro d c pre x C hx hf
    exact hf.elim

end Go.Proofs.YtfihpbhdilldoaaDoor

/- The sum of parts in several chunks. Conditions: as each says. -/
set_option linter.unusedSimpArgs false
set_option linter.unusedVariables false
namespace Go.Proofs.YtfihpbhdilldoaaDoor
open Go Go.Ost Go.Sha

theorem sum2_spec {t0 t1 : TypeId} (G A B : Chunk) (m0 m1 : Nat × Nat) (hG0 : (0, Obj.cells (rowW first.list) t0 m0) ∈ G) (hG1 : (1, Obj.cells (rowW odd) t1 m1) ∈ G) (a : Option Addr) (n c : Nat) (ls : List (List UInt8)) (hp : Parts [A ++ B] a n ls) (hnc : n ≤ c) (hn : n ≤ 1000000) (hlen : ls.flatten.length ≤ 1000000) :
    Meets Tryd.prog 27 [.slice a n c] [G, A, B] (New8 5 (digest ls.flatten) [G, A, B]) :=
  (sum_spec G (A ++ B) m0 m1 hG0 hG1 a n c ls hp hnc hn hlen).perm (by simp) (fun v A' ⟨C, a', cap', hv, ho, hA⟩ => ⟨[C, G, A, B], by rw [hA]; simp, C, a', cap', hv, ho, rfl⟩)

theorem sum3_spec {t0 t1 : TypeId} (G A B D : Chunk) (m0 m1 : Nat × Nat) (hG0 : (0, Obj.cells (rowW first.list) t0 m0) ∈ G) (hG1 : (1, Obj.cells (rowW odd) t1 m1) ∈ G) (a : Option Addr) (n c : Nat) (ls : List (List UInt8)) (hp : Parts [A ++ B ++ D] a n ls) (hnc : n ≤ c) (hn : n ≤ 1000000) (hlen : ls.flatten.length ≤ 1000000) :
    Meets Tryd.prog 27 [.slice a n c] [G, A, B, D] (New8 5 (digest ls.flatten) [G, A, B, D]) :=
  (sum_spec G (A ++ B ++ D) m0 m1 hG0 hG1 a n c ls hp hnc hn hlen).perm (by simp) (fun v A' ⟨C, a', cap', hv, ho, hA⟩ => ⟨[C, G, A, B, D], by rw [hA]; simp, C, a', cap', hv, ho, rfl⟩)

end Go.Proofs.YtfihpbhdilldoaaDoor

/- Numbers of bytes; the document's step. Conditions: as each says. -/
set_option linter.unusedSimpArgs false
set_option linter.unusedVariables false
namespace Go.Proofs.YtfihpbhdilldoaaDoor
open Go Go.Ost Go.Sha

theorem num_spec (H : Chunk) (a : Option Addr) (len cap : Nat) (bs : List UInt8) (hm : len ≤ 4611686018427387904) (h : Rd 1 [H] a len (bs.map b8)) :
    Meets Tryd.prog 66 [.slice a len cap] [H] fun v A => v = .int .u64 (num bs) ∧ A = [H] := by
  have hl : bs.length = len := by have := h.1; simpa using this
  have hr := h.next
  refine spec_intro Tryd.func66 rfl (by kernel_rfl) (by rw [Tryd.ntmps66]; simp) fun F => ?_; rw [Tryd.ntmps66, Tryd.results66]
  have hr := hr F
  refine code_seq_k fun N1 hN1 => ?_
  refine reg_to ?_; (try refine run_end ?_)
  refine hN1 _ _ _ ?_; clear hN1
  refine code_seq_k fun N2 hN2 => ?_
  refine reg_to ?_; (try refine run_end ?_)
  refine hN2 _ _ _ ?_; clear hN2
  refine code_seq_k fun N3 hN3 => ?_
  refine code_seq_k fun N4 hN4 => ?_
  refine reg_to ?_; (try refine run_end ?_)
  refine hN4 _ _ _ ?_; clear hN4
  refine code_block ?_
  refine code_loop (fun q D L S => ∃ i : Nat, i ≤ len ∧ q = len - i ∧ D = [] ∧ L = [(8, .int .i64 i), (7, .int .i64 len), (6, .slice a len cap), (3, .int .u64 (num (bs.take i)))] ∧ S = [F, H]) ?_ ?_
  · exact ⟨_, _, _, ⟨0, by omega, rfl, rfl, rfl, rfl⟩, by (repeat (first | exact True.intro | (refine And.intro ?_ ?_; (· (try simp only [evT, lookT_hit, lookT_miss, Nat.reduceBEq]); (first | done | exact rfl))))), by first | ((repeat (first | with_reducible exact Among.nil _ | with_reducible exact Pick.head _ _ | with_reducible apply Pick.tail | with_reducible apply Among.cons)); done) | ((repeat (first | exact Among.nil _ | exact Pick.head _ _ | apply Pick.tail | apply Among.cons)); done)⟩
  · rintro q D L S ⟨i, hi, rfl, rfl, rfl, rfl⟩
    refine code_seq_k fun N5 hN5 => ?_
    refine reg_to ?_; (try refine run_end ?_)
    refine hN5 _ _ _ ?_; clear hN5
    refine code_seq_k fun N6 hN6 => ?_
    refine code_if (fun hc => ?_) (fun hc => ?_)
    · have hc := of_decide_eq_true hc
      refine code_skip ?_
      refine hN6 _ _ _ ?_; clear hN6
      refine code_seq_k fun N7 hN7 => ?_
      refine code_block ?_
      refine code_seq_k fun N8 hN8 => ?_
      refine code_reg ?_; (repeat ((with_reducible refine run_cons fun K hK => ?_); (try simp only [gos, gob, Nat.reduceBEq, if_true, reduceIte, reduceCtorEq, Nat.reduceLT, Nat.reduceEqDiff, Nat.reduceAdd, Nat.reduceSub, Int.reduceLT, Int.reduceLE, Int.reduceBEq, Int.reduceBNe, Int.reduceToNat, Int.reduceAdd, Int.reduceSub, Int.reduceMul, Int.reduceDiv, Int.reduceMod, Int.reducePow, Int.toNat_natCast, Nat.sub_zero]); (try (simp (disch := omega) only [gow, gobw, index_rd hr]; try simp only [gos, gob, Nat.reduceBEq, if_true, reduceIte, reduceCtorEq, Nat.reduceLT, Nat.reduceEqDiff, Nat.reduceAdd, Nat.reduceSub, Int.reduceLT, Int.reduceLE, Int.reduceBEq, Int.reduceBNe, Int.reduceToNat, Int.reduceAdd, Int.reduceSub, Int.reduceMul, Int.reduceDiv, Int.reduceMod, Int.reducePow, Int.toNat_natCast, Nat.sub_zero])); (first | (with_reducible refine hK _ _ ?_) | (refine rd_load8 hr (by omega) ?_; (with_reducible refine hK _ _ ?_)) | ((with_reducible apply load_box); (· (repeat (first | with_reducible exact Lies.one | with_reducible apply Lies.next))); (with_reducible refine hK _ _ ?_)) | ((with_reducible apply load_one); (· (repeat (first | with_reducible exact Lies.one | with_reducible apply Lies.next))); (· exact rfl); (with_reducible refine hK _ _ ?_))); clear hK K)); try ((with_reducible refine run_nil ?_); try simp only [Cont.then, Cont.block, Cont.noGoto, reduceIte, Nat.reduceEqDiff])
      refine hN8 _ _ _ ?_; clear hN8
      refine reg_to ?_; (try refine run_end ?_)
      have e : IntKind.u64.wrap (IntKind.u64.wrap (((num (bs.take i) : Nat) : Int) * 256) + ((bs.getD i 0).toNat : Int)) = (num (bs.take (i + 1)) : Int) := by
        rw [take_next bs i (by omega), num_snoc, show ((num (bs.take i) : Nat) : Int) * 256 = ((num (bs.take i) * 256 : Nat) : Int) from by omega, wrap64_mod, ← Int.natCast_add, wrap64_mod]
        congr 1
        omega
      rw [e]
      refine hN7 _ _ _ ?_; clear hN7
      refine reg_to ?_; (try refine run_end ?_)
      exact again ⟨i + 1, by omega, rfl, rfl, rfl, rfl⟩
    · have hc := of_decide_eq_false hc
      refine code_exit ?_; try simp only [Cont.then, Cont.block, Cont.noGoto, reduceIte, Nat.reduceEqDiff]
      refine hN3 _ _ _ ?_; clear hN3
      obtain rfl : i = len := by omega
      rw [← hl, List.take_length]
      refine code_seq_k fun N9 hN9 => ?_
      refine reg_to ?_; (try refine run_end ?_)
      refine hN9 _ _ _ ?_; clear hN9
      refine code_back ?_
      refine back_tmp [H] ?_; exact ⟨rfl, rfl⟩

set_option maxHeartbeats 4000000 in
theorem refstep_spec {tg : TypeId} (G H : Chunk) (m : Nat × Nat) (hG : (3, Obj.cells (rowW odd) tg m) ∈ G) (s : St) (a : Option Addr) (cap : Nat) (hcap : 64 ≤ cap) (bs : List UInt8) (hb : bs.length = 64) (h : Rd 1 [H] a 64 (bs.map b8)) :
    Meets Tryd.prog 61 [.agg (rowW s.list), .slice a 64 cap] [G, H]
      fun v A => v = .agg (rowW (Go.Sha.step odd s bs).list) ∧ A = [G, H] := by
  refine spec_intro Tryd.func61 rfl (by kernel_rfl) (by rw [Tryd.ntmps61]; simp) fun F => ?_; rw [Tryd.ntmps61, Tryd.results61]
  refine code_seq_k fun N1 hN1 => ?_
  refine reg_to ?_; (try refine run_end ?_)
  refine run_op fun K hK => ?_
  refine box_new fun b2 => ?_; rw [show (Value.agg (rowW s.list)).cells = rowW s.list from rfl]; refine hK _ _ ?_; clear hK K
  (try refine run_to ?_); (try refine run_end ?_)
  refine run_op fun K hK => ?_; refine alloc_new fun b4 => ?_; (try simp only [Value.cells]); refine hK _ _ ?_; clear hK K
  (try refine run_to ?_); (try refine run_end ?_)
  refine hN1 _ _ _ ?_; clear hN1
  refine code_seq_k fun N2 hN2 => ?_
  refine reg_to ?_; (try refine run_end ?_)
  refine run_op fun K hK => ?_; refine alloc_new fun b5 => ?_; (try simp only [Value.cells]); refine hK _ _ ?_; clear hK K
  (try refine run_to ?_); (try refine run_end ?_)
  refine hN2 _ _ _ ?_; clear hN2
  refine code_seq_k fun N3 hN3 => ?_
  refine code_seq_k fun N4 hN4 => ?_
  refine reg_to ?_; (try refine run_end ?_)
  refine hN4 _ _ _ ?_; clear hN4
  refine code_block ?_
  refine code_loop (fun q D L S => ∃ i : Nat, i ≤ 64 ∧ q = 64 - i ∧ D = [] ∧ L = [(6, .int .i64 i), (1, .slice a 64 cap), (5, .pointer (some ⟨b5, 0, none⟩)), (2, .pointer (some ⟨b2, 0, none⟩)), (4, .pointer (some ⟨b4, 0, none⟩))] ∧
    S = [[(b5, .cells (rowW (spr bs i)) 75 (0, 0))], F, G, H, [(b2, .cells (rowW s.list) 65 (0, 0))], [(b4, .cells (rowW (List.replicate 8 0)) 65 (0, 0))]]) ?_ ?_
  · exact ⟨_, _, _, ⟨0, by omega, rfl, rfl, rfl, rfl⟩, by (repeat (first | exact True.intro | (refine And.intro ?_ ?_; (· (try simp only [evT, lookT_hit, lookT_miss, Nat.reduceBEq]); (first | done | exact rfl))))), by first | ((repeat (first | with_reducible exact Among.nil _ | with_reducible exact Pick.head _ _ | with_reducible apply Pick.tail | with_reducible apply Among.cons)); done) | ((repeat (first | exact Among.nil _ | exact Pick.head _ _ | apply Pick.tail | apply Among.cons)); done)⟩
  · rintro q D L S ⟨i, hi, rfl, rfl, rfl, rfl⟩
    refine code_seq_k fun N5 hN5 => ?_
    refine code_seq_k fun N6 hN6 => ?_
    refine reg_to ?_; (try refine run_end ?_)
    refine hN6 _ _ _ ?_; clear hN6
    refine code_if (fun hc => ?_) (fun hc => ?_)
    · have hc := of_decide_eq_true hc
      refine code_skip ?_
      refine hN5 _ _ _ ?_; clear hN5
      refine code_seq_k fun N7 hN7 => ?_
      refine code_block ?_
      refine code_seq_k fun N8 hN8 => ?_
      refine code_seq_k fun N9 hN9 => ?_
      refine reg_to ?_; (try refine run_end ?_)
      refine hN9 _ _ _ ?_; clear hN9
      refine code_if (fun hc => ?_) (fun hc => ?_)
      · have hc := of_decide_eq_true hc
        refine code_seq_k fun N10 hN10 => ?_
        refine reg_to ?_; (try refine run_end ?_)
        refine run_op fun K hK => ?_; refine calls_to (num_spec H _ _ _ _ (by omega) (rd_cut1 h (l := (4 * (i : Int)).toNat) (h' := (4 * (i : Int) + 4).toNat) (m := cap) (by omega) (by omega) (by omega))) ?_; rintro v A ⟨rfl, rfl⟩; refine hK _ _ ?_; clear hK K
        refine run_op fun K hK => ?_
        have e : IntKind.u32.wrap ((num ((bs.drop (4 * (i : Int)).toNat).take ((4 * (i : Int) + 4).toNat - (4 * (i : Int)).toNat)) : Nat) : Int) = (wordAt bs (4 * i)).toNat := by
          rw [show (4 * (i : Int) + 4).toNat - (4 * (i : Int)).toNat = 4 from by omega, show (4 * (i : Int)).toNat = 4 * i from by omega, wrap32_mod, ← num4 bs (4 * i) (by omega)]
          rfl
        rw [e, show Value.int .u32 ((wordAt bs (4 * i)).toNat : Int) = b32 (wordAt bs (4 * i)) from rfl]
        refine hK _ _ ?_; clear hK K
        (try refine runv_to ?_); (try refine run_end ?_)
        have e : (spr bs i).set (0 + i * 1) (wordAt bs (4 * i)) = spr bs (i + 1) := by
          rw [show 0 + i * 1 = i from by omega]
          simp only [spr]; rw [if_pos (by omega)]
        rw [e]
        refine hN10 _ _ _ ?_; clear hN10
        refine code_exit ?_; try simp only [Cont.then, Cont.block, Cont.noGoto, reduceIte, Nat.reduceEqDiff]
        refine hN7 _ _ _ ?_; clear hN7
        refine reg_to ?_; (try refine run_end ?_)
        exact again ⟨i + 1, by omega, rfl, rfl, rfl, rfl⟩
      · have hc := of_decide_eq_false hc
        refine code_skip ?_
        refine hN8 _ _ _ ?_; clear hN8
        refine code_seq_k fun N11 hN11 => ?_
        refine code_draw [[], [0], [0, 1], [0, 1, 2], [0, 1, 2, 3], [], [5], [5, 6], [5, 6, 7], [0, 1, 2, 3, 4, 5, 6, 7, 8], [0, 1, 2, 3, 4, 5, 6, 7, 8, 9], [], [11], [11, 12], [11, 12, 13], [11, 12, 13, 14], [0, 1, 2, 3, 4, 5, 6, 7, 8, 9, 10, 11, 12, 13, 14, 15], [0, 1, 2, 3, 4, 5, 6, 7, 8, 9, 10, 11, 12, 13, 14, 15, 16]] [(0, false, []), (1, false, []), (2, false, []), (3, false, []), (5, false, []), (6, false, []), (7, false, []), (8, false, []), (11, false, []), (12, false, []), (13, false, []), (14, false, []), (15, false, []), (4, true, [8, 14]), (9, true, [14]), (10, false, []), (16, false, []), (17, true, [])] (by kernel_rfl) (by kernel_rfl) ?_
        (try refine drawv_to ?_); (try refine draw_end ?_)
        refine draw_op fun K hK => ?_; refine calls_to (turn_spec _ 7 (by decide)) ?_; rintro v A ⟨rfl, rfl⟩; (try simp only [List.nil_append, List.cons_append]); (repeat refine pendv ?_); refine hK _ _ ?_; clear hK K
        (try refine drawv_to ?_); (try refine draw_end ?_)
        refine draw_op fun K hK => ?_; refine calls_to (turn_spec _ 18 (by decide)) ?_; rintro v A ⟨rfl, rfl⟩; (try simp only [List.nil_append, List.cons_append]); (repeat refine pendv ?_); refine hK _ _ ?_; clear hK K
        (try refine drawv_to ?_); (try refine draw_end ?_)
        refine draw_op fun K hK => ?_; (repeat refine pendv ?_); refine hK _ _ ?_; clear hK K
        (try refine draw_to ?_); (try refine draw_end ?_)
        refine hN11 _ _ _ ?_; clear hN11
        refine code_seq_k fun N12 hN12 => ?_
        refine code_draw [[], [0], [0, 1], [0, 1, 2], [0, 1, 2, 3], [], [5], [5, 6], [5, 6, 7], [0, 1, 2, 3, 4, 5, 6, 7, 8], [0, 1, 2, 3, 4, 5, 6, 7, 8, 9], [], [11], [11, 12], [11, 12, 13], [11, 12, 13, 14], [0, 1, 2, 3, 4, 5, 6, 7, 8, 9, 10, 11, 12, 13, 14, 15], [0, 1, 2, 3, 4, 5, 6, 7, 8, 9, 10, 11, 12, 13, 14, 15, 16]] [(0, false, []), (1, false, []), (2, false, []), (3, false, []), (5, false, []), (6, false, []), (7, false, []), (8, false, []), (11, false, []), (12, false, []), (13, false, []), (14, false, []), (15, false, []), (4, true, [8, 14]), (9, true, [14]), (10, false, []), (16, false, []), (17, true, [])] (by kernel_rfl) (by kernel_rfl) ?_
        (try refine drawv_to ?_); (try refine draw_end ?_)
        refine draw_op fun K hK => ?_; refine calls_to (turn_spec _ 17 (by decide)) ?_; rintro v A ⟨rfl, rfl⟩; (try simp only [List.nil_append, List.cons_append]); (repeat refine pendv ?_); refine hK _ _ ?_; clear hK K
        (try refine drawv_to ?_); (try refine draw_end ?_)
        refine draw_op fun K hK => ?_; refine calls_to (turn_spec _ 19 (by decide)) ?_; rintro v A ⟨rfl, rfl⟩; (try simp only [List.nil_append, List.cons_append]); (repeat refine pendv ?_); refine hK _ _ ?_; clear hK K
        (try refine drawv_to ?_); (try refine draw_end ?_)
        refine draw_op fun K hK => ?_; (repeat refine pendv ?_); refine hK _ _ ?_; clear hK K
        (try refine draw_to ?_); (try refine draw_end ?_)
        refine hN12 _ _ _ ?_; clear hN12
        refine code_draw [[], [], [], [2], [2, 3], [2, 3, 4], [1, 2, 3, 4, 5], [], [1, 2, 3, 4, 5, 6, 7], [], [9], [9, 10], [9, 10, 11], [1, 2, 3, 4, 5, 6, 7, 8, 9, 10, 11, 12], [0, 1, 2, 3, 4, 5, 6, 7, 8, 9, 10, 11, 12, 13], [0, 1, 2, 3, 4, 5, 6, 7, 8, 9, 10, 11, 12, 13, 14]] [(0, false, []), (1, false, []), (2, false, []), (3, false, []), (4, false, []), (5, false, []), (6, false, []), (7, false, []), (8, false, []), (9, false, []), (10, false, []), (11, false, []), (12, false, []), (13, false, []), (14, false, []), (15, true, [])] (by kernel_rfl) (by kernel_rfl) ?_
        (try refine drawv_to ?_); (try refine draw_end ?_)
        refine draw_op fun K hK => ?_; (first | ((with_reducible apply store_x); (· (repeat (first | with_reducible exact Upd.one | with_reducible apply Upd.next))); (· (first | (rw [ld_len]; omega) | (rw [List.length_replicate]; omega) | (rw [St.list_len]; omega) | (rw [odd_len]; omega) | (rw [spr_len]; omega) | (rw [mix_len _ _ _ (by omega)]; omega)))) | ((with_reducible apply store_w); (· (repeat (first | with_reducible exact Upd.one | with_reducible apply Upd.next))); (· (first | (rw [ld_len]; omega) | (rw [List.length_replicate]; omega) | (rw [St.list_len]; omega) | (rw [odd_len]; omega) | (rw [spr_len]; omega) | (rw [mix_len _ _ _ (by omega)]; omega))))); (repeat refine pendv ?_); refine hK _ _ ?_; clear hK K
        (try refine draw_to ?_); (try refine draw_end ?_)
        rw [show 0 + i * 1 = i from by omega, show 0 + ((i : Int) - 16).toNat * 1 = i - 16 from by omega, show 0 + ((i : Int) - 15).toNat * 1 = i - 15 from by omega, show 0 + ((i : Int) - 7).toNat * 1 = i - 7 from by omega, show 0 + ((i : Int) - 2).toNat * 1 = i - 2 from by omega]
        refine hN7 _ _ _ ?_; clear hN7
        have e : (spr bs i).set i (s1 ((spr bs i).getD (i - 2) 0) + (spr bs i).getD (i - 7) 0 + s0 ((spr bs i).getD (i - 15) 0) + (spr bs i).getD (i - 16) 0) = spr bs (i + 1) := by
          simp only [spr]; rw [if_neg (by omega)]
          congr 1
          simp only [nxt]; ac_rfl
        refine code_less (L' := [(6, .int .i64 i), (1, .slice a 64 cap), (5, .pointer (some ⟨b5, 0, none⟩)), (2, .pointer (some ⟨b2, 0, none⟩)), (4, .pointer (some ⟨b4, 0, none⟩))])
          (S' := [[(b5, .cells (rowW ((spr bs i).set i (s1 ((spr bs i).getD (i - 2) 0) + (spr bs i).getD (i - 7) 0 + s0 ((spr bs i).getD (i - 15) 0) + (spr bs i).getD (i - 16) 0))) 75 (0, 0))], F, G, H, [(b2, .cells (rowW s.list) 65 (0, 0))], [(b4, .cells (rowW (List.replicate 8 0)) 65 (0, 0))]]) (by (repeat (first | exact True.intro | (refine And.intro ?_ ?_; (· (try simp only [evT, lookT_hit, lookT_miss, Nat.reduceBEq]); (first | done | exact rfl)))))) (by first | ((repeat (first | with_reducible exact Among.nil _ | with_reducible exact Pick.head _ _ | with_reducible apply Pick.tail | with_reducible apply Among.cons)); done) | ((repeat (first | exact Among.nil _ | exact Pick.head _ _ | apply Pick.tail | apply Among.cons)); done)) ?_
        rw [e]
        refine reg_to ?_; (try refine run_end ?_)
        exact again ⟨i + 1, by omega, rfl, rfl, rfl, rfl⟩
    · have hc := of_decide_eq_false hc
      refine code_exit ?_; try simp only [Cont.then, Cont.block, Cont.noGoto, reduceIte, Nat.reduceEqDiff]
      refine hN3 _ _ _ ?_; clear hN3
      obtain rfl : i = 64 := by omega
      refine code_seq_k fun N13 hN13 => ?_
      refine code_reg ?_
      refine run_op fun K hK => ?_
      refine load_rw (by (repeat (first | with_reducible exact Lies.one | with_reducible apply Lies.next))) (St.list_len _) ?_
      refine hK _ _ ?_; clear hK K
      refine run_op fun K hK => ?_; refine alloc_new fun b9 => ?_; (try simp only [Value.cells]); refine hK _ _ ?_; clear hK K
      refine run_op fun K hK => ?_
      refine store_rw (l := List.replicate 8 0) (l' := s.list) (by (repeat (first | exact Upd.one | apply Upd.next))) rfl rfl ?_
      refine hK _ _ ?_; clear hK K
      (try refine run_to ?_); (try refine run_end ?_)
      refine hN13 _ _ _ ?_; clear hN13
      refine code_seq_k fun N14 hN14 => ?_
      refine code_seq_k fun N15 hN15 => ?_
      refine reg_to ?_; (try refine run_end ?_)
      refine hN15 _ _ _ ?_; clear hN15
      refine code_block ?_
      refine code_loop (fun q D L S => ∃ i : Nat, i ≤ 64 ∧ q = 64 - i ∧ D = [] ∧ L = [(10, .int .i64 i), (5, .pointer (some ⟨b5, 0, none⟩)), (2, .pointer (some ⟨b2, 0, none⟩)), (4, .pointer (some ⟨b4, 0, none⟩)), (9, .pointer (some ⟨b9, 0, none⟩))] ∧
        S = [[(b9, .cells (rowW (turns odd (spr bs 64) i s).list) 65 (0, 0))], [(b5, .cells (rowW (spr bs 64)) 75 (0, 0))], F, G, H, [(b2, .cells (rowW s.list) 65 (0, 0))], [(b4, .cells (rowW (List.replicate 8 0)) 65 (0, 0))]]) ?_ ?_
      · exact ⟨_, _, _, ⟨0, by omega, rfl, rfl, rfl, rfl⟩, by (repeat (first | exact True.intro | (refine And.intro ?_ ?_; (· (try simp only [evT, lookT_hit, lookT_miss, Nat.reduceBEq]); (first | done | exact rfl))))), by first | ((repeat (first | with_reducible exact Among.nil _ | with_reducible exact Pick.head _ _ | with_reducible apply Pick.tail | with_reducible apply Among.cons)); done) | ((repeat (first | exact Among.nil _ | exact Pick.head _ _ | apply Pick.tail | apply Among.cons)); done)⟩
      · rintro q D L S ⟨i, hi, rfl, rfl, rfl, rfl⟩
        refine code_seq_k fun N16 hN16 => ?_
        refine code_seq_k fun N17 hN17 => ?_
        refine reg_to ?_; (try refine run_end ?_)
        refine hN17 _ _ _ ?_; clear hN17
        refine code_if (fun hc => ?_) (fun hc => ?_)
        · have hc := of_decide_eq_true hc
          refine code_skip ?_
          refine hN16 _ _ _ ?_; clear hN16
          have hnext : turns odd (spr bs 64) (i + 1) s = turn (odd.getD i 0) ((spr bs 64).getD i 0) (turns odd (spr bs 64) i s) := rfl
          generalize turns odd (spr bs 64) i s = st at hnext ⊢
          refine code_seq_k fun N18 hN18 => ?_
          refine code_block ?_
          refine code_seq_k fun N19 hN19 => ?_
          refine regv_to ?_; (try refine run_end ?_)
          refine hN19 _ _ _ ?_; clear hN19
          refine code_seq_k fun N20 hN20 => ?_
          refine code_draw [[], [0], [], [2], [], [2, 3, 4], [2, 3, 4, 5], [], [2, 3, 4, 5, 7], [2, 3, 4, 5, 6, 7, 8], [0, 1, 2, 3, 4, 5, 6, 7, 8, 9], [], [], [12], [11, 12, 13], [], [15], [], [17], [15, 16, 17, 18], [11, 12, 13, 14, 15, 16, 17, 18, 19], [0, 1, 2, 3, 4, 5, 6, 7, 8, 9, 10, 11, 12, 13, 14, 15, 16, 17, 18, 19, 20], [], [22], [22, 23], [0, 1, 2, 3, 4, 5, 6, 7, 8, 9, 10, 11, 12, 13, 14, 15, 16, 17, 18, 19, 20, 21, 22, 23, 24], [], [26], [26, 27], [0, 1, 2, 3, 4, 5, 6, 7, 8, 9, 10, 11, 12, 13, 14, 15, 16, 17, 18, 19, 20, 21, 22, 23, 24, 25, 26, 27, 28], [0, 1, 2, 3, 4, 5, 6, 7, 8, 9, 10, 11, 12, 13, 14, 15, 16, 17, 18, 19, 20, 21, 22, 23, 24, 25, 26, 27, 28, 29]] [(0, false, []), (1, false, []), (2, false, []), (4, false, []), (7, false, []), (11, false, []), (12, false, []), (13, false, []), (14, false, []), (15, false, []), (16, false, []), (17, false, []), (18, false, []), (19, false, []), (20, false, []), (22, false, []), (23, false, []), (24, false, []), (26, false, []), (27, false, []), (28, false, []), (3, true, [1, 13, 18, 24, 28]), (5, true, [1, 13, 18, 24, 28]), (6, false, []), (8, true, [1, 13, 18, 24, 28]), (9, false, []), (10, false, []), (21, false, []), (25, false, []), (29, false, []), (30, true, [])] (by kernel_rfl) (by kernel_rfl) ?_
          (try refine drawv_to ?_); (try refine draw_end ?_)
          refine draw_op fun K hK => ?_; refine calls_to (turn_spec _ 6 (by decide)) ?_; rintro v A ⟨rfl, rfl⟩; (try simp only [List.nil_append, List.cons_append]); (repeat refine pendv ?_); refine hK _ _ ?_; clear hK K
          (try refine drawv_to ?_); (try refine draw_end ?_)
          refine draw_op fun K hK => ?_; refine calls_to (turn_spec _ 11 (by decide)) ?_; rintro v A ⟨rfl, rfl⟩; (try simp only [List.nil_append, List.cons_append]); (repeat refine pendv ?_); refine hK _ _ ?_; clear hK K
          (try refine drawv_to ?_); (try refine draw_end ?_)
          refine draw_op fun K hK => ?_; refine calls_to (turn_spec _ 25 (by decide)) ?_; rintro v A ⟨rfl, rfl⟩; (try simp only [List.nil_append, List.cons_append]); (repeat refine pendv ?_); refine hK _ _ ?_; clear hK K
          (try refine drawv_to ?_); (try refine draw_end ?_)
          refine draw_op fun K hK => ?_; (repeat refine pendv ?_); refine hK _ _ ?_; clear hK K
          (try refine draw_to ?_); (try refine draw_end ?_)
          refine hN20 _ _ _ ?_; clear hN20
          refine code_seq_k fun N21 hN21 => ?_
          refine regv_to ?_; (try refine run_end ?_)
          refine hN21 _ _ _ ?_; clear hN21
          refine code_seq_k fun N22 hN22 => ?_
          refine code_draw [[], [0], [], [0, 1, 2], [0, 1, 2, 3], [], [0, 1, 2, 3, 5], [0, 1, 2, 3, 4, 5, 6], [], [], [9], [8, 9, 10], [], [], [13], [12, 13, 14], [8, 9, 10, 11, 12, 13, 14, 15], [], [17], [], [19], [17, 18, 19, 20], [8, 9, 10, 11, 12, 13, 14, 15, 16, 17, 18, 19, 20, 21], [0, 1, 2, 3, 4, 5, 6, 7, 8, 9, 10, 11, 12, 13, 14, 15, 16, 17, 18, 19, 20, 21, 22], [0, 1, 2, 3, 4, 5, 6, 7, 8, 9, 10, 11, 12, 13, 14, 15, 16, 17, 18, 19, 20, 21, 22, 23]] [(0, false, []), (2, false, []), (5, false, []), (8, false, []), (9, false, []), (10, false, []), (11, false, []), (12, false, []), (13, false, []), (14, false, []), (15, false, []), (16, false, []), (17, false, []), (18, false, []), (19, false, []), (20, false, []), (21, false, []), (22, false, []), (1, true, [10, 14, 18, 20]), (3, true, [10, 14, 18, 20]), (4, false, []), (6, true, [10, 14, 18, 20]), (7, false, []), (23, false, []), (24, true, [])] (by kernel_rfl) (by kernel_rfl) ?_
          (try refine drawv_to ?_); (try refine draw_end ?_)
          refine draw_op fun K hK => ?_; refine calls_to (turn_spec _ 2 (by decide)) ?_; rintro v A ⟨rfl, rfl⟩; (try simp only [List.nil_append, List.cons_append]); (repeat refine pendv ?_); refine hK _ _ ?_; clear hK K
          (try refine drawv_to ?_); (try refine draw_end ?_)
          refine draw_op fun K hK => ?_; refine calls_to (turn_spec _ 13 (by decide)) ?_; rintro v A ⟨rfl, rfl⟩; (try simp only [List.nil_append, List.cons_append]); (repeat refine pendv ?_); refine hK _ _ ?_; clear hK K
          (try refine drawv_to ?_); (try refine draw_end ?_)
          refine draw_op fun K hK => ?_; refine calls_to (turn_spec _ 22 (by decide)) ?_; rintro v A ⟨rfl, rfl⟩; (try simp only [List.nil_append, List.cons_append]); (repeat refine pendv ?_); refine hK _ _ ?_; clear hK K
          (try refine drawv_to ?_); (try refine draw_end ?_)
          refine draw_op fun K hK => ?_; (repeat refine pendv ?_); refine hK _ _ ?_; clear hK K
          (try refine draw_to ?_); (try refine draw_end ?_)
          refine hN22 _ _ _ ?_; clear hN22
          refine regv_to ?_; (try refine run_end ?_)
          refine run_op fun K hK => ?_
          rw [build_w8 rfl]
          refine hK _ _ ?_; clear hK K
          refine run_op fun K hK => ?_
          rw [show 0 + i * 1 = i from by omega]
          simp only [St.get0, St.get1, St.get2, St.get3, St.get4, St.get5, St.get6, St.get7]
          rw [turn_list]
          refine store_rw (l := st.list) (l' := (turn (odd.getD i 0) ((spr bs 64).getD i 0) st).list) (by (repeat (first | with_reducible exact Upd.one | with_reducible apply Upd.next))) (St.list_len _) (St.list_len _) ?_
          refine hK _ _ ?_; clear hK K
          (try refine run_to ?_); (try refine run_end ?_)
          rw [← hnext]
          refine hN18 _ _ _ ?_; clear hN18
          refine code_less (L' := [(10, .int .i64 i), (5, .pointer (some ⟨b5, 0, none⟩)), (2, .pointer (some ⟨b2, 0, none⟩)), (4, .pointer (some ⟨b4, 0, none⟩)), (9, .pointer (some ⟨b9, 0, none⟩))]) (S' := [[(b9, .cells (rowW (turns odd (spr bs 64) (i + 1) s).list) 65 (0, 0))], [(b5, .cells (rowW (spr bs 64)) 75 (0, 0))], F, G, H, [(b2, .cells (rowW s.list) 65 (0, 0))], [(b4, .cells (rowW (List.replicate 8 0)) 65 (0, 0))]]) (by (repeat (first | exact True.intro | (refine And.intro ?_ ?_; (· (try simp only [evT, lookT_hit, lookT_miss, Nat.reduceBEq]); (first | done | exact rfl)))))) (by (repeat (first | with_reducible exact Among.nil _ | with_reducible exact Pick.head _ _ | with_reducible apply Pick.tail | with_reducible apply Among.cons))) ?_
          refine reg_to ?_; (try refine run_end ?_)
          exact again ⟨i + 1, by omega, rfl, rfl, rfl, rfl⟩
        · have hc := of_decide_eq_false hc
          refine code_exit ?_; try simp only [Cont.then, Cont.block, Cont.noGoto, reduceIte, Nat.reduceEqDiff]
          refine hN14 _ _ _ ?_; clear hN14
          obtain rfl : i = 64 := by omega
          generalize hv : turns odd (spr bs 64) 64 s = v
          refine code_seq_k fun N23 hN23 => ?_
          refine code_seq_k fun N24 hN24 => ?_
          refine reg_to ?_; (try refine run_end ?_)
          refine hN24 _ _ _ ?_; clear hN24
          refine code_block ?_
          refine code_loop (fun q D L S => ∃ i : Nat, i ≤ 8 ∧ q = 8 - i ∧ D = [] ∧ L = [(165, .int .i64 i), (2, .pointer (some ⟨b2, 0, none⟩)), (4, .pointer (some ⟨b4, 0, none⟩)), (9, .pointer (some ⟨b9, 0, none⟩))] ∧
            S = [[(b2, .cells (rowW (mix s v i)) 65 (0, 0))], [(b9, .cells (rowW v.list) 65 (0, 0))], F, G, H, [(b4, .cells (rowW (List.replicate 8 0)) 65 (0, 0))]]) ?_ ?_
          · exact ⟨_, _, _, ⟨0, by omega, rfl, rfl, rfl, rfl⟩, by (repeat (first | exact True.intro | (refine And.intro ?_ ?_; (· (try simp only [evT, lookT_hit, lookT_miss, Nat.reduceBEq]); (first | done | exact rfl))))), by first | ((repeat (first | with_reducible exact Among.nil _ | with_reducible exact Pick.head _ _ | with_reducible apply Pick.tail | with_reducible apply Among.cons)); done) | ((repeat (first | exact Among.nil _ | exact Pick.head _ _ | apply Pick.tail | apply Among.cons)); done)⟩
          · rintro q D L S ⟨i, hi, rfl, rfl, rfl, rfl⟩
            refine code_seq_k fun N25 hN25 => ?_
            refine reg_to ?_; (try refine run_end ?_)
            refine hN25 _ _ _ ?_; clear hN25
            refine code_seq_k fun N26 hN26 => ?_
            refine code_if (fun hc => ?_) (fun hc => ?_)
            · have hc := of_decide_eq_true hc
              refine code_skip ?_
              refine hN26 _ _ _ ?_; clear hN26
              refine code_seq_k fun N27 hN27 => ?_
              refine code_block ?_
              refine code_seq_k fun N28 hN28 => ?_
              refine reg_to ?_; (try refine run_end ?_)
              refine hN28 _ _ _ ?_; clear hN28
              refine code_draw [[], [0], [0, 1], [], [3], [3, 4], [0, 1, 2, 3, 4, 5], [0, 1, 2, 3, 4, 5, 6], [0, 1, 2, 3, 4, 5, 6, 7]] [(0, false, []), (1, false, []), (2, false, []), (3, false, []), (4, false, []), (5, false, []), (6, false, []), (7, false, []), (8, true, [])] (by kernel_rfl) (by kernel_rfl) ?_
              (try refine drawv_to ?_); (try refine draw_end ?_)
              refine draw_op fun K hK => ?_; (first | ((with_reducible apply store_x); (· (repeat (first | with_reducible exact Upd.one | with_reducible apply Upd.next))); (· (first | (rw [ld_len]; omega) | (rw [List.length_replicate]; omega) | (rw [St.list_len]; omega) | (rw [odd_len]; omega) | (rw [spr_len]; omega) | (rw [mix_len _ _ _ (by omega)]; omega)))) | ((with_reducible apply store_w); (· (repeat (first | with_reducible exact Upd.one | with_reducible apply Upd.next))); (· (first | (rw [ld_len]; omega) | (rw [List.length_replicate]; omega) | (rw [St.list_len]; omega) | (rw [odd_len]; omega) | (rw [spr_len]; omega) | (rw [mix_len _ _ _ (by omega)]; omega))))); (repeat refine pendv ?_); refine hK _ _ ?_; clear hK K
              (try refine draw_to ?_); (try refine draw_end ?_)
              rw [show 0 + i * 1 = i from by omega, mix_next s v i (by omega)]
              refine hN27 _ _ _ ?_; clear hN27
              refine reg_to ?_; (try refine run_end ?_)
              exact again ⟨i + 1, by omega, rfl, rfl, rfl, rfl⟩
            · have hc := of_decide_eq_false hc
              refine code_exit ?_; try simp only [Cont.then, Cont.block, Cont.noGoto, reduceIte, Nat.reduceEqDiff]
              refine hN23 _ _ _ ?_; clear hN23
              obtain rfl : i = 8 := by omega
              subst hv
              refine code_seq_k fun N29 hN29 => ?_
              refine code_reg ?_
              refine run_op fun K hK => ?_
              refine load_rw (by (repeat (first | with_reducible exact Lies.one | with_reducible apply Lies.next))) (mix_len _ _ _ (by omega)) ?_
              refine hK _ _ ?_; clear hK K
              refine run_op fun K hK => ?_
              refine store_rw (l := List.replicate 8 0) (l' := mix s (turns odd (spr bs 64) 64 s) 8) (by (repeat (first | with_reducible exact Upd.one | with_reducible apply Upd.next))) List.length_replicate (mix_len _ _ _ (by omega)) ?_
              refine hK _ _ ?_; clear hK K
              (try refine run_to ?_); (try refine run_end ?_)
              refine hN29 _ _ _ ?_; clear hN29
              refine code_back ?_
              refine ⟨_, by simp only [marksOf, List.map_cons, List.map_nil]; (repeat (first | with_reducible exact Take.nil _ | with_reducible exact Pick.head _ _ | with_reducible apply Pick.tail | with_reducible apply Take.cons)), ?_⟩; simp only [resW, withV, lookT_hit, lookT_miss, Nat.reduceBEq]; refine load_rw (by (repeat (first | with_reducible exact Lies.one | with_reducible apply Lies.next))) (mix_len _ _ _ (by omega)) ?_; exact ⟨[G, H], ⟨rfl, rfl⟩, by first | ((repeat (first | with_reducible exact Among.nil _ | with_reducible exact Pick.head _ _ | with_reducible apply Pick.tail | with_reducible apply Among.cons)); done) | ((repeat (first | exact Among.nil _ | exact Pick.head _ _ | apply Pick.tail | apply Among.cons)); done)⟩

end Go.Proofs.YtfihpbhdilldoaaDoor

/- The document's bytes, its state behind all blocks, its sum. Conditions: as each says. -/
set_option linter.unusedSimpArgs false
set_option linter.unusedVariables false
namespace Go.Proofs.YtfihpbhdilldoaaDoor
open Go Go.Ost Go.Sha

theorem refbytes_spec (n k : Nat) (hn : n < 18446744073709551616) (hk : k ≤ 1000) : Meets Tryd.prog 39 [.int .u64 n, .int .i64 k] [] (New8 5 (be k n) []) := by
  refine spec_intro Tryd.func39 rfl (by kernel_rfl) (by rw [Tryd.ntmps39]; simp) fun F => ?_; rw [Tryd.ntmps39, Tryd.results39]
  refine code_seq_k fun N1 hN1 => ?_
  refine reg_to ?_; (try refine run_end ?_)
  refine hN1 _ _ _ ?_; clear hN1
  refine code_seq_k fun N2 hN2 => ?_
  refine reg_to ?_; (try refine run_end ?_)
  refine run_op fun K hK => ?_
  refine make8 (by omega) (fun b1 C1 ho1 => ?_)
  refine hK _ _ ?_; clear hK K
  (try refine run_to ?_); (try refine run_end ?_)
  refine hN2 _ _ _ ?_; clear hN2
  refine code_seq_k fun N3 hN3 => ?_
  refine code_seq_k fun N4 hN4 => ?_
  refine reg_to ?_; (try refine run_end ?_)
  refine hN4 _ _ _ ?_; clear hN4
  refine code_block ?_
  refine code_loop (fun q D L S => ∃ (i : Nat) (C : Chunk) (j : Int) (v : Nat), i ≤ k ∧ j = (k : Int) - 1 - i ∧ v = n / 256 ^ i ∧ Own8 5 C (some ⟨b1, 0, none⟩) k k (List.replicate (k - i) 0 ++ (be k n).drop (k - i)) ∧ q = k - i ∧ D = [] ∧ L = [(6, .int .i64 j), (0, .int .u64 (v : Int)), (5, .slice (some ⟨b1, 0, none⟩) k k)] ∧ S = [C, F]) ?_ ?_
  · refine ⟨_, _, _, ⟨0, C1, (k : Int) - 1, n, by omega, by omega, by simp, ?_, rfl, rfl, rfl, rfl⟩, by (repeat (first | exact True.intro | (refine And.intro ?_ ?_; (· (try simp only [evT, lookT_hit, lookT_miss, Nat.reduceBEq]); (first | done | exact rfl))))), by first | ((repeat (first | with_reducible exact Among.nil _ | with_reducible exact Pick.head _ _ | with_reducible apply Pick.tail | with_reducible apply Among.cons)); done) | ((repeat (first | exact Among.nil _ | exact Pick.head _ _ | apply Pick.tail | apply Among.cons)); done)⟩
    rw [Nat.sub_zero, List.drop_of_length_le (by rw [be_len]; omega), List.append_nil]
    exact ho1
  · rintro q D L S ⟨i, C, j, v, hi, hj, hv, ho, rfl, rfl, rfl, rfl⟩
    have hvn : v ≤ n := by rw [hv]; exact Nat.div_le_self _ _
    refine code_seq_k fun N5 hN5 => ?_
    refine code_seq_k fun N6 hN6 => ?_
    refine reg_to ?_; (try refine run_end ?_)
    refine hN6 _ _ _ ?_; clear hN6
    refine code_if (fun hc => ?_) (fun hc => ?_)
    · have hc := of_decide_eq_true hc
      refine code_skip ?_
      refine hN5 _ _ _ ?_; clear hN5
      refine code_seq_k fun N7 hN7 => ?_
      refine code_block ?_
      refine code_seq_k fun N8 hN8 => ?_
      refine reg_to ?_; (try refine run_end ?_)
      have e1 : Value.int .u8 ((v : Int) % 256) = b8 (UInt8.ofNat (n / 256 ^ i % 256)) := by
        simp only [b8, ← hv, UInt8.toNat_ofNat']; congr 1; omega
      have e2 : (⟨b1, 0 + j.toNat * 1, none⟩ : Addr) = elA (some ⟨b1, 0, none⟩) (k - 1 - i) := by
        simp only [elA, Option.getD_some, add_mk]; congr 1; omega
      refine run_op fun K hK => ?_
      rw [e1, e2]
      refine own_store8 ho (by (repeat (first | with_reducible exact Pick.head _ _ | with_reducible apply Pick.tail))) (by simp [be_len]; omega) (fun C2 ho2 => ?_)
      rw [be_back k n i (by omega)] at ho2
      refine hK _ _ ?_; clear hK K
      (try refine run_to ?_); (try refine run_end ?_)
      refine hN8 _ _ _ ?_; clear hN8
      refine reg_to ?_; (try refine run_end ?_)
      refine hN7 _ _ _ ?_; clear hN7
      refine reg_to ?_; (try refine run_end ?_)
      have hv2 : v / 256 = n / 256 ^ (i + 1) := by rw [hv, Nat.div_div_eq_div_mul, Nat.pow_succ]
      rw [show ((v : Int) / 256) = ((v / 256 : Nat) : Int) from by omega]
      exact again ⟨i + 1, C2, j - 1, v / 256, by omega, by omega, hv2, ho2, rfl, rfl, rfl, rfl⟩
    · have hc := of_decide_eq_false hc
      refine code_exit ?_; try simp only [Cont.then, Cont.block, Cont.noGoto, reduceIte, Nat.reduceEqDiff]
      refine hN3 _ _ _ ?_; clear hN3
      have e : List.replicate (k - i) 0 ++ (be k n).drop (k - i) = be k n := by rw [show k - i = 0 from by omega]; rfl
      rw [e] at ho
      refine code_seq_k fun N9 hN9 => ?_
      refine reg_to ?_; (try refine run_end ?_)
      refine hN9 _ _ _ ?_; clear hN9
      refine code_back ?_
      have e2 := be_len k n
      refine ret_tmp [C] (by (try simp only [evT, lookT_hit, lookT_miss, Nat.reduceBEq]); (first | done | exact rfl)) ⟨C, some ⟨b1, 0, none⟩, k, ?_, ?_, rfl⟩ (by first | ((repeat (first | with_reducible exact Among.nil _ | with_reducible exact Pick.head _ _ | with_reducible apply Pick.tail | with_reducible apply Among.cons)); done) | ((repeat (first | exact Among.nil _ | exact Pick.head _ _ | apply Pick.tail | apply Among.cons)); done))
      · rw [e2]
      · rw [e2]; exact ho

theorem first_spec : Meets Tryd.prog 47 [] [] fun v A => v = .agg (rowW first.list) ∧ A = [] := by
  refine spec_intro Tryd.func47 rfl (by kernel_rfl) (by rw [Tryd.ntmps47]; simp) fun F => ?_; rw [Tryd.ntmps47, Tryd.results47]
  refine code_seq_k fun N1 hN1 => ?_
  refine reg_to ?_; (try refine run_end ?_)
  refine run_op fun K hK => ?_; refine alloc_new fun b0 => ?_; (try simp only [Value.cells]); refine hK _ _ ?_; clear hK K
  (try refine run_to ?_); (try refine run_end ?_)
  refine hN1 _ _ _ ?_; clear hN1
  refine code_seq_k fun N2 hN2 => ?_
  refine reg_to ?_; (try refine run_end ?_)
  refine run_op fun K hK => ?_
  refine (build_w8 (κ := _) (a := 1779033703) (b := 3144134277) (c := 1013904242) (d := 2773480762) (e' := 1359893119) (f := 2600822924) (g := 528734635) (h' := 1541459225) rfl).mpr ?_
  refine hK _ _ ?_; clear hK K
  refine run_op fun K hK => ?_
  refine store_rw (l := List.replicate 8 0) (l' := first.list) (by (repeat (first | exact Upd.one | apply Upd.next))) List.length_replicate (St.list_len _) ?_
  refine hK _ _ ?_; clear hK K
  (try refine run_to ?_); (try refine run_end ?_)
  refine hN2 _ _ _ ?_; clear hN2
  refine code_back ?_
  refine ⟨_, by simp only [marksOf, List.map_cons, List.map_nil]; (repeat (first | with_reducible exact Take.nil _ | with_reducible exact Pick.head _ _ | with_reducible apply Pick.tail | with_reducible apply Take.cons)), ?_⟩; simp only [resW, withV, lookT_hit, lookT_miss, Nat.reduceBEq]; refine load_rw (by (repeat (first | with_reducible exact Lies.one | with_reducible apply Lies.next))) (St.list_len _) ?_; exact ⟨[], ⟨rfl, rfl⟩, by first | ((repeat (first | with_reducible exact Among.nil _ | with_reducible exact Pick.head _ _ | with_reducible apply Pick.tail | with_reducible apply Among.cons)); done) | ((repeat (first | exact Among.nil _ | exact Pick.head _ _ | apply Pick.tail | apply Among.cons)); done)⟩

theorem go_spec {tg : TypeId} (G H : Chunk) (m : Nat × Nat) (hG : (3, Obj.cells (rowW odd) tg m) ∈ G) (s : St) (a : Option Addr) (cap : Nat) (bs : List UInt8) (hb : bs.length ≤ 70368744177664) (hcap : bs.length ≤ cap) (h : Rd 1 [H] a bs.length (bs.map b8)) :
    Meets Tryd.prog 46 [.agg (rowW s.list), .slice a bs.length cap] [G, H]
      fun v A => ∃ a' c', v = .tuple #[.agg (rowW (whole s bs).list), .slice a' (bs.drop (64 * (bs.length / 64))).length c'] ∧ Rd 1 [H] a' (bs.drop (64 * (bs.length / 64))).length ((bs.drop (64 * (bs.length / 64))).map b8) ∧ A = [G, H] := by
  refine spec_intro Tryd.func46 rfl (by kernel_rfl) (by rw [Tryd.ntmps46]; simp) fun F => ?_; rw [Tryd.ntmps46, Tryd.results46]
  refine code_seq_k fun N1 hN1 => ?_
  refine reg_to ?_; (try refine run_end ?_)
  refine run_op fun K hK => ?_
  refine box_new fun b2 => ?_; rw [show (Value.agg (rowW s.list)).cells = rowW s.list from rfl]; refine hK _ _ ?_; clear hK K
  (try refine run_to ?_); (try refine run_end ?_)
  refine run_op fun K hK => ?_; refine alloc_new fun b4 => ?_; (try simp only [Value.cells]); refine hK _ _ ?_; clear hK K
  (try refine run_to ?_); (try refine run_end ?_)
  refine hN1 _ _ _ ?_; clear hN1
  refine code_seq_k fun N2 hN2 => ?_
  refine code_block ?_
  refine code_loop (fun q D L S => ∃ (i : Nat) (a' : Option Addr) (c' : Nat), 64 * i ≤ bs.length ∧ (bs.drop (64 * i)).length ≤ c' ∧ Rd 1 [H] a' (bs.drop (64 * i)).length ((bs.drop (64 * i)).map b8) ∧ q = bs.length - 64 * i ∧ D = [] ∧ L = [(1, .slice a' (bs.drop (64 * i)).length c'), (2, .pointer (some ⟨b2, 0, none⟩)), (4, .pointer (some ⟨b4, 0, none⟩))] ∧
    S = [F, G, H, [(b2, .cells (rowW (run i s bs).list) 65 (0, 0))], [(b4, .cells (rowW (List.replicate 8 0)) 65 (0, 0))]]) ?_ ?_
  · exact ⟨_, _, _, ⟨0, a, cap, by omega, hcap, h, rfl, rfl, rfl, rfl⟩, by (repeat (first | exact True.intro | (refine And.intro ?_ ?_; (· (try simp only [evT, lookT_hit, lookT_miss, Nat.reduceBEq]); (first | done | exact rfl))))), by first | ((repeat (first | with_reducible exact Among.nil _ | with_reducible exact Pick.head _ _ | with_reducible apply Pick.tail | with_reducible apply Among.cons)); done) | ((repeat (first | exact Among.nil _ | exact Pick.head _ _ | apply Pick.tail | apply Among.cons)); done)⟩
  · rintro q D L S ⟨i, a', c', hi, hc', hr, rfl, rfl, rfl, rfl⟩
    have hdl : (bs.drop (64 * i)).length = bs.length - 64 * i := List.length_drop
    refine code_seq_k fun N3 hN3 => ?_
    refine code_seq_k fun N4 hN4 => ?_
    refine reg_to ?_; (try refine run_end ?_)
    refine hN4 _ _ _ ?_; clear hN4
    refine code_if (fun hc => ?_) (fun hc => ?_)
    · have hc := of_decide_eq_true hc
      refine code_skip ?_
      refine hN3 _ _ _ ?_; clear hN3
      refine code_block ?_
      have hcut : Rd 1 [H] (cutA 1 a' 0 c') 64 (((bs.drop (64 * i)).take 64).map b8) := rd_cut1 hr (l := 0) (h' := 64) (m := c') (by omega) (by omega) (by omega)
      have e64 : (bs.drop (64 * i)).length - 64 = (bs.drop (64 * (i + 1))).length := by
        rw [List.length_drop, List.length_drop]; show bs.length - 64 * i - 64 = _; omega
      have hr2 : Rd 1 [H] (cutA 1 a' 64 c') (bs.drop (64 * (i + 1))).length ((bs.drop (64 * (i + 1))).map b8) := by
        have q := rd_cut1 hr (l := 64) (h' := (bs.drop (64 * i)).length) (m := c') (by omega) (Nat.le_refl _) hc'
        rw [List.drop_drop, show 64 * i + 64 = 64 * (i + 1) from by omega, List.take_of_length_le (by rw [List.length_drop]; omega)] at q
        rw [← e64]; exact q
      have hc2 : (bs.drop (64 * (i + 1))).length ≤ c' - 64 := by
        rw [List.length_drop]; show _ ≤ c' - 64; omega
      refine code_draw [[], [], [1], [0, 1, 2], [], [4], [0, 1, 2, 3], [0, 1, 2, 3, 4, 5, 6]] [(0, false, []), (1, false, []), (2, false, []), (4, false, []), (5, false, []), (3, true, []), (6, true, []), (7, true, [])] (by kernel_rfl) (by kernel_rfl) ?_
      refine draw_quiet (by simp only [List.getElem?_toArray, List.getElem?_cons_succ, List.getElem?_cons_zero]; rfl) fun K hK => ?_; (try simp only [gos, gob, Nat.reduceBEq, if_true, reduceIte, reduceCtorEq, Nat.reduceLT, Nat.reduceEqDiff, Nat.reduceAdd, Nat.reduceSub, Int.reduceLT, Int.reduceLE, Int.reduceBEq, Int.reduceBNe, Int.reduceToNat, Int.reduceAdd, Int.reduceSub, Int.reduceMul, Int.reduceDiv, Int.reduceMod, Int.reducePow, Int.toNat_natCast, Nat.sub_zero, goq]); (try (simp (disch := omega) only [gow, gobw]; try simp only [gos, gob, Nat.reduceBEq, if_true, reduceIte, reduceCtorEq, Nat.reduceLT, Nat.reduceEqDiff, Nat.reduceAdd, Nat.reduceSub, Int.reduceLT, Int.reduceLE, Int.reduceBEq, Int.reduceBNe, Int.reduceToNat, Int.reduceAdd, Int.reduceSub, Int.reduceMul, Int.reduceDiv, Int.reduceMod, Int.reducePow, Int.toNat_natCast, Nat.sub_zero, goq])); refine load_rw (by (repeat (first | with_reducible exact Lies.one | with_reducible apply Lies.next))) (St.list_len _) ?_; (with_reducible refine hK _ _ ?_); clear hK K
      (try refine draw_to ?_); (try refine draw_end ?_)
      refine draw_effect (by simp only [List.getElem?_toArray, List.getElem?_cons_succ, List.getElem?_cons_zero]; rfl) fun K hK => ?_; (try simp only [gos, gob, Nat.reduceBEq, if_true, reduceIte, reduceCtorEq, Nat.reduceLT, Nat.reduceEqDiff, Nat.reduceAdd, Nat.reduceSub, Int.reduceLT, Int.reduceLE, Int.reduceBEq, Int.reduceBNe, Int.reduceToNat, Int.reduceAdd, Int.reduceSub, Int.reduceMul, Int.reduceDiv, Int.reduceMod, Int.reducePow, Int.toNat_natCast, Nat.sub_zero, goq]); (try (simp (disch := omega) only [gow, gobw]; try simp only [gos, gob, Nat.reduceBEq, if_true, reduceIte, reduceCtorEq, Nat.reduceLT, Nat.reduceEqDiff, Nat.reduceAdd, Nat.reduceSub, Int.reduceLT, Int.reduceLE, Int.reduceBEq, Int.reduceBNe, Int.reduceToNat, Int.reduceAdd, Int.reduceSub, Int.reduceMul, Int.reduceDiv, Int.reduceMod, Int.reducePow, Int.toNat_natCast, Nat.sub_zero, goq])); refine calls_spec (refstep_spec G H m hG (run i s bs) (cutA 1 a' 0 c') (c' - 0) (by omega) ((bs.drop (64 * i)).take 64) (by rw [List.length_take]; omega) hcut) (by (repeat (first | with_reducible exact Take.nil _ | with_reducible exact Pick.head _ _ | with_reducible apply Pick.tail | with_reducible apply Take.cons))) ?_; rintro v A ⟨rfl, rfl⟩; (try simp only [List.nil_append, List.cons_append]); refine hK _ _ ?_; clear hK K
      rw [← run_next]
      (try refine draw_to ?_); (try refine draw_end ?_)
      refine draw_effect (by simp only [List.getElem?_toArray, List.getElem?_cons_succ, List.getElem?_cons_zero]; rfl) fun K hK => ?_; (try simp only [gos, gob, Nat.reduceBEq, if_true, reduceIte, reduceCtorEq, Nat.reduceLT, Nat.reduceEqDiff, Nat.reduceAdd, Nat.reduceSub, Int.reduceLT, Int.reduceLE, Int.reduceBEq, Int.reduceBNe, Int.reduceToNat, Int.reduceAdd, Int.reduceSub, Int.reduceMul, Int.reduceDiv, Int.reduceMod, Int.reducePow, Int.toNat_natCast, Nat.sub_zero, goq]); (try (simp (disch := omega) only [gow, gobw]; try simp only [gos, gob, Nat.reduceBEq, if_true, reduceIte, reduceCtorEq, Nat.reduceLT, Nat.reduceEqDiff, Nat.reduceAdd, Nat.reduceSub, Int.reduceLT, Int.reduceLE, Int.reduceBEq, Int.reduceBNe, Int.reduceToNat, Int.reduceAdd, Int.reduceSub, Int.reduceMul, Int.reduceDiv, Int.reduceMod, Int.reducePow, Int.toNat_natCast, Nat.sub_zero, goq])); refine store_rw (l := (run i s bs).list) (l' := (run (i + 1) s bs).list) (by (repeat (first | with_reducible exact Upd.one | with_reducible apply Upd.next))) (St.list_len _) (St.list_len _) ?_; refine hK _ _ ?_; clear hK K
      (try refine draw_to ?_); (try refine draw_end ?_)
      refine draw_op fun K hK => ?_; (repeat refine pend ?_); refine hK _ _ ?_; clear hK K
      (try refine draw_to ?_); (try refine draw_end ?_)
      rw [e64]
      exact again ⟨i + 1, _, _, by omega, hc2, hr2, rfl, rfl, rfl, rfl⟩
    · have hc := of_decide_eq_false hc
      refine code_exit ?_; try simp only [Cont.then, Cont.block, Cont.noGoto, reduceIte, Nat.reduceEqDiff]
      refine hN2 _ _ _ ?_; clear hN2
      have hi2 : i = bs.length / 64 := by omega
      subst hi2
      refine code_seq_k fun N5 hN5 => ?_
      refine code_reg ?_
      refine run_op fun K hK => ?_
      refine load_rw (by (repeat (first | with_reducible exact Lies.one | with_reducible apply Lies.next))) (St.list_len _) ?_
      refine hK _ _ ?_; clear hK K
      (try refine run_to ?_); (try refine run_end ?_)
      refine run_op fun K hK => ?_
      refine store_rw (l := List.replicate 8 0) (l' := (run (bs.length / 64) s bs).list) (by (repeat (first | with_reducible exact Upd.one | with_reducible apply Upd.next))) List.length_replicate (St.list_len _) ?_
      refine hK _ _ ?_; clear hK K
      (try refine run_to ?_); (try refine run_end ?_)
      refine hN5 _ _ _ ?_; clear hN5
      refine code_back ?_
      refine ⟨_, by simp only [marksOf, List.map_cons, List.map_nil]; (repeat (first | with_reducible exact Take.nil _ | with_reducible exact Pick.head _ _ | with_reducible apply Pick.tail | with_reducible apply Take.cons)), ?_⟩; simp only [resW, withV, lookT_hit, lookT_miss, Nat.reduceBEq]; refine load_rw (by (repeat (first | with_reducible exact Lies.one | with_reducible apply Lies.next))) (St.list_len _) ?_; exact ⟨[G, H], ⟨a', c', rfl, hr, rfl⟩, by first | ((repeat (first | with_reducible exact Among.nil _ | with_reducible exact Pick.head _ _ | with_reducible apply Pick.tail | with_reducible apply Among.cons)); done) | ((repeat (first | exact Among.nil _ | exact Pick.head _ _ | apply Pick.tail | apply Among.cons)); done)⟩

end Go.Proofs.YtfihpbhdilldoaaDoor

/- The document's tail, a state's bytes, the sum. Conditions: as each says. -/
set_option linter.unusedSimpArgs false
set_option linter.unusedVariables false
namespace Go.Proofs.YtfihpbhdilldoaaDoor
open Go Go.Ost Go.Sha

theorem tail_spec (n : Nat) (hn : n < 2305843009213693952) : Meets Tryd.prog 48 [.int .u64 n] [] (New8 5 (pad n) []) := by
  refine spec_intro Tryd.func48 rfl (by kernel_rfl) (by rw [Tryd.ntmps48]; simp) fun F => ?_; rw [Tryd.ntmps48, Tryd.results48]
  refine code_seq_k fun N1 hN1 => ?_
  refine reg_to ?_; (try refine run_end ?_)
  refine hN1 _ _ _ ?_; clear hN1
  refine code_seq_k fun N2 hN2 => ?_
  refine reg_to ?_; (try refine run_end ?_)
  refine run_op fun K hK => ?_; refine build8 ([128]) (by decide) rfl (rfl) (fun b1 C1 ho1 => ?_); refine hK _ _ ?_; clear hK K
  (try refine run_to ?_); (try refine run_end ?_)
  refine hN2 _ _ _ ?_; clear hN2
  refine code_seq_k fun N3 hN3 => ?_
  refine code_seq_k fun N4 hN4 => ?_
  refine reg_to ?_; (try refine run_end ?_)
  refine hN4 _ _ _ ?_; clear hN4
  refine code_block ?_
  refine code_loop (fun q D L S => ∃ (i : Nat) (C : Chunk) (a : Option Addr) (cap : Nat) (j : Int), i ≤ zeros n ∧ j = (n : Int) % 64 + 1 + i ∧ Own8 5 C a (1 + i) cap (128 :: List.replicate i 0) ∧ q = zeros n - i ∧ D = [] ∧ L = [(4, .int .u64 j), (0, .int .u64 n), (3, .slice a (1 + i) cap)] ∧ S = [C, F]) ?_ ?_
  · exact ⟨_, _, _, ⟨0, C1, _, _, (n : Int) % 64 + 1, by omega, by simp, ho1, rfl, rfl, rfl, rfl⟩, by (repeat (first | exact True.intro | (refine And.intro ?_ ?_; (· (try simp only [evT, lookT_hit, lookT_miss, Nat.reduceBEq]); (first | done | exact rfl))))), by first | ((repeat (first | with_reducible exact Among.nil _ | with_reducible exact Pick.head _ _ | with_reducible apply Pick.tail | with_reducible apply Among.cons)); done) | ((repeat (first | exact Among.nil _ | exact Pick.head _ _ | apply Pick.tail | apply Among.cons)); done)⟩
  · rintro q D L S ⟨i, C, a, cap, j, hi, hj, ho, rfl, rfl, rfl, rfl⟩
    have hz : zeros n ≤ 63 := by unfold zeros; omega
    refine code_seq_k fun N5 hN5 => ?_
    refine code_seq_k fun N6 hN6 => ?_
    refine reg_to ?_; (try refine run_end ?_)
    refine hN6 _ _ _ ?_; clear hN6
    refine code_if (fun hc => ?_) (fun hc => ?_)
    · have hc := bne_iff_ne.1 hc
      have hlt : i < zeros n := by simp only [zeros] at hi ⊢; omega
      refine code_skip ?_
      refine hN5 _ _ _ ?_; clear hN5
      refine code_seq_k fun N7 hN7 => ?_
      refine code_block ?_
      refine reg_to ?_; (try refine run_end ?_)
      refine run_op fun K hK => ?_; refine build8 ([0]) (by decide) rfl (rfl) (fun b1 C1 ho1 => ?_); refine hK _ _ ?_; clear hK K
      refine run_op fun K hK => ?_; refine app8 (ho) (by (repeat (first | with_reducible exact Pick.head _ _ | with_reducible apply Pick.tail))) (ho1.rd (by (repeat (first | with_reducible assumption | with_reducible exact List.mem_cons_self .. | with_reducible apply List.mem_cons_of_mem)))) (by omega) (fun C2 a2 cap2 ho2 => ?_); refine hK _ _ ?_; clear hK K
      rw [← rep_next] at ho2
      (try refine run_to ?_); (try refine run_end ?_)
      refine hN7 _ _ _ ?_; clear hN7
      refine reg_to ?_; (try refine run_end ?_)
      exact again ⟨i + 1, C2, a2, cap2, j + 1, by omega, by omega, ho2, rfl, rfl, rfl, rfl⟩
    · have hc := bne_eq_false_iff_eq.1 hc
      refine code_exit ?_; try simp only [Cont.then, Cont.block, Cont.noGoto, reduceIte, Nat.reduceEqDiff]
      refine hN3 _ _ _ ?_; clear hN3
      obtain rfl : i = zeros n := by unfold zeros at *; omega
      refine code_seq_k fun N8 hN8 => ?_
      refine reg_to ?_; (try refine run_end ?_)
      rw [show ((n : Int) * 8) = ((8 * n : Nat) : Int) from by omega]
      refine run_op fun K hK => ?_; refine calls_to (refbytes_spec (8 * n) 8 (by omega) (by omega)) ?_; rintro v A ⟨C2, a2, cap2, rfl, ho2, rfl⟩; (try simp only [List.nil_append, List.cons_append]); refine hK _ _ ?_; clear hK K
      (try refine run_to ?_); (try refine run_end ?_)
      refine run_op fun K hK => ?_; refine app8 (ho) (by (repeat (first | with_reducible exact Pick.head _ _ | with_reducible apply Pick.tail))) (ho2.rd (by (repeat (first | with_reducible assumption | with_reducible exact List.mem_cons_self .. | with_reducible apply List.mem_cons_of_mem)))) (by rw [be_len]; omega) (fun C3 a3 cap3 ho3 => ?_); refine hK _ _ ?_; clear hK K
      (try refine run_to ?_); (try refine run_end ?_)
      refine hN8 _ _ _ ?_; clear hN8
      refine code_back ?_
      have e : 1 + zeros n + (be 8 (8 * n)).length = (pad n).length := by rw [pad_len, be_len]; omega
      rw [e] at ho3 ⊢
      refine back_tmp ([C3]) ?_; exact ⟨_, _, _, rfl, ho3, rfl⟩

theorem out_spec (s : St) : Meets Tryd.prog 49 [.agg (rowW s.list)] [] (New8 5 s.bytes []) := by
  refine spec_intro Tryd.func49 rfl (by kernel_rfl) (by rw [Tryd.ntmps49]; simp) fun F => ?_; rw [Tryd.ntmps49, Tryd.results49]
  refine code_seq_k fun N1 hN1 => ?_
  refine reg_to ?_; (try refine run_end ?_)
  refine run_op fun K hK => ?_
  refine box_new fun b1 => ?_; rw [show (Value.agg (rowW s.list)).cells = rowW s.list from rfl]; refine hK _ _ ?_; clear hK K
  (try refine run_to ?_); (try refine run_end ?_)
  refine hN1 _ _ _ ?_; clear hN1
  refine code_seq_k fun N2 hN2 => ?_
  refine reg_to ?_; (try refine run_end ?_)
  refine hN2 _ _ _ ?_; clear hN2
  refine code_seq_k fun N3 hN3 => ?_
  refine code_seq_k fun N4 hN4 => ?_
  refine code_reg ?_
  refine run_op fun K hK => ?_
  refine load_rw (by (repeat (first | with_reducible exact Lies.one | with_reducible apply Lies.next))) (St.list_len _) ?_
  refine hK _ _ ?_; clear hK K
  (try refine run_to ?_); (try refine run_end ?_)
  refine hN4 _ _ _ ?_; clear hN4
  refine code_block ?_
  refine code_nil ?_
  refine code_loop (fun q D L S => ∃ (i : Nat) (C : Chunk) (a : Option Addr) (cap : Nat), i ≤ 8 ∧ Own8 5 C a (4 * i) cap ((s.list.take i).flatMap bytes4) ∧ q = 8 - i ∧ D = [] ∧ L = [(7, .int .i64 i), (6, .agg (rowW s.list)), (3, .slice a (4 * i) cap)] ∧ S = [C, F]) ?_ ?_
  · exact ⟨_, _, _, ⟨0, [], none, 0, by omega, own_nil, rfl, rfl, rfl, rfl⟩, by (repeat (first | exact True.intro | (refine And.intro ?_ ?_; (· (try simp only [evT, lookT_hit, lookT_miss, Nat.reduceBEq]); (first | done | exact rfl))))), by first | ((repeat (first | with_reducible exact Among.nil _ | with_reducible exact Pick.head _ _ | with_reducible apply Pick.tail | with_reducible apply Among.cons)); done) | ((repeat (first | exact Among.nil _ | exact Pick.head _ _ | apply Pick.tail | apply Among.cons)); done)⟩
  · rintro q D L S ⟨i, C, a, cap, hi, ho, rfl, rfl, rfl, rfl⟩
    refine code_seq_k fun N5 hN5 => ?_
    refine reg_to ?_; (try refine run_end ?_)
    refine hN5 _ _ _ ?_; clear hN5
    refine code_seq_k fun N6 hN6 => ?_
    refine code_if (fun hc => ?_) (fun hc => ?_)
    · have hc := of_decide_eq_true hc
      refine code_skip ?_
      refine hN6 _ _ _ ?_; clear hN6
      refine code_seq_k fun N7 hN7 => ?_
      refine code_block ?_
      refine code_seq_k fun N8 hN8 => ?_
      refine code_reg ?_
      refine run_op fun K hK => ?_
      rw [index_w (by omega) (by omega) (St.list_len s)]
      refine hK _ _ ?_; clear hK K
      (try refine run_to ?_); (try refine run_end ?_)
      refine hN8 _ _ _ ?_; clear hN8
      refine reg_to ?_; (try refine run_end ?_)
      have hx := (s.list.getD i 0).isLt
      refine run_op fun K hK => ?_; refine calls_to (refbytes_spec (s.list.getD i 0).toNat 4 (by omega) (by omega)) ?_; rintro v A ⟨C1, a1, cap1, rfl, ho1, rfl⟩; (try simp only [List.nil_append, List.cons_append]); refine hK _ _ ?_; clear hK K
      (try refine run_to ?_); (try refine run_end ?_)
      rw [bytes4_be] at ho1
      rw [bytes4_be]
      refine run_op fun K hK => ?_; refine app8 (ho) (by (repeat (first | with_reducible exact Pick.head _ _ | with_reducible apply Pick.tail))) (ho1.rd (by (repeat (first | with_reducible assumption | with_reducible exact List.mem_cons_self .. | with_reducible apply List.mem_cons_of_mem)))) (by show 4 * i + 4 ≤ _; omega) (fun C2 a2 cap2 ho2 => ?_); refine hK _ _ ?_; clear hK K
      rw [← bytes_next s i (by omega)] at ho2
      (try refine run_to ?_); (try refine run_end ?_)
      refine hN7 _ _ _ ?_; clear hN7
      refine reg_to ?_; (try refine run_end ?_)
      exact again ⟨i + 1, C2, a2, cap2, by omega, ho2, rfl, rfl, rfl, rfl⟩
    · have hc := of_decide_eq_false hc
      refine code_exit ?_; try simp only [Cont.then, Cont.block, Cont.noGoto, reduceIte, Nat.reduceEqDiff]
      refine hN3 _ _ _ ?_; clear hN3
      obtain rfl : i = 8 := by omega
      refine code_seq_k fun N9 hN9 => ?_
      refine reg_to ?_; (try refine run_end ?_)
      refine hN9 _ _ _ ?_; clear hN9
      refine code_back ?_
      refine back_tmp ([C]) ?_; exact ⟨_, _, _, rfl, ho, rfl⟩

theorem refsum_spec {tg : TypeId} (G H : Chunk) (m : Nat × Nat) (hG : (3, Obj.cells (rowW odd) tg m) ∈ G) (a : Option Addr) (cap : Nat) (bs : List UInt8) (hb : bs.length ≤ 1000000) (h : Rd 1 [H] a bs.length (bs.map b8)) :
    Meets Tryd.prog 30 [.slice a bs.length cap] [G, H] (New8 5 (digest bs) [G, H]) := by
  refine spec_intro Tryd.func30 rfl (by kernel_rfl) (by rw [Tryd.ntmps30]; simp) fun F => ?_; rw [Tryd.ntmps30, Tryd.results30]
  refine code_seq_k fun N1 hN1 => ?_
  refine reg_to ?_; (try refine run_end ?_)
  refine hN1 _ _ _ ?_; clear hN1
  refine code_seq_k fun N2 hN2 => ?_
  refine reg_to ?_; (try refine run_end ?_)
  refine run_op fun K hK => ?_; refine calls_to (first_spec) ?_; rintro v A ⟨rfl, rfl⟩; refine hK _ _ ?_; clear hK K
  (try refine run_to ?_); (try refine run_end ?_)
  refine run_op fun K hK => ?_; refine build8 ([]) (by decide) rfl (rfl) (fun b1 C1 ho1 => ?_); refine hK _ _ ?_; clear hK K
  (try refine run_to ?_); (try refine run_end ?_)
  refine run_op fun K hK => ?_; refine app8 (ho1) (by (repeat (first | with_reducible exact Pick.head _ _ | with_reducible apply Pick.tail))) (h.mem (by (repeat (first | with_reducible assumption | with_reducible exact List.mem_cons_self .. | with_reducible apply List.mem_cons_of_mem)))) (by omega) (fun C2 a2 cap2 ho2 => ?_); refine hK _ _ ?_; clear hK K
  (try refine run_to ?_); (try refine run_end ?_)
  refine run_op fun K hK => ?_; refine calls_to (tail_spec bs.length (by omega)) ?_; rintro v A ⟨C3, a3, cap3, rfl, ho3, rfl⟩; (try simp only [List.nil_append, List.cons_append]); refine hK _ _ ?_; clear hK K
  (try refine run_to ?_); (try refine run_end ?_)
  have hpl : (pad bs.length).length ≤ 72 := by rw [pad_len, zeros]; omega
  refine run_op fun K hK => ?_; refine app8 (ho2) (by (repeat (first | with_reducible exact Pick.head _ _ | with_reducible apply Pick.tail))) (ho3.rd (by (repeat (first | with_reducible assumption | with_reducible exact List.mem_cons_self .. | with_reducible apply List.mem_cons_of_mem)))) (by omega) (fun C4 a4 cap4 ho4 => ?_); refine hK _ _ ?_; clear hK K
  (try refine run_to ?_); (try refine run_end ?_)
  rw [show 0 + bs.length + (pad bs.length).length = (bs ++ pad bs.length).length from by rw [List.length_append]; omega, List.nil_append] at ho4
  rw [show 0 + bs.length + (pad bs.length).length = (bs ++ pad bs.length).length from by rw [List.length_append]; omega]
  refine run_op fun K hK => ?_
  refine calls_spec (go_spec G C4 m hG first a4 cap4 (bs ++ pad bs.length) (by rw [List.length_append]; omega) ho4.1 (ho4.rd (by (repeat (first | with_reducible assumption | with_reducible exact List.mem_cons_self .. | with_reducible apply List.mem_cons_of_mem))))) (by (repeat (first | with_reducible exact Take.nil _ | with_reducible exact Pick.head _ _ | with_reducible apply Pick.tail | with_reducible apply Take.cons))) ?_; rintro v A ⟨a5, c5, rfl, hr5, rfl⟩; (try simp only [List.nil_append, List.cons_append]); refine hK _ _ ?_; clear hK K
  (try refine run_to ?_); (try refine run_end ?_)
  refine run_op fun K hK => ?_; refine alloc_new fun b3 => ?_; (try simp only [Value.cells]); refine hK _ _ ?_; clear hK K
  refine run_op fun K hK => ?_
  refine store_rw (l := List.replicate 8 0) (l' := (whole first (bs ++ pad bs.length)).list) (by (repeat (first | exact Upd.one | apply Upd.next))) List.length_replicate (St.list_len _) ?_
  refine hK _ _ ?_; clear hK K
  (try refine run_to ?_); (try refine run_end ?_)
  refine hN2 _ _ _ ?_; clear hN2
  refine code_seq_k fun N3 hN3 => ?_
  refine code_reg ?_
  refine run_op fun K hK => ?_
  refine load_rw (by (repeat (first | with_reducible exact Lies.one | with_reducible apply Lies.next))) (St.list_len _) ?_
  refine hK _ _ ?_; clear hK K
  refine run_op fun K hK => ?_; refine calls_to (out_spec _) ?_; rintro v A ⟨C6, a6, cap6, rfl, ho6, rfl⟩; (try simp only [List.nil_append, List.cons_append]); refine hK _ _ ?_; clear hK K
  (try refine run_to ?_); (try refine run_end ?_)
  refine hN3 _ _ _ ?_; clear hN3
  refine code_back ?_
  refine back_tmp ([C6, G, H]) ?_; exact ⟨_, _, _, rfl, ho6, rfl⟩

end Go.Proofs.YtfihpbhdilldoaaDoor

/- A key's 64 bytes; sums that need a key. Conditions: as each says. -/
set_option linter.unusedSimpArgs false
set_option linter.unusedVariables false
namespace Go.Proofs.YtfihpbhdilldoaaDoor
open Go Go.Ost Go.Sha

theorem repeat8 (H : Chunk) (a : Option Addr) (x : UInt8) (h : Ost.Own 1 5 H a 1 1 ([x].map b8)) :
    Meets Tryd.prog 44 [.slice a 1 1, .int .i64 64] [H] (New8 5 (List.replicate 64 x) [H]) := repeat_spec H a 1 x (by decide) (h.rd (S := [H]) (by simp))

theorem pad_spec {t0 t1 : TypeId} (G H : Chunk) (m0 m1 : Nat × Nat) (hG0 : (0, Obj.cells (rowW first.list) t0 m0) ∈ G) (hG1 : (1, Obj.cells (rowW odd) t1 m1) ∈ G)
    (a : Option Addr) (cap : Nat) (key : List UInt8) (hk : key.length ≤ 100000) (hcap : key.length ≤ cap) (h : Rd 1 [H] a key.length (key.map b8)) (x : UInt8) :
    Meets Tryd.prog 28 [.slice a key.length cap, b8 x] [G, H] (New8 5 (padK key x) [G, H]) := by
  refine spec_intro Tryd.func28 rfl (by kernel_rfl) (by rw [Tryd.ntmps28]; simp) fun F => ?_; rw [Tryd.ntmps28, Tryd.results28]
  (with_reducible refine code_seq ?_); refine reg_to ?_; (with_reducible refine run_nil ?_); (with_reducible refine then_n ?_)
  refine seq_mid (fun D L S => ∃ (X W : Chunk) (ka : Option Addr) (kc : Nat), W ∈ [X, G, H] ∧ Rd 1 [W] ka (short key).length ((short key).map b8) ∧ D = [] ∧ L = [(0, .slice ka (short key).length kc), (1, b8 x)] ∧ S = [F, X, G, H]) ?_ ?_
  · (repeat (first | (with_reducible refine then_n ?_) | (with_reducible refine then_r ?_) | (with_reducible refine then_e ?_) | (with_reducible refine block_n ?_) | (with_reducible refine block_r ?_) | (with_reducible refine block_e ?_) | refine block_o ?_ | (with_reducible refine scope_n ?_) | (with_reducible refine scope_r ?_) | (with_reducible refine scope_e ?_) | (with_reducible refine code_seq ?_) | (with_reducible refine code_skip ?_) | (with_reducible refine code_label ?_) | (with_reducible refine code_block ?_) | (with_reducible refine code_scope ?_) | (with_reducible refine code_exit ?_) | (with_reducible refine code_ret ?_) | refine reg_to ?_ | (with_reducible refine run_nil ?_) | ((with_reducible refine run_probe ?_); refine run_more ?_) | (with_reducible refine draw_nil ?_) | ((with_reducible refine draw_probe ?_); (first | refine draw_more ?_ | refine draw_as ?_)) | refine code_then ?_ | refine code_else ?_))
    refine if_d (fun hc => ?_) (fun hc => ?_)
    · (repeat (first | (with_reducible refine then_n ?_) | (with_reducible refine then_r ?_) | (with_reducible refine then_e ?_) | (with_reducible refine block_n ?_) | (with_reducible refine block_r ?_) | (with_reducible refine block_e ?_) | refine block_o ?_ | (with_reducible refine scope_n ?_) | (with_reducible refine scope_r ?_) | (with_reducible refine scope_e ?_) | (with_reducible refine code_seq ?_) | (with_reducible refine code_skip ?_) | (with_reducible refine code_label ?_) | (with_reducible refine code_block ?_) | (with_reducible refine code_scope ?_) | (with_reducible refine code_exit ?_) | (with_reducible refine code_ret ?_) | refine reg_to ?_ | (with_reducible refine run_nil ?_) | ((with_reducible refine run_probe ?_); refine run_more ?_) | (with_reducible refine draw_nil ?_) | ((with_reducible refine draw_probe ?_); (first | refine draw_more ?_ | refine draw_as ?_)) | refine code_then ?_ | refine code_else ?_))
      refine run_op fun K hK => ?_; refine build1 rfl [.slice a key.length cap] (by decide) rfl rfl (by simp [Value.cell1]) (fun b1 C1 ho1 => ?_); refine hK _ _ ?_; clear hK K
      have hp : Parts [C1 ++ H] (some ⟨b1, 0, none⟩) 1 [key] := by
        refine ⟨rfl, _, (ho1.rd (S := [C1]) (List.mem_cons_self ..)).wide (fun y hy => by simp [hy]), fun i v l hv hl => ?_⟩
        match i, hv, hl with
        | 0, hv, hl => cases hv; cases hl; exact ⟨_, _, rfl, hcap, h.wide (fun y hy => by simp [hy])⟩
        | i + 1, hv, hl => simp at hv
      refine run_op fun K hK => ?_; refine calls_to (sum2_spec G C1 H m0 m1 hG0 hG1 _ 1 1 [key] hp (by decide) (by decide) (by simp; omega)) ?_; rintro v A ⟨C2, a2, c2, rfl, ho2, rfl⟩; (try simp only [List.nil_append, List.cons_append]); refine hK _ _ ?_; clear hK K; (repeat (first | (with_reducible refine then_n ?_) | (with_reducible refine then_r ?_) | (with_reducible refine then_e ?_) | (with_reducible refine block_n ?_) | (with_reducible refine block_r ?_) | (with_reducible refine block_e ?_) | refine block_o ?_ | (with_reducible refine scope_n ?_) | (with_reducible refine scope_r ?_) | (with_reducible refine scope_e ?_) | (with_reducible refine code_seq ?_) | (with_reducible refine code_skip ?_) | (with_reducible refine code_label ?_) | (with_reducible refine code_block ?_) | (with_reducible refine code_scope ?_) | (with_reducible refine code_exit ?_) | (with_reducible refine code_ret ?_) | refine reg_to ?_ | (with_reducible refine run_nil ?_) | ((with_reducible refine run_probe ?_); refine run_more ?_) | (with_reducible refine draw_nil ?_) | ((with_reducible refine draw_probe ?_); (first | refine draw_more ?_ | refine draw_as ?_)) | refine code_then ?_ | refine code_else ?_))
      have e : short key = digest [key].flatten := by unfold short; rw [if_pos (by omega)]; simp
      rw [← e] at ho2 ⊢
      exact mid ⟨C2, C2, a2, c2, by simp, ho2.rd (by simp), rfl, rfl, rfl⟩
    · refine code_nil ?_
      (repeat (first | (with_reducible refine then_n ?_) | (with_reducible refine then_r ?_) | (with_reducible refine then_e ?_) | (with_reducible refine block_n ?_) | (with_reducible refine block_r ?_) | (with_reducible refine block_e ?_) | refine block_o ?_ | (with_reducible refine scope_n ?_) | (with_reducible refine scope_r ?_) | (with_reducible refine scope_e ?_) | (with_reducible refine code_seq ?_) | (with_reducible refine code_skip ?_) | (with_reducible refine code_label ?_) | (with_reducible refine code_block ?_) | (with_reducible refine code_scope ?_) | (with_reducible refine code_exit ?_) | (with_reducible refine code_ret ?_) | refine reg_to ?_ | (with_reducible refine run_nil ?_) | ((with_reducible refine run_probe ?_); refine run_more ?_) | (with_reducible refine draw_nil ?_) | ((with_reducible refine draw_probe ?_); (first | refine draw_more ?_ | refine draw_as ?_)) | refine code_then ?_ | refine code_else ?_))
      have e : short key = key := by unfold short; rw [if_neg (by omega)]
      rw [← e] at h
      exact mid ⟨[], H, a, cap, by simp, h, rfl, by rw [e], rfl⟩
  · rintro D L S ⟨X, W, ka, kc, hW, hr, rfl, rfl, rfl⟩
    have hsl := short_len key
    (repeat (first | (with_reducible refine then_n ?_) | (with_reducible refine then_r ?_) | (with_reducible refine then_e ?_) | (with_reducible refine block_n ?_) | (with_reducible refine block_r ?_) | (with_reducible refine block_e ?_) | refine block_o ?_ | (with_reducible refine scope_n ?_) | (with_reducible refine scope_r ?_) | (with_reducible refine scope_e ?_) | (with_reducible refine code_seq ?_) | (with_reducible refine code_skip ?_) | (with_reducible refine code_label ?_) | (with_reducible refine code_block ?_) | (with_reducible refine code_scope ?_) | (with_reducible refine code_exit ?_) | (with_reducible refine code_ret ?_) | refine reg_to ?_ | (with_reducible refine run_nil ?_) | ((with_reducible refine run_probe ?_); refine run_more ?_) | (with_reducible refine draw_nil ?_) | ((with_reducible refine draw_probe ?_); (first | refine draw_more ?_ | refine draw_as ?_)) | refine code_then ?_ | refine code_else ?_))
    refine run_op fun K hK => ?_; refine build8 ([x]) (by decide) rfl (rfl) (fun b2 C2 ho2 => ?_); refine hK _ _ ?_; clear hK K
    refine run_op fun K hK => ?_; refine calls_to (repeat8 C2 _ x ho2) ?_; rintro v A ⟨C3, p, cp, rfl, ho3, rfl⟩; (try simp only [List.nil_append, List.cons_append]); refine hK _ _ ?_; clear hK K; (repeat (first | (with_reducible refine then_n ?_) | (with_reducible refine then_r ?_) | (with_reducible refine then_e ?_) | (with_reducible refine block_n ?_) | (with_reducible refine block_r ?_) | (with_reducible refine block_e ?_) | refine block_o ?_ | (with_reducible refine scope_n ?_) | (with_reducible refine scope_r ?_) | (with_reducible refine scope_e ?_) | (with_reducible refine code_seq ?_) | (with_reducible refine code_skip ?_) | (with_reducible refine code_label ?_) | (with_reducible refine code_block ?_) | (with_reducible refine code_scope ?_) | (with_reducible refine code_exit ?_) | (with_reducible refine code_ret ?_) | refine reg_to ?_ | (with_reducible refine run_nil ?_) | ((with_reducible refine run_probe ?_); refine run_more ?_) | (with_reducible refine draw_nil ?_) | ((with_reducible refine draw_probe ?_); (first | refine draw_more ?_ | refine draw_as ?_)) | refine code_then ?_ | refine code_else ?_))
    rw [List.length_replicate] at ho3 ⊢
    rw [pad_begin x (short key)] at ho3
    (repeat (first | (with_reducible refine then_n ?_) | (with_reducible refine then_r ?_) | (with_reducible refine then_e ?_) | (with_reducible refine block_n ?_) | (with_reducible refine block_r ?_) | (with_reducible refine block_e ?_) | refine block_o ?_ | (with_reducible refine scope_n ?_) | (with_reducible refine scope_r ?_) | (with_reducible refine scope_e ?_) | (with_reducible refine code_seq ?_) | (with_reducible refine code_skip ?_) | (with_reducible refine code_label ?_) | (with_reducible refine code_block ?_) | (with_reducible refine code_scope ?_) | (with_reducible refine code_exit ?_) | (with_reducible refine code_ret ?_) | refine reg_to ?_ | (with_reducible refine run_nil ?_) | ((with_reducible refine run_probe ?_); refine run_more ?_) | (with_reducible refine draw_nil ?_) | ((with_reducible refine draw_probe ?_); (first | refine draw_more ?_ | refine draw_as ?_)) | refine code_then ?_ | refine code_else ?_))
    refine loop_i (fun q D L S => ∃ (i : Nat) (C' : Chunk), i ≤ (short key).length ∧ Own8 5 C' p 64 cp ((List.range 64).map fun j => if j < i then x ^^^ (short key).getD j 0 else x) ∧ q = (short key).length - i ∧ D = [] ∧
      L = [(19, .int .i64 i), (18, .int .i64 (short key).length), (17, .slice ka (short key).length kc), (5, .slice p 64 cp)] ∧ S = [C', F, X, G, H]) ⟨0, C3, by omega, ho3, rfl, rfl, rfl, rfl⟩ ?_
    rintro q D L S ⟨i, C', hi, ho, rfl, rfl, rfl, rfl⟩
    (repeat (first | (with_reducible refine then_n ?_) | (with_reducible refine then_r ?_) | (with_reducible refine then_e ?_) | (with_reducible refine block_n ?_) | (with_reducible refine block_r ?_) | (with_reducible refine block_e ?_) | refine block_o ?_ | (with_reducible refine scope_n ?_) | (with_reducible refine scope_r ?_) | (with_reducible refine scope_e ?_) | (with_reducible refine code_seq ?_) | (with_reducible refine code_skip ?_) | (with_reducible refine code_label ?_) | (with_reducible refine code_block ?_) | (with_reducible refine code_scope ?_) | (with_reducible refine code_exit ?_) | (with_reducible refine code_ret ?_) | refine reg_to ?_ | (with_reducible refine run_nil ?_) | ((with_reducible refine run_probe ?_); refine run_more ?_) | (with_reducible refine draw_nil ?_) | ((with_reducible refine draw_probe ?_); (first | refine draw_more ?_ | refine draw_as ?_)) | refine code_then ?_ | refine code_else ?_))
    refine if_d (fun hc => ?_) (fun hc => ?_)
    · (repeat (first | (with_reducible refine then_n ?_) | (with_reducible refine then_r ?_) | (with_reducible refine then_e ?_) | (with_reducible refine block_n ?_) | (with_reducible refine block_r ?_) | (with_reducible refine block_e ?_) | refine block_o ?_ | (with_reducible refine scope_n ?_) | (with_reducible refine scope_r ?_) | (with_reducible refine scope_e ?_) | (with_reducible refine code_seq ?_) | (with_reducible refine code_skip ?_) | (with_reducible refine code_label ?_) | (with_reducible refine code_block ?_) | (with_reducible refine code_scope ?_) | (with_reducible refine code_exit ?_) | (with_reducible refine code_ret ?_) | refine reg_to ?_ | (with_reducible refine run_nil ?_) | ((with_reducible refine run_probe ?_); refine run_more ?_) | (with_reducible refine draw_nil ?_) | ((with_reducible refine draw_probe ?_); (first | refine draw_more ?_ | refine draw_as ?_)) | refine code_then ?_ | refine code_else ?_))
      refine run_op fun K hK => ?_; (apply own_store8 ho); (· (repeat (first | with_reducible exact Pick.head _ _ | with_reducible apply Pick.tail))); (· simp; omega); (intro C4 ho4); refine hK _ _ ?_; clear hK K
      rw [getD_step 64 _ _ i 0 (by omega), set_step 64 (fun _ => x) (fun j => x ^^^ (short key).getD j 0) i (by omega)] at ho4
      (repeat (first | (with_reducible refine then_n ?_) | (with_reducible refine then_r ?_) | (with_reducible refine then_e ?_) | (with_reducible refine block_n ?_) | (with_reducible refine block_r ?_) | (with_reducible refine block_e ?_) | refine block_o ?_ | (with_reducible refine scope_n ?_) | (with_reducible refine scope_r ?_) | (with_reducible refine scope_e ?_) | (with_reducible refine code_seq ?_) | (with_reducible refine code_skip ?_) | (with_reducible refine code_label ?_) | (with_reducible refine code_block ?_) | (with_reducible refine code_scope ?_) | (with_reducible refine code_exit ?_) | (with_reducible refine code_ret ?_) | refine reg_to ?_ | (with_reducible refine run_nil ?_) | ((with_reducible refine run_probe ?_); refine run_more ?_) | (with_reducible refine draw_nil ?_) | ((with_reducible refine draw_probe ?_); (first | refine draw_more ?_ | refine draw_as ?_)) | refine code_then ?_ | refine code_else ?_))
      exact again ⟨i + 1, C4, by omega, ho4, rfl, rfl, rfl, rfl⟩
    · (repeat (first | (with_reducible refine then_n ?_) | (with_reducible refine then_r ?_) | (with_reducible refine then_e ?_) | (with_reducible refine block_n ?_) | (with_reducible refine block_r ?_) | (with_reducible refine block_e ?_) | refine block_o ?_ | (with_reducible refine scope_n ?_) | (with_reducible refine scope_r ?_) | (with_reducible refine scope_e ?_) | (with_reducible refine code_seq ?_) | (with_reducible refine code_skip ?_) | (with_reducible refine code_label ?_) | (with_reducible refine code_block ?_) | (with_reducible refine code_scope ?_) | (with_reducible refine code_exit ?_) | (with_reducible refine code_ret ?_) | refine reg_to ?_ | (with_reducible refine run_nil ?_) | ((with_reducible refine run_probe ?_); refine run_more ?_) | (with_reducible refine draw_nil ?_) | ((with_reducible refine draw_probe ?_); (first | refine draw_more ?_ | refine draw_as ?_)) | refine code_then ?_ | refine code_else ?_))
      obtain rfl : i = (short key).length := by omega
      rw [pad_end _ _ hsl] at ho
      refine back_tmp [C', G, H] ?_
      exact ⟨C', p, cp, by rw [padK_len], by rw [padK_len]; exact ho, rfl⟩

end Go.Proofs.YtfihpbhdilldoaaDoor

/- A slice of bytes as it came; the variables. Conditions: as each says. -/
set_option linter.unusedSimpArgs false
set_option linter.unusedVariables false
namespace Go.Proofs.YtfihpbhdilldoaaDoor
open Go Go.Ost Go.Sha

/-- The variables that the code reads. -/
structure Globs (C : Chunk) : Prop where
  g0 : ∃ t m, (0, Obj.cells (rowW first.list) t m) ∈ C
  g1 : ∃ t m, (1, Obj.cells (rowW odd) t m) ∈ C

/-- A slice of bytes as it came. -/
theorem row_bytes {C : Chunk} {v : Value} {zs : List Int} (h : Ost.Row C .u8 v zs) : ∃ a cap, ∃ bs : List UInt8, v = .slice a bs.length cap ∧ bs.length ≤ cap ∧ cap ≤ maxLen ∧ Rd 1 [C] a bs.length (bs.map b8) := by
  obtain ⟨hwf, a, len, cap, rfl, hle, hmax, hl, hc⟩ := h
  refine ⟨a, cap, zs.map fun z => UInt8.ofNat z.toNat, by simp [hl], by simp [hl]; omega, hmax, by simp, fun hne => ?_⟩
  have hpos : 0 < len := by
    rw [← hl]; cases zs with
    | nil => simp at hne
    | cons z l => simp
  obtain ⟨b, o, cs, e, m, rfl, hm, hcs⟩ := hc hpos
  refine ⟨b, o, cs, e, m, rfl, .here hm, fun i hi => ?_⟩
  simp only [List.length_map] at hi
  rw [hcs i (by omega)]
  have hz := hwf (zs.getD i 0) (by
    rw [List.getD, List.getElem?_eq_getElem hi]; exact List.getElem_mem _)
  have hz2 : 0 ≤ zs.getD i 0 ∧ zs.getD i 0 ≤ 255 := by
    simp only [Lit.wf, Bool.and_eq_true, decide_eq_true_eq] at hz
    exact ⟨hz.1, hz.2⟩
  simp only [List.getElem?_map, List.getElem?_eq_getElem hi, Option.map_some]
  rw [List.getD, List.getElem?_eq_getElem hi] at hz2 ⊢
  simp only [Option.getD_some] at hz2 ⊢
  simp only [b8, UInt8.toNat_ofNat']
  congr 2; omega

end Go.Proofs.YtfihpbhdilldoaaDoor

/- The variables that the code and the document read. Conditions: none. -/
namespace Go.Proofs.YtfihpbhdilldoaaDoor
open Go Go.Ost Go.Sha

/-- The variables, the document's too. -/
structure Globs3 (C : Chunk) : Prop extends Globs C where
  g2 : ∃ t m, (3, Obj.cells (rowW odd) t m) ∈ C

end Go.Proofs.YtfihpbhdilldoaaDoor

/- The document's sums that need a key; comparing, turning by one another. Conditions: as each says. -/
set_option linter.unusedSimpArgs false
set_option linter.unusedVariables false
namespace Go.Proofs.YtfihpbhdilldoaaDoor
open Go Go.Ost Go.Sha

theorem sumS {G : Chunk} (hg : Globs G) (A B : Chunk) (a : Option Addr) (n c : Nat) (ls : List (List UInt8)) (hp : Parts [A ++ B] a n ls) (hnc : n ≤ c) (hn : n ≤ 1000000) (hlen : ls.flatten.length ≤ 1000000) :
    Meets Tryd.prog 27 [.slice a n c] [G, A, B] (New8 5 (digest ls.flatten) [G, A, B]) := by
  obtain ⟨⟨_, m0, h0⟩, ⟨_, m1, h1⟩⟩ := hg
  exact sum2_spec G A B m0 m1 h0 h1 a n c ls hp hnc hn hlen
theorem refS {G : Chunk} (hg : Globs3 G) (H : Chunk) (a : Option Addr) (cap : Nat) (bs : List UInt8) (hb : bs.length ≤ 1000000) (h : Rd 1 [H] a bs.length (bs.map b8)) :
    Meets Tryd.prog 30 [.slice a bs.length cap] [G, H] (New8 5 (digest bs) [G, H]) := by
  obtain ⟨⟨⟨_, m0, h0⟩, ⟨_, m1, h1⟩⟩, ⟨_, m2, h2⟩⟩ := hg
  exact refsum_spec G H m2 h2 a cap bs hb h
theorem padS {G : Chunk} (hg : Globs G) (H : Chunk) (a : Option Addr) (cap : Nat) (key : List UInt8) (hk : key.length ≤ 100000) (hcap : key.length ≤ cap) (h : Rd 1 [H] a key.length (key.map b8)) (x : UInt8) :
    Meets Tryd.prog 28 [.slice a key.length cap, b8 x] [G, H] (New8 5 (padK key x) [G, H]) := by
  obtain ⟨⟨_, m0, h0⟩, ⟨_, m1, h1⟩⟩ := hg
  exact pad_spec G H m0 m1 h0 h1 a cap key hk hcap h x

theorem turned_spec {G : Chunk} (hg : Globs3 G) (H : Chunk) (a : Option Addr) (cap : Nat) (key : List UInt8) (hk : key.length ≤ 100000) (hcap : key.length ≤ cap) (h : Rd 1 [H] a key.length (key.map b8)) (x : UInt8) :
    Meets Tryd.prog 31 [.slice a key.length cap, b8 x] [G, H] (New8 5 (padK key x) [G, H]) := by
  refine spec_intro Tryd.func31 rfl (by kernel_rfl) (by rw [Tryd.ntmps31]; simp) fun F => ?_; rw [Tryd.ntmps31, Tryd.results31]
  (with_reducible refine code_seq ?_); refine reg_to ?_; (with_reducible refine run_nil ?_); (with_reducible refine then_n ?_)
  refine seq_mid (fun D L S => ∃ (X W : Chunk) (ka : Option Addr) (kc : Nat), W ∈ [X, G, H] ∧ Rd 1 [W] ka (short key).length ((short key).map b8) ∧ D = [] ∧ L = [(0, .slice ka (short key).length kc), (1, b8 x)] ∧ S = [F, X, G, H]) ?_ ?_
  · (repeat (first | (with_reducible refine then_n ?_) | (with_reducible refine then_r ?_) | (with_reducible refine then_e ?_) | (with_reducible refine block_n ?_) | (with_reducible refine block_r ?_) | (with_reducible refine block_e ?_) | refine block_o ?_ | (with_reducible refine scope_n ?_) | (with_reducible refine scope_r ?_) | (with_reducible refine scope_e ?_) | (with_reducible refine code_seq ?_) | (with_reducible refine code_skip ?_) | (with_reducible refine code_label ?_) | (with_reducible refine code_block ?_) | (with_reducible refine code_scope ?_) | (with_reducible refine code_exit ?_) | (with_reducible refine code_ret ?_) | refine reg_to ?_ | (with_reducible refine run_nil ?_) | ((with_reducible refine run_probe ?_); refine run_more ?_) | (with_reducible refine draw_nil ?_) | ((with_reducible refine draw_probe ?_); (first | refine draw_more ?_ | refine draw_as ?_)) | refine code_then ?_ | refine code_else ?_))
    refine if_d (fun hc => ?_) (fun hc => ?_)
    · (repeat (first | (with_reducible refine then_n ?_) | (with_reducible refine then_r ?_) | (with_reducible refine then_e ?_) | (with_reducible refine block_n ?_) | (with_reducible refine block_r ?_) | (with_reducible refine block_e ?_) | refine block_o ?_ | (with_reducible refine scope_n ?_) | (with_reducible refine scope_r ?_) | (with_reducible refine scope_e ?_) | (with_reducible refine code_seq ?_) | (with_reducible refine code_skip ?_) | (with_reducible refine code_label ?_) | (with_reducible refine code_block ?_) | (with_reducible refine code_scope ?_) | (with_reducible refine code_exit ?_) | (with_reducible refine code_ret ?_) | refine reg_to ?_ | (with_reducible refine run_nil ?_) | ((with_reducible refine run_probe ?_); refine run_more ?_) | (with_reducible refine draw_nil ?_) | ((with_reducible refine draw_probe ?_); (first | refine draw_more ?_ | refine draw_as ?_)) | refine code_then ?_ | refine code_else ?_))
      refine run_op fun K hK => ?_; refine calls_to (refS hg H a cap key (by omega) h) ?_; rintro v A ⟨C2, a2, c2, rfl, ho2, rfl⟩; (try simp only [List.nil_append, List.cons_append]); refine hK _ _ ?_; clear hK K; (repeat (first | (with_reducible refine then_n ?_) | (with_reducible refine then_r ?_) | (with_reducible refine then_e ?_) | (with_reducible refine block_n ?_) | (with_reducible refine block_r ?_) | (with_reducible refine block_e ?_) | refine block_o ?_ | (with_reducible refine scope_n ?_) | (with_reducible refine scope_r ?_) | (with_reducible refine scope_e ?_) | (with_reducible refine code_seq ?_) | (with_reducible refine code_skip ?_) | (with_reducible refine code_label ?_) | (with_reducible refine code_block ?_) | (with_reducible refine code_scope ?_) | (with_reducible refine code_exit ?_) | (with_reducible refine code_ret ?_) | refine reg_to ?_ | (with_reducible refine run_nil ?_) | ((with_reducible refine run_probe ?_); refine run_more ?_) | (with_reducible refine draw_nil ?_) | ((with_reducible refine draw_probe ?_); (first | refine draw_more ?_ | refine draw_as ?_)) | refine code_then ?_ | refine code_else ?_))
      have e : short key = digest key := by unfold short; rw [if_pos (by omega)]
      rw [← e] at ho2 ⊢
      exact mid ⟨C2, C2, a2, c2, by simp, ho2.rd (by simp), rfl, rfl, rfl⟩
    · refine code_nil ?_
      (repeat (first | (with_reducible refine then_n ?_) | (with_reducible refine then_r ?_) | (with_reducible refine then_e ?_) | (with_reducible refine block_n ?_) | (with_reducible refine block_r ?_) | (with_reducible refine block_e ?_) | refine block_o ?_ | (with_reducible refine scope_n ?_) | (with_reducible refine scope_r ?_) | (with_reducible refine scope_e ?_) | (with_reducible refine code_seq ?_) | (with_reducible refine code_skip ?_) | (with_reducible refine code_label ?_) | (with_reducible refine code_block ?_) | (with_reducible refine code_scope ?_) | (with_reducible refine code_exit ?_) | (with_reducible refine code_ret ?_) | refine reg_to ?_ | (with_reducible refine run_nil ?_) | ((with_reducible refine run_probe ?_); refine run_more ?_) | (with_reducible refine draw_nil ?_) | ((with_reducible refine draw_probe ?_); (first | refine draw_more ?_ | refine draw_as ?_)) | refine code_then ?_ | refine code_else ?_))
      have e : short key = key := by unfold short; rw [if_neg (by omega)]
      rw [← e] at h
      exact mid ⟨[], H, a, cap, by simp, h, rfl, by rw [e], rfl⟩
  · rintro D L S ⟨X, W, ka, kc, hW, hr, rfl, rfl, rfl⟩
    have hsl := short_len key
    (repeat (first | (with_reducible refine then_n ?_) | (with_reducible refine then_r ?_) | (with_reducible refine then_e ?_) | (with_reducible refine block_n ?_) | (with_reducible refine block_r ?_) | (with_reducible refine block_e ?_) | refine block_o ?_ | (with_reducible refine scope_n ?_) | (with_reducible refine scope_r ?_) | (with_reducible refine scope_e ?_) | (with_reducible refine code_seq ?_) | (with_reducible refine code_skip ?_) | (with_reducible refine code_label ?_) | (with_reducible refine code_block ?_) | (with_reducible refine code_scope ?_) | (with_reducible refine code_exit ?_) | (with_reducible refine code_ret ?_) | refine reg_to ?_ | (with_reducible refine run_nil ?_) | ((with_reducible refine run_probe ?_); refine run_more ?_) | (with_reducible refine draw_nil ?_) | ((with_reducible refine draw_probe ?_); (first | refine draw_more ?_ | refine draw_as ?_)) | refine code_then ?_ | refine code_else ?_))
    refine run_op fun K hK => ?_; refine make8 (n := 64) (by decide) (fun b2 C2 ho2 => ?_); refine hK _ _ ?_; clear hK K
    (repeat (first | (with_reducible refine then_n ?_) | (with_reducible refine then_r ?_) | (with_reducible refine then_e ?_) | (with_reducible refine block_n ?_) | (with_reducible refine block_r ?_) | (with_reducible refine block_e ?_) | refine block_o ?_ | (with_reducible refine scope_n ?_) | (with_reducible refine scope_r ?_) | (with_reducible refine scope_e ?_) | (with_reducible refine code_seq ?_) | (with_reducible refine code_skip ?_) | (with_reducible refine code_label ?_) | (with_reducible refine code_block ?_) | (with_reducible refine code_scope ?_) | (with_reducible refine code_exit ?_) | (with_reducible refine code_ret ?_) | refine reg_to ?_ | (with_reducible refine run_nil ?_) | ((with_reducible refine run_probe ?_); refine run_more ?_) | (with_reducible refine draw_nil ?_) | ((with_reducible refine draw_probe ?_); (first | refine draw_more ?_ | refine draw_as ?_)) | refine code_then ?_ | refine code_else ?_))
    refine run_op fun K hK => ?_
    refine copy_own (l := 0) ho2 (by (repeat (first | with_reducible exact Pick.head _ _ | with_reducible apply Pick.tail))) (hr.mem (by (repeat (first | with_reducible assumption | with_reducible exact List.mem_cons_self .. | with_reducible apply List.mem_cons_of_mem)))) (cells8 _) (by decide) (fun _ => by simp [Addr.add]) (fun C3 ho3 => ?_)
    refine hK _ _ ?_; clear hK K
    have e3 : ((List.replicate 64 (0 : UInt8)).map b8).take 0 ++ (((short key).map b8).take (min (short key).length 64) ++ ((List.replicate 64 (0 : UInt8)).map b8).drop (0 + min (short key).length 64)) =
        ((List.range 64).map fun i => if i < 0 then (short key).getD i 0 ^^^ x else (short key).getD i 0).map b8 := by
      rw [← turn_begin _ _ hsl, Nat.min_eq_left hsl, List.take_zero, List.nil_append, List.take_of_length_le (by simp), Nat.zero_add, ← List.map_drop, List.drop_replicate, List.map_append]
    rw [e3] at ho3
    (repeat (first | (with_reducible refine then_n ?_) | (with_reducible refine then_r ?_) | (with_reducible refine then_e ?_) | (with_reducible refine block_n ?_) | (with_reducible refine block_r ?_) | (with_reducible refine block_e ?_) | refine block_o ?_ | (with_reducible refine scope_n ?_) | (with_reducible refine scope_r ?_) | (with_reducible refine scope_e ?_) | (with_reducible refine code_seq ?_) | (with_reducible refine code_skip ?_) | (with_reducible refine code_label ?_) | (with_reducible refine code_block ?_) | (with_reducible refine code_scope ?_) | (with_reducible refine code_exit ?_) | (with_reducible refine code_ret ?_) | refine reg_to ?_ | (with_reducible refine run_nil ?_) | ((with_reducible refine run_probe ?_); refine run_more ?_) | (with_reducible refine draw_nil ?_) | ((with_reducible refine draw_probe ?_); (first | refine draw_more ?_ | refine draw_as ?_)) | refine code_then ?_ | refine code_else ?_))
    generalize (some (⟨b2, 0, none⟩ : Addr)) = p at *
    refine loop_i (fun q D L S => ∃ (i : Nat) (C' : Chunk), i ≤ 64 ∧ Own8 5 C' p 64 64 ((List.range 64).map fun j => if j < i then (short key).getD j 0 ^^^ x else (short key).getD j 0) ∧ q = 64 - i ∧ D = [] ∧
      L = [(18, .int .i64 i), (17, .int .i64 64), (1, b8 x), (5, .slice p 64 64)] ∧ S = [C', F, X, G, H]) ⟨0, C3, by omega, ho3, rfl, rfl, rfl, rfl⟩ ?_
    rintro q D L S ⟨i, C', hi, ho, rfl, rfl, rfl, rfl⟩
    (repeat (first | (with_reducible refine then_n ?_) | (with_reducible refine then_r ?_) | (with_reducible refine then_e ?_) | (with_reducible refine block_n ?_) | (with_reducible refine block_r ?_) | (with_reducible refine block_e ?_) | refine block_o ?_ | (with_reducible refine scope_n ?_) | (with_reducible refine scope_r ?_) | (with_reducible refine scope_e ?_) | (with_reducible refine code_seq ?_) | (with_reducible refine code_skip ?_) | (with_reducible refine code_label ?_) | (with_reducible refine code_block ?_) | (with_reducible refine code_scope ?_) | (with_reducible refine code_exit ?_) | (with_reducible refine code_ret ?_) | refine reg_to ?_ | (with_reducible refine run_nil ?_) | ((with_reducible refine run_probe ?_); refine run_more ?_) | (with_reducible refine draw_nil ?_) | ((with_reducible refine draw_probe ?_); (first | refine draw_more ?_ | refine draw_as ?_)) | refine code_then ?_ | refine code_else ?_))
    refine if_d (fun hc => ?_) (fun hc => ?_)
    · (repeat (first | (with_reducible refine then_n ?_) | (with_reducible refine then_r ?_) | (with_reducible refine then_e ?_) | (with_reducible refine block_n ?_) | (with_reducible refine block_r ?_) | (with_reducible refine block_e ?_) | refine block_o ?_ | (with_reducible refine scope_n ?_) | (with_reducible refine scope_r ?_) | (with_reducible refine scope_e ?_) | (with_reducible refine code_seq ?_) | (with_reducible refine code_skip ?_) | (with_reducible refine code_label ?_) | (with_reducible refine code_block ?_) | (with_reducible refine code_scope ?_) | (with_reducible refine code_exit ?_) | (with_reducible refine code_ret ?_) | refine reg_to ?_ | (with_reducible refine run_nil ?_) | ((with_reducible refine run_probe ?_); refine run_more ?_) | (with_reducible refine draw_nil ?_) | ((with_reducible refine draw_probe ?_); (first | refine draw_more ?_ | refine draw_as ?_)) | refine code_then ?_ | refine code_else ?_))
      refine run_op fun K hK => ?_; (apply own_store8 ho); (· (repeat (first | with_reducible exact Pick.head _ _ | with_reducible apply Pick.tail))); (· simp; omega); (intro C4 ho4); refine hK _ _ ?_; clear hK K
      rw [getD_step 64 _ _ i 0 (by omega), set_step 64 (fun j => (short key).getD j 0) (fun j => (short key).getD j 0 ^^^ x) i (by omega)] at ho4
      (repeat (first | (with_reducible refine then_n ?_) | (with_reducible refine then_r ?_) | (with_reducible refine then_e ?_) | (with_reducible refine block_n ?_) | (with_reducible refine block_r ?_) | (with_reducible refine block_e ?_) | refine block_o ?_ | (with_reducible refine scope_n ?_) | (with_reducible refine scope_r ?_) | (with_reducible refine scope_e ?_) | (with_reducible refine code_seq ?_) | (with_reducible refine code_skip ?_) | (with_reducible refine code_label ?_) | (with_reducible refine code_block ?_) | (with_reducible refine code_scope ?_) | (with_reducible refine code_exit ?_) | (with_reducible refine code_ret ?_) | refine reg_to ?_ | (with_reducible refine run_nil ?_) | ((with_reducible refine run_probe ?_); refine run_more ?_) | (with_reducible refine draw_nil ?_) | ((with_reducible refine draw_probe ?_); (first | refine draw_more ?_ | refine draw_as ?_)) | refine code_then ?_ | refine code_else ?_))
      exact again ⟨i + 1, C4, by omega, ho4, rfl, rfl, rfl, rfl⟩
    · (repeat (first | (with_reducible refine then_n ?_) | (with_reducible refine then_r ?_) | (with_reducible refine then_e ?_) | (with_reducible refine block_n ?_) | (with_reducible refine block_r ?_) | (with_reducible refine block_e ?_) | refine block_o ?_ | (with_reducible refine scope_n ?_) | (with_reducible refine scope_r ?_) | (with_reducible refine scope_e ?_) | (with_reducible refine code_seq ?_) | (with_reducible refine code_skip ?_) | (with_reducible refine code_label ?_) | (with_reducible refine code_block ?_) | (with_reducible refine code_scope ?_) | (with_reducible refine code_exit ?_) | (with_reducible refine code_ret ?_) | refine reg_to ?_ | (with_reducible refine run_nil ?_) | ((with_reducible refine run_probe ?_); refine run_more ?_) | (with_reducible refine draw_nil ?_) | ((with_reducible refine draw_probe ?_); (first | refine draw_more ?_ | refine draw_as ?_)) | refine code_then ?_ | refine code_else ?_))
      obtain rfl : i = 64 := by omega
      rw [turn_end] at ho
      refine back_tmp [C', G, H] ?_
      exact ⟨C', p, 64, by rw [padK_len], by rw [padK_len]; exact ho, rfl⟩

theorem refmac_spec {G : Chunk} (hg : Globs3 G) (H T : Chunk) (a ta : Option Addr) (cap tc : Nat) (key text : List UInt8) (hk : key.length ≤ 100000) (hcap : key.length ≤ cap) (h : Rd 1 [H] a key.length (key.map b8))
    (ht : text.length ≤ 100000) (hr : Rd 1 [T] ta text.length (text.map b8)) :
    Meets Tryd.prog 13 [.slice a key.length cap, .slice ta text.length tc] [G, H, T] (New8 5 (mac key text) [G, H, T]) := by
  have hl : ∀ x, (padK key x).length = 64 := padK_len key
  have hd : ∀ m, (digest m).length = 32 := digest_len
  refine spec_intro Tryd.func13 rfl (by kernel_rfl) (by rw [Tryd.ntmps13]; simp) fun F => ?_; rw [Tryd.ntmps13, Tryd.results13]
  (repeat (first | (with_reducible refine then_n ?_) | (with_reducible refine then_r ?_) | (with_reducible refine then_e ?_) | (with_reducible refine block_n ?_) | (with_reducible refine block_r ?_) | (with_reducible refine block_e ?_) | refine block_o ?_ | (with_reducible refine scope_n ?_) | (with_reducible refine scope_r ?_) | (with_reducible refine scope_e ?_) | (with_reducible refine code_seq ?_) | (with_reducible refine code_skip ?_) | (with_reducible refine code_label ?_) | (with_reducible refine code_block ?_) | (with_reducible refine code_scope ?_) | (with_reducible refine code_exit ?_) | (with_reducible refine code_ret ?_) | refine reg_to ?_ | (with_reducible refine run_nil ?_) | ((with_reducible refine run_probe ?_); refine run_more ?_) | (with_reducible refine draw_nil ?_) | ((with_reducible refine draw_probe ?_); (first | refine draw_more ?_ | refine draw_as ?_)) | refine code_then ?_ | refine code_else ?_))
  refine run_op fun K hK => ?_; refine calls_to (turned_spec hg H a cap key hk hcap h 92) ?_; rintro v A ⟨C1, a1, c1, rfl, ho1, rfl⟩; (try simp only [List.nil_append, List.cons_append]); refine hK _ _ ?_; clear hK K; (repeat (first | (with_reducible refine then_n ?_) | (with_reducible refine then_r ?_) | (with_reducible refine then_e ?_) | (with_reducible refine block_n ?_) | (with_reducible refine block_r ?_) | (with_reducible refine block_e ?_) | refine block_o ?_ | (with_reducible refine scope_n ?_) | (with_reducible refine scope_r ?_) | (with_reducible refine scope_e ?_) | (with_reducible refine code_seq ?_) | (with_reducible refine code_skip ?_) | (with_reducible refine code_label ?_) | (with_reducible refine code_block ?_) | (with_reducible refine code_scope ?_) | (with_reducible refine code_exit ?_) | (with_reducible refine code_ret ?_) | refine reg_to ?_ | (with_reducible refine run_nil ?_) | ((with_reducible refine run_probe ?_); refine run_more ?_) | (with_reducible refine draw_nil ?_) | ((with_reducible refine draw_probe ?_); (first | refine draw_more ?_ | refine draw_as ?_)) | refine code_then ?_ | refine code_else ?_))
  refine run_op fun K hK => ?_; refine calls_to (turned_spec hg H a cap key hk hcap h 54) ?_; rintro v A ⟨C2, a2, c2, rfl, ho2, rfl⟩; (try simp only [List.nil_append, List.cons_append]); refine hK _ _ ?_; clear hK K; (repeat (first | (with_reducible refine then_n ?_) | (with_reducible refine then_r ?_) | (with_reducible refine then_e ?_) | (with_reducible refine block_n ?_) | (with_reducible refine block_r ?_) | (with_reducible refine block_e ?_) | refine block_o ?_ | (with_reducible refine scope_n ?_) | (with_reducible refine scope_r ?_) | (with_reducible refine scope_e ?_) | (with_reducible refine code_seq ?_) | (with_reducible refine code_skip ?_) | (with_reducible refine code_label ?_) | (with_reducible refine code_block ?_) | (with_reducible refine code_scope ?_) | (with_reducible refine code_exit ?_) | (with_reducible refine code_ret ?_) | refine reg_to ?_ | (with_reducible refine run_nil ?_) | ((with_reducible refine run_probe ?_); refine run_more ?_) | (with_reducible refine draw_nil ?_) | ((with_reducible refine draw_probe ?_); (first | refine draw_more ?_ | refine draw_as ?_)) | refine code_then ?_ | refine code_else ?_))
  refine run_op fun K hK => ?_; refine app8 (ho2) (by (repeat (first | with_reducible exact Pick.head _ _ | with_reducible apply Pick.tail))) (hr.mem (by (repeat (first | with_reducible assumption | with_reducible exact List.mem_cons_self .. | with_reducible apply List.mem_cons_of_mem)))) (by rw [hl]; omega) (fun C3 a3 cap3 ho3 => ?_); refine hK _ _ ?_; clear hK K
  (repeat (first | (with_reducible refine then_n ?_) | (with_reducible refine then_r ?_) | (with_reducible refine then_e ?_) | (with_reducible refine block_n ?_) | (with_reducible refine block_r ?_) | (with_reducible refine block_e ?_) | refine block_o ?_ | (with_reducible refine scope_n ?_) | (with_reducible refine scope_r ?_) | (with_reducible refine scope_e ?_) | (with_reducible refine code_seq ?_) | (with_reducible refine code_skip ?_) | (with_reducible refine code_label ?_) | (with_reducible refine code_block ?_) | (with_reducible refine code_scope ?_) | (with_reducible refine code_exit ?_) | (with_reducible refine code_ret ?_) | refine reg_to ?_ | (with_reducible refine run_nil ?_) | ((with_reducible refine run_probe ?_); refine run_more ?_) | (with_reducible refine draw_nil ?_) | ((with_reducible refine draw_probe ?_); (first | refine draw_more ?_ | refine draw_as ?_)) | refine code_then ?_ | refine code_else ?_))
  rw [← List.length_append] at ho3 ⊢
  refine run_op fun K hK => ?_; refine calls_to (refS hg C3 a3 _ (padK key 54 ++ text) (by rw [List.length_append, hl]; omega) (ho3.rd (by simp))) ?_; rintro v A ⟨C4, a4, c4, rfl, ho4, rfl⟩; (try simp only [List.nil_append, List.cons_append]); refine hK _ _ ?_; clear hK K; (repeat (first | (with_reducible refine then_n ?_) | (with_reducible refine then_r ?_) | (with_reducible refine then_e ?_) | (with_reducible refine block_n ?_) | (with_reducible refine block_r ?_) | (with_reducible refine block_e ?_) | refine block_o ?_ | (with_reducible refine scope_n ?_) | (with_reducible refine scope_r ?_) | (with_reducible refine scope_e ?_) | (with_reducible refine code_seq ?_) | (with_reducible refine code_skip ?_) | (with_reducible refine code_label ?_) | (with_reducible refine code_block ?_) | (with_reducible refine code_scope ?_) | (with_reducible refine code_exit ?_) | (with_reducible refine code_ret ?_) | refine reg_to ?_ | (with_reducible refine run_nil ?_) | ((with_reducible refine run_probe ?_); refine run_more ?_) | (with_reducible refine draw_nil ?_) | ((with_reducible refine draw_probe ?_); (first | refine draw_more ?_ | refine draw_as ?_)) | refine code_then ?_ | refine code_else ?_))
  refine run_op fun K hK => ?_; refine app8 (ho1) (by (repeat (first | with_reducible exact Pick.head _ _ | with_reducible apply Pick.tail))) (ho4.rd (by (repeat (first | with_reducible assumption | with_reducible exact List.mem_cons_self .. | with_reducible apply List.mem_cons_of_mem)))) (by rw [hl, hd]; omega) (fun C5 a5 cap5 ho5 => ?_); refine hK _ _ ?_; clear hK K
  (repeat (first | (with_reducible refine then_n ?_) | (with_reducible refine then_r ?_) | (with_reducible refine then_e ?_) | (with_reducible refine block_n ?_) | (with_reducible refine block_r ?_) | (with_reducible refine block_e ?_) | refine block_o ?_ | (with_reducible refine scope_n ?_) | (with_reducible refine scope_r ?_) | (with_reducible refine scope_e ?_) | (with_reducible refine code_seq ?_) | (with_reducible refine code_skip ?_) | (with_reducible refine code_label ?_) | (with_reducible refine code_block ?_) | (with_reducible refine code_scope ?_) | (with_reducible refine code_exit ?_) | (with_reducible refine code_ret ?_) | refine reg_to ?_ | (with_reducible refine run_nil ?_) | ((with_reducible refine run_probe ?_); refine run_more ?_) | (with_reducible refine draw_nil ?_) | ((with_reducible refine draw_probe ?_); (first | refine draw_more ?_ | refine draw_as ?_)) | refine code_then ?_ | refine code_else ?_))
  rw [← List.length_append] at ho5 ⊢
  refine run_op fun K hK => ?_; refine calls_to (refS hg C5 a5 _ (padK key 92 ++ digest (padK key 54 ++ text)) (by rw [List.length_append, hl, hd]; omega) (ho5.rd (by simp))) ?_; rintro v A ⟨C6, a6, c6, rfl, ho6, rfl⟩; (try simp only [List.nil_append, List.cons_append]); refine hK _ _ ?_; clear hK K; (repeat (first | (with_reducible refine then_n ?_) | (with_reducible refine then_r ?_) | (with_reducible refine then_e ?_) | (with_reducible refine block_n ?_) | (with_reducible refine block_r ?_) | (with_reducible refine block_e ?_) | refine block_o ?_ | (with_reducible refine scope_n ?_) | (with_reducible refine scope_r ?_) | (with_reducible refine scope_e ?_) | (with_reducible refine code_seq ?_) | (with_reducible refine code_skip ?_) | (with_reducible refine code_label ?_) | (with_reducible refine code_block ?_) | (with_reducible refine code_scope ?_) | (with_reducible refine code_exit ?_) | (with_reducible refine code_ret ?_) | refine reg_to ?_ | (with_reducible refine run_nil ?_) | ((with_reducible refine run_probe ?_); refine run_more ?_) | (with_reducible refine draw_nil ?_) | ((with_reducible refine draw_probe ?_); (first | refine draw_more ?_ | refine draw_as ?_)) | refine code_then ?_ | refine code_else ?_))
  refine back_tmp [C6, G, H, T] ?_
  exact ⟨C6, a6, c6, rfl, ho6, rfl⟩

end Go.Proofs.YtfihpbhdilldoaaDoor

/- Sums that need a key; comparing, turning by one another. Conditions: as each says. -/
set_option linter.unusedSimpArgs false
set_option linter.unusedVariables false
namespace Go.Proofs.YtfihpbhdilldoaaDoor
open Go Go.Ost Go.Sha

theorem sumS3 {G : Chunk} (hg : Globs G) (A B D : Chunk) (a : Option Addr) (n c : Nat) (ls : List (List UInt8)) (hp : Parts [A ++ (B ++ D)] a n ls) (hnc : n ≤ c) (hn : n ≤ 1000000) (hlen : ls.flatten.length ≤ 1000000) :
    Meets Tryd.prog 27 [.slice a n c] [G, A, B, D] (New8 5 (digest ls.flatten) [G, A, B, D]) := by
  obtain ⟨⟨_, m0, h0⟩, ⟨_, m1, h1⟩⟩ := hg
  exact sum3_spec G A B D m0 m1 h0 h1 a n c ls (by rw [List.append_assoc]; exact hp) hnc hn hlen

theorem macsum_spec {G : Chunk} (hg : Globs G) (H W : Chunk) (a ta : Option Addr) (cap n tc : Nat) (key : List UInt8) (ls : List (List UInt8)) (hk : key.length ≤ 100000) (hcap : key.length ≤ cap) (h : Rd 1 [H] a key.length (key.map b8))
    (hp : Parts [W] ta n ls) (hnc : n ≤ tc) (hn : n ≤ 1000) (hl : ls.flatten.length ≤ 100000) :
    Meets Tryd.prog 11 [.slice a key.length cap, .slice ta n tc] [G, H, W] (New8 5 (mac key ls.flatten) [G, H, W]) := by
  have hpl : ∀ x, (padK key x).length = 64 := padK_len key
  have hd : ∀ m, (digest m).length = 32 := digest_len
  refine spec_intro Tryd.func11 rfl (by kernel_rfl) (by rw [Tryd.ntmps11]; simp) fun F => ?_; rw [Tryd.ntmps11, Tryd.results11]
  (repeat (first | (with_reducible refine then_n ?_) | (with_reducible refine then_r ?_) | (with_reducible refine then_e ?_) | (with_reducible refine block_n ?_) | (with_reducible refine block_r ?_) | (with_reducible refine block_e ?_) | refine block_o ?_ | (with_reducible refine scope_n ?_) | (with_reducible refine scope_r ?_) | (with_reducible refine scope_e ?_) | (with_reducible refine code_seq ?_) | (with_reducible refine code_skip ?_) | (with_reducible refine code_label ?_) | (with_reducible refine code_block ?_) | (with_reducible refine code_scope ?_) | (with_reducible refine code_exit ?_) | (with_reducible refine code_ret ?_) | refine reg_to ?_ | (with_reducible refine run_nil ?_) | ((with_reducible refine run_probe ?_); refine run_more ?_) | (with_reducible refine draw_nil ?_) | ((with_reducible refine draw_probe ?_); (first | refine draw_more ?_ | refine draw_as ?_)) | refine code_then ?_ | refine code_else ?_))
  refine run_op fun K hK => ?_; refine calls_to (padS hg H a cap key hk hcap h 54) ?_; rintro v A ⟨C1, a1, c1, rfl, ho1, rfl⟩; (try simp only [List.nil_append, List.cons_append]); refine hK _ _ ?_; clear hK K; (repeat (first | (with_reducible refine then_n ?_) | (with_reducible refine then_r ?_) | (with_reducible refine then_e ?_) | (with_reducible refine block_n ?_) | (with_reducible refine block_r ?_) | (with_reducible refine block_e ?_) | refine block_o ?_ | (with_reducible refine scope_n ?_) | (with_reducible refine scope_r ?_) | (with_reducible refine scope_e ?_) | (with_reducible refine code_seq ?_) | (with_reducible refine code_skip ?_) | (with_reducible refine code_label ?_) | (with_reducible refine code_block ?_) | (with_reducible refine code_scope ?_) | (with_reducible refine code_exit ?_) | (with_reducible refine code_ret ?_) | refine reg_to ?_ | (with_reducible refine run_nil ?_) | ((with_reducible refine run_probe ?_); refine run_more ?_) | (with_reducible refine draw_nil ?_) | ((with_reducible refine draw_probe ?_); (first | refine draw_more ?_ | refine draw_as ?_)) | refine code_then ?_ | refine code_else ?_))
  refine run_op fun K hK => ?_; refine calls_to (join_spec [W] ta n tc ls hp hnc (by omega) (by omega)) ?_; rintro v A ⟨C2, a2, c2, rfl, hle2, hr2, _, rfl⟩; (try simp only [List.nil_append, List.cons_append]); refine hK _ _ ?_; clear hK K; (repeat (first | (with_reducible refine then_n ?_) | (with_reducible refine then_r ?_) | (with_reducible refine then_e ?_) | (with_reducible refine block_n ?_) | (with_reducible refine block_r ?_) | (with_reducible refine block_e ?_) | refine block_o ?_ | (with_reducible refine scope_n ?_) | (with_reducible refine scope_r ?_) | (with_reducible refine scope_e ?_) | (with_reducible refine code_seq ?_) | (with_reducible refine code_skip ?_) | (with_reducible refine code_label ?_) | (with_reducible refine code_block ?_) | (with_reducible refine code_scope ?_) | (with_reducible refine code_exit ?_) | (with_reducible refine code_ret ?_) | refine reg_to ?_ | (with_reducible refine run_nil ?_) | ((with_reducible refine run_probe ?_); refine run_more ?_) | (with_reducible refine draw_nil ?_) | ((with_reducible refine draw_probe ?_); (first | refine draw_more ?_ | refine draw_as ?_)) | refine code_then ?_ | refine code_else ?_))
  refine run_op fun K hK => ?_; refine build1 rfl [.slice a1 (padK key 54).length c1, .slice a2 ls.flatten.length c2] (by decide) rfl rfl (by simp [Value.cell1]) (fun b3 C3 ho3 => ?_); refine hK _ _ ?_; clear hK K
  refine run_op fun K hK => ?_; refine calls_to (sumS3 hg C3 C1 C2 _ 2 2 [padK key 54, ls.flatten] (parts_mk ho3 ((vals_nil.snoc ho1.1 ((ho1.rd (S := [C1]) (by simp)).wide1 C2)).snoc hle2 (hr2.wide2 C1))) (by decide) (by decide) (by simp only [List.flatten_cons, List.flatten_nil, List.append_nil, List.length_append, hpl]; omega)) ?_; rintro v A ⟨C4, a4, c4, rfl, ho4, rfl⟩; (try simp only [List.nil_append, List.cons_append]); refine hK _ _ ?_; clear hK K; (repeat (first | (with_reducible refine then_n ?_) | (with_reducible refine then_r ?_) | (with_reducible refine then_e ?_) | (with_reducible refine block_n ?_) | (with_reducible refine block_r ?_) | (with_reducible refine block_e ?_) | refine block_o ?_ | (with_reducible refine scope_n ?_) | (with_reducible refine scope_r ?_) | (with_reducible refine scope_e ?_) | (with_reducible refine code_seq ?_) | (with_reducible refine code_skip ?_) | (with_reducible refine code_label ?_) | (with_reducible refine code_block ?_) | (with_reducible refine code_scope ?_) | (with_reducible refine code_exit ?_) | (with_reducible refine code_ret ?_) | refine reg_to ?_ | (with_reducible refine run_nil ?_) | ((with_reducible refine run_probe ?_); refine run_more ?_) | (with_reducible refine draw_nil ?_) | ((with_reducible refine draw_probe ?_); (first | refine draw_more ?_ | refine draw_as ?_)) | refine code_then ?_ | refine code_else ?_))
  have e4 : [padK key 54, ls.flatten].flatten = padK key 54 ++ ls.flatten := by simp
  rw [e4] at ho4 ⊢
  refine run_op fun K hK => ?_; refine calls_to (padS hg H a cap key hk hcap h 92) ?_; rintro v A ⟨C5, a5, c5, rfl, ho5, rfl⟩; (try simp only [List.nil_append, List.cons_append]); refine hK _ _ ?_; clear hK K; (repeat (first | (with_reducible refine then_n ?_) | (with_reducible refine then_r ?_) | (with_reducible refine then_e ?_) | (with_reducible refine block_n ?_) | (with_reducible refine block_r ?_) | (with_reducible refine block_e ?_) | refine block_o ?_ | (with_reducible refine scope_n ?_) | (with_reducible refine scope_r ?_) | (with_reducible refine scope_e ?_) | (with_reducible refine code_seq ?_) | (with_reducible refine code_skip ?_) | (with_reducible refine code_label ?_) | (with_reducible refine code_block ?_) | (with_reducible refine code_scope ?_) | (with_reducible refine code_exit ?_) | (with_reducible refine code_ret ?_) | refine reg_to ?_ | (with_reducible refine run_nil ?_) | ((with_reducible refine run_probe ?_); refine run_more ?_) | (with_reducible refine draw_nil ?_) | ((with_reducible refine draw_probe ?_); (first | refine draw_more ?_ | refine draw_as ?_)) | refine code_then ?_ | refine code_else ?_))
  refine run_op fun K hK => ?_; refine build1 rfl [.slice a5 (padK key 92).length c5, .slice a4 (digest (padK key 54 ++ ls.flatten)).length c4] (by decide) rfl rfl (by simp [Value.cell1]) (fun b6 C6 ho6 => ?_); refine hK _ _ ?_; clear hK K
  refine run_op fun K hK => ?_; refine calls_to (sumS3 hg C6 C5 C4 _ 2 2 [padK key 92, digest (padK key 54 ++ ls.flatten)] (parts_mk ho6 ((vals_nil.snoc ho5.1 ((ho5.rd (S := [C5]) (by simp)).wide1 C4)).snoc ho4.1 ((ho4.rd (S := [C4]) (by simp)).wide2 C5))) (by decide) (by decide) (by simp only [List.flatten_cons, List.flatten_nil, List.append_nil, List.length_append, hpl, hd]; omega)) ?_; rintro v A ⟨C7, a7, c7, rfl, ho7, rfl⟩; (try simp only [List.nil_append, List.cons_append]); refine hK _ _ ?_; clear hK K; (repeat (first | (with_reducible refine then_n ?_) | (with_reducible refine then_r ?_) | (with_reducible refine then_e ?_) | (with_reducible refine block_n ?_) | (with_reducible refine block_r ?_) | (with_reducible refine block_e ?_) | refine block_o ?_ | (with_reducible refine scope_n ?_) | (with_reducible refine scope_r ?_) | (with_reducible refine scope_e ?_) | (with_reducible refine code_seq ?_) | (with_reducible refine code_skip ?_) | (with_reducible refine code_label ?_) | (with_reducible refine code_block ?_) | (with_reducible refine code_scope ?_) | (with_reducible refine code_exit ?_) | (with_reducible refine code_ret ?_) | refine reg_to ?_ | (with_reducible refine run_nil ?_) | ((with_reducible refine run_probe ?_); refine run_more ?_) | (with_reducible refine draw_nil ?_) | ((with_reducible refine draw_probe ?_); (first | refine draw_more ?_ | refine draw_as ?_)) | refine code_then ?_ | refine code_else ?_))
  have e7 : digest [padK key 92, digest (padK key 54 ++ ls.flatten)].flatten = mac key ls.flatten := by simp [mac]
  rw [e7] at ho7 ⊢
  refine back_tmp [C7, G, H, W] ?_
  exact ⟨C7, a7, c7, rfl, ho7, rfl⟩

theorem or_zero8 (a b : UInt8) : a ||| b = 0 ↔ a = 0 ∧ b = 0 := by
  constructor
  · intro h
    have h1 : a.toBitVec ||| b.toBitVec = 0#8 := by rw [← UInt8.toBitVec_or, h]; rfl
    have key : ∀ x y : BitVec 8, x ||| y = 0#8 → x = 0#8 ∧ y = 0#8 := by
      intro x y e
      constructor
      · apply BitVec.eq_of_getLsbD_eq; intro i hi
        have := congrArg (fun v => v.getLsbD i) e
        simp at this ⊢; exact this.1
      · apply BitVec.eq_of_getLsbD_eq; intro i hi
        have := congrArg (fun v => v.getLsbD i) e
        simp at this ⊢; exact this.2
    obtain ⟨k1, k2⟩ := key _ _ h1
    exact ⟨UInt8.toBitVec_inj.1 k1, UInt8.toBitVec_inj.1 k2⟩
  · rintro ⟨rfl, rfl⟩; rfl
theorem xor_zero8 (a b : UInt8) : a ^^^ b = 0 ↔ a = b := by
  constructor
  · intro h
    have : (a ^^^ b) ^^^ b = 0 ^^^ b := by rw [h]
    rw [UInt8.xor_assoc, UInt8.xor_self, UInt8.xor_zero, UInt8.zero_xor] at this
    exact this
  · rintro rfl; exact UInt8.xor_self
theorem min_int (n m : Nat) : (if (m : Int) < (n : Int) then (m : Int) else (n : Int)) = ((min n m : Nat) : Int) := by split <;> omega
theorem equal_spec (A B : Chunk) (a b : Option Addr) (ca cb : Nat) (xs ys : List UInt8) (hx : xs.length ≤ 100000) (hy : ys.length ≤ 100000) (h1 : Rd 1 [A] a xs.length (xs.map b8)) (h2 : Rd 1 [B] b ys.length (ys.map b8)) :
    Meets Tryd.prog 22 [.slice a xs.length ca, .slice b ys.length cb] [A, B] fun v S => v = .bool (xs == ys) ∧ S = [A, B] := by
  refine spec_intro Tryd.func22 rfl (by kernel_rfl) (by rw [Tryd.ntmps22]; simp) fun F => ?_; rw [Tryd.ntmps22, Tryd.results22]
  (repeat (first | (with_reducible refine then_n ?_) | (with_reducible refine then_r ?_) | (with_reducible refine then_e ?_) | (with_reducible refine block_n ?_) | (with_reducible refine block_r ?_) | (with_reducible refine block_e ?_) | refine block_o ?_ | (with_reducible refine scope_n ?_) | (with_reducible refine scope_r ?_) | (with_reducible refine scope_e ?_) | (with_reducible refine code_seq ?_) | (with_reducible refine code_skip ?_) | (with_reducible refine code_label ?_) | (with_reducible refine code_block ?_) | (with_reducible refine code_scope ?_) | (with_reducible refine code_exit ?_) | (with_reducible refine code_ret ?_) | refine reg_to ?_ | (with_reducible refine run_nil ?_) | ((with_reducible refine run_probe ?_); refine run_more ?_) | (with_reducible refine draw_nil ?_) | ((with_reducible refine draw_probe ?_); (first | refine draw_more ?_ | refine draw_as ?_)) | refine code_then ?_ | refine code_else ?_))
  refine if_nb (fun hc => ?_) (fun hc => ?_)
  · (repeat (first | (with_reducible refine then_n ?_) | (with_reducible refine then_r ?_) | (with_reducible refine then_e ?_) | (with_reducible refine block_n ?_) | (with_reducible refine block_r ?_) | (with_reducible refine block_e ?_) | refine block_o ?_ | (with_reducible refine scope_n ?_) | (with_reducible refine scope_r ?_) | (with_reducible refine scope_e ?_) | (with_reducible refine code_seq ?_) | (with_reducible refine code_skip ?_) | (with_reducible refine code_label ?_) | (with_reducible refine code_block ?_) | (with_reducible refine code_scope ?_) | (with_reducible refine code_exit ?_) | (with_reducible refine code_ret ?_) | refine reg_to ?_ | (with_reducible refine run_nil ?_) | ((with_reducible refine run_probe ?_); refine run_more ?_) | (with_reducible refine draw_nil ?_) | ((with_reducible refine draw_probe ?_); (first | refine draw_more ?_ | refine draw_as ?_)) | refine code_then ?_ | refine code_else ?_))
    refine back_tmp [A, B] ?_
    refine ⟨?_, rfl⟩
    have : xs ≠ ys := fun e => hc (by rw [e])
    rw [beq_eq_false_iff_ne.2 this]
  · (repeat (first | (with_reducible refine then_n ?_) | (with_reducible refine then_r ?_) | (with_reducible refine then_e ?_) | (with_reducible refine block_n ?_) | (with_reducible refine block_r ?_) | (with_reducible refine block_e ?_) | refine block_o ?_ | (with_reducible refine scope_n ?_) | (with_reducible refine scope_r ?_) | (with_reducible refine scope_e ?_) | (with_reducible refine code_seq ?_) | (with_reducible refine code_skip ?_) | (with_reducible refine code_label ?_) | (with_reducible refine code_block ?_) | (with_reducible refine code_scope ?_) | (with_reducible refine code_exit ?_) | (with_reducible refine code_ret ?_) | refine reg_to ?_ | (with_reducible refine run_nil ?_) | ((with_reducible refine run_probe ?_); refine run_more ?_) | (with_reducible refine draw_nil ?_) | ((with_reducible refine draw_probe ?_); (first | refine draw_more ?_ | refine draw_as ?_)) | refine code_then ?_ | refine code_else ?_))
    have hl : xs.length = ys.length := by omega
    refine loop_i (fun q D L S => ∃ (i : Nat) (z : UInt8), i ≤ xs.length ∧ (z = 0 ↔ xs.take i = ys.take i) ∧ q = xs.length - i ∧ D = [] ∧
      L = [(14, .int .i64 i), (13, .int .i64 xs.length), (0, .slice a xs.length ca), (1, .slice b ys.length cb), (5, b8 z)] ∧ S = [F, A, B]) ⟨0, 0, by omega, by simp, rfl, rfl, rfl, rfl⟩ ?_
    rintro q D L S ⟨i, z, hi, hz, rfl, rfl, rfl, rfl⟩
    (repeat (first | (with_reducible refine then_n ?_) | (with_reducible refine then_r ?_) | (with_reducible refine then_e ?_) | (with_reducible refine block_n ?_) | (with_reducible refine block_r ?_) | (with_reducible refine block_e ?_) | refine block_o ?_ | (with_reducible refine scope_n ?_) | (with_reducible refine scope_r ?_) | (with_reducible refine scope_e ?_) | (with_reducible refine code_seq ?_) | (with_reducible refine code_skip ?_) | (with_reducible refine code_label ?_) | (with_reducible refine code_block ?_) | (with_reducible refine code_scope ?_) | (with_reducible refine code_exit ?_) | (with_reducible refine code_ret ?_) | refine reg_to ?_ | (with_reducible refine run_nil ?_) | ((with_reducible refine run_probe ?_); refine run_more ?_) | (with_reducible refine draw_nil ?_) | ((with_reducible refine draw_probe ?_); (first | refine draw_more ?_ | refine draw_as ?_)) | refine code_then ?_ | refine code_else ?_))
    refine if_d (fun hc => ?_) (fun hc => ?_)
    · (repeat (first | (with_reducible refine then_n ?_) | (with_reducible refine then_r ?_) | (with_reducible refine then_e ?_) | (with_reducible refine block_n ?_) | (with_reducible refine block_r ?_) | (with_reducible refine block_e ?_) | refine block_o ?_ | (with_reducible refine scope_n ?_) | (with_reducible refine scope_r ?_) | (with_reducible refine scope_e ?_) | (with_reducible refine code_seq ?_) | (with_reducible refine code_skip ?_) | (with_reducible refine code_label ?_) | (with_reducible refine code_block ?_) | (with_reducible refine code_scope ?_) | (with_reducible refine code_exit ?_) | (with_reducible refine code_ret ?_) | refine reg_to ?_ | (with_reducible refine run_nil ?_) | ((with_reducible refine run_probe ?_); refine run_more ?_) | (with_reducible refine draw_nil ?_) | ((with_reducible refine draw_probe ?_); (first | refine draw_more ?_ | refine draw_as ?_)) | refine code_then ?_ | refine code_else ?_))
      refine code_dr [[], [], [], [1, 2], [1, 2, 3], [], [], [5, 6], [5, 6, 7], [1, 2, 3, 4, 5, 6, 7, 8], [0, 1, 2, 3, 4, 5, 6, 7, 8, 9], [0, 1, 2, 3, 4, 5, 6, 7, 8, 9, 10]] [(0, false, []), (1, false, []), (2, false, []), (3, false, []), (4, false, []), (5, false, []), (6, false, []), (7, false, []), (8, false, []), (9, false, []), (10, false, []), (11, true, [])] ?_
      (repeat (first | (with_reducible refine then_n ?_) | (with_reducible refine then_r ?_) | (with_reducible refine then_e ?_) | (with_reducible refine block_n ?_) | (with_reducible refine block_r ?_) | (with_reducible refine block_e ?_) | refine block_o ?_ | (with_reducible refine scope_n ?_) | (with_reducible refine scope_r ?_) | (with_reducible refine scope_e ?_) | (with_reducible refine code_seq ?_) | (with_reducible refine code_skip ?_) | (with_reducible refine code_label ?_) | (with_reducible refine code_block ?_) | (with_reducible refine code_scope ?_) | (with_reducible refine code_exit ?_) | (with_reducible refine code_ret ?_) | refine reg_to ?_ | (with_reducible refine run_nil ?_) | ((with_reducible refine run_probe ?_); refine run_more ?_) | (with_reducible refine draw_nil ?_) | ((with_reducible refine draw_probe ?_); (first | refine draw_more ?_ | refine draw_as ?_)) | refine code_then ?_ | refine code_else ?_))
      (repeat (first | (with_reducible refine then_n ?_) | (with_reducible refine then_r ?_) | (with_reducible refine then_e ?_) | (with_reducible refine block_n ?_) | (with_reducible refine block_r ?_) | (with_reducible refine block_e ?_) | refine block_o ?_ | (with_reducible refine scope_n ?_) | (with_reducible refine scope_r ?_) | (with_reducible refine scope_e ?_) | (with_reducible refine code_seq ?_) | (with_reducible refine code_skip ?_) | (with_reducible refine code_label ?_) | (with_reducible refine code_block ?_) | (with_reducible refine code_scope ?_) | (with_reducible refine code_exit ?_) | (with_reducible refine code_ret ?_) | refine reg_to ?_ | (with_reducible refine run_nil ?_) | ((with_reducible refine run_probe ?_); refine run_more ?_) | (with_reducible refine draw_nil ?_) | ((with_reducible refine draw_probe ?_); (first | refine draw_more ?_ | refine draw_as ?_)) | refine code_then ?_ | refine code_else ?_))
      refine again ⟨i + 1, z ||| (xs.getD i 0 ^^^ ys.getD i 0), by omega, ?_, rfl, rfl, rfl, rfl⟩
      rw [or_zero8, xor_zero8, hz, take_next xs i (by omega), take_next ys i (by omega)]
      constructor
      · rintro ⟨e1, e2⟩; rw [e1, e2]
      · intro e
        have e3 := List.append_inj e (by simp; omega)
        exact ⟨e3.1, by simpa using e3.2⟩
    · (repeat (first | (with_reducible refine then_n ?_) | (with_reducible refine then_r ?_) | (with_reducible refine then_e ?_) | (with_reducible refine block_n ?_) | (with_reducible refine block_r ?_) | (with_reducible refine block_e ?_) | refine block_o ?_ | (with_reducible refine scope_n ?_) | (with_reducible refine scope_r ?_) | (with_reducible refine scope_e ?_) | (with_reducible refine code_seq ?_) | (with_reducible refine code_skip ?_) | (with_reducible refine code_label ?_) | (with_reducible refine code_block ?_) | (with_reducible refine code_scope ?_) | (with_reducible refine code_exit ?_) | (with_reducible refine code_ret ?_) | refine reg_to ?_ | (with_reducible refine run_nil ?_) | ((with_reducible refine run_probe ?_); refine run_more ?_) | (with_reducible refine draw_nil ?_) | ((with_reducible refine draw_probe ?_); (first | refine draw_more ?_ | refine draw_as ?_)) | refine code_then ?_ | refine code_else ?_))
      obtain rfl : i = xs.length := by omega
      refine back_tmp [A, B] ?_
      refine ⟨?_, rfl⟩
      congr 1
      rw [List.take_length, hl, List.take_length] at hz
      by_cases e : xs = ys
      · rw [hz.2 e, e]; simp
      · rw [beq_eq_false_iff_ne.2 e]
        have : z.toNat ≠ 0 := fun h0 => e (hz.1 (UInt8.toNat_inj.1 h0))
        rw [beq_eq_false_iff_ne]; omega

theorem xor_spec (A B : Chunk) (a b : Option Addr) (ca cb : Nat) (xs ys : List UInt8) (hx : xs.length ≤ 100000) (hy : ys.length ≤ 100000) (h1 : Rd 1 [A] a xs.length (xs.map b8)) (h2 : Rd 1 [B] b ys.length (ys.map b8)) :
    Meets Tryd.prog 21 [.slice a xs.length ca, .slice b ys.length cb] [A, B] (New8 5 (xorB xs ys) [A, B]) := by
  refine spec_intro Tryd.func21 rfl (by kernel_rfl) (by rw [Tryd.ntmps21]; simp) fun F => ?_; rw [Tryd.ntmps21, Tryd.results21]
  (repeat (first | (with_reducible refine then_n ?_) | (with_reducible refine then_r ?_) | (with_reducible refine then_e ?_) | (with_reducible refine block_n ?_) | (with_reducible refine block_r ?_) | (with_reducible refine block_e ?_) | refine block_o ?_ | (with_reducible refine scope_n ?_) | (with_reducible refine scope_r ?_) | (with_reducible refine scope_e ?_) | (with_reducible refine code_seq ?_) | (with_reducible refine code_skip ?_) | (with_reducible refine code_label ?_) | (with_reducible refine code_block ?_) | (with_reducible refine code_scope ?_) | (with_reducible refine code_exit ?_) | (with_reducible refine code_ret ?_) | refine reg_to ?_ | (with_reducible refine run_nil ?_) | ((with_reducible refine run_probe ?_); refine run_more ?_) | (with_reducible refine draw_nil ?_) | ((with_reducible refine draw_probe ?_); (first | refine draw_more ?_ | refine draw_as ?_)) | refine code_then ?_ | refine code_else ?_))
  rw [min_int]
  refine code_nil ?_
  have hm : min xs.length ys.length ≤ xs.length ∧ min xs.length ys.length ≤ ys.length := ⟨Nat.min_le_left _ _, Nat.min_le_right _ _⟩
  have hxl := xorB_len xs ys
  refine loop_i (fun q D L S => ∃ (i : Nat) (C : Chunk) (p : Option Addr) (cp : Nat), i ≤ min xs.length ys.length ∧ Own8 5 C p ((xorB xs ys).take i).length cp ((xorB xs ys).take i) ∧ q = min xs.length ys.length - i ∧ D = [] ∧
    L = [(12, .int .i64 i), (11, .int .i64 (min xs.length ys.length : Nat)), (0, .slice a xs.length ca), (1, .slice b ys.length cb), (5, .slice p ((xorB xs ys).take i).length cp)] ∧ S = [C, F, A, B]) ⟨0, [], none, 0, by omega, own_nil, rfl, rfl, rfl, rfl⟩ ?_
  rintro q D L S ⟨i, C, p, cp, hi, ho, rfl, rfl, rfl, rfl⟩
  (repeat (first | (with_reducible refine then_n ?_) | (with_reducible refine then_r ?_) | (with_reducible refine then_e ?_) | (with_reducible refine block_n ?_) | (with_reducible refine block_r ?_) | (with_reducible refine block_e ?_) | refine block_o ?_ | (with_reducible refine scope_n ?_) | (with_reducible refine scope_r ?_) | (with_reducible refine scope_e ?_) | (with_reducible refine code_seq ?_) | (with_reducible refine code_skip ?_) | (with_reducible refine code_label ?_) | (with_reducible refine code_block ?_) | (with_reducible refine code_scope ?_) | (with_reducible refine code_exit ?_) | (with_reducible refine code_ret ?_) | refine reg_to ?_ | (with_reducible refine run_nil ?_) | ((with_reducible refine run_probe ?_); refine run_more ?_) | (with_reducible refine draw_nil ?_) | ((with_reducible refine draw_probe ?_); (first | refine draw_more ?_ | refine draw_as ?_)) | refine code_then ?_ | refine code_else ?_))
  refine if_d (fun hc => ?_) (fun hc => ?_)
  · (repeat (first | (with_reducible refine then_n ?_) | (with_reducible refine then_r ?_) | (with_reducible refine then_e ?_) | (with_reducible refine block_n ?_) | (with_reducible refine block_r ?_) | (with_reducible refine block_e ?_) | refine block_o ?_ | (with_reducible refine scope_n ?_) | (with_reducible refine scope_r ?_) | (with_reducible refine scope_e ?_) | (with_reducible refine code_seq ?_) | (with_reducible refine code_skip ?_) | (with_reducible refine code_label ?_) | (with_reducible refine code_block ?_) | (with_reducible refine code_scope ?_) | (with_reducible refine code_exit ?_) | (with_reducible refine code_ret ?_) | refine reg_to ?_ | (with_reducible refine run_nil ?_) | ((with_reducible refine run_probe ?_); refine run_more ?_) | (with_reducible refine draw_nil ?_) | ((with_reducible refine draw_probe ?_); (first | refine draw_more ?_ | refine draw_as ?_)) | refine code_then ?_ | refine code_else ?_))
    refine code_dr [[], [], [], [1, 2], [1, 2, 3], [], [], [5, 6], [5, 6, 7], [1, 2, 3, 4, 5, 6, 7, 8], [1, 2, 3, 4, 5, 6, 7, 8, 9], [0, 1, 2, 3, 4, 5, 6, 7, 8, 9, 10], [0, 1, 2, 3, 4, 5, 6, 7, 8, 9, 10, 11]] [(0, false, []), (1, false, []), (2, false, []), (3, false, []), (4, false, []), (5, false, []), (6, false, []), (7, false, []), (8, false, []), (9, false, []), (10, true, []), (11, true, []), (12, true, [])] ?_
    (repeat (first | (with_reducible refine then_n ?_) | (with_reducible refine then_r ?_) | (with_reducible refine then_e ?_) | (with_reducible refine block_n ?_) | (with_reducible refine block_r ?_) | (with_reducible refine block_e ?_) | refine block_o ?_ | (with_reducible refine scope_n ?_) | (with_reducible refine scope_r ?_) | (with_reducible refine scope_e ?_) | (with_reducible refine code_seq ?_) | (with_reducible refine code_skip ?_) | (with_reducible refine code_label ?_) | (with_reducible refine code_block ?_) | (with_reducible refine code_scope ?_) | (with_reducible refine code_exit ?_) | (with_reducible refine code_ret ?_) | refine reg_to ?_ | (with_reducible refine run_nil ?_) | ((with_reducible refine run_probe ?_); refine run_more ?_) | (with_reducible refine draw_nil ?_) | ((with_reducible refine draw_probe ?_); (first | refine draw_more ?_ | refine draw_as ?_)) | refine code_then ?_ | refine code_else ?_))
    refine draw_op fun K hK => ?_; refine build8 [xs.getD i 0 ^^^ ys.getD i 0] (by decide) rfl rfl (fun b1 C1 ho1 => ?_); refine hK _ _ ?_; clear hK K
    (repeat (first | (with_reducible refine then_n ?_) | (with_reducible refine then_r ?_) | (with_reducible refine then_e ?_) | (with_reducible refine block_n ?_) | (with_reducible refine block_r ?_) | (with_reducible refine block_e ?_) | refine block_o ?_ | (with_reducible refine scope_n ?_) | (with_reducible refine scope_r ?_) | (with_reducible refine scope_e ?_) | (with_reducible refine code_seq ?_) | (with_reducible refine code_skip ?_) | (with_reducible refine code_label ?_) | (with_reducible refine code_block ?_) | (with_reducible refine code_scope ?_) | (with_reducible refine code_exit ?_) | (with_reducible refine code_ret ?_) | refine reg_to ?_ | (with_reducible refine run_nil ?_) | ((with_reducible refine run_probe ?_); refine run_more ?_) | (with_reducible refine draw_nil ?_) | ((with_reducible refine draw_probe ?_); (first | refine draw_more ?_ | refine draw_as ?_)) | refine code_then ?_ | refine code_else ?_))
    refine draw_op fun K hK => ?_; refine app8 ho (by (repeat (first | with_reducible exact Pick.head _ _ | with_reducible apply Pick.tail))) (ho1.rd (by (repeat (first | with_reducible assumption | with_reducible exact List.mem_cons_self .. | with_reducible apply List.mem_cons_of_mem)))) (by simp; omega) (fun C2 a2 cap2 ho2 => ?_); refine hK _ _ ?_; clear hK K
    rw [← xorB_take xs ys i (by omega)] at ho2
    have el : ((xorB xs ys).take i).length + 1 = ((xorB xs ys).take (i + 1)).length := by rw [List.length_take, List.length_take]; omega
    rw [el] at ho2 ⊢
    (repeat (first | (with_reducible refine then_n ?_) | (with_reducible refine then_r ?_) | (with_reducible refine then_e ?_) | (with_reducible refine block_n ?_) | (with_reducible refine block_r ?_) | (with_reducible refine block_e ?_) | refine block_o ?_ | (with_reducible refine scope_n ?_) | (with_reducible refine scope_r ?_) | (with_reducible refine scope_e ?_) | (with_reducible refine code_seq ?_) | (with_reducible refine code_skip ?_) | (with_reducible refine code_label ?_) | (with_reducible refine code_block ?_) | (with_reducible refine code_scope ?_) | (with_reducible refine code_exit ?_) | (with_reducible refine code_ret ?_) | refine reg_to ?_ | (with_reducible refine run_nil ?_) | ((with_reducible refine run_probe ?_); refine run_more ?_) | (with_reducible refine draw_nil ?_) | ((with_reducible refine draw_probe ?_); (first | refine draw_more ?_ | refine draw_as ?_)) | refine code_then ?_ | refine code_else ?_))
    (repeat (first | (with_reducible refine then_n ?_) | (with_reducible refine then_r ?_) | (with_reducible refine then_e ?_) | (with_reducible refine block_n ?_) | (with_reducible refine block_r ?_) | (with_reducible refine block_e ?_) | refine block_o ?_ | (with_reducible refine scope_n ?_) | (with_reducible refine scope_r ?_) | (with_reducible refine scope_e ?_) | (with_reducible refine code_seq ?_) | (with_reducible refine code_skip ?_) | (with_reducible refine code_label ?_) | (with_reducible refine code_block ?_) | (with_reducible refine code_scope ?_) | (with_reducible refine code_exit ?_) | (with_reducible refine code_ret ?_) | refine reg_to ?_ | (with_reducible refine run_nil ?_) | ((with_reducible refine run_probe ?_); refine run_more ?_) | (with_reducible refine draw_nil ?_) | ((with_reducible refine draw_probe ?_); (first | refine draw_more ?_ | refine draw_as ?_)) | refine code_then ?_ | refine code_else ?_))
    exact again ⟨i + 1, C2, a2, cap2, by omega, ho2, rfl, rfl, rfl, rfl⟩
  · (repeat (first | (with_reducible refine then_n ?_) | (with_reducible refine then_r ?_) | (with_reducible refine then_e ?_) | (with_reducible refine block_n ?_) | (with_reducible refine block_r ?_) | (with_reducible refine block_e ?_) | refine block_o ?_ | (with_reducible refine scope_n ?_) | (with_reducible refine scope_r ?_) | (with_reducible refine scope_e ?_) | (with_reducible refine code_seq ?_) | (with_reducible refine code_skip ?_) | (with_reducible refine code_label ?_) | (with_reducible refine code_block ?_) | (with_reducible refine code_scope ?_) | (with_reducible refine code_exit ?_) | (with_reducible refine code_ret ?_) | refine reg_to ?_ | (with_reducible refine run_nil ?_) | ((with_reducible refine run_probe ?_); refine run_more ?_) | (with_reducible refine draw_nil ?_) | ((with_reducible refine draw_probe ?_); (first | refine draw_more ?_ | refine draw_as ?_)) | refine code_then ?_ | refine code_else ?_))
    obtain rfl : i = min xs.length ys.length := by omega
    rw [List.take_of_length_le (by omega)] at ho ⊢
    refine back_tmp [C, A, B] ?_
    exact ⟨C, p, cp, rfl, ho, rfl⟩

end Go.Proofs.YtfihpbhdilldoaaDoor

/- A Hash: its block, how many bytes it has had. Conditions: as each says. -/
set_option linter.unusedSimpArgs false
set_option linter.unusedVariables false
namespace Go.Proofs.YtfihpbhdilldoaaDoor
open Go Go.Ost Go.Sha

instance : TPlaces Tryd.prog 72 [(0, 8), (8, 1), (9, 1)] := ⟨by kernel_rfl⟩

/-- A Hash's block. -/
abbrev hashO (l : List W) (v : Value) (n : Nat) : Obj := .cells (rowX l [v, .int .u64 n]) 72 (0, 0)

end Go.Proofs.YtfihpbhdilldoaaDoor

/- A Hash: begun, written to, summed. Conditions: as each says. -/
set_option linter.unusedSimpArgs false
set_option linter.unusedVariables false
namespace Go.Proofs.YtfihpbhdilldoaaDoor
open Go Go.Ost Go.Sha

theorem new_spec {t0 : TypeId} (G : Chunk) (m0 : Nat × Nat) (hG0 : (0, Obj.cells (rowW first.list) t0 m0) ∈ G) : Meets Tryd.prog 50 [] [G] fun v A => ∃ b, v = .pointer (some ⟨b, 0, none⟩) ∧ A = [[(b, hashO first.list (.slice none 0 0) 0)], G] := by
  refine spec_intro Tryd.func50 rfl (by kernel_rfl) (by rw [Tryd.ntmps50]; simp) fun F => ?_; rw [Tryd.ntmps50, Tryd.results50]
  refine code_seq_k fun N1 hN1 => ?_
  refine reg_to ?_; (try refine run_end ?_)
  refine hN1 _ _ _ ?_; clear hN1
  refine code_seq_k fun N2 hN2 => ?_
  refine code_reg ?_
  refine run_op fun K hK => ?_
  refine load_rw (l := first.list) (by (repeat (first | with_reducible exact Lies.one | with_reducible exact Lies.here (by assumption) | with_reducible apply Lies.next))) (St.list_len _) ?_
  refine hK _ _ ?_; clear hK K
  refine run_op fun K hK => ?_
  rw [build_struct (ps := [(0, .agg (rowW first.list))]) (cs := rowX first.list [.slice none 0 0, .int .u64 0]) rfl]
  refine hK _ _ ?_; clear hK K
  refine run_op fun K hK => ?_
  refine box_new fun b => ?_
  rw [show (Value.agg (rowX first.list [.slice none 0 0, .int .u64 0])).cells = rowX first.list [.slice none 0 0, .int .u64 0] from rfl]
  refine hK _ _ ?_; clear hK K
  (try refine run_to ?_); (try refine run_end ?_)
  refine hN2 _ _ _ ?_; clear hN2
  refine code_back ?_
  exact ret_tmp [[(b, hashO first.list (.slice none 0 0) 0)], G] (by (try simp only [evT, lookT_hit, lookT_miss, Nat.reduceBEq]); (first | done | exact rfl)) ⟨b, rfl, rfl⟩ (by first | ((repeat (first | with_reducible exact Among.nil _ | with_reducible exact Pick.head _ _ | with_reducible apply Pick.tail | with_reducible apply Among.cons)); done) | ((repeat (first | exact Among.nil _ | exact Pick.head _ _ | apply Pick.tail | apply Among.cons)); done))

set_option maxHeartbeats 2000000 in
theorem write_spec {t1 : TypeId} (G C H : Chunk) (m1 : Nat × Nat) (hG1 : (1, Obj.cells (rowW odd) t1 m1) ∈ G) (b n : Nat) (s : St) (ar ap : Option Addr) (cr cp : Nat) (rest p : List UInt8) (hn : n ≤ 4611686018427387904) (hr : rest.length ≤ 1000000) (hp : p.length ≤ 1000000)
    (ho : Own8 5 C ar rest.length cr rest) (h : Rd 1 [H] ap p.length (p.map b8)) :
    Meets Tryd.prog 33 [.pointer (some ⟨b, 0, none⟩), .slice ap p.length cp] [G, [(b, hashO s.list (.slice ar rest.length cr) n)], C, H]
      fun v A => v = .int .i64 p.length ∧ ∃ C' a' c', Own8 5 C' a' ((rest ++ p).drop (64 * ((rest ++ p).length / 64))).length c' ((rest ++ p).drop (64 * ((rest ++ p).length / 64))) ∧
        A = [G, [(b, hashO (Go.Sha.whole s (rest ++ p)).list (.slice a' ((rest ++ p).drop (64 * ((rest ++ p).length / 64))).length c') (n + p.length))], C', H] := by
  refine spec_intro Tryd.func33 rfl (by kernel_rfl) (by rw [Tryd.ntmps33]; simp) fun F => ?_; rw [Tryd.ntmps33, Tryd.results33]
  refine code_seq_k fun N1 hN1 => ?_
  refine reg_to ?_; (try refine run_end ?_)
  refine hN1 _ _ _ ?_; clear hN1
  refine code_seq_k fun N2 hN2 => ?_
  refine code_seq_k fun N3 hN3 => ?_
  refine reg_to ?_; (try refine run_end ?_)
  refine hN3 _ _ _ ?_; clear hN3
  refine code_false (by (try simp only [evT, lookT_hit, lookT_miss, Nat.reduceBEq]); (first | done | exact rfl)) (code_skip ?_)
  refine hN2 _ _ _ ?_; clear hN2
  refine code_seq_k fun N5 hN5 => ?_
  refine regh_to ?_; (try refine run_end ?_)
  refine hN5 _ _ _ ?_; clear hN5
  refine code_seq_k fun N6 hN6 => ?_
  refine regh_to ?_; (try refine run_end ?_)
  refine run_op fun K hK => ?_; refine app8 (ho) (by (repeat (first | with_reducible exact Pick.head _ _ | with_reducible apply Pick.tail))) (h.mem (by (repeat (first | with_reducible assumption | with_reducible exact List.mem_cons_self .. | with_reducible apply List.mem_cons_of_mem)))) (by omega) (fun C1 a1 cap1 ho1 => ?_); refine hK _ _ ?_; clear hK K
  (try refine runh_to ?_); (try refine run_end ?_)
  refine hN6 _ _ _ ?_; clear hN6
  rw [show ((n : Int) + (p.length : Int)) = ((n + p.length : Nat) : Int) from by omega, show rest.length + p.length = (rest ++ p).length from List.length_append.symm]
  rw [show rest.length + p.length = (rest ++ p).length from List.length_append.symm] at ho1
  have hTl : (rest ++ p).length ≤ 2000000 := by rw [List.length_append]; omega
  generalize rest ++ p = T at ho1 hTl ⊢
  generalize n + p.length = N
  refine code_seq_k fun N7 hN7 => ?_
  refine code_block ?_
  refine code_loop (fun q D L S => ∃ (i : Nat) (a' : Option Addr) (c' : Nat), 64 * i ≤ T.length ∧ (T.drop (64 * i)).length ≤ c' ∧ Rd 1 [C1] a' (T.drop (64 * i)).length ((T.drop (64 * i)).map b8) ∧ q = T.length - 64 * i ∧ D = [] ∧ L = [(0, .pointer (some ⟨b, 0, none⟩)), (1, .slice ap p.length cp)] ∧
    S = [C1, F, G, [(b, hashO (run i s T).list (.slice a' (T.drop (64 * i)).length c') N)], H]) ?_ ?_
  · exact ⟨_, _, _, ⟨0, a1, cap1, by omega, ho1.1, ho1.rd (List.mem_cons_self ..), rfl, rfl, rfl, rfl⟩, by (repeat (first | exact True.intro | (refine And.intro ?_ ?_; (· (try simp only [evT, lookT_hit, lookT_miss, Nat.reduceBEq]); (first | done | exact rfl))))), by first | ((repeat (first | with_reducible exact Among.nil _ | with_reducible exact Pick.head _ _ | with_reducible apply Pick.tail | with_reducible apply Among.cons)); done) | ((repeat (first | exact Among.nil _ | exact Pick.head _ _ | apply Pick.tail | apply Among.cons)); done)⟩
  · rintro q D L S ⟨i, a', c', hi, hc', hr', rfl, rfl, rfl, rfl⟩
    have hdl : (T.drop (64 * i)).length = T.length - 64 * i := List.length_drop
    refine code_seq_k fun N8 hN8 => ?_
    refine code_seq_k fun N9 hN9 => ?_
    refine regh_to ?_; (try refine run_end ?_)
    refine hN9 _ _ _ ?_; clear hN9
    refine code_if (fun hc => ?_) (fun hc => ?_)
    · have hc := of_decide_eq_true hc
      have hcut : Rd 1 [C1] (cutA 1 a' 0 c') 64 (((T.drop (64 * i)).take 64).map b8) := rd_cut1 hr' (l := 0) (h' := 64) (m := c') (by omega) (by omega) (by omega)
      have e64 : (T.drop (64 * i)).length - 64 = (T.drop (64 * (i + 1))).length := by
        rw [List.length_drop, List.length_drop]; show T.length - 64 * i - 64 = _; omega
      have hr2 : Rd 1 [C1] (cutA 1 a' 64 c') (T.drop (64 * (i + 1))).length ((T.drop (64 * (i + 1))).map b8) := by
        have q := rd_cut1 hr' (l := 64) (h' := (T.drop (64 * i)).length) (m := c') (by omega) (Nat.le_refl _) hc'
        rw [List.drop_drop, show 64 * i + 64 = 64 * (i + 1) from by omega, List.take_of_length_le (by rw [List.length_drop]; omega)] at q
        rw [← e64]; exact q
      have hc2 : (T.drop (64 * (i + 1))).length ≤ c' - 64 := by
        rw [List.length_drop]; show _ ≤ c' - 64; omega
      refine code_skip ?_
      refine hN8 _ _ _ ?_; clear hN8
      refine code_block ?_
      refine code_seq_k fun N10 hN10 => ?_
      refine code_draw [[], [0], [0, 1], [], [3], [3, 4], [3, 4, 5], [3, 4, 5, 6], [0, 1, 2, 3, 4, 5, 6, 7]] [(0, false, []), (1, false, []), (2, false, []), (3, false, []), (4, false, []), (5, false, []), (6, false, []), (7, false, []), (8, true, [])] (by kernel_rfl) (by kernel_rfl) ?_
      (try refine drawh_to ?_); (try refine draw_end ?_)
      refine draw_op fun K hK => ?_; refine calls_spec (step_spec G C1 m1 hG1 b 72 (run i s T) _ (cutA 1 a' 0 c') (c' - 0) (by omega) ((T.drop (64 * i)).take 64) (by rw [List.length_take]; omega) hcut) (by (repeat (first | with_reducible exact Take.nil _ | with_reducible exact Pick.head _ _ | with_reducible apply Pick.tail | with_reducible apply Take.cons))) ?_; rintro v A ⟨rfl, rfl⟩; (try simp only [List.nil_append, List.cons_append]); refine hK _ _ ?_; clear hK K
      rw [← run_next]
      (try refine draw_to ?_); (try refine draw_end ?_)
      refine hN10 _ _ _ ?_; clear hN10
      refine regh_to ?_; (try refine run_end ?_)
      rw [e64]
      exact again ⟨i + 1, _, _, by omega, hc2, hr2, rfl, rfl, rfl, rfl⟩
    · have hc := of_decide_eq_false hc
      refine code_exit ?_; try simp only [Cont.then, Cont.block, Cont.noGoto, reduceIte, Nat.reduceEqDiff]
      refine hN7 _ _ _ ?_; clear hN7
      have hi2 : i = T.length / 64 := by omega
      subst hi2
      refine code_seq_k fun N11 hN11 => ?_
      refine regh_to ?_; (try refine run_end ?_)
      refine run_op fun K hK => ?_; refine calls_to (clone_spec C1 a' c' _ (by omega) hr') ?_; rintro v A ⟨C2, a2, cap2, rfl, ho2, rfl⟩; (try simp only [List.nil_append, List.cons_append]); refine hK _ _ ?_; clear hK K
      (try refine runh_to ?_); (try refine run_end ?_)
      refine hN11 _ _ _ ?_; clear hN11
      refine code_seq_k fun N12 hN12 => ?_
      refine reg_to ?_; (try refine run_end ?_)
      refine hN12 _ _ _ ?_; clear hN12
      refine code_back ?_
      exact ret_tmp [G, [(b, hashO (Go.Sha.whole s T).list (.slice a2 (T.drop (64 * (T.length / 64))).length cap2) N)], C2, H] (by (try simp only [evT, lookT_hit, lookT_miss, Nat.reduceBEq]); (first | done | exact rfl)) ⟨rfl, C2, a2, cap2, ho2, rfl⟩ (by first | ((repeat (first | with_reducible exact Among.nil _ | with_reducible exact Pick.head _ _ | with_reducible apply Pick.tail | with_reducible apply Among.cons)); done) | ((repeat (first | exact Among.nil _ | exact Pick.head _ _ | apply Pick.tail | apply Among.cons)); done))

set_option maxHeartbeats 2000000 in
theorem hsum_spec {t1 : TypeId} (G C : Chunk) (m1 : Nat × Nat) (hG1 : (1, Obj.cells (rowW odd) t1 m1) ∈ G) (b n : Nat) (s : St) (ar : Option Addr) (cr : Nat) (rest : List UInt8) (hn : n < 2305843009213693952) (hr : rest.length ≤ 1000000) (hmod : (rest.length + (pad n).length) % 64 = 0)
    (ho : Rd 1 [C] ar rest.length (rest.map b8)) :
    Meets Tryd.prog 35 [.pointer (some ⟨b, 0, none⟩)] [G, [(b, hashO s.list (.slice ar rest.length cr) n)], C]
      (New8 5 (Go.Sha.whole s (rest ++ pad n)).bytes [G, [(b, hashO s.list (.slice ar rest.length cr) n)], C]) := by
  have hpl : (pad n).length ≤ 72 := by rw [pad_len, zeros]; omega
  refine spec_intro Tryd.func35 rfl (by kernel_rfl) (by rw [Tryd.ntmps35]; simp) fun F => ?_; rw [Tryd.ntmps35, Tryd.results35]
  refine code_seq_k fun N1 hN1 => ?_
  refine reg_to ?_; (try refine run_end ?_)
  refine hN1 _ _ _ ?_; clear hN1
  refine code_seq_k fun N2 hN2 => ?_
  refine code_seq_k fun N3 hN3 => ?_
  refine reg_to ?_; (try refine run_end ?_)
  refine hN3 _ _ _ ?_; clear hN3
  refine code_false (by (try simp only [evT, lookT_hit, lookT_miss, Nat.reduceBEq]); (first | done | exact rfl)) (code_skip ?_)
  refine hN2 _ _ _ ?_; clear hN2
  refine code_seq_k fun N5 hN5 => ?_
  refine reg_to ?_; (try refine run_end ?_)
  refine run_op fun K hK => ?_
  refine load_rx (by (repeat (first | with_reducible exact Lies.one | with_reducible apply Lies.next))) (St.list_len _) ?_
  refine hK _ _ ?_; clear hK K
  refine run_op fun K hK => ?_; refine alloc_new fun b3 => ?_; (try simp only [Value.cells]); refine hK _ _ ?_; clear hK K
  refine run_op fun K hK => ?_
  refine store_rw (l := List.replicate 8 0) (l' := s.list) (by (repeat (first | exact Upd.one | apply Upd.next))) List.length_replicate (St.list_len _) ?_
  refine hK _ _ ?_; clear hK K
  (try refine run_to ?_); (try refine run_end ?_)
  refine hN5 _ _ _ ?_; clear hN5
  refine code_seq_k fun N6 hN6 => ?_
  refine code_draw [[], [0], [0, 1], [0, 1, 2], [0, 1, 2, 3], [], [5], [5, 6], [5, 6, 7], [0, 1, 2, 3, 4, 5, 6, 7, 8], [0, 1, 2, 3, 4, 5, 6, 7, 8, 9], [0, 1, 2, 3, 4, 5, 6, 7, 8, 9, 10]] [(0, false, []), (1, false, []), (2, false, []), (3, false, []), (5, false, []), (6, false, []), (7, false, []), (8, false, []), (4, true, [8]), (9, true, []), (10, true, []), (11, true, [])] (by kernel_rfl) (by kernel_rfl) ?_
  (try refine drawh_to ?_); (try refine draw_end ?_)
  refine draw_op fun K hK => ?_; refine calls_spec (clone_spec C ar cr rest (by omega) ho) (by (repeat (first | with_reducible exact Take.nil _ | with_reducible exact Pick.head _ _ | with_reducible apply Pick.tail | with_reducible apply Take.cons))) ?_; rintro v A ⟨C4, a4, cap4, rfl, ho4, rfl⟩; (try simp only [List.nil_append, List.cons_append]); (repeat refine pendh ?_); refine hK _ _ ?_; clear hK K
  (try refine drawh_to ?_); (try refine draw_end ?_)
  refine draw_op fun K hK => ?_; refine calls_spec (ends_spec n hn) (by (repeat (first | with_reducible exact Take.nil _ | with_reducible exact Pick.head _ _ | with_reducible apply Pick.tail | with_reducible apply Take.cons))) ?_; rintro v A ⟨C5, a5, cap5, rfl, ho5, rfl⟩; (try simp only [List.nil_append, List.cons_append]); refine hK _ _ ?_; clear hK K
  (try refine drawh_to ?_); (try refine draw_end ?_)
  refine draw_effect (by simp only [List.getElem?_toArray, List.getElem?_cons_succ, List.getElem?_cons_zero]; rfl) fun K hK => ?_; (try simp only [gos, gob, Nat.reduceBEq, if_true, reduceIte, reduceCtorEq, Nat.reduceLT, Nat.reduceEqDiff, Nat.reduceAdd, Nat.reduceSub, Int.reduceLT, Int.reduceLE, Int.reduceBEq, Int.reduceBNe, Int.reduceToNat, Int.reduceAdd, Int.reduceSub, Int.reduceMul, Int.reduceDiv, Int.reduceMod, Int.reducePow, Int.toNat_natCast, Nat.sub_zero, goq]); (try (simp (disch := omega) only [gow, gobw]; try simp only [gos, gob, Nat.reduceBEq, if_true, reduceIte, reduceCtorEq, Nat.reduceLT, Nat.reduceEqDiff, Nat.reduceAdd, Nat.reduceSub, Int.reduceLT, Int.reduceLE, Int.reduceBEq, Int.reduceBNe, Int.reduceToNat, Int.reduceAdd, Int.reduceSub, Int.reduceMul, Int.reduceDiv, Int.reduceMod, Int.reducePow, Int.toNat_natCast, Nat.sub_zero, goq])); refine app8 ho4 (by (repeat (first | with_reducible exact Pick.head _ _ | with_reducible apply Pick.tail))) (ho5.rd (by (repeat (first | with_reducible assumption | with_reducible exact List.mem_cons_self .. | with_reducible apply List.mem_cons_of_mem)))) (by omega) (fun C6 a6 cap6 ho6 => ?_); refine hK _ _ ?_; clear hK K
  (try refine drawh_to ?_); (try refine draw_end ?_)
  refine draw_op fun K hK => ?_; (repeat refine pend ?_); refine hK _ _ ?_; clear hK K
  (try refine drawh_to ?_); (try refine draw_end ?_)
  refine hN6 _ _ _ ?_; clear hN6
  rw [show rest.length + (pad n).length = (rest ++ pad n).length from List.length_append.symm]
  rw [show rest.length + (pad n).length = (rest ++ pad n).length from List.length_append.symm] at ho6 hmod
  have hTl : (rest ++ pad n).length ≤ 2000000 := by rw [List.length_append]; omega
  generalize rest ++ pad n = T at ho6 hTl hmod ⊢
  rw [show rowW s.list = rowX s.list [] from by simp [rowW, rowX]]
  refine code_seq_k fun N7 hN7 => ?_
  refine code_block ?_
  refine code_loop (fun q D L S => ∃ (i : Nat) (a' : Option Addr) (c' : Nat), 64 * i ≤ T.length ∧ (T.drop (64 * i)).length ≤ c' ∧ Rd 1 [C6] a' (T.drop (64 * i)).length ((T.drop (64 * i)).map b8) ∧ q = T.length - 64 * i ∧ D = [] ∧ L = [(4, .slice a' (T.drop (64 * i)).length c'), (3, .pointer (some ⟨b3, 0, none⟩))] ∧
    S = [C6, C, [(b3, .cells (rowX (run i s T).list []) 62 (0, 0))], F, G, [(b, hashO s.list (.slice ar rest.length cr) n)]]) ?_ ?_
  · exact ⟨_, _, _, ⟨0, a6, cap6, by omega, ho6.1, ho6.rd (List.mem_cons_self ..), rfl, rfl, rfl, rfl⟩, by (repeat (first | exact True.intro | (refine And.intro ?_ ?_; (· (try simp only [evT, lookT_hit, lookT_miss, Nat.reduceBEq]); (first | done | exact rfl))))), by first | ((repeat (first | with_reducible exact Among.nil _ | with_reducible exact Pick.head _ _ | with_reducible apply Pick.tail | with_reducible apply Among.cons)); done) | ((repeat (first | exact Among.nil _ | exact Pick.head _ _ | apply Pick.tail | apply Among.cons)); done)⟩
  · rintro q D L S ⟨i, a', c', hi, hc', hr', rfl, rfl, rfl, rfl⟩
    have hdl : (T.drop (64 * i)).length = T.length - 64 * i := List.length_drop
    refine code_seq_k fun N8 hN8 => ?_
    refine code_seq_k fun N9 hN9 => ?_
    refine reg_to ?_; (try refine run_end ?_)
    refine hN9 _ _ _ ?_; clear hN9
    refine code_if (fun hc => ?_) (fun hc => ?_)
    · have hc := of_decide_eq_true hc
      have hcut : Rd 1 [C6] (cutA 1 a' 0 c') 64 (((T.drop (64 * i)).take 64).map b8) := rd_cut1 hr' (l := 0) (h' := 64) (m := c') (by omega) (by omega) (by omega)
      have e64 : (T.drop (64 * i)).length - 64 = (T.drop (64 * (i + 1))).length := by
        rw [List.length_drop, List.length_drop]; show T.length - 64 * i - 64 = _; omega
      have hr2 : Rd 1 [C6] (cutA 1 a' 64 c') (T.drop (64 * (i + 1))).length ((T.drop (64 * (i + 1))).map b8) := by
        have q := rd_cut1 hr' (l := 64) (h' := (T.drop (64 * i)).length) (m := c') (by omega) (by omega) hc'
        rw [List.drop_drop, show 64 * i + 64 = 64 * (i + 1) from by omega, List.take_of_length_le (by rw [List.length_drop]; omega)] at q
        rw [← e64]; exact q
      have hc2 : (T.drop (64 * (i + 1))).length ≤ c' - 64 := by
        rw [List.length_drop]; show _ ≤ c' - 64; omega
      refine code_skip ?_
      refine hN8 _ _ _ ?_; clear hN8
      refine code_seq_k fun N10 hN10 => ?_
      refine code_block ?_
      refine reg_to ?_; (try refine run_end ?_)
      refine run_op fun K hK => ?_
      refine calls_spec (step_spec G C6 m1 hG1 b3 62 (run i s T) [] (cutA 1 a' 0 c') (c' - 0) (by omega) ((T.drop (64 * i)).take 64) (by rw [List.length_take]; omega) hcut) (by (repeat (first | with_reducible exact Take.nil _ | with_reducible exact Pick.head _ _ | with_reducible apply Pick.tail | with_reducible apply Take.cons))) ?_; rintro v A ⟨rfl, rfl⟩; (try simp only [List.nil_append, List.cons_append]); refine hK _ _ ?_; clear hK K
      rw [← run_next]
      (try refine run_to ?_); (try refine run_end ?_)
      refine hN10 _ _ _ ?_; clear hN10
      refine reg_to ?_; (try refine run_end ?_)
      rw [e64]
      exact again ⟨i + 1, _, _, by omega, hc2, hr2, rfl, rfl, rfl, rfl⟩
    · have hc := of_decide_eq_false hc
      refine code_exit ?_; try simp only [Cont.then, Cont.block, Cont.noGoto, reduceIte, Nat.reduceEqDiff]
      refine hN7 _ _ _ ?_; clear hN7
      have hi2 : i = T.length / 64 := by omega
      subst hi2
      refine code_seq_k fun N11 hN11 => ?_
      refine reg_to ?_; (try refine run_end ?_)
      refine run_op fun K hK => ?_; refine calls_to (bytes_spec b3 _ _ _ _) ?_; rintro v A ⟨C7, a7, cap7, rfl, ho7, rfl⟩; (try simp only [List.nil_append, List.cons_append]); refine hK _ _ ?_; clear hK K
      (try refine run_to ?_); (try refine run_end ?_)
      refine hN11 _ _ _ ?_; clear hN11
      refine code_back ?_
      refine back_tmp ([C7, G, [(b, hashO s.list (.slice ar rest.length cr) n)], C]) ?_; exact ⟨_, _, _, rfl, ho7, rfl⟩

theorem b8_xor {P : Program} {t : TypeId} {x y : Operand} {b : UInt8} {κ : Value → Prop} : PureW P (do eqGuard .xor t x y (b8 b) (.int .u8 90); binOp .xor t (b8 b) (.int .u8 90)) κ = κ (b8 (UInt8.ofNat (b.toNat ^^^ 90))) :=
  pureW_eq (fun w => by
    show Result.ok (Value.int .u8 (IntKind.u8.wrap ((BitVec.ofInt 8 (b.toNat : Int) ^^^ BitVec.ofInt 8 90).toNat : Int))) w = _
    have h := b.toNat_lt
    have key : ∀ n : Fin 256, IntKind.u8.wrap ((BitVec.ofInt 8 (n.val : Int) ^^^ BitVec.ofInt 8 90).toNat : Int) = (((UInt8.ofNat (n.val ^^^ 90)).toNat : Nat) : Int) := by decide +kernel
    rw [key ⟨b.toNat, h⟩]; rfl) κ

/-- The bytes are turned in place. -/
theorem flip_spec (C : Chunk) (a : Option Addr) (cap : Nat) (bs : List UInt8) (hb : bs.length ≤ 1000000) (hw : Wr C a bs) :
    Meets Tryd.prog 15 [.slice a bs.length cap] [C] fun v A => v = .tuple #[] ∧ ∃ C', A = [C'] := by
  refine spec_intro Tryd.func15 rfl (by kernel_rfl) (by rw [Tryd.ntmps15]; simp) fun F => ?_; rw [Tryd.ntmps15, Tryd.results15]
  refine code_seq_k fun N1 hN1 => ?_
  refine reg_to ?_; (try refine run_end ?_)
  refine hN1 _ _ _ ?_; clear hN1
  refine code_block ?_
  refine code_loop (fun q D L S => ∃ (i : Nat) (C' : Chunk) (cs : List UInt8), i ≤ bs.length ∧ cs.length = bs.length ∧ Wr C' a cs ∧ q = bs.length - i ∧ D = [] ∧ L = [(5, .int .i64 i), (4, .int .i64 bs.length), (0, .slice a bs.length cap)] ∧ S = [C', F]) ?_ ?_
  · exact ⟨_, _, _, ⟨0, C, bs, by omega, rfl, hw, rfl, rfl, rfl, rfl⟩, by (repeat (first | exact True.intro | (refine And.intro ?_ ?_; (· (try simp only [evT, lookT_hit, lookT_miss, Nat.reduceBEq]); (first | done | exact rfl))))), by first | ((repeat (first | with_reducible exact Among.nil _ | with_reducible exact Pick.head _ _ | with_reducible apply Pick.tail | with_reducible apply Among.cons)); done) | ((repeat (first | exact Among.nil _ | exact Pick.head _ _ | apply Pick.tail | apply Among.cons)); done)⟩
  · rintro q D L S ⟨i, C', cs, hi, hcl, hw', rfl, rfl, rfl, rfl⟩
    have hrd : Rd 1 [C', F] a bs.length (cs.map b8) := by rw [← hcl]; exact hw'.rd.mem (List.mem_cons_self ..)
    refine code_seq_k fun N2 hN2 => ?_
    refine reg_to ?_; (try refine run_end ?_)
    refine hN2 _ _ _ ?_; clear hN2
    refine code_seq_k fun N3 hN3 => ?_
    refine code_if (fun hc => ?_) (fun hc => ?_)
    · have hc := of_decide_eq_true hc
      refine code_skip ?_
      refine hN3 _ _ _ ?_; clear hN3
      refine code_seq_k fun N4 hN4 => ?_
      refine code_block ?_
      refine code_seq_k fun N5 hN5 => ?_
      refine reg_to ?_; (try refine run_end ?_)
      refine hN5 _ _ _ ?_; clear hN5
      refine code_reg ?_; (repeat ((with_reducible refine run_cons fun K hK => ?_); (try simp only [gos, gob, Nat.reduceBEq, if_true, reduceIte, reduceCtorEq, Nat.reduceLT, Nat.reduceEqDiff, Nat.reduceAdd, Nat.reduceSub, Int.reduceLT, Int.reduceLE, Int.reduceBEq, Int.reduceBNe, Int.reduceToNat, Int.reduceAdd, Int.reduceSub, Int.reduceMul, Int.reduceDiv, Int.reduceMod, Int.reducePow, Int.toNat_natCast, Nat.sub_zero]); (try (simp (disch := omega) only [gow, gobw, index_rd hrd]; try simp only [gos, gob, Nat.reduceBEq, if_true, reduceIte, reduceCtorEq, Nat.reduceLT, Nat.reduceEqDiff, Nat.reduceAdd, Nat.reduceSub, Int.reduceLT, Int.reduceLE, Int.reduceBEq, Int.reduceBNe, Int.reduceToNat, Int.reduceAdd, Int.reduceSub, Int.reduceMul, Int.reduceDiv, Int.reduceMod, Int.reducePow, Int.toNat_natCast, Nat.sub_zero])); (first | (with_reducible refine hK _ _ ?_) | (refine rd_load8 hrd (by omega) ?_; (with_reducible refine hK _ _ ?_)) | ((with_reducible apply load_box); (· (repeat (first | with_reducible exact Lies.one | with_reducible apply Lies.next))); (with_reducible refine hK _ _ ?_)) | ((with_reducible apply load_one); (· (repeat (first | with_reducible exact Lies.one | with_reducible apply Lies.next))); (· exact rfl); (with_reducible refine hK _ _ ?_))); clear hK K)); try ((with_reducible refine run_nil ?_); try simp only [Cont.then, Cont.block, Cont.noGoto, reduceIte, Nat.reduceEqDiff])
      refine run_op fun K hK => ?_
      rw [b8_xor]
      refine hK _ _ ?_; clear hK K
      (repeat ((with_reducible refine run_cons fun K hK => ?_); (try simp only [gos, gob, Nat.reduceBEq, if_true, reduceIte, reduceCtorEq, Nat.reduceLT, Nat.reduceEqDiff, Nat.reduceAdd, Nat.reduceSub, Int.reduceLT, Int.reduceLE, Int.reduceBEq, Int.reduceBNe, Int.reduceToNat, Int.reduceAdd, Int.reduceSub, Int.reduceMul, Int.reduceDiv, Int.reduceMod, Int.reducePow, Int.toNat_natCast, Nat.sub_zero]); (try (simp (disch := omega) only [gow, gobw, index_rd hrd]; try simp only [gos, gob, Nat.reduceBEq, if_true, reduceIte, reduceCtorEq, Nat.reduceLT, Nat.reduceEqDiff, Nat.reduceAdd, Nat.reduceSub, Int.reduceLT, Int.reduceLE, Int.reduceBEq, Int.reduceBNe, Int.reduceToNat, Int.reduceAdd, Int.reduceSub, Int.reduceMul, Int.reduceDiv, Int.reduceMod, Int.reducePow, Int.toNat_natCast, Nat.sub_zero])); (first | (with_reducible refine hK _ _ ?_) | (refine rd_load8 hrd (by omega) ?_; (with_reducible refine hK _ _ ?_)) | ((with_reducible apply load_box); (· (repeat (first | with_reducible exact Lies.one | with_reducible apply Lies.next))); (with_reducible refine hK _ _ ?_)) | ((with_reducible apply load_one); (· (repeat (first | with_reducible exact Lies.one | with_reducible apply Lies.next))); (· exact rfl); (with_reducible refine hK _ _ ?_))); clear hK K)); try ((with_reducible refine run_nil ?_); try simp only [Cont.then, Cont.block, Cont.noGoto, reduceIte, Nat.reduceEqDiff])
      refine run_op fun K hK => ?_
      refine wr_store hw' (by (repeat (first | with_reducible exact Pick.head _ _ | with_reducible apply Pick.tail))) (by omega) (fun C2 hw2 => ?_)
      refine hK _ _ ?_; clear hK K
      (try refine run_to ?_); (try refine run_end ?_)
      refine hN4 _ _ _ ?_; clear hN4
      refine reg_to ?_; (try refine run_end ?_)
      exact again ⟨i + 1, C2, _, by omega, by rw [List.length_set]; exact hcl, hw2, rfl, rfl, rfl, rfl⟩
    · have hc := of_decide_eq_false hc
      refine code_exit ?_; try simp only [Cont.then, Cont.block, Cont.noGoto, reduceIte, Nat.reduceEqDiff]
      exact ret_none_n [C'] ⟨rfl, C', rfl⟩ (by first | ((repeat (first | with_reducible exact Among.nil _ | with_reducible exact Pick.head _ _ | with_reducible apply Pick.tail | with_reducible apply Among.cons)); done) | ((repeat (first | exact Among.nil _ | exact Pick.head _ _ | apply Pick.tail | apply Among.cons)); done))

end Go.Proofs.YtfihpbhdilldoaaDoor

/- A Hash that is copied. Conditions: as each says. -/
set_option linter.unusedSimpArgs false
set_option linter.unusedVariables false
namespace Go.Proofs.YtfihpbhdilldoaaDoor
open Go Go.Ost Go.Sha

theorem hcopy_spec (C : Chunk) (b n : Nat) (s : St) (ar : Option Addr) (cr : Nat) (rest : List UInt8) (hr : rest.length ≤ 1000000) (ho : Rd 1 [C] ar rest.length (rest.map b8)) :
    Meets Tryd.prog 34 [.pointer (some ⟨b, 0, none⟩)] [[(b, hashO s.list (.slice ar rest.length cr) n)], C]
      fun v A => ∃ b' C' a' c', v = .pointer (some ⟨b', 0, none⟩) ∧ Own8 5 C' a' rest.length c' rest ∧ A = [[(b', hashO s.list (.slice a' rest.length c') n)], C', [(b, hashO s.list (.slice ar rest.length cr) n)], C] := by
  refine spec_intro Tryd.func34 rfl (by kernel_rfl) (by rw [Tryd.ntmps34]; simp) fun F => ?_; rw [Tryd.ntmps34, Tryd.results34]
  refine code_seq_k fun N1 hN1 => ?_
  refine reg_to ?_; (try refine run_end ?_)
  refine hN1 _ _ _ ?_; clear hN1
  refine code_seq_k fun N2 hN2 => ?_
  refine code_seq_k fun N3 hN3 => ?_
  refine reg_to ?_; (try refine run_end ?_)
  refine hN3 _ _ _ ?_; clear hN3
  refine code_false (by (try simp only [evT, lookT_hit, lookT_miss, Nat.reduceBEq]); (first | done | exact rfl)) (code_skip ?_)
  refine hN2 _ _ _ ?_; clear hN2
  refine code_seq_k fun N5 hN5 => ?_
  refine reg_to ?_; (try refine run_end ?_)
  refine run_op fun K hK => ?_
  refine load_ra (l := s.list) (r := [.slice ar rest.length cr, .int .u64 n]) (by (repeat (first | with_reducible exact Lies.one | with_reducible apply Lies.next))) (show s.list.length + 2 = 10 from rfl) ?_
  refine hK _ _ ?_; clear hK K
  refine run_op fun K hK => ?_; refine alloc_new fun b3 => ?_; (try simp only [Value.cells]); refine hK _ _ ?_; clear hK K
  refine run_op fun K hK => ?_
  refine store_ra (l := List.replicate 8 0) (r := [.slice none 0 0, .int .u64 0]) (l' := s.list) (r' := [.slice ar rest.length cr, .int .u64 n]) (by simp [Value.cell1]) (by (repeat (first | exact Upd.one | apply Upd.next))) (show (List.replicate 8 (0 : W)).length + 2 = 10 from rfl) (show s.list.length + 2 = 10 from rfl) ?_
  refine hK _ _ ?_; clear hK K
  (try refine run_to ?_); (try refine run_end ?_)
  refine hN5 _ _ _ ?_; clear hN5
  refine code_seq_k fun N6 hN6 => ?_
  refine regh_to ?_; (try refine run_end ?_)
  refine run_op fun K hK => ?_; refine calls_to (clone_spec C ar cr rest (by omega) ho) ?_; rintro v A ⟨C4, a4, cap4, rfl, ho4, rfl⟩; (try simp only [List.nil_append, List.cons_append]); refine hK _ _ ?_; clear hK K
  (try refine runh_to ?_); (try refine run_end ?_)
  refine hN6 _ _ _ ?_; clear hN6
  refine code_seq_k fun N7 hN7 => ?_
  refine reg_to ?_; (try refine run_end ?_)
  refine hN7 _ _ _ ?_; clear hN7
  refine code_back ?_
  exact ret_tmp [[(b3, hashO s.list (.slice a4 rest.length cap4) n)], C4, [(b, hashO s.list (.slice ar rest.length cr) n)], C] (by (try simp only [evT, lookT_hit, lookT_miss, Nat.reduceBEq]); (first | done | exact rfl)) ⟨b3, C4, a4, cap4, rfl, ho4, rfl⟩ (by first | ((repeat (first | with_reducible exact Among.nil _ | with_reducible exact Pick.head _ _ | with_reducible apply Pick.tail | with_reducible apply Among.cons)); done) | ((repeat (first | exact Among.nil _ | exact Pick.head _ _ | apply Pick.tail | apply Among.cons)); done))

end Go.Proofs.YtfihpbhdilldoaaDoor

/- A Hash as the bytes that it has had. Conditions: as each says. -/
set_option linter.unusedSimpArgs false
set_option linter.unusedVariables false
namespace Go.Proofs.YtfihpbhdilldoaaDoor
open Go Go.Ost Go.Sha

/-- A Hash of these bytes. -/
def hashA (b : Nat) (all : List UInt8) (a : Option Addr) (c : Nat) : Chunk := [(b, hashO (Go.Sha.whole first all).list (.slice a (all.drop (64 * (all.length / 64))).length c) all.length)]
/-- What a Hash holds still. -/
def left (all : List UInt8) : List UInt8 := all.drop (64 * (all.length / 64))

theorem new2_spec {t0 : TypeId} (G : Chunk) (m0 : Nat × Nat) (hG0 : (0, Obj.cells (rowW first.list) t0 m0) ∈ G) : Meets Tryd.prog 50 [] [G] fun v A => ∃ b, v = .pointer (some ⟨b, 0, none⟩) ∧ A = [hashA b [] none 0, G] := new_spec G m0 hG0

theorem write2_spec {t1 : TypeId} (G C H : Chunk) (m1 : Nat × Nat) (hG1 : (1, Obj.cells (rowW odd) t1 m1) ∈ G) (b : Nat) (all : List UInt8) (ar ap : Option Addr) (cr cp : Nat) (p : List UInt8) (hn : all.length ≤ 1000000) (hp : p.length ≤ 1000000)
    (ho : Own8 5 C ar (left all).length cr (left all)) (h : Rd 1 [H] ap p.length (p.map b8)) :
    Meets Tryd.prog 33 [.pointer (some ⟨b, 0, none⟩), .slice ap p.length cp] [G, hashA b all ar cr, C, H]
      fun v A => v = .int .i64 p.length ∧ ∃ C' a' c', Own8 5 C' a' (left (all ++ p)).length c' (left (all ++ p)) ∧ A = [G, hashA b (all ++ p) a' c', C', H] := by
  have hW := write_spec G C H m1 hG1 b all.length (Go.Sha.whole first all) ar ap cr cp (left all) p (by omega) (by unfold left; rw [rest_len]; omega) hp ho h
  unfold left at hW
  rw [rest_on, ← whole_on, ← List.length_append] at hW
  exact hW

theorem hsum2_spec {t1 : TypeId} (G C : Chunk) (m1 : Nat × Nat) (hG1 : (1, Obj.cells (rowW odd) t1 m1) ∈ G) (b : Nat) (all : List UInt8) (ar : Option Addr) (cr : Nat) (hn : all.length ≤ 1000000) (ho : Rd 1 [C] ar (left all).length ((left all).map b8)) :
    Meets Tryd.prog 35 [.pointer (some ⟨b, 0, none⟩)] [G, hashA b all ar cr, C] (New8 5 (digest all) [G, hashA b all ar cr, C]) := by
  have h := hsum_spec G C m1 hG1 b all.length (Go.Sha.whole first all) ar cr (left all) (by omega) (by unfold left; rw [rest_len]; omega) (by have := pad_whole all.length; unfold left; rw [rest_len]; omega) ho
  unfold left at h
  rw [← whole_on] at h
  exact h

theorem hcopy2_spec (C : Chunk) (b : Nat) (all : List UInt8) (ar : Option Addr) (cr : Nat) (hn : all.length ≤ 1000000) (ho : Rd 1 [C] ar (left all).length ((left all).map b8)) :
    Meets Tryd.prog 34 [.pointer (some ⟨b, 0, none⟩)] [hashA b all ar cr, C]
      fun v A => ∃ b' C' a' c', v = .pointer (some ⟨b', 0, none⟩) ∧ Own8 5 C' a' (left all).length c' (left all) ∧ A = [hashA b' all a' c', C', hashA b all ar cr, C] :=
  hcopy_spec C b all.length (Go.Sha.whole first all) ar cr (left all) (by unfold left; rw [rest_len]; omega) ho

end Go.Proofs.YtfihpbhdilldoaaDoor

/- A Hash, and a sum that needs a key, each as one chunk. Conditions: as each says. -/
set_option linter.unusedSimpArgs false
set_option linter.unusedVariables false
namespace Go.Proofs.YtfihpbhdilldoaaDoor
open Go Go.Ost Go.Sha

/-- The chunk is a Hash of these bytes. -/
def IsHash (C : Chunk) (b : Nat) (all : List UInt8) : Prop := ∃ R a c, Own8 5 R a (left all).length c (left all) ∧ C = hashA b all a c ++ R

theorem newH {G : Chunk} (hg : Globs G) : Meets Tryd.prog 50 [] [G] fun v A => ∃ b C, v = .pointer (some ⟨b, 0, none⟩) ∧ IsHash C b [] ∧ A = [C, G] := by
  obtain ⟨⟨_, m0, h0⟩, ⟨_, m1, h1⟩⟩ := hg
  refine (new2_spec G m0 h0).perm (by simp) ?_
  rintro v A ⟨b, rfl, rfl⟩
  exact ⟨[hashA b [] none 0, G], List.Perm.refl _, b, _, rfl, ⟨[], none, 0, own_nil, by simp⟩, rfl⟩
theorem writeH {G : Chunk} (hg : Globs G) (C H : Chunk) (b : Nat) (all : List UInt8) (hC : IsHash C b all) (ap : Option Addr) (cp : Nat) (p : List UInt8) (hn : all.length ≤ 1000000) (hp : p.length ≤ 1000000) (h : Rd 1 [H] ap p.length (p.map b8)) :
    Meets Tryd.prog 33 [.pointer (some ⟨b, 0, none⟩), .slice ap p.length cp] [G, C, H]
      fun v A => v = .int .i64 p.length ∧ ∃ C', IsHash C' b (all ++ p) ∧ A = [G, C', H] := by
  obtain ⟨⟨_, m0, h0⟩, ⟨_, m1, h1⟩⟩ := hg
  obtain ⟨R, a, c, ho, rfl⟩ := hC
  refine (write2_spec G R H m1 h1 b all a ap c cp p hn hp ho h).perm (by simp) ?_
  rintro v A ⟨rfl, R', a', c', ho', rfl⟩
  exact ⟨[G, hashA b (all ++ p) a' c' ++ R', H], by simp, rfl, _, ⟨R', a', c', ho', rfl⟩, rfl⟩
theorem sumH {G : Chunk} (hg : Globs G) (C : Chunk) (b : Nat) (all : List UInt8) (hC : IsHash C b all) (hn : all.length ≤ 1000000) :
    Meets Tryd.prog 35 [.pointer (some ⟨b, 0, none⟩)] [G, C] (New8 5 (digest all) [G, C]) := by
  obtain ⟨⟨_, m0, h0⟩, ⟨_, m1, h1⟩⟩ := hg
  obtain ⟨R, a, c, ho, rfl⟩ := hC
  refine (hsum2_spec G R m1 h1 b all a c hn (ho.rd (by simp))).perm (by simp) ?_
  rintro v A ⟨D, a', c', rfl, ho', rfl⟩
  exact ⟨[D, G, hashA b all a c ++ R], by simp, D, a', c', rfl, ho', rfl⟩
theorem copyH (C : Chunk) (b : Nat) (all : List UInt8) (hC : IsHash C b all) (hn : all.length ≤ 1000000) :
    Meets Tryd.prog 34 [.pointer (some ⟨b, 0, none⟩)] [C] fun v A => ∃ b' C', v = .pointer (some ⟨b', 0, none⟩) ∧ IsHash C' b' all ∧ A = [C', C] := by
  obtain ⟨R, a, c, ho, rfl⟩ := hC
  refine (hcopy2_spec R b all a c hn (ho.rd (by simp))).perm (by simp) ?_
  rintro v A ⟨b', R', a', c', rfl, ho', rfl⟩
  exact ⟨[hashA b' all a' c' ++ R', hashA b all a c ++ R], by simp, b', _, rfl, ⟨R', a', c', ho', rfl⟩, rfl⟩

/-- The chunk is a sum that needs this key, of these bytes. -/
abbrev macO (bi bo bn : Nat) : Obj := .cells #[.pointer (some ⟨bi, 0, none⟩), .pointer (some ⟨bo, 0, none⟩), .pointer (some ⟨bn, 0, none⟩)] 50 (0, 0)
def IsMac (C : Chunk) (m : Nat) (key all : List UInt8) : Prop := ∃ bi bo bn Ci Co Cn, IsHash Ci bi (padK key 54) ∧ IsHash Co bo (padK key 92) ∧ IsHash Cn bn (padK key 54 ++ all) ∧ C = [(m, macO bi bo bn)] ++ (Ci ++ (Co ++ Cn))

instance : TPlaces Tryd.prog 50 [(0, 1), (1, 1), (2, 1)] := ⟨by kernel_rfl⟩

theorem begunH {G : Chunk} (hg : Globs G) (H : Chunk) (ap : Option Addr) (cp : Nat) (p : List UInt8) (hp : p.length ≤ 1000000) (h : Rd 1 [H] ap p.length (p.map b8)) :
    Meets Tryd.prog 32 [.slice ap p.length cp] [G, H] fun v A => ∃ b C, v = .pointer (some ⟨b, 0, none⟩) ∧ IsHash C b p ∧ A = [C, G, H] := by
  refine spec_intro Tryd.func32 rfl (by kernel_rfl) (by rw [Tryd.ntmps32]; simp) fun F => ?_; rw [Tryd.ntmps32, Tryd.results32]
  (repeat (first | (with_reducible refine then_n ?_) | (with_reducible refine then_r ?_) | (with_reducible refine then_e ?_) | (with_reducible refine block_n ?_) | (with_reducible refine block_r ?_) | (with_reducible refine block_e ?_) | refine block_o ?_ | (with_reducible refine scope_n ?_) | (with_reducible refine scope_r ?_) | (with_reducible refine scope_e ?_) | (with_reducible refine code_seq ?_) | (with_reducible refine code_skip ?_) | (with_reducible refine code_label ?_) | (with_reducible refine code_block ?_) | (with_reducible refine code_scope ?_) | (with_reducible refine code_exit ?_) | (with_reducible refine code_ret ?_) | refine reg_to ?_ | (with_reducible refine run_nil ?_) | ((with_reducible refine run_probe ?_); refine run_more ?_) | (with_reducible refine draw_nil ?_) | ((with_reducible refine draw_probe ?_); (first | refine draw_more ?_ | refine draw_as ?_)) | refine code_then ?_ | refine code_else ?_))
  refine run_op fun K hK => ?_; refine calls_to (newH hg) ?_; rintro v A ⟨b, C, rfl, hC, rfl⟩; (try simp only [List.nil_append, List.cons_append]); refine hK _ _ ?_; clear hK K; (repeat (first | (with_reducible refine then_n ?_) | (with_reducible refine then_r ?_) | (with_reducible refine then_e ?_) | (with_reducible refine block_n ?_) | (with_reducible refine block_r ?_) | (with_reducible refine block_e ?_) | refine block_o ?_ | (with_reducible refine scope_n ?_) | (with_reducible refine scope_r ?_) | (with_reducible refine scope_e ?_) | (with_reducible refine code_seq ?_) | (with_reducible refine code_skip ?_) | (with_reducible refine code_label ?_) | (with_reducible refine code_block ?_) | (with_reducible refine code_scope ?_) | (with_reducible refine code_exit ?_) | (with_reducible refine code_ret ?_) | refine reg_to ?_ | (with_reducible refine run_nil ?_) | ((with_reducible refine run_probe ?_); refine run_more ?_) | (with_reducible refine draw_nil ?_) | ((with_reducible refine draw_probe ?_); (first | refine draw_more ?_ | refine draw_as ?_)) | refine code_then ?_ | refine code_else ?_))
  refine run_op fun K hK => ?_; refine calls_to (writeH hg C H b [] hC ap cp p (by simp) hp h) ?_; rintro v A ⟨rfl, C', hC', rfl⟩; (try simp only [List.nil_append, List.cons_append]); refine hK _ _ ?_; clear hK K; (repeat (first | (with_reducible refine then_n ?_) | (with_reducible refine then_r ?_) | (with_reducible refine then_e ?_) | (with_reducible refine block_n ?_) | (with_reducible refine block_r ?_) | (with_reducible refine block_e ?_) | refine block_o ?_ | (with_reducible refine scope_n ?_) | (with_reducible refine scope_r ?_) | (with_reducible refine scope_e ?_) | (with_reducible refine code_seq ?_) | (with_reducible refine code_skip ?_) | (with_reducible refine code_label ?_) | (with_reducible refine code_block ?_) | (with_reducible refine code_scope ?_) | (with_reducible refine code_exit ?_) | (with_reducible refine code_ret ?_) | refine reg_to ?_ | (with_reducible refine run_nil ?_) | ((with_reducible refine run_probe ?_); refine run_more ?_) | (with_reducible refine draw_nil ?_) | ((with_reducible refine draw_probe ?_); (first | refine draw_more ?_ | refine draw_as ?_)) | refine code_then ?_ | refine code_else ?_))
  refine back_tmp [C', G, H] ?_
  exact ⟨b, C', rfl, hC', rfl⟩

theorem reset_nil : Meets Tryd.prog 18 [.pointer none] [] fun v A => A = [] := by
  refine spec_intro Tryd.func18 rfl (by kernel_rfl) (by rw [Tryd.ntmps18]; simp) fun F => ?_; rw [Tryd.ntmps18, Tryd.results18]
  (repeat (first | (with_reducible refine then_n ?_) | (with_reducible refine then_r ?_) | (with_reducible refine then_e ?_) | (with_reducible refine block_n ?_) | (with_reducible refine block_r ?_) | (with_reducible refine block_e ?_) | refine block_o ?_ | (with_reducible refine scope_n ?_) | (with_reducible refine scope_r ?_) | (with_reducible refine scope_e ?_) | (with_reducible refine code_seq ?_) | (with_reducible refine code_skip ?_) | (with_reducible refine code_label ?_) | (with_reducible refine code_block ?_) | (with_reducible refine code_scope ?_) | (with_reducible refine code_exit ?_) | (with_reducible refine code_ret ?_) | refine reg_to ?_ | (with_reducible refine run_nil ?_) | ((with_reducible refine run_probe ?_); refine run_more ?_) | (with_reducible refine draw_nil ?_) | ((with_reducible refine draw_probe ?_); (first | refine draw_more ?_ | refine draw_as ?_)) | refine code_then ?_ | refine code_else ?_))
  exact back_none_n [] rfl
theorem mwrite_nil (v : Value) : Meets Tryd.prog 16 [.pointer none, v] [] fun v A => v = .int .i64 0 ∧ A = [] := by
  refine spec_intro Tryd.func16 rfl (by kernel_rfl) (by rw [Tryd.ntmps16]; simp) fun F => ?_; rw [Tryd.ntmps16, Tryd.results16]
  (repeat (first | (with_reducible refine then_n ?_) | (with_reducible refine then_r ?_) | (with_reducible refine then_e ?_) | (with_reducible refine block_n ?_) | (with_reducible refine block_r ?_) | (with_reducible refine block_e ?_) | refine block_o ?_ | (with_reducible refine scope_n ?_) | (with_reducible refine scope_r ?_) | (with_reducible refine scope_e ?_) | (with_reducible refine code_seq ?_) | (with_reducible refine code_skip ?_) | (with_reducible refine code_label ?_) | (with_reducible refine code_block ?_) | (with_reducible refine code_scope ?_) | (with_reducible refine code_exit ?_) | (with_reducible refine code_ret ?_) | refine reg_to ?_ | (with_reducible refine run_nil ?_) | ((with_reducible refine run_probe ?_); refine run_more ?_) | (with_reducible refine draw_nil ?_) | ((with_reducible refine draw_probe ?_); (first | refine draw_more ?_ | refine draw_as ?_)) | refine code_then ?_ | refine code_else ?_))
  refine back_tmp [] ?_; exact ⟨rfl, rfl⟩
theorem msum_nil : Meets Tryd.prog 17 [.pointer none] [] fun v A => v = .slice none 0 0 ∧ A = [] := by
  refine spec_intro Tryd.func17 rfl (by kernel_rfl) (by rw [Tryd.ntmps17]; simp) fun F => ?_; rw [Tryd.ntmps17, Tryd.results17]
  (repeat (first | (with_reducible refine then_n ?_) | (with_reducible refine then_r ?_) | (with_reducible refine then_e ?_) | (with_reducible refine block_n ?_) | (with_reducible refine block_r ?_) | (with_reducible refine block_e ?_) | refine block_o ?_ | (with_reducible refine scope_n ?_) | (with_reducible refine scope_r ?_) | (with_reducible refine scope_e ?_) | (with_reducible refine code_seq ?_) | (with_reducible refine code_skip ?_) | (with_reducible refine code_label ?_) | (with_reducible refine code_block ?_) | (with_reducible refine code_scope ?_) | (with_reducible refine code_exit ?_) | (with_reducible refine code_ret ?_) | refine reg_to ?_ | (with_reducible refine run_nil ?_) | ((with_reducible refine run_probe ?_); refine run_more ?_) | (with_reducible refine draw_nil ?_) | ((with_reducible refine draw_probe ?_); (first | refine draw_more ?_ | refine draw_as ?_)) | refine code_then ?_ | refine code_else ?_))
  refine back_tmp [] ?_; exact ⟨rfl, rfl⟩

theorem reset_core (m bi bo : Nat) (vn : Value) (Ci : Chunk) (key : List UInt8) (hi : IsHash Ci bi (padK key 54)) :
    Meets Tryd.prog 18 [.pointer (some ⟨m, 0, none⟩)] [[(m, .cells #[.pointer (some ⟨bi, 0, none⟩), .pointer (some ⟨bo, 0, none⟩), vn] 50 (0, 0))], Ci] fun v A => ∃ b C, IsHash C b (padK key 54) ∧ A = [[(m, macO bi bo b)], Ci, C] := by
  refine spec_intro Tryd.func18 rfl (by kernel_rfl) (by rw [Tryd.ntmps18]; simp) fun F => ?_; rw [Tryd.ntmps18, Tryd.results18]
  (repeat (first | (with_reducible refine then_n ?_) | (with_reducible refine then_r ?_) | (with_reducible refine then_e ?_) | (with_reducible refine block_n ?_) | (with_reducible refine block_r ?_) | (with_reducible refine block_e ?_) | refine block_o ?_ | (with_reducible refine scope_n ?_) | (with_reducible refine scope_r ?_) | (with_reducible refine scope_e ?_) | (with_reducible refine code_seq ?_) | (with_reducible refine code_skip ?_) | (with_reducible refine code_label ?_) | (with_reducible refine code_block ?_) | (with_reducible refine code_scope ?_) | (with_reducible refine code_exit ?_) | (with_reducible refine code_ret ?_) | refine reg_to ?_ | (with_reducible refine run_nil ?_) | ((with_reducible refine run_probe ?_); refine run_more ?_) | (with_reducible refine draw_nil ?_) | ((with_reducible refine draw_probe ?_); (first | refine draw_more ?_ | refine draw_as ?_)) | refine code_then ?_ | refine code_else ?_))
  refine run_op fun K hK => ?_; refine calls_to (copyH Ci bi _ hi (by rw [padK_len]; decide)) ?_; rintro v A ⟨b', C', rfl, hC', rfl⟩; (try simp only [List.nil_append, List.cons_append]); refine hK _ _ ?_; clear hK K; (repeat (first | (with_reducible refine then_n ?_) | (with_reducible refine then_r ?_) | (with_reducible refine then_e ?_) | (with_reducible refine block_n ?_) | (with_reducible refine block_r ?_) | (with_reducible refine block_e ?_) | refine block_o ?_ | (with_reducible refine scope_n ?_) | (with_reducible refine scope_r ?_) | (with_reducible refine scope_e ?_) | (with_reducible refine code_seq ?_) | (with_reducible refine code_skip ?_) | (with_reducible refine code_label ?_) | (with_reducible refine code_block ?_) | (with_reducible refine code_scope ?_) | (with_reducible refine code_exit ?_) | (with_reducible refine code_ret ?_) | refine reg_to ?_ | (with_reducible refine run_nil ?_) | ((with_reducible refine run_probe ?_); refine run_more ?_) | (with_reducible refine draw_nil ?_) | ((with_reducible refine draw_probe ?_); (first | refine draw_more ?_ | refine draw_as ?_)) | refine code_then ?_ | refine code_else ?_))
  exact back_none_n [[(m, .cells #[.pointer (some ⟨bi, 0, none⟩), .pointer (some ⟨bo, 0, none⟩), .pointer (some ⟨b', 0, none⟩)] 50 (0, 0))], Ci, C'] ⟨b', C', hC', rfl⟩

theorem reset_spec (C : Chunk) (m : Nat) (key all : List UInt8) (hC : IsMac C m key all) :
    Meets Tryd.prog 18 [.pointer (some ⟨m, 0, none⟩)] [C] fun v A => ∃ C', IsMac C' m key [] ∧ A = [C'] := by
  obtain ⟨bi, bo, bn, Ci, Co, Cn, hi, ho, hn, rfl⟩ := hC
  refine Meets.conv [[(m, macO bi bo bn)], Ci, Co, Cn] (reset_core m bi bo (.pointer (some ⟨bn, 0, none⟩)) Ci key hi) (by simp only [List.flatten_cons, List.flatten_nil, List.append_assoc, List.append_nil]) (by (repeat (first | with_reducible exact Take.nil _ | with_reducible exact Pick.head _ _ | with_reducible apply Pick.tail | with_reducible apply Take.cons))) ?_; rintro v A ⟨b, C', hC', rfl⟩
  exact ⟨[[(m, macO bi bo b)] ++ (Ci ++ (Co ++ C'))], [[(m, macO bi bo b)], Ci, Co, C'], by simp only [List.flatten_cons, List.flatten_nil, List.append_assoc, List.append_nil], by first | ((repeat (first | with_reducible exact Among.nil _ | with_reducible exact Pick.head _ _ | with_reducible apply Pick.tail | with_reducible apply Among.cons)); done) | ((repeat (first | exact Among.nil _ | exact Pick.head _ _ | apply Pick.tail | apply Among.cons)); done), _, ⟨bi, bo, b, Ci, Co, C', hi, ho, by rw [List.append_nil]; exact hC', rfl⟩, rfl⟩

theorem mwrite_core {G : Chunk} (hg : Globs G) (m bi bo bn : Nat) (Cn H : Chunk) (all : List UInt8) (hn : IsHash Cn bn all) (ha : all.length ≤ 1000000) (ap : Option Addr) (cp : Nat) (p : List UInt8) (hp : p.length ≤ 1000000) (h : Rd 1 [H] ap p.length (p.map b8)) :
    Meets Tryd.prog 16 [.pointer (some ⟨m, 0, none⟩), .slice ap p.length cp] [G, [(m, macO bi bo bn)], Cn, H] fun v A => v = .int .i64 p.length ∧ ∃ C, IsHash C bn (all ++ p) ∧ A = [G, [(m, macO bi bo bn)], C, H] := by
  unfold macO
  refine spec_intro Tryd.func16 rfl (by kernel_rfl) (by rw [Tryd.ntmps16]; simp) fun F => ?_; rw [Tryd.ntmps16, Tryd.results16]
  (repeat (first | (with_reducible refine then_n ?_) | (with_reducible refine then_r ?_) | (with_reducible refine then_e ?_) | (with_reducible refine block_n ?_) | (with_reducible refine block_r ?_) | (with_reducible refine block_e ?_) | refine block_o ?_ | (with_reducible refine scope_n ?_) | (with_reducible refine scope_r ?_) | (with_reducible refine scope_e ?_) | (with_reducible refine code_seq ?_) | (with_reducible refine code_skip ?_) | (with_reducible refine code_label ?_) | (with_reducible refine code_block ?_) | (with_reducible refine code_scope ?_) | (with_reducible refine code_exit ?_) | (with_reducible refine code_ret ?_) | refine reg_to ?_ | (with_reducible refine run_nil ?_) | ((with_reducible refine run_probe ?_); refine run_more ?_) | (with_reducible refine draw_nil ?_) | ((with_reducible refine draw_probe ?_); (first | refine draw_more ?_ | refine draw_as ?_)) | refine code_then ?_ | refine code_else ?_))
  refine run_op fun K hK => ?_; refine calls_to (writeH hg Cn H bn all hn ap cp p ha hp h) ?_; rintro v A ⟨rfl, C', hC', rfl⟩; (try simp only [List.nil_append, List.cons_append]); refine hK _ _ ?_; clear hK K; (repeat (first | (with_reducible refine then_n ?_) | (with_reducible refine then_r ?_) | (with_reducible refine then_e ?_) | (with_reducible refine block_n ?_) | (with_reducible refine block_r ?_) | (with_reducible refine block_e ?_) | refine block_o ?_ | (with_reducible refine scope_n ?_) | (with_reducible refine scope_r ?_) | (with_reducible refine scope_e ?_) | (with_reducible refine code_seq ?_) | (with_reducible refine code_skip ?_) | (with_reducible refine code_label ?_) | (with_reducible refine code_block ?_) | (with_reducible refine code_scope ?_) | (with_reducible refine code_exit ?_) | (with_reducible refine code_ret ?_) | refine reg_to ?_ | (with_reducible refine run_nil ?_) | ((with_reducible refine run_probe ?_); refine run_more ?_) | (with_reducible refine draw_nil ?_) | ((with_reducible refine draw_probe ?_); (first | refine draw_more ?_ | refine draw_as ?_)) | refine code_then ?_ | refine code_else ?_))
  refine back_tmp [G, [(m, .cells #[.pointer (some ⟨bi, 0, none⟩), .pointer (some ⟨bo, 0, none⟩), .pointer (some ⟨bn, 0, none⟩)] 50 (0, 0))], C', H] ?_
  exact ⟨rfl, C', hC', rfl⟩
theorem mwrite_spec {G : Chunk} (hg : Globs G) (C H : Chunk) (m : Nat) (key all : List UInt8) (hC : IsMac C m key all) (ha : all.length ≤ 900000) (ap : Option Addr) (cp : Nat) (p : List UInt8) (hp : p.length ≤ 1000000) (h : Rd 1 [H] ap p.length (p.map b8)) :
    Meets Tryd.prog 16 [.pointer (some ⟨m, 0, none⟩), .slice ap p.length cp] [G, C, H] fun v A => v = .int .i64 p.length ∧ ∃ C', IsMac C' m key (all ++ p) ∧ A = [G, C', H] := by
  obtain ⟨bi, bo, bn, Ci, Co, Cn, hi, ho, hn, rfl⟩ := hC
  refine Meets.conv [G, [(m, macO bi bo bn)], Ci, Co, Cn, H] (mwrite_core hg m bi bo bn Cn H _ hn (by rw [List.length_append, padK_len]; omega) ap cp p hp h) (by simp only [List.flatten_cons, List.flatten_nil, List.append_assoc, List.append_nil]) (by (repeat (first | with_reducible exact Take.nil _ | with_reducible exact Pick.head _ _ | with_reducible apply Pick.tail | with_reducible apply Take.cons))) ?_; rintro v A ⟨rfl, C', hC', rfl⟩
  exact ⟨[G, [(m, macO bi bo bn)] ++ (Ci ++ (Co ++ C')), H], [G, [(m, macO bi bo bn)], Ci, Co, C', H], by simp only [List.flatten_cons, List.flatten_nil, List.append_assoc, List.append_nil], by first | ((repeat (first | with_reducible exact Among.nil _ | with_reducible exact Pick.head _ _ | with_reducible apply Pick.tail | with_reducible apply Among.cons)); done) | ((repeat (first | exact Among.nil _ | exact Pick.head _ _ | apply Pick.tail | apply Among.cons)); done), rfl, _, ⟨bi, bo, bn, Ci, Co, C', hi, ho, by rw [← List.append_assoc]; exact hC', rfl⟩, rfl⟩

theorem msum_core {G : Chunk} (hg : Globs G) (m bi bo bn : Nat) (Co Cn : Chunk) (key all : List UInt8) (ho : IsHash Co bo (padK key 92)) (hn : IsHash Cn bn all) (ha : all.length ≤ 1000000) :
    Meets Tryd.prog 17 [.pointer (some ⟨m, 0, none⟩)] [G, [(m, macO bi bo bn)], Co, Cn] (New8 5 (digest (padK key 92 ++ digest all)) [G, [(m, macO bi bo bn)], Co, Cn]) := by
  have hpl : ∀ x, (padK key x).length = 64 := padK_len key
  have hd : ∀ m, (digest m).length = 32 := digest_len
  unfold macO
  refine spec_intro Tryd.func17 rfl (by kernel_rfl) (by rw [Tryd.ntmps17]; simp) fun F => ?_; rw [Tryd.ntmps17, Tryd.results17]
  (repeat (first | (with_reducible refine then_n ?_) | (with_reducible refine then_r ?_) | (with_reducible refine then_e ?_) | (with_reducible refine block_n ?_) | (with_reducible refine block_r ?_) | (with_reducible refine block_e ?_) | refine block_o ?_ | (with_reducible refine scope_n ?_) | (with_reducible refine scope_r ?_) | (with_reducible refine scope_e ?_) | (with_reducible refine code_seq ?_) | (with_reducible refine code_skip ?_) | (with_reducible refine code_label ?_) | (with_reducible refine code_block ?_) | (with_reducible refine code_scope ?_) | (with_reducible refine code_exit ?_) | (with_reducible refine code_ret ?_) | refine reg_to ?_ | (with_reducible refine run_nil ?_) | ((with_reducible refine run_probe ?_); refine run_more ?_) | (with_reducible refine draw_nil ?_) | ((with_reducible refine draw_probe ?_); (first | refine draw_more ?_ | refine draw_as ?_)) | refine code_then ?_ | refine code_else ?_))
  refine run_op fun K hK => ?_; refine calls_to (copyH Co bo _ ho (by rw [padK_len]; decide)) ?_; rintro v A ⟨b', C', rfl, hC', rfl⟩; (try simp only [List.nil_append, List.cons_append]); refine hK _ _ ?_; clear hK K; (repeat (first | (with_reducible refine then_n ?_) | (with_reducible refine then_r ?_) | (with_reducible refine then_e ?_) | (with_reducible refine block_n ?_) | (with_reducible refine block_r ?_) | (with_reducible refine block_e ?_) | refine block_o ?_ | (with_reducible refine scope_n ?_) | (with_reducible refine scope_r ?_) | (with_reducible refine scope_e ?_) | (with_reducible refine code_seq ?_) | (with_reducible refine code_skip ?_) | (with_reducible refine code_label ?_) | (with_reducible refine code_block ?_) | (with_reducible refine code_scope ?_) | (with_reducible refine code_exit ?_) | (with_reducible refine code_ret ?_) | refine reg_to ?_ | (with_reducible refine run_nil ?_) | ((with_reducible refine run_probe ?_); refine run_more ?_) | (with_reducible refine draw_nil ?_) | ((with_reducible refine draw_probe ?_); (first | refine draw_more ?_ | refine draw_as ?_)) | refine code_then ?_ | refine code_else ?_))
  refine run_op fun K hK => ?_; refine calls_to (sumH hg Cn bn _ hn ha) ?_; rintro v A ⟨C2, a2, c2, rfl, ho2, rfl⟩; (try simp only [List.nil_append, List.cons_append]); refine hK _ _ ?_; clear hK K; (repeat (first | (with_reducible refine then_n ?_) | (with_reducible refine then_r ?_) | (with_reducible refine then_e ?_) | (with_reducible refine block_n ?_) | (with_reducible refine block_r ?_) | (with_reducible refine block_e ?_) | refine block_o ?_ | (with_reducible refine scope_n ?_) | (with_reducible refine scope_r ?_) | (with_reducible refine scope_e ?_) | (with_reducible refine code_seq ?_) | (with_reducible refine code_skip ?_) | (with_reducible refine code_label ?_) | (with_reducible refine code_block ?_) | (with_reducible refine code_scope ?_) | (with_reducible refine code_exit ?_) | (with_reducible refine code_ret ?_) | refine reg_to ?_ | (with_reducible refine run_nil ?_) | ((with_reducible refine run_probe ?_); refine run_more ?_) | (with_reducible refine draw_nil ?_) | ((with_reducible refine draw_probe ?_); (first | refine draw_more ?_ | refine draw_as ?_)) | refine code_then ?_ | refine code_else ?_))
  refine run_op fun K hK => ?_; refine calls_to (writeH hg C' C2 b' _ hC' a2 c2 (digest all) (by rw [hpl]; decide) (by rw [hd]; decide) (ho2.rd (by simp))) ?_; rintro v A ⟨rfl, C3, hC3, rfl⟩; (try simp only [List.nil_append, List.cons_append]); refine hK _ _ ?_; clear hK K; (repeat (first | (with_reducible refine then_n ?_) | (with_reducible refine then_r ?_) | (with_reducible refine then_e ?_) | (with_reducible refine block_n ?_) | (with_reducible refine block_r ?_) | (with_reducible refine block_e ?_) | refine block_o ?_ | (with_reducible refine scope_n ?_) | (with_reducible refine scope_r ?_) | (with_reducible refine scope_e ?_) | (with_reducible refine code_seq ?_) | (with_reducible refine code_skip ?_) | (with_reducible refine code_label ?_) | (with_reducible refine code_block ?_) | (with_reducible refine code_scope ?_) | (with_reducible refine code_exit ?_) | (with_reducible refine code_ret ?_) | refine reg_to ?_ | (with_reducible refine run_nil ?_) | ((with_reducible refine run_probe ?_); refine run_more ?_) | (with_reducible refine draw_nil ?_) | ((with_reducible refine draw_probe ?_); (first | refine draw_more ?_ | refine draw_as ?_)) | refine code_then ?_ | refine code_else ?_))
  refine run_op fun K hK => ?_; refine calls_to (sumH hg C3 b' _ hC3 (by rw [List.length_append, hpl, hd]; decide)) ?_; rintro v A ⟨C4, a4, c4, rfl, ho4, rfl⟩; (try simp only [List.nil_append, List.cons_append]); refine hK _ _ ?_; clear hK K; (repeat (first | (with_reducible refine then_n ?_) | (with_reducible refine then_r ?_) | (with_reducible refine then_e ?_) | (with_reducible refine block_n ?_) | (with_reducible refine block_r ?_) | (with_reducible refine block_e ?_) | refine block_o ?_ | (with_reducible refine scope_n ?_) | (with_reducible refine scope_r ?_) | (with_reducible refine scope_e ?_) | (with_reducible refine code_seq ?_) | (with_reducible refine code_skip ?_) | (with_reducible refine code_label ?_) | (with_reducible refine code_block ?_) | (with_reducible refine code_scope ?_) | (with_reducible refine code_exit ?_) | (with_reducible refine code_ret ?_) | refine reg_to ?_ | (with_reducible refine run_nil ?_) | ((with_reducible refine run_probe ?_); refine run_more ?_) | (with_reducible refine draw_nil ?_) | ((with_reducible refine draw_probe ?_); (first | refine draw_more ?_ | refine draw_as ?_)) | refine code_then ?_ | refine code_else ?_))
  refine back_tmp [C4, G, [(m, .cells #[.pointer (some ⟨bi, 0, none⟩), .pointer (some ⟨bo, 0, none⟩), .pointer (some ⟨bn, 0, none⟩)] 50 (0, 0))], Co, Cn] ?_
  exact ⟨C4, a4, c4, rfl, ho4, rfl⟩
theorem msum_spec {G : Chunk} (hg : Globs G) (C : Chunk) (m : Nat) (key all : List UInt8) (hC : IsMac C m key all) (ha : all.length ≤ 900000) :
    Meets Tryd.prog 17 [.pointer (some ⟨m, 0, none⟩)] [G, C] (New8 5 (mac key all) [G, C]) := by
  obtain ⟨bi, bo, bn, Ci, Co, Cn, hi, ho, hn, rfl⟩ := hC
  refine Meets.conv [G, [(m, macO bi bo bn)], Ci, Co, Cn] (msum_core hg m bi bo bn Co Cn key _ ho hn (by rw [List.length_append, padK_len]; omega)) (by simp only [List.flatten_cons, List.flatten_nil, List.append_assoc, List.append_nil]) (by (repeat (first | with_reducible exact Take.nil _ | with_reducible exact Pick.head _ _ | with_reducible apply Pick.tail | with_reducible apply Take.cons))) ?_; rintro v A ⟨D, a, c, rfl, hD, rfl⟩
  exact ⟨[D, G, [(m, macO bi bo bn)] ++ (Ci ++ (Co ++ Cn))], [D, G, [(m, macO bi bo bn)], Ci, Co, Cn], by simp only [List.flatten_cons, List.flatten_nil, List.append_assoc, List.append_nil], by first | ((repeat (first | with_reducible exact Among.nil _ | with_reducible exact Pick.head _ _ | with_reducible apply Pick.tail | with_reducible apply Among.cons)); done) | ((repeat (first | exact Among.nil _ | exact Pick.head _ _ | apply Pick.tail | apply Among.cons)); done), D, a, c, rfl, hD, rfl⟩

theorem mnew_core {G : Chunk} (hg : Globs G) (H : Chunk) (a : Option Addr) (cap : Nat) (key : List UInt8) (hk : key.length ≤ 100000) (hcap : key.length ≤ cap) (h : Rd 1 [H] a key.length (key.map b8)) :
    Meets Tryd.prog 14 [.slice a key.length cap] [G, H] fun v A => ∃ m bi bo bn Ci Co Cn, v = .pointer (some ⟨m, 0, none⟩) ∧ IsHash Ci bi (padK key 54) ∧ IsHash Co bo (padK key 92) ∧ IsHash Cn bn (padK key 54) ∧ A = [[(m, macO bi bo bn)], Ci, Co, Cn, G, H] := by
  have hpl : ∀ x, (padK key x).length = 64 := padK_len key
  refine spec_intro Tryd.func14 rfl (by kernel_rfl) (by rw [Tryd.ntmps14]; simp) fun F => ?_; rw [Tryd.ntmps14, Tryd.results14]
  (repeat (first | (with_reducible refine then_n ?_) | (with_reducible refine then_r ?_) | (with_reducible refine then_e ?_) | (with_reducible refine block_n ?_) | (with_reducible refine block_r ?_) | (with_reducible refine block_e ?_) | refine block_o ?_ | (with_reducible refine scope_n ?_) | (with_reducible refine scope_r ?_) | (with_reducible refine scope_e ?_) | (with_reducible refine code_seq ?_) | (with_reducible refine code_skip ?_) | (with_reducible refine code_label ?_) | (with_reducible refine code_block ?_) | (with_reducible refine code_scope ?_) | (with_reducible refine code_exit ?_) | (with_reducible refine code_ret ?_) | refine reg_to ?_ | (with_reducible refine run_nil ?_) | ((with_reducible refine run_probe ?_); refine run_more ?_) | (with_reducible refine draw_nil ?_) | ((with_reducible refine draw_probe ?_); (first | refine draw_more ?_ | refine draw_as ?_)) | refine code_then ?_ | refine code_else ?_))
  refine run_op fun K hK => ?_; refine calls_to (padS hg H a cap key hk hcap h 54) ?_; rintro v A ⟨C1, a1, c1, rfl, ho1, rfl⟩; (try simp only [List.nil_append, List.cons_append]); refine hK _ _ ?_; clear hK K; (repeat (first | (with_reducible refine then_n ?_) | (with_reducible refine then_r ?_) | (with_reducible refine then_e ?_) | (with_reducible refine block_n ?_) | (with_reducible refine block_r ?_) | (with_reducible refine block_e ?_) | refine block_o ?_ | (with_reducible refine scope_n ?_) | (with_reducible refine scope_r ?_) | (with_reducible refine scope_e ?_) | (with_reducible refine code_seq ?_) | (with_reducible refine code_skip ?_) | (with_reducible refine code_label ?_) | (with_reducible refine code_block ?_) | (with_reducible refine code_scope ?_) | (with_reducible refine code_exit ?_) | (with_reducible refine code_ret ?_) | refine reg_to ?_ | (with_reducible refine run_nil ?_) | ((with_reducible refine run_probe ?_); refine run_more ?_) | (with_reducible refine draw_nil ?_) | ((with_reducible refine draw_probe ?_); (first | refine draw_more ?_ | refine draw_as ?_)) | refine code_then ?_ | refine code_else ?_))
  refine run_op fun K hK => ?_; refine calls_to (begunH hg C1 a1 c1 _ (by rw [hpl]; decide) (ho1.rd (by simp))) ?_; rintro v A ⟨bi, Ci, rfl, hi, rfl⟩; (try simp only [List.nil_append, List.cons_append]); refine hK _ _ ?_; clear hK K; (repeat (first | (with_reducible refine then_n ?_) | (with_reducible refine then_r ?_) | (with_reducible refine then_e ?_) | (with_reducible refine block_n ?_) | (with_reducible refine block_r ?_) | (with_reducible refine block_e ?_) | refine block_o ?_ | (with_reducible refine scope_n ?_) | (with_reducible refine scope_r ?_) | (with_reducible refine scope_e ?_) | (with_reducible refine code_seq ?_) | (with_reducible refine code_skip ?_) | (with_reducible refine code_label ?_) | (with_reducible refine code_block ?_) | (with_reducible refine code_scope ?_) | (with_reducible refine code_exit ?_) | (with_reducible refine code_ret ?_) | refine reg_to ?_ | (with_reducible refine run_nil ?_) | ((with_reducible refine run_probe ?_); refine run_more ?_) | (with_reducible refine draw_nil ?_) | ((with_reducible refine draw_probe ?_); (first | refine draw_more ?_ | refine draw_as ?_)) | refine code_then ?_ | refine code_else ?_))
  refine run_op fun K hK => ?_; refine calls_to (padS hg H a cap key hk hcap h 92) ?_; rintro v A ⟨C2, a2, c2, rfl, ho2, rfl⟩; (try simp only [List.nil_append, List.cons_append]); refine hK _ _ ?_; clear hK K; (repeat (first | (with_reducible refine then_n ?_) | (with_reducible refine then_r ?_) | (with_reducible refine then_e ?_) | (with_reducible refine block_n ?_) | (with_reducible refine block_r ?_) | (with_reducible refine block_e ?_) | refine block_o ?_ | (with_reducible refine scope_n ?_) | (with_reducible refine scope_r ?_) | (with_reducible refine scope_e ?_) | (with_reducible refine code_seq ?_) | (with_reducible refine code_skip ?_) | (with_reducible refine code_label ?_) | (with_reducible refine code_block ?_) | (with_reducible refine code_scope ?_) | (with_reducible refine code_exit ?_) | (with_reducible refine code_ret ?_) | refine reg_to ?_ | (with_reducible refine run_nil ?_) | ((with_reducible refine run_probe ?_); refine run_more ?_) | (with_reducible refine draw_nil ?_) | ((with_reducible refine draw_probe ?_); (first | refine draw_more ?_ | refine draw_as ?_)) | refine code_then ?_ | refine code_else ?_))
  refine run_op fun K hK => ?_; refine calls_to (begunH hg C2 a2 c2 _ (by rw [hpl]; decide) (ho2.rd (by simp))) ?_; rintro v A ⟨bo, Co, rfl, ho, rfl⟩; (try simp only [List.nil_append, List.cons_append]); refine hK _ _ ?_; clear hK K; (repeat (first | (with_reducible refine then_n ?_) | (with_reducible refine then_r ?_) | (with_reducible refine then_e ?_) | (with_reducible refine block_n ?_) | (with_reducible refine block_r ?_) | (with_reducible refine block_e ?_) | refine block_o ?_ | (with_reducible refine scope_n ?_) | (with_reducible refine scope_r ?_) | (with_reducible refine scope_e ?_) | (with_reducible refine code_seq ?_) | (with_reducible refine code_skip ?_) | (with_reducible refine code_label ?_) | (with_reducible refine code_block ?_) | (with_reducible refine code_scope ?_) | (with_reducible refine code_exit ?_) | (with_reducible refine code_ret ?_) | refine reg_to ?_ | (with_reducible refine run_nil ?_) | ((with_reducible refine run_probe ?_); refine run_more ?_) | (with_reducible refine draw_nil ?_) | ((with_reducible refine draw_probe ?_); (first | refine draw_more ?_ | refine draw_as ?_)) | refine code_then ?_ | refine code_else ?_))
  refine run_op fun K hK => ?_; rw [build_struct (ps := [(0, .pointer (some ⟨bi, 0, none⟩)), (1, .pointer (some ⟨bo, 0, none⟩))]) (cs := #[.pointer (some ⟨bi, 0, none⟩), .pointer (some ⟨bo, 0, none⟩), .pointer none]) rfl]; refine hK _ _ ?_; clear hK K
  refine run_op fun K hK => ?_; refine box_new fun m => ?_; (try simp only [Value.cells]); refine hK _ _ ?_; clear hK K
  (repeat (first | (with_reducible refine then_n ?_) | (with_reducible refine then_r ?_) | (with_reducible refine then_e ?_) | (with_reducible refine block_n ?_) | (with_reducible refine block_r ?_) | (with_reducible refine block_e ?_) | refine block_o ?_ | (with_reducible refine scope_n ?_) | (with_reducible refine scope_r ?_) | (with_reducible refine scope_e ?_) | (with_reducible refine code_seq ?_) | (with_reducible refine code_skip ?_) | (with_reducible refine code_label ?_) | (with_reducible refine code_block ?_) | (with_reducible refine code_scope ?_) | (with_reducible refine code_exit ?_) | (with_reducible refine code_ret ?_) | refine reg_to ?_ | (with_reducible refine run_nil ?_) | ((with_reducible refine run_probe ?_); refine run_more ?_) | (with_reducible refine draw_nil ?_) | ((with_reducible refine draw_probe ?_); (first | refine draw_more ?_ | refine draw_as ?_)) | refine code_then ?_ | refine code_else ?_))
  refine run_op fun K hK => ?_; refine calls_to (reset_core m bi bo (.pointer none) Ci key hi) ?_; rintro v A ⟨bn, Cn, hn, rfl⟩; (try simp only [List.nil_append, List.cons_append]); refine hK _ _ ?_; clear hK K; (repeat (first | (with_reducible refine then_n ?_) | (with_reducible refine then_r ?_) | (with_reducible refine then_e ?_) | (with_reducible refine block_n ?_) | (with_reducible refine block_r ?_) | (with_reducible refine block_e ?_) | refine block_o ?_ | (with_reducible refine scope_n ?_) | (with_reducible refine scope_r ?_) | (with_reducible refine scope_e ?_) | (with_reducible refine code_seq ?_) | (with_reducible refine code_skip ?_) | (with_reducible refine code_label ?_) | (with_reducible refine code_block ?_) | (with_reducible refine code_scope ?_) | (with_reducible refine code_exit ?_) | (with_reducible refine code_ret ?_) | refine reg_to ?_ | (with_reducible refine run_nil ?_) | ((with_reducible refine run_probe ?_); refine run_more ?_) | (with_reducible refine draw_nil ?_) | ((with_reducible refine draw_probe ?_); (first | refine draw_more ?_ | refine draw_as ?_)) | refine code_then ?_ | refine code_else ?_))
  refine back_tmp [[(m, macO bi bo bn)], Ci, Co, Cn, G, H] ?_
  exact ⟨m, bi, bo, bn, Ci, Co, Cn, rfl, hi, ho, hn, rfl⟩
theorem mnew_spec {G : Chunk} (hg : Globs G) (H : Chunk) (a : Option Addr) (cap : Nat) (key : List UInt8) (hk : key.length ≤ 100000) (hcap : key.length ≤ cap) (h : Rd 1 [H] a key.length (key.map b8)) :
    Meets Tryd.prog 14 [.slice a key.length cap] [G, H] fun v A => ∃ m C, v = .pointer (some ⟨m, 0, none⟩) ∧ IsMac C m key [] ∧ A = [C, G, H] := by
  refine Meets.conv [G, H] (mnew_core hg H a cap key hk hcap h) (by simp only [List.flatten_cons, List.flatten_nil, List.append_assoc, List.append_nil]) (by (repeat (first | with_reducible exact Take.nil _ | with_reducible exact Pick.head _ _ | with_reducible apply Pick.tail | with_reducible apply Take.cons))) ?_; rintro v A ⟨m, bi, bo, bn, Ci, Co, Cn, rfl, hi, ho, hn, rfl⟩
  exact ⟨[[(m, macO bi bo bn)] ++ (Ci ++ (Co ++ Cn)), G, H], [[(m, macO bi bo bn)], Ci, Co, Cn, G, H], by simp only [List.flatten_cons, List.flatten_nil, List.append_assoc, List.append_nil], by first | ((repeat (first | with_reducible exact Among.nil _ | with_reducible exact Pick.head _ _ | with_reducible apply Pick.tail | with_reducible apply Among.cons)); done) | ((repeat (first | exact Among.nil _ | exact Pick.head _ _ | apply Pick.tail | apply Among.cons)); done), m, _, rfl, ⟨bi, bo, bn, Ci, Co, Cn, hi, ho, by rw [List.append_nil]; exact hn, rfl⟩, rfl⟩

end Go.Proofs.YtfihpbhdilldoaaDoor
