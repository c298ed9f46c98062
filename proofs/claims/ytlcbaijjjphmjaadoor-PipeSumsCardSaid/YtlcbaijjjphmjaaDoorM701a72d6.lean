/- Texts in a row: the walk's rules and contracts, as each says. Conditions: as each says. -/
import Derived.Test.YtlcbaijjjphmjaaDoorM9470cb16
import Derived.Test.YtlcbaijjjphmjaaDoorMfb942b17
/- Bytes of words and of numbers. Conditions: as each says. -/
set_option linter.unusedSimpArgs false
set_option linter.unusedVariables false
namespace Go.Proofs.YtlcbaijjjphmjaaDoor
open Go Go.Ost Go.Sha

theorem bytes_spec (b e : Nat) (m : Nat × Nat) (s : St) (r : List Value) :
    Meets Tryd.prog 44 [.pointer (some ⟨b, 0, none⟩)] [[(b, .cells (rowX s.list r) e m)]] (New8 5 s.bytes [[(b, .cells (rowX s.list r) e m)]]) := by
  refine spec_intro Tryd.func44 rfl (by kernel_rfl) (by rw [Tryd.ntmps44]; simp) fun F => ?_; rw [Tryd.ntmps44, Tryd.results44]
  refine code_seq_k fun N1 hN1 => ?_
  refine reg_to ?_; (try refine run_end ?_)
  refine hN1 _ _ _ ?_; clear hN1
  refine code_seq_k fun N2 hN2 => ?_
  refine reg_to ?_; (try refine run_end ?_)
  refine hN2 _ _ _ ?_; clear hN2
  refine code_seq_k fun N3 hN3 => ?_
  refine code_seq_k fun N4 hN4 => ?_
  refine reg_to ?_; (try refine run_end ?_)
  refine hN4 _ _ _ ?_; clear hN4
  refine code_block ?_
  refine code_nil ?_
  refine code_loop (fun q D L S => ∃ (i : Nat) (C : Chunk) (a : Option Addr) (cap : Nat), i ≤ 8 ∧ Own8 5 C a (4 * i) cap ((s.list.take i).flatMap bytes4) ∧ q = 8 - i ∧ D = [] ∧ L = [(7, .int .i64 i), (6, .pointer (some ⟨b, 0, none⟩)), (3, .slice a (4 * i) cap)] ∧ S = [C, F, [(b, .cells (rowX s.list r) e m)]]) ?_ ?_
  · exact ⟨_, _, _, ⟨0, [], none, 0, by omega, own_nil, rfl, rfl, rfl, rfl⟩, by (repeat (first | exact True.intro | (refine And.intro ?_ ?_; (· (try simp only [evT, lookT_hit, lookT_miss, Nat.reduceBEq]); (first | done | exact rfl))))), by first | ((repeat (first | with_reducible exact Among.nil _ | with_reducible exact Pick.head _ _ | with_reducible apply Pick.tail | with_reducible apply Among.cons)); done) | ((repeat (first | exact Among.nil _ | exact Pick.head _ _ | apply Pick.tail | apply Among.cons)); done)⟩
  · rintro q D L S ⟨i, C, a, cap, hi, ho, rfl, rfl, rfl, rfl⟩
    refine code_seq_k fun N5 hN5 => ?_
    refine reg_to ?_; (try refine run_end ?_)
    refine hN5 _ _ _ ?_; clear hN5
    refine code_seq_k fun N6 hN6 => ?_
    refine code_if (fun hc => ?_) (fun hc => ?_)
    · have hc := of_decide_eq_true hc
      refine code_skip ?_
      refine hN6 _ _ _ ?_; clear hN6
      refine code_seq_k fun N7 hN7 => ?_
      refine code_block ?_
      refine code_seq_k fun N8 hN8 => ?_
      refine regv_to ?_; (try refine run_end ?_)
      refine hN8 _ _ _ ?_; clear hN8
      refine reg_to ?_; (try refine run_end ?_)
      refine run_op fun K hK => ?_; refine build8 ([_, _, _, _]) (by decide) rfl (rfl) (fun b1 C1 ho1 => ?_); refine hK _ _ ?_; clear hK K
      refine run_op fun K hK => ?_; refine app8 (ho) (by (repeat (first | with_reducible exact Pick.head _ _ | with_reducible apply Pick.tail))) (ho1.rd (by (repeat (first | with_reducible assumption | with_reducible exact List.mem_cons_self .. | with_reducible apply List.mem_cons_of_mem)))) (by omega) (fun C2 a2 cap2 ho2 => ?_); refine hK _ _ ?_; clear hK K
      rw [bytes4_eq, show 0 + i * 1 = i from by omega, ← bytes_next s i (by omega)] at ho2
      (try refine run_to ?_); (try refine run_end ?_)
      refine hN7 _ _ _ ?_; clear hN7
      refine reg_to ?_; (try refine run_end ?_)
      exact again ⟨i + 1, C2, a2, cap2, by omega, ho2, rfl, rfl, rfl, rfl⟩
    · have hc := of_decide_eq_false hc
      refine code_exit ?_; try simp only [Cont.then, Cont.block, Cont.noGoto, reduceIte, Nat.reduceEqDiff]
      refine hN3 _ _ _ ?_; clear hN3
      obtain rfl : i = 8 := by omega
      refine code_seq_k fun N9 hN9 => ?_
      refine reg_to ?_; (try refine run_end ?_)
      refine hN9 _ _ _ ?_; clear hN9
      refine code_back ?_
      refine back_tmp ([C, [(b, .cells (rowX s.list r) e m)]]) ?_; exact ⟨_, _, _, rfl, ho, rfl⟩

theorem long_spec (n : Nat) : Meets Tryd.prog 48 [.int .u64 n] [] (New8 5 (be 8 n) []) := by
  refine spec_intro Tryd.func48 rfl (by kernel_rfl) (by rw [Tryd.ntmps48]; simp) fun F => ?_; rw [Tryd.ntmps48, Tryd.results48]
  refine code_seq_k fun N1 hN1 => ?_
  refine reg_to ?_; (try refine run_end ?_)
  refine hN1 _ _ _ ?_; clear hN1
  refine code_seq_k fun N2 hN2 => ?_
  refine reg_to ?_; (try refine run_end ?_)
  refine hN2 _ _ _ ?_; clear hN2
  refine code_seq_k fun N3 hN3 => ?_
  refine code_seq_k fun N4 hN4 => ?_
  refine reg_to ?_; (try refine run_end ?_)
  refine hN4 _ _ _ ?_; clear hN4
  refine code_block ?_
  refine code_nil ?_
  refine code_loop (fun q D L S => ∃ (i : Nat) (C : Chunk) (a : Option Addr) (cap : Nat), i ≤ 8 ∧ Own8 5 C a i cap ((be 8 n).take i) ∧ q = 8 - i ∧ D = [] ∧ L = [(5, .int .i64 i), (0, .int .u64 n), (3, .slice a i cap)] ∧ S = [C, F]) ?_ ?_
  · exact ⟨_, _, _, ⟨0, [], none, 0, by omega, own_nil, rfl, rfl, rfl, rfl⟩, by (repeat (first | exact True.intro | (refine And.intro ?_ ?_; (· (try simp only [evT, lookT_hit, lookT_miss, Nat.reduceBEq]); (first | done | exact rfl))))), by first | ((repeat (first | with_reducible exact Among.nil _ | with_reducible exact Pick.head _ _ | with_reducible apply Pick.tail | with_reducible apply Among.cons)); done) | ((repeat (first | exact Among.nil _ | exact Pick.head _ _ | apply Pick.tail | apply Among.cons)); done)⟩
  · rintro q D L S ⟨i, C, a, cap, hi, ho, rfl, rfl, rfl, rfl⟩
    refine code_seq_k fun N5 hN5 => ?_
    refine reg_to ?_; (try refine run_end ?_)
    refine hN5 _ _ _ ?_; clear hN5
    refine code_seq_k fun N6 hN6 => ?_
    refine code_if (fun hc => ?_) (fun hc => ?_)
    · have hc := of_decide_eq_true hc
      refine code_skip ?_
      refine hN6 _ _ _ ?_; clear hN6
      refine code_seq_k fun N7 hN7 => ?_
      refine code_block ?_
      refine code_seq_k fun N8 hN8 => ?_
      refine reg_to ?_; (try refine run_end ?_)
      refine hN8 _ _ _ ?_; clear hN8
      refine reg_to ?_; (try refine run_end ?_)
      have e : Value.int .u8 (IntKind.u8.wrap ((n : Int) / 2 ^ (8 * (7 - (i : Int))).toNat)) = b8 (UInt8.ofNat (n / 256 ^ (8 - 1 - i))) := by
        rw [show (8 * (7 - (i : Int))).toNat = 8 * (8 - 1 - i) from by omega, shift8, wrap8_mod]; rfl
      rw [e]
      refine run_op fun K hK => ?_; refine build8 ([_]) (by decide) rfl (rfl) (fun b1 C1 ho1 => ?_); refine hK _ _ ?_; clear hK K
      refine run_op fun K hK => ?_; refine app8 (ho) (by (repeat (first | with_reducible exact Pick.head _ _ | with_reducible apply Pick.tail))) (ho1.rd (by (repeat (first | with_reducible assumption | with_reducible exact List.mem_cons_self .. | with_reducible apply List.mem_cons_of_mem)))) (by omega) (fun C2 a2 cap2 ho2 => ?_); refine hK _ _ ?_; clear hK K
      rw [← be_next 8 n i (by omega)] at ho2
      (try refine run_to ?_); (try refine run_end ?_)
      refine hN7 _ _ _ ?_; clear hN7
      refine reg_to ?_; (try refine run_end ?_)
      exact again ⟨i + 1, C2, a2, cap2, by omega, ho2, rfl, rfl, rfl, rfl⟩
    · have hc := of_decide_eq_false hc
      refine code_exit ?_; try simp only [Cont.then, Cont.block, Cont.noGoto, reduceIte, Nat.reduceEqDiff]
      refine hN3 _ _ _ ?_; clear hN3
      obtain rfl : i = 8 := by omega
      refine code_seq_k fun N9 hN9 => ?_
      refine reg_to ?_; (try refine run_end ?_)
      refine hN9 _ _ _ ?_; clear hN9
      refine code_back ?_
      refine back_tmp ([C]) ?_; exact ⟨_, _, _, rfl, ho, rfl⟩

theorem ends_spec (n : Nat) (hn : n < 2305843009213693952) : Meets Tryd.prog 42 [.int .u64 n] [] (New8 5 (pad n) []) := by
  refine spec_intro Tryd.func42 rfl (by kernel_rfl) (by rw [Tryd.ntmps42]; simp) fun F => ?_; rw [Tryd.ntmps42, Tryd.results42]
  refine code_seq_k fun N1 hN1 => ?_
  refine reg_to ?_; (try refine run_end ?_)
  refine hN1 _ _ _ ?_; clear hN1
  refine code_seq_k fun N2 hN2 => ?_
  refine reg_to ?_; (try refine run_end ?_)
  refine run_op fun K hK => ?_; refine build8 ([128]) (by decide) rfl (rfl) (fun b1 C1 ho1 => ?_); refine hK _ _ ?_; clear hK K
  (try refine run_to ?_); (try refine run_end ?_)
  refine hN2 _ _ _ ?_; clear hN2
  refine code_seq_k fun N3 hN3 => ?_
  refine code_block ?_
  refine code_loop (fun q D L S => ∃ (i : Nat) (C : Chunk) (a : Option Addr) (cap : Nat), i ≤ zeros n ∧ Own8 5 C a (1 + i) cap (128 :: List.replicate i 0) ∧ q = zeros n - i ∧ D = [] ∧ L = [(0, .int .u64 n), (3, .slice a (1 + i) cap)] ∧ S = [C, F]) ?_ ?_
  · exact ⟨_, _, _, ⟨0, C1, _, _, by omega, ho1, rfl, rfl, rfl, rfl⟩, by (repeat (first | exact True.intro | (refine And.intro ?_ ?_; (· (try simp only [evT, lookT_hit, lookT_miss, Nat.reduceBEq]); (first | done | exact rfl))))), by first | ((repeat (first | with_reducible exact Among.nil _ | with_reducible exact Pick.head _ _ | with_reducible apply Pick.tail | with_reducible apply Among.cons)); done) | ((repeat (first | exact Among.nil _ | exact Pick.head _ _ | apply Pick.tail | apply Among.cons)); done)⟩
  · rintro q D L S ⟨i, C, a, cap, hi, ho, rfl, rfl, rfl, rfl⟩
    have hz : zeros n ≤ 63 := by unfold zeros; omega
    refine code_seq_k fun N4 hN4 => ?_
    refine code_seq_k fun N5 hN5 => ?_
    refine reg_to ?_; (try refine run_end ?_)
    refine hN5 _ _ _ ?_; clear hN5
    refine code_if (fun hc => ?_) (fun hc => ?_)
    · have hc := bne_iff_ne.1 hc
      have hlt : i < zeros n := by simp only [zeros] at hi ⊢; omega
      refine code_skip ?_
      refine hN4 _ _ _ ?_; clear hN4
      refine code_block ?_
      refine reg_to ?_; (try refine run_end ?_)
      refine run_op fun K hK => ?_; refine build8 ([0]) (by decide) rfl (rfl) (fun b1 C1 ho1 => ?_); refine hK _ _ ?_; clear hK K
      refine run_op fun K hK => ?_; refine app8 (ho) (by (repeat (first | with_reducible exact Pick.head _ _ | with_reducible apply Pick.tail))) (ho1.rd (by (repeat (first | with_reducible assumption | with_reducible exact List.mem_cons_self .. | with_reducible apply List.mem_cons_of_mem)))) (by omega) (fun C2 a2 cap2 ho2 => ?_); refine hK _ _ ?_; clear hK K
      rw [← rep_next] at ho2
      (try refine run_to ?_); (try refine run_end ?_)
      exact again ⟨i + 1, C2, a2, cap2, by omega, ho2, rfl, rfl, rfl, rfl⟩
    · have hc := bne_eq_false_iff_eq.1 hc
      refine code_exit ?_; try simp only [Cont.then, Cont.block, Cont.noGoto, reduceIte, Nat.reduceEqDiff]
      refine hN3 _ _ _ ?_; clear hN3
      obtain rfl : i = zeros n := by unfold zeros at *; omega
      refine code_seq_k fun N6 hN6 => ?_
      refine reg_to ?_; (try refine run_end ?_)
      rw [show (8 * (n : Int)) = ((8 * n : Nat) : Int) from by omega]
      refine run_op fun K hK => ?_; refine calls_to (long_spec (8 * n)) ?_; rintro v A ⟨C2, a2, cap2, rfl, ho2, rfl⟩; (try simp only [List.nil_append, List.cons_append]); refine hK _ _ ?_; clear hK K
      (try refine run_to ?_); (try refine run_end ?_)
      refine run_op fun K hK => ?_; refine app8 (ho) (by (repeat (first | with_reducible exact Pick.head _ _ | with_reducible apply Pick.tail))) (ho2.rd (by (repeat (first | with_reducible assumption | with_reducible exact List.mem_cons_self .. | with_reducible apply List.mem_cons_of_mem)))) (by rw [be_len]; omega) (fun C3 a3 cap3 ho3 => ?_); refine hK _ _ ?_; clear hK K
      (try refine run_to ?_); (try refine run_end ?_)
      refine hN6 _ _ _ ?_; clear hN6
      refine code_back ?_
      have e : 1 + zeros n + (be 8 (8 * n)).length = (pad n).length := by rw [pad_len, be_len]; omega
      rw [e] at ho3 ⊢
      refine back_tmp ([C3]) ?_; exact ⟨_, _, _, rfl, ho3, rfl⟩

theorem clone_spec (H : Chunk) (a : Option Addr) (cap : Nat) (bs : List UInt8) (hb : bs.length ≤ 70368744177664) (h : Rd 1 [H] a bs.length (bs.map b8)) :
    Meets Tryd.prog 32 [.slice a bs.length cap] [H] (New8 5 bs [H]) := by
  refine spec_intro Tryd.func32 rfl (by kernel_rfl) (by rw [Tryd.ntmps32]; simp) fun F => ?_; rw [Tryd.ntmps32, Tryd.results32]
  refine code_seq_k fun N1 hN1 => ?_
  refine reg_to ?_; (try refine run_end ?_)
  refine hN1 _ _ _ ?_; clear hN1
  refine code_seq_k fun N2 hN2 => ?_
  refine code_seq_k fun N3 hN3 => ?_
  refine reg_to ?_; (try refine run_end ?_)
  refine hN3 _ _ _ ?_; clear hN3
  refine code_if (fun hc => ?_) (fun hc => ?_)
  · have hbs : bs = [] := by
      cases bs with
      | nil => rfl
      | cons x l =>
        obtain ⟨_, _, _, _, _, h3, _⟩ := h.2 (by simp)
        subst h3; cases hc
    subst hbs
    refine code_seq_k fun N4 hN4 => ?_
    refine reg_to ?_; (try refine run_end ?_)
    refine hN4 _ _ _ ?_; clear hN4
    refine code_nil ?_
    refine code_back ?_
    refine back_tmp ([[], H]) ?_; exact ⟨_, _, _, rfl, own_nil, rfl⟩
  · refine code_skip ?_
    refine hN2 _ _ _ ?_; clear hN2
    refine code_seq_k fun N5 hN5 => ?_
    refine reg_to ?_; (try refine run_end ?_)
    refine run_op fun K hK => ?_; refine build8 ([]) (by decide) rfl (rfl) (fun b1 C1 ho1 => ?_); refine hK _ _ ?_; clear hK K
    (try refine run_to ?_); (try refine run_end ?_)
    refine run_op fun K hK => ?_; refine app8 (ho1) (by (repeat (first | with_reducible exact Pick.head _ _ | with_reducible apply Pick.tail))) (h.mem (by (repeat (first | with_reducible assumption | with_reducible exact List.mem_cons_self .. | with_reducible apply List.mem_cons_of_mem)))) (by omega) (fun C2 a2 cap2 ho2 => ?_); refine hK _ _ ?_; clear hK K
    rw [Nat.zero_add] at ho2 ⊢
    (try refine run_to ?_); (try refine run_end ?_)
    refine hN5 _ _ _ ?_; clear hN5
    refine code_back ?_
    refine back_tmp ([C2, H]) ?_; exact ⟨_, _, _, rfl, ho2, rfl⟩

theorem copy_spec (H : Chunk) (a : Option Addr) (cap : Nat) (bs : List UInt8) (hb : bs.length ≤ 70368744177664) (h : Rd 1 [H] a bs.length (bs.map b8)) :
    Meets Tryd.prog 24 [.slice a bs.length cap] [H] (New8 5 bs [H]) := by
  refine spec_intro Tryd.func24 rfl (by kernel_rfl) (by rw [Tryd.ntmps24]; simp) fun F => ?_; rw [Tryd.ntmps24, Tryd.results24]
  refine code_seq_k fun N1 hN1 => ?_
  refine reg_to ?_; (try refine run_end ?_)
  refine hN1 _ _ _ ?_; clear hN1
  refine code_seq_k fun N2 hN2 => ?_
  refine reg_to ?_; (try refine run_end ?_)
  refine run_op fun K hK => ?_; refine build8 ([]) (by decide) rfl (rfl) (fun b1 C1 ho1 => ?_); refine hK _ _ ?_; clear hK K
  (try refine run_to ?_); (try refine run_end ?_)
  refine run_op fun K hK => ?_; refine app8 (ho1) (by (repeat (first | with_reducible exact Pick.head _ _ | with_reducible apply Pick.tail))) (h.mem (by (repeat (first | with_reducible assumption | with_reducible exact List.mem_cons_self .. | with_reducible apply List.mem_cons_of_mem)))) (by omega) (fun C2 a2 cap2 ho2 => ?_); refine hK _ _ ?_; clear hK K
  rw [Nat.zero_add] at ho2 ⊢
  (try refine run_to ?_); (try refine run_end ?_)
  refine hN2 _ _ _ ?_; clear hN2
  refine code_back ?_
  refine back_tmp ([C2, H]) ?_; exact ⟨_, _, _, rfl, ho2, rfl⟩

theorem cut_spec (H : Chunk) (a : Option Addr) (cap n : Nat) (bs : List UInt8) (hcap : bs.length ≤ cap) (hn : n ≤ 70368744177664) (h : Rd 1 [H] a bs.length (bs.map b8)) :
    Meets Tryd.prog 7 [.slice a bs.length cap, .int .i64 n] [H] (New8 5 (bs.take n) [H]) := by
  refine spec_intro Tryd.func7 rfl (by kernel_rfl) (by rw [Tryd.ntmps7]; simp) fun F => ?_; rw [Tryd.ntmps7, Tryd.results7]
  refine code_seq_k fun N1 hN1 => ?_
  refine reg_to ?_; (try refine run_end ?_)
  refine hN1 _ _ _ ?_; clear hN1
  refine code_seq_k fun N2 hN2 => ?_
  refine reg_to ?_; (try refine run_end ?_)
  refine run_op fun K hK => ?_; refine build8 ([]) (by decide) rfl (rfl) (fun b1 C1 ho1 => ?_); refine hK _ _ ?_; clear hK K
  (try refine run_to ?_); (try refine run_end ?_)
  have hX : (if ((n : Int) < (bs.length : Int)) then (n : Int) else bs.length).toNat = (bs.take n).length := by rw [List.length_take]; split <;> omega
  rw [hX]
  have hr := rd_cut1 h (l := 0) (h' := (bs.take n).length) (m := cap) (by omega) (by rw [List.length_take]; omega) (by rw [List.length_take]; omega)
  rw [List.drop_zero, Nat.sub_zero, take_min] at hr
  refine run_op fun K hK => ?_; refine app8 (ho1) (by (repeat (first | with_reducible exact Pick.head _ _ | with_reducible apply Pick.tail))) (hr.mem (by (repeat (first | with_reducible assumption | with_reducible exact List.mem_cons_self .. | with_reducible apply List.mem_cons_of_mem)))) (by rw [List.length_take]; omega) (fun C2 a2 cap2 ho2 => ?_); refine hK _ _ ?_; clear hK K
  rw [Nat.zero_add] at ho2 ⊢
  (try refine run_to ?_); (try refine run_end ?_)
  refine hN2 _ _ _ ?_; clear hN2
  refine code_back ?_
  refine back_tmp ([C2, H]) ?_; exact ⟨_, _, _, rfl, ho2, rfl⟩

theorem same_spec (A : State) (a b : Option Addr) (n m c d : Nat) (xs ys : List UInt8) (h1 : Rd 1 A a n (xs.map b8)) (h2 : Rd 1 A b m (ys.map b8)) :
    Meets Tryd.prog 15 [.slice a n c, .slice b m d] A fun v A' => v = .bool (xs == ys) ∧ A' = A := by
  refine spec_intro Tryd.func15 rfl (by kernel_rfl) (by rw [Tryd.ntmps15]; simp) fun F => ?_; rw [Tryd.ntmps15, Tryd.results15]
  refine code_seq_k fun N1 hN1 => ?_
  refine reg_to ?_; (try refine run_end ?_)
  refine hN1 _ _ _ ?_; clear hN1
  refine code_seq_k fun N2 hN2 => ?_
  refine reg_to ?_; (try refine run_end ?_)
  refine run_op fun K hK => ?_
  refine conv_bytes_string (h1.next F) ?_
  refine hK _ _ ?_; clear hK K
  (try refine run_to ?_); (try refine run_end ?_)
  refine run_op fun K hK => ?_
  refine conv_bytes_string (h2.next F) ?_
  refine hK _ _ ?_; clear hK K
  (try refine run_to ?_); (try refine run_end ?_)
  refine hN2 _ _ _ ?_; clear hN2
  refine code_back ?_
  exact ret_tmp A (by (try simp only [evT, lookT_hit, lookT_miss, Nat.reduceBEq]); (first | done | exact rfl)) ⟨rfl, rfl⟩ (Among.refl _)

end Go.Proofs.YtlcbaijjjphmjaaDoor

/- A Hash: begun, written to, summed. Conditions: as each says. -/
set_option linter.unusedSimpArgs false
set_option linter.unusedVariables false
namespace Go.Proofs.YtlcbaijjjphmjaaDoor
open Go Go.Ost Go.Sha

theorem new_spec {t0 : TypeId} (G : Chunk) (m0 : Nat × Nat) (hG0 : (0, Obj.cells (rowW first.list) t0 m0) ∈ G) : Meets Tryd.prog 20 [] [G] fun v A => ∃ b, v = .pointer (some ⟨b, 0, none⟩) ∧ A = [[(b, hashO first.list (.slice none 0 0) 0)], G] := by
  refine spec_intro Tryd.func20 rfl (by kernel_rfl) (by rw [Tryd.ntmps20]; simp) fun F => ?_; rw [Tryd.ntmps20, Tryd.results20]
  refine code_seq_k fun N1 hN1 => ?_
  refine reg_to ?_; (try refine run_end ?_)
  refine hN1 _ _ _ ?_; clear hN1
  refine code_seq_k fun N2 hN2 => ?_
  refine code_reg ?_
  refine run_op fun K hK => ?_
  refine load_rw (l := first.list) (by (repeat (first | with_reducible exact Lies.one | with_reducible exact Lies.here (by assumption) | with_reducible apply Lies.next))) (St.list_len _) ?_
  refine hK _ _ ?_; clear hK K
  refine run_op fun K hK => ?_
  rw [build_struct (ps := [(0, .agg (rowW first.list))]) (cs := rowX first.list [.slice none 0 0, .int .u64 0]) rfl]
  refine hK _ _ ?_; clear hK K
  refine run_op fun K hK => ?_
  refine box_new fun b => ?_
  rw [show (Value.agg (rowX first.list [.slice none 0 0, .int .u64 0])).cells = rowX first.list [.slice none 0 0, .int .u64 0] from rfl]
  refine hK _ _ ?_; clear hK K
  (try refine run_to ?_); (try refine run_end ?_)
  refine hN2 _ _ _ ?_; clear hN2
  refine code_back ?_
  exact ret_tmp [[(b, hashO first.list (.slice none 0 0) 0)], G] (by (try simp only [evT, lookT_hit, lookT_miss, Nat.reduceBEq]); (first | done | exact rfl)) ⟨b, rfl, rfl⟩ (by first | ((repeat (first | with_reducible exact Among.nil _ | with_reducible exact Pick.head _ _ | with_reducible apply Pick.tail | with_reducible apply Among.cons)); done) | ((repeat (first | exact Among.nil _ | exact Pick.head _ _ | apply Pick.tail | apply Among.cons)); done))

set_option maxHeartbeats 2000000 in
theorem write_spec {t1 : TypeId} (G C H : Chunk) (m1 : Nat × Nat) (hG1 : (1, Obj.cells (rowW odd) t1 m1) ∈ G) (b n : Nat) (s : St) (ar ap : Option Addr) (cr cp : Nat) (rest p : List UInt8) (hn : n ≤ 4611686018427387904) (hr : rest.length ≤ 1000000) (hp : p.length ≤ 1000000)
    (ho : Own8 5 C ar rest.length cr rest) (h : Rd 1 [H] ap p.length (p.map b8)) :
    Meets Tryd.prog 40 [.pointer (some ⟨b, 0, none⟩), .slice ap p.length cp] [G, [(b, hashO s.list (.slice ar rest.length cr) n)], C, H]
      fun v A => v = .int .i64 p.length ∧ ∃ C' a' c', Own8 5 C' a' ((rest ++ p).drop (64 * ((rest ++ p).length / 64))).length c' ((rest ++ p).drop (64 * ((rest ++ p).length / 64))) ∧
        A = [G, [(b, hashO (Go.Sha.whole s (rest ++ p)).list (.slice a' ((rest ++ p).drop (64 * ((rest ++ p).length / 64))).length c') (n + p.length))], C', H] := by
  refine spec_intro Tryd.func40 rfl (by kernel_rfl) (by rw [Tryd.ntmps40]; simp) fun F => ?_; rw [Tryd.ntmps40, Tryd.results40]
  refine code_seq_k fun N1 hN1 => ?_
  refine reg_to ?_; (try refine run_end ?_)
  refine hN1 _ _ _ ?_; clear hN1
  refine code_seq_k fun N2 hN2 => ?_
  refine code_seq_k fun N3 hN3 => ?_
  refine reg_to ?_; (try refine run_end ?_)
  refine hN3 _ _ _ ?_; clear hN3
  refine code_false (by (try simp only [evT, lookT_hit, lookT_miss, Nat.reduceBEq]); (first | done | exact rfl)) (code_skip ?_)
  refine hN2 _ _ _ ?_; clear hN2
  refine code_seq_k fun N5 hN5 => ?_
  refine regh_to ?_; (try refine run_end ?_)
  refine hN5 _ _ _ ?_; clear hN5
  refine code_seq_k fun N6 hN6 => ?_
  refine regh_to ?_; (try refine run_end ?_)
  refine run_op fun K hK => ?_; refine app8 (ho) (by (repeat (first | with_reducible exact Pick.head _ _ | with_reducible apply Pick.tail))) (h.mem (by (repeat (first | with_reducible assumption | with_reducible exact List.mem_cons_self .. | with_reducible apply List.mem_cons_of_mem)))) (by omega) (fun C1 a1 cap1 ho1 => ?_); refine hK _ _ ?_; clear hK K
  (try refine runh_to ?_); (try refine run_end ?_)
  refine hN6 _ _ _ ?_; clear hN6
  rw [show ((n : Int) + (p.length : Int)) = ((n + p.length : Nat) : Int) from by omega, show rest.length + p.length = (rest ++ p).length from List.length_append.symm]
  rw [show rest.length + p.length = (rest ++ p).length from List.length_append.symm] at ho1
  have hTl : (rest ++ p).length ≤ 2000000 := by rw [List.length_append]; omega
  generalize rest ++ p = T at ho1 hTl ⊢
  generalize n + p.length = N
  refine code_seq_k fun N7 hN7 => ?_
  refine code_block ?_
  refine code_loop (fun q D L S => ∃ (i : Nat) (a' : Option Addr) (c' : Nat), 64 * i ≤ T.length ∧ (T.drop (64 * i)).length ≤ c' ∧ Rd 1 [C1] a' (T.drop (64 * i)).length ((T.drop (64 * i)).map b8) ∧ q = T.length - 64 * i ∧ D = [] ∧ L = [(0, .pointer (some ⟨b, 0, none⟩)), (1, .slice ap p.length cp)] ∧
    S = [C1, F, G, [(b, hashO (run i s T).list (.slice a' (T.drop (64 * i)).length c') N)], H]) ?_ ?_
  · exact ⟨_, _, _, ⟨0, a1, cap1, by omega, ho1.1, ho1.rd (List.mem_cons_self ..), rfl, rfl, rfl, rfl⟩, by (repeat (first | exact True.intro | (refine And.intro ?_ ?_; (· (try simp only [evT, lookT_hit, lookT_miss, Nat.reduceBEq]); (first | done | exact rfl))))), by first | ((repeat (first | with_reducible exact Among.nil _ | with_reducible exact Pick.head _ _ | with_reducible apply Pick.tail | with_reducible apply Among.cons)); done) | ((repeat (first | exact Among.nil _ | exact Pick.head _ _ | apply Pick.tail | apply Among.cons)); done)⟩
  · rintro q D L S ⟨i, a', c', hi, hc', hr', rfl, rfl, rfl, rfl⟩
    have hdl : (T.drop (64 * i)).length = T.length - 64 * i := List.length_drop
    refine code_seq_k fun N8 hN8 => ?_
    refine code_seq_k fun N9 hN9 => ?_
    refine regh_to ?_; (try refine run_end ?_)
    refine hN9 _ _ _ ?_; clear hN9
    refine code_if (fun hc => ?_) (fun hc => ?_)
    · have hc := of_decide_eq_true hc
      have hcut : Rd 1 [C1] (cutA 1 a' 0 c') 64 (((T.drop (64 * i)).take 64).map b8) := rd_cut1 hr' (l := 0) (h' := 64) (m := c') (by omega) (by omega) (by omega)
      have e64 : (T.drop (64 * i)).length - 64 = (T.drop (64 * (i + 1))).length := by
        rw [List.length_drop, List.length_drop]; show T.length - 64 * i - 64 = _; omega
      have hr2 : Rd 1 [C1] (cutA 1 a' 64 c') (T.drop (64 * (i + 1))).length ((T.drop (64 * (i + 1))).map b8) := by
        have q := rd_cut1 hr' (l := 64) (h' := (T.drop (64 * i)).length) (m := c') (by omega) (Nat.le_refl _) hc'
        rw [List.drop_drop, show 64 * i + 64 = 64 * (i + 1) from by omega, List.take_of_length_le (by rw [List.length_drop]; omega)] at q
        rw [← e64]; exact q
      have hc2 : (T.drop (64 * (i + 1))).length ≤ c' - 64 := by
        rw [List.length_drop]; show _ ≤ c' - 64; omega
      refine code_skip ?_
      refine hN8 _ _ _ ?_; clear hN8
      refine code_block ?_
      refine code_seq_k fun N10 hN10 => ?_
      refine code_draw [[], [0], [0, 1], [], [3], [3, 4], [3, 4, 5], [3, 4, 5, 6], [0, 1, 2, 3, 4, 5, 6, 7]] [(0, false, []), (1, false, []), (2, false, []), (3, false, []), (4, false, []), (5, false, []), (6, false, []), (7, false, []), (8, true, [])] (by kernel_rfl) (by kernel_rfl) ?_
      (try refine drawh_to ?_); (try refine draw_end ?_)
      refine draw_op fun K hK => ?_; refine calls_spec (step_spec G C1 m1 hG1 b 92 (run i s T) _ (cutA 1 a' 0 c') (c' - 0) (by omega) ((T.drop (64 * i)).take 64) (by rw [List.length_take]; omega) hcut) (by (repeat (first | with_reducible exact Take.nil _ | with_reducible exact Pick.head _ _ | with_reducible apply Pick.tail | with_reducible apply Take.cons))) ?_; rintro v A ⟨rfl, rfl⟩; (try simp only [List.nil_append, List.cons_append]); refine hK _ _ ?_; clear hK K
      rw [← run_next]
      (try refine draw_to ?_); (try refine draw_end ?_)
      refine hN10 _ _ _ ?_; clear hN10
      refine regh_to ?_; (try refine run_end ?_)
      rw [e64]
      exact again ⟨i + 1, _, _, by omega, hc2, hr2, rfl, rfl, rfl, rfl⟩
    · have hc := of_decide_eq_false hc
      refine code_exit ?_; try simp only [Cont.then, Cont.block, Cont.noGoto, reduceIte, Nat.reduceEqDiff]
      refine hN7 _ _ _ ?_; clear hN7
      have hi2 : i = T.length / 64 := by omega
      subst hi2
      refine code_seq_k fun N11 hN11 => ?_
      refine regh_to ?_; (try refine run_end ?_)
      refine run_op fun K hK => ?_; refine calls_to (clone_spec C1 a' c' _ (by omega) hr') ?_; rintro v A ⟨C2, a2, cap2, rfl, ho2, rfl⟩; (try simp only [List.nil_append, List.cons_append]); refine hK _ _ ?_; clear hK K
      (try refine runh_to ?_); (try refine run_end ?_)
      refine hN11 _ _ _ ?_; clear hN11
      refine code_seq_k fun N12 hN12 => ?_
      refine reg_to ?_; (try refine run_end ?_)
      refine hN12 _ _ _ ?_; clear hN12
      refine code_back ?_
      exact ret_tmp [G, [(b, hashO (Go.Sha.whole s T).list (.slice a2 (T.drop (64 * (T.length / 64))).length cap2) N)], C2, H] (by (try simp only [evT, lookT_hit, lookT_miss, Nat.reduceBEq]); (first | done | exact rfl)) ⟨rfl, C2, a2, cap2, ho2, rfl⟩ (by first | ((repeat (first | with_reducible exact Among.nil _ | with_reducible exact Pick.head _ _ | with_reducible apply Pick.tail | with_reducible apply Among.cons)); done) | ((repeat (first | exact Among.nil _ | exact Pick.head _ _ | apply Pick.tail | apply Among.cons)); done))

set_option maxHeartbeats 2000000 in
theorem hsum_spec {t1 : TypeId} (G C : Chunk) (m1 : Nat × Nat) (hG1 : (1, Obj.cells (rowW odd) t1 m1) ∈ G) (b n : Nat) (s : St) (ar : Option Addr) (cr : Nat) (rest : List UInt8) (hn : n < 2305843009213693952) (hr : rest.length ≤ 1000000) (hmod : (rest.length + (pad n).length) % 64 = 0)
    (ho : Rd 1 [C] ar rest.length (rest.map b8)) :
    Meets Tryd.prog 33 [.pointer (some ⟨b, 0, none⟩)] [G, [(b, hashO s.list (.slice ar rest.length cr) n)], C]
      (New8 5 (Go.Sha.whole s (rest ++ pad n)).bytes [G, [(b, hashO s.list (.slice ar rest.length cr) n)], C]) := by
  have hpl : (pad n).length ≤ 72 := by rw [pad_len, zeros]; omega
  refine spec_intro Tryd.func33 rfl (by kernel_rfl) (by rw [Tryd.ntmps33]; simp) fun F => ?_; rw [Tryd.ntmps33, Tryd.results33]
  refine code_seq_k fun N1 hN1 => ?_
  refine reg_to ?_; (try refine run_end ?_)
  refine hN1 _ _ _ ?_; clear hN1
  refine code_seq_k fun N2 hN2 => ?_
  refine code_seq_k fun N3 hN3 => ?_
  refine reg_to ?_; (try refine run_end ?_)
  refine hN3 _ _ _ ?_; clear hN3
  refine code_false (by (try simp only [evT, lookT_hit, lookT_miss, Nat.reduceBEq]); (first | done | exact rfl)) (code_skip ?_)
  refine hN2 _ _ _ ?_; clear hN2
  refine code_seq_k fun N5 hN5 => ?_
  refine reg_to ?_; (try refine run_end ?_)
  refine run_op fun K hK => ?_
  refine load_rx (by (repeat (first | with_reducible exact Lies.one | with_reducible apply Lies.next))) (St.list_len _) ?_
  refine hK _ _ ?_; clear hK K
  refine run_op fun K hK => ?_; refine alloc_new fun b3 => ?_; (try simp only [Value.cells]); refine hK _ _ ?_; clear hK K
  refine run_op fun K hK => ?_
  refine store_rw (l := List.replicate 8 0) (l' := s.list) (by (repeat (first | exact Upd.one | apply Upd.next))) List.length_replicate (St.list_len _) ?_
  refine hK _ _ ?_; clear hK K
  (try refine run_to ?_); (try refine run_end ?_)
  refine hN5 _ _ _ ?_; clear hN5
  refine code_seq_k fun N6 hN6 => ?_
  refine code_draw [[], [0], [0, 1], [0, 1, 2], [0, 1, 2, 3], [], [5], [5, 6], [5, 6, 7], [0, 1, 2, 3, 4, 5, 6, 7, 8], [0, 1, 2, 3, 4, 5, 6, 7, 8, 9], [0, 1, 2, 3, 4, 5, 6, 7, 8, 9, 10]] [(0, false, []), (1, false, []), (2, false, []), (3, false, []), (5, false, []), (6, false, []), (7, false, []), (8, false, []), (4, true, [8]), (9, true, []), (10, true, []), (11, true, [])] (by kernel_rfl) (by kernel_rfl) ?_
  (try refine drawh_to ?_); (try refine draw_end ?_)
  refine draw_op fun K hK => ?_; refine calls_spec (clone_spec C ar cr rest (by omega) ho) (by (repeat (first | with_reducible exact Take.nil _ | with_reducible exact Pick.head _ _ | with_reducible apply Pick.tail | with_reducible apply Take.cons))) ?_; rintro v A ⟨C4, a4, cap4, rfl, ho4, rfl⟩; (try simp only [List.nil_append, List.cons_append]); (repeat refine pendh ?_); refine hK _ _ ?_; clear hK K
  (try refine drawh_to ?_); (try refine draw_end ?_)
  refine draw_op fun K hK => ?_; refine calls_spec (ends_spec n hn) (by (repeat (first | with_reducible exact Take.nil _ | with_reducible exact Pick.head _ _ | with_reducible apply Pick.tail | with_reducible apply Take.cons))) ?_; rintro v A ⟨C5, a5, cap5, rfl, ho5, rfl⟩; (try simp only [List.nil_append, List.cons_append]); refine hK _ _ ?_; clear hK K
  (try refine drawh_to ?_); (try refine draw_end ?_)
  refine draw_effect (by simp only [List.getElem?_toArray, List.getElem?_cons_succ, List.getElem?_cons_zero]; rfl) fun K hK => ?_; (try simp only [gos, gob, Nat.reduceBEq, if_true, reduceIte, reduceCtorEq, Nat.reduceLT, Nat.reduceEqDiff, Nat.reduceAdd, Nat.reduceSub, Int.reduceLT, Int.reduceLE, Int.reduceBEq, Int.reduceBNe, Int.reduceToNat, Int.reduceAdd, Int.reduceSub, Int.reduceMul, Int.reduceDiv, Int.reduceMod, Int.reducePow, Int.toNat_natCast, Nat.sub_zero, goq]); (try (simp (disch := omega) only [gow, gobw]; try simp only [gos, gob, Nat.reduceBEq, if_true, reduceIte, reduceCtorEq, Nat.reduceLT, Nat.reduceEqDiff, Nat.reduceAdd, Nat.reduceSub, Int.reduceLT, Int.reduceLE, Int.reduceBEq, Int.reduceBNe, Int.reduceToNat, Int.reduceAdd, Int.reduceSub, Int.reduceMul, Int.reduceDiv, Int.reduceMod, Int.reducePow, Int.toNat_natCast, Nat.sub_zero, goq])); refine app8 ho4 (by (repeat (first | with_reducible exact Pick.head _ _ | with_reducible apply Pick.tail))) (ho5.rd (by (repeat (first | with_reducible assumption | with_reducible exact List.mem_cons_self .. | with_reducible apply List.mem_cons_of_mem)))) (by omega) (fun C6 a6 cap6 ho6 => ?_); refine hK _ _ ?_; clear hK K
  (try refine drawh_to ?_); (try refine draw_end ?_)
  refine draw_op fun K hK => ?_; (repeat refine pend ?_); refine hK _ _ ?_; clear hK K
  (try refine drawh_to ?_); (try refine draw_end ?_)
  refine hN6 _ _ _ ?_; clear hN6
  rw [show rest.length + (pad n).length = (rest ++ pad n).length from List.length_append.symm]
  rw [show rest.length + (pad n).length = (rest ++ pad n).length from List.length_append.symm] at ho6 hmod
  have hTl : (rest ++ pad n).length ≤ 2000000 := by rw [List.length_append]; omega
  generalize rest ++ pad n = T at ho6 hTl hmod ⊢
  rw [show rowW s.list = rowX s.list [] from by simp [rowW, rowX]]
  refine code_seq_k fun N7 hN7 => ?_
  refine code_block ?_
  refine code_loop (fun q D L S => ∃ (i : Nat) (a' : Option Addr) (c' : Nat), 64 * i ≤ T.length ∧ (T.drop (64 * i)).length ≤ c' ∧ Rd 1 [C6] a' (T.drop (64 * i)).length ((T.drop (64 * i)).map b8) ∧ q = T.length - 64 * i ∧ D = [] ∧ L = [(4, .slice a' (T.drop (64 * i)).length c'), (3, .pointer (some ⟨b3, 0, none⟩))] ∧
    S = [C6, C, [(b3, .cells (rowX (run i s T).list []) 90 (0, 0))], F, G, [(b, hashO s.list (.slice ar rest.length cr) n)]]) ?_ ?_
  · exact ⟨_, _, _, ⟨0, a6, cap6, by omega, ho6.1, ho6.rd (List.mem_cons_self ..), rfl, rfl, rfl, rfl⟩, by (repeat (first | exact True.intro | (refine And.intro ?_ ?_; (· (try simp only [evT, lookT_hit, lookT_miss, Nat.reduceBEq]); (first | done | exact rfl))))), by first | ((repeat (first | with_reducible exact Among.nil _ | with_reducible exact Pick.head _ _ | with_reducible apply Pick.tail | with_reducible apply Among.cons)); done) | ((repeat (first | exact Among.nil _ | exact Pick.head _ _ | apply Pick.tail | apply Among.cons)); done)⟩
  · rintro q D L S ⟨i, a', c', hi, hc', hr', rfl, rfl, rfl, rfl⟩
    have hdl : (T.drop (64 * i)).length = T.length - 64 * i := List.length_drop
    refine code_seq_k fun N8 hN8 => ?_
    refine code_seq_k fun N9 hN9 => ?_
    refine reg_to ?_; (try refine run_end ?_)
    refine hN9 _ _ _ ?_; clear hN9
    refine code_if (fun hc => ?_) (fun hc => ?_)
    · have hc := of_decide_eq_true hc
      have hcut : Rd 1 [C6] (cutA 1 a' 0 c') 64 (((T.drop (64 * i)).take 64).map b8) := rd_cut1 hr' (l := 0) (h' := 64) (m := c') (by omega) (by omega) (by omega)
      have e64 : (T.drop (64 * i)).length - 64 = (T.drop (64 * (i + 1))).length := by
        rw [List.length_drop, List.length_drop]; show T.length - 64 * i - 64 = _; omega
      have hr2 : Rd 1 [C6] (cutA 1 a' 64 c') (T.drop (64 * (i + 1))).length ((T.drop (64 * (i + 1))).map b8) := by
        have q := rd_cut1 hr' (l := 64) (h' := (T.drop (64 * i)).length) (m := c') (by omega) (by omega) hc'
        rw [List.drop_drop, show 64 * i + 64 = 64 * (i + 1) from by omega, List.take_of_length_le (by rw [List.length_drop]; omega)] at q
        rw [← e64]; exact q
      have hc2 : (T.drop (64 * (i + 1))).length ≤ c' - 64 := by
        rw [List.length_drop]; show _ ≤ c' - 64; omega
      refine code_skip ?_
      refine hN8 _ _ _ ?_; clear hN8
      refine code_seq_k fun N10 hN10 => ?_
      refine code_block ?_
      refine reg_to ?_; (try refine run_end ?_)
      refine run_op fun K hK => ?_
      refine calls_spec (step_spec G C6 m1 hG1 b3 90 (run i s T) [] (cutA 1 a' 0 c') (c' - 0) (by omega) ((T.drop (64 * i)).take 64) (by rw [List.length_take]; omega) hcut) (by (repeat (first | with_reducible exact Take.nil _ | with_reducible exact Pick.head _ _ | with_reducible apply Pick.tail | with_reducible apply Take.cons))) ?_; rintro v A ⟨rfl, rfl⟩; (try simp only [List.nil_append, List.cons_append]); refine hK _ _ ?_; clear hK K
      rw [← run_next]
      (try refine run_to ?_); (try refine run_end ?_)
      refine hN10 _ _ _ ?_; clear hN10
      refine reg_to ?_; (try refine run_end ?_)
      rw [e64]
      exact again ⟨i + 1, _, _, by omega, hc2, hr2, rfl, rfl, rfl, rfl⟩
    · have hc := of_decide_eq_false hc
      refine code_exit ?_; try simp only [Cont.then, Cont.block, Cont.noGoto, reduceIte, Nat.reduceEqDiff]
      refine hN7 _ _ _ ?_; clear hN7
      have hi2 : i = T.length / 64 := by omega
      subst hi2
      refine code_seq_k fun N11 hN11 => ?_
      refine reg_to ?_; (try refine run_end ?_)
      refine run_op fun K hK => ?_; refine calls_to (bytes_spec b3 _ _ _ _) ?_; rintro v A ⟨C7, a7, cap7, rfl, ho7, rfl⟩; (try simp only [List.nil_append, List.cons_append]); refine hK _ _ ?_; clear hK K
      (try refine run_to ?_); (try refine run_end ?_)
      refine hN11 _ _ _ ?_; clear hN11
      refine code_back ?_
      refine back_tmp ([C7, G, [(b, hashO s.list (.slice ar rest.length cr) n)], C]) ?_; exact ⟨_, _, _, rfl, ho7, rfl⟩

theorem b8_xor {P : Program} {t : TypeId} {x y : Operand} {b : UInt8} {κ : Value → Prop} : PureW P (do eqGuard .xor t x y (b8 b) (.int .u8 90); binOp .xor t (b8 b) (.int .u8 90)) κ = κ (b8 (UInt8.ofNat (b.toNat ^^^ 90))) :=
  pureW_eq (fun w => by
    show Result.ok (Value.int .u8 (IntKind.u8.wrap ((BitVec.ofInt 8 (b.toNat : Int) ^^^ BitVec.ofInt 8 90).toNat : Int))) w = _
    have h := b.toNat_lt
    have key : ∀ n : Fin 256, IntKind.u8.wrap ((BitVec.ofInt 8 (n.val : Int) ^^^ BitVec.ofInt 8 90).toNat : Int) = (((UInt8.ofNat (n.val ^^^ 90)).toNat : Nat) : Int) := by decide +kernel
    rw [key ⟨b.toNat, h⟩]; rfl) κ

/-- The bytes are turned in place. -/
theorem flip_spec (C : Chunk) (a : Option Addr) (cap : Nat) (bs : List UInt8) (hb : bs.length ≤ 1000000) (hw : Wr C a bs) :
    Meets Tryd.prog 26 [.slice a bs.length cap] [C] fun v A => v = .tuple #[] ∧ ∃ C', A = [C'] := by
  refine spec_intro Tryd.func26 rfl (by kernel_rfl) (by rw [Tryd.ntmps26]; simp) fun F => ?_; rw [Tryd.ntmps26, Tryd.results26]
  refine code_seq_k fun N1 hN1 => ?_
  refine reg_to ?_; (try refine run_end ?_)
  refine hN1 _ _ _ ?_; clear hN1
  refine code_block ?_
  refine code_loop (fun q D L S => ∃ (i : Nat) (C' : Chunk) (cs : List UInt8), i ≤ bs.length ∧ cs.length = bs.length ∧ Wr C' a cs ∧ q = bs.length - i ∧ D = [] ∧ L = [(5, .int .i64 i), (4, .int .i64 bs.length), (0, .slice a bs.length cap)] ∧ S = [C', F]) ?_ ?_
  · exact ⟨_, _, _, ⟨0, C, bs, by omega, rfl, hw, rfl, rfl, rfl, rfl⟩, by (repeat (first | exact True.intro | (refine And.intro ?_ ?_; (· (try simp only [evT, lookT_hit, lookT_miss, Nat.reduceBEq]); (first | done | exact rfl))))), by first | ((repeat (first | with_reducible exact Among.nil _ | with_reducible exact Pick.head _ _ | with_reducible apply Pick.tail | with_reducible apply Among.cons)); done) | ((repeat (first | exact Among.nil _ | exact Pick.head _ _ | apply Pick.tail | apply Among.cons)); done)⟩
  · rintro q D L S ⟨i, C', cs, hi, hcl, hw', rfl, rfl, rfl, rfl⟩
    have hrd : Rd 1 [C', F] a bs.length (cs.map b8) := by rw [← hcl]; exact hw'.rd.mem (List.mem_cons_self ..)
    refine code_seq_k fun N2 hN2 => ?_
    refine reg_to ?_; (try refine run_end ?_)
    refine hN2 _ _ _ ?_; clear hN2
    refine code_seq_k fun N3 hN3 => ?_
    refine code_if (fun hc => ?_) (fun hc => ?_)
    · have hc := of_decide_eq_true hc
      refine code_skip ?_
      refine hN3 _ _ _ ?_; clear hN3
      refine code_seq_k fun N4 hN4 => ?_
      refine code_block ?_
      refine code_seq_k fun N5 hN5 => ?_
      refine reg_to ?_; (try refine run_end ?_)
      refine hN5 _ _ _ ?_; clear hN5
      refine code_reg ?_; (repeat ((with_reducible refine run_cons fun K hK => ?_); (try simp only [gos, gob, Nat.reduceBEq, if_true, reduceIte, reduceCtorEq, Nat.reduceLT, Nat.reduceEqDiff, Nat.reduceAdd, Nat.reduceSub, Int.reduceLT, Int.reduceLE, Int.reduceBEq, Int.reduceBNe, Int.reduceToNat, Int.reduceAdd, Int.reduceSub, Int.reduceMul, Int.reduceDiv, Int.reduceMod, Int.reducePow, Int.toNat_natCast, Nat.sub_zero]); (try (simp (disch := omega) only [gow, gobw, index_rd hrd]; try simp only [gos, gob, Nat.reduceBEq, if_true, reduceIte, reduceCtorEq, Nat.reduceLT, Nat.reduceEqDiff, Nat.reduceAdd, Nat.reduceSub, Int.reduceLT, Int.reduceLE, Int.reduceBEq, Int.reduceBNe, Int.reduceToNat, Int.reduceAdd, Int.reduceSub, Int.reduceMul, Int.reduceDiv, Int.reduceMod, Int.reducePow, Int.toNat_natCast, Nat.sub_zero])); (first | (with_reducible refine hK _ _ ?_) | (refine rd_load8 hrd (by omega) ?_; (with_reducible refine hK _ _ ?_)) | ((with_reducible apply load_box); (· (repeat (first | with_reducible exact Lies.one | with_reducible apply Lies.next))); (with_reducible refine hK _ _ ?_)) | ((with_reducible apply load_one); (· (repeat (first | with_reducible exact Lies.one | with_reducible apply Lies.next))); (· exact rfl); (with_reducible refine hK _ _ ?_))); clear hK K)); try ((with_reducible refine run_nil ?_); try simp only [Cont.then, Cont.block, Cont.noGoto, reduceIte, Nat.reduceEqDiff])
      refine run_op fun K hK => ?_
      rw [b8_xor]
      refine hK _ _ ?_; clear hK K
      (repeat ((with_reducible refine run_cons fun K hK => ?_); (try simp only [gos, gob, Nat.reduceBEq, if_true, reduceIte, reduceCtorEq, Nat.reduceLT, Nat.reduceEqDiff, Nat.reduceAdd, Nat.reduceSub, Int.reduceLT, Int.reduceLE, Int.reduceBEq, Int.reduceBNe, Int.reduceToNat, Int.reduceAdd, Int.reduceSub, Int.reduceMul, Int.reduceDiv, Int.reduceMod, Int.reducePow, Int.toNat_natCast, Nat.sub_zero]); (try (simp (disch := omega) only [gow, gobw, index_rd hrd]; try simp only [gos, gob, Nat.reduceBEq, if_true, reduceIte, reduceCtorEq, Nat.reduceLT, Nat.reduceEqDiff, Nat.reduceAdd, Nat.reduceSub, Int.reduceLT, Int.reduceLE, Int.reduceBEq, Int.reduceBNe, Int.reduceToNat, Int.reduceAdd, Int.reduceSub, Int.reduceMul, Int.reduceDiv, Int.reduceMod, Int.reducePow, Int.toNat_natCast, Nat.sub_zero])); (first | (with_reducible refine hK _ _ ?_) | (refine rd_load8 hrd (by omega) ?_; (with_reducible refine hK _ _ ?_)) | ((with_reducible apply load_box); (· (repeat (first | with_reducible exact Lies.one | with_reducible apply Lies.next))); (with_reducible refine hK _ _ ?_)) | ((with_reducible apply load_one); (· (repeat (first | with_reducible exact Lies.one | with_reducible apply Lies.next))); (· exact rfl); (with_reducible refine hK _ _ ?_))); clear hK K)); try ((with_reducible refine run_nil ?_); try simp only [Cont.then, Cont.block, Cont.noGoto, reduceIte, Nat.reduceEqDiff])
      refine run_op fun K hK => ?_
      refine wr_store hw' (by (repeat (first | with_reducible exact Pick.head _ _ | with_reducible apply Pick.tail))) (by omega) (fun C2 hw2 => ?_)
      refine hK _ _ ?_; clear hK K
      (try refine run_to ?_); (try refine run_end ?_)
      refine hN4 _ _ _ ?_; clear hN4
      refine reg_to ?_; (try refine run_end ?_)
      exact again ⟨i + 1, C2, _, by omega, by rw [List.length_set]; exact hcl, hw2, rfl, rfl, rfl, rfl⟩
    · have hc := of_decide_eq_false hc
      refine code_exit ?_; try simp only [Cont.then, Cont.block, Cont.noGoto, reduceIte, Nat.reduceEqDiff]
      exact ret_none_n [C'] ⟨rfl, C', rfl⟩ (by first | ((repeat (first | with_reducible exact Among.nil _ | with_reducible exact Pick.head _ _ | with_reducible apply Pick.tail | with_reducible apply Among.cons)); done) | ((repeat (first | exact Among.nil _ | exact Pick.head _ _ | apply Pick.tail | apply Among.cons)); done))

end Go.Proofs.YtlcbaijjjphmjaaDoor

/- How many bytes a Hash has had. Conditions: as each says. -/
set_option linter.unusedSimpArgs false
set_option linter.unusedVariables false
namespace Go.Proofs.YtlcbaijjjphmjaaDoor
open Go Go.Ost Go.Sha

theorem len_spec (b : Nat) (l : List W) (hl : l.length = 8) (v : Value) (n : Nat) : Meets Tryd.prog 31 [.pointer (some ⟨b, 0, none⟩)] [[(b, hashO l v n)]] fun u A => u = .int .u64 n ∧ A = [[(b, hashO l v n)]] := by
  refine spec_intro Tryd.func31 rfl (by kernel_rfl) (by rw [Tryd.ntmps31]; simp) fun F => ?_; rw [Tryd.ntmps31, Tryd.results31]
  refine code_seq_k fun N1 hN1 => ?_
  refine reg_to ?_; (try refine run_end ?_)
  refine hN1 _ _ _ ?_; clear hN1
  refine code_seq_k fun N2 hN2 => ?_
  refine code_seq_k fun N3 hN3 => ?_
  refine reg_to ?_; (try refine run_end ?_)
  refine hN3 _ _ _ ?_; clear hN3
  refine code_false (by (try simp only [evT, lookT_hit, lookT_miss, Nat.reduceBEq]); (first | done | exact rfl)) (code_skip ?_)
  refine hN2 _ _ _ ?_; clear hN2
  refine code_seq_k fun N5 hN5 => ?_
  refine regh_to ?_; (try refine run_end ?_)
  refine hN5 _ _ _ ?_; clear hN5
  refine code_back ?_
  refine back_tmp [[(b, hashO l v n)]] ?_; exact ⟨rfl, rfl⟩

end Go.Proofs.YtlcbaijjjphmjaaDoor

/- A Hash as the bytes that it has had. Conditions: as each says. -/
set_option linter.unusedSimpArgs false
set_option linter.unusedVariables false
namespace Go.Proofs.YtlcbaijjjphmjaaDoor
open Go Go.Ost Go.Sha

/-- A Hash of these bytes. -/
def hashA (b : Nat) (all : List UInt8) (a : Option Addr) (c : Nat) : Chunk := [(b, hashO (Go.Sha.whole first all).list (.slice a (all.drop (64 * (all.length / 64))).length c) all.length)]
/-- What a Hash holds still. -/
def left (all : List UInt8) : List UInt8 := all.drop (64 * (all.length / 64))

theorem new2_spec {t0 : TypeId} (G : Chunk) (m0 : Nat × Nat) (hG0 : (0, Obj.cells (rowW first.list) t0 m0) ∈ G) : Meets Tryd.prog 20 [] [G] fun v A => ∃ b, v = .pointer (some ⟨b, 0, none⟩) ∧ A = [hashA b [] none 0, G] := new_spec G m0 hG0

theorem write2_spec {t1 : TypeId} (G C H : Chunk) (m1 : Nat × Nat) (hG1 : (1, Obj.cells (rowW odd) t1 m1) ∈ G) (b : Nat) (all : List UInt8) (ar ap : Option Addr) (cr cp : Nat) (p : List UInt8) (hn : all.length ≤ 1000000) (hp : p.length ≤ 1000000)
    (ho : Own8 5 C ar (left all).length cr (left all)) (h : Rd 1 [H] ap p.length (p.map b8)) :
    Meets Tryd.prog 40 [.pointer (some ⟨b, 0, none⟩), .slice ap p.length cp] [G, hashA b all ar cr, C, H]
      fun v A => v = .int .i64 p.length ∧ ∃ C' a' c', Own8 5 C' a' (left (all ++ p)).length c' (left (all ++ p)) ∧ A = [G, hashA b (all ++ p) a' c', C', H] := by
  have hW := write_spec G C H m1 hG1 b all.length (Go.Sha.whole first all) ar ap cr cp (left all) p (by omega) (by unfold left; rw [rest_len]; omega) hp ho h
  unfold left at hW
  rw [rest_on, ← whole_on, ← List.length_append] at hW
  exact hW

theorem hsum2_spec {t1 : TypeId} (G C : Chunk) (m1 : Nat × Nat) (hG1 : (1, Obj.cells (rowW odd) t1 m1) ∈ G) (b : Nat) (all : List UInt8) (ar : Option Addr) (cr : Nat) (hn : all.length ≤ 1000000) (ho : Rd 1 [C] ar (left all).length ((left all).map b8)) :
    Meets Tryd.prog 33 [.pointer (some ⟨b, 0, none⟩)] [G, hashA b all ar cr, C] (New8 5 (digest all) [G, hashA b all ar cr, C]) := by
  have h := hsum_spec G C m1 hG1 b all.length (Go.Sha.whole first all) ar cr (left all) (by omega) (by unfold left; rw [rest_len]; omega) (by have := pad_whole all.length; unfold left; rw [rest_len]; omega) ho
  unfold left at h
  rw [← whole_on] at h
  exact h

theorem len2_spec (b : Nat) (all : List UInt8) (a : Option Addr) (c : Nat) : Meets Tryd.prog 31 [.pointer (some ⟨b, 0, none⟩)] [hashA b all a c] fun u A => u = .int .u64 all.length ∧ A = [hashA b all a c] :=
  len_spec b _ (St.list_len _) _ _

end Go.Proofs.YtlcbaijjjphmjaaDoor

/- A pipe's way: bytes put in. Conditions: as each says. -/
set_option linter.unusedSimpArgs false
set_option linter.unusedVariables false
namespace Go.Proofs.YtlcbaijjjphmjaaDoor
open Go Go.Ost Go.Pip

set_option maxHeartbeats 1000000 in
theorem put_0 (b : Nat) (pa : Option Addr) (room a : Nat) (q ps : List UInt8) (f : Bool) (w : Nat) (h : Nat) (s1 : Value) (a1 n1 : Int) (f1 : Bool) (w1 : Int) (h1 : Nat) (Cp H : Chunk) (ba : Option Addr) (cap : Nat) (bs : List UInt8)
    (hroom : room ≤ 1000000) (hw : w ≤ 1000000) (hbl : bs.length ≤ 1000000) (hR : Ring room a q ps) (ho : Own8 5 Cp pa room room ps) (hr : Rd 1 [H] ba bs.length (bs.map b8)) :
    Meets Tryd.prog 22 [.pointer (some ⟨b, 0, none⟩), .slice ba bs.length cap] [pB b (.slice pa room room) a q.length f w h s1 a1 n1 f1 w1 h1, Cp, H]
      fun v A => v = .int .i64 (min bs.length (room - q.length) : Nat) ∧ ∃ Cp' ps', Own8 5 Cp' pa room room ps' ∧ Ring room a (q ++ bs.take (min bs.length (room - q.length))) ps' ∧
        A = [pB b (.slice pa room room) a (q ++ bs.take (min bs.length (room - q.length))).length f (w + min bs.length (room - q.length) : Nat) h s1 a1 n1 f1 w1 h1, Cp', H] := by
  obtain ⟨m, hm⟩ : ∃ m, m = min bs.length (room - q.length) := ⟨_, rfl⟩
  rw [← hm]
  have hml : m ≤ bs.length := by omega
  rw [show (q ++ bs.take m).length = q.length + m from by rw [List.length_append, List.length_take]; omega, show ((w + m : Nat) : Int) = (w : Int) + (m : Int) from by omega]
  have hqr := hR.2.2.1
  have har := hR.2.1
  refine spec_intro Tryd.func22 rfl (by kernel_rfl) (by rw [Tryd.ntmps22]; simp) fun F => ?_; rw [Tryd.ntmps22, Tryd.results22]
  (repeat (first | (with_reducible refine then_n ?_) | (with_reducible refine then_r ?_) | (with_reducible refine then_e ?_) | (with_reducible refine block_n ?_) | (with_reducible refine block_r ?_) | (with_reducible refine block_e ?_) | refine block_o ?_ | (with_reducible refine scope_n ?_) | (with_reducible refine scope_r ?_) | (with_reducible refine scope_e ?_) | (with_reducible refine code_seq ?_) | (with_reducible refine code_skip ?_) | (with_reducible refine code_label ?_) | (with_reducible refine code_block ?_) | (with_reducible refine code_scope ?_) | (with_reducible refine code_exit ?_) | (with_reducible refine code_ret ?_) | refine regq_to ?_ | (with_reducible refine run_nil ?_) | ((with_reducible refine run_probe ?_); refine runq_more ?_) | (with_reducible refine draw_nil ?_) | ((with_reducible refine draw_probe ?_); (first | refine drawq_more ?_ | refine drawq_as ?_)) | refine code_then ?_ | refine code_else ?_))
  refine loop_i (fun x D L S => ∃ (i : Nat) (Cq : Chunk) (pq : List UInt8), i ≤ m ∧ Own8 5 Cq pa room room pq ∧ Ring room a (q ++ bs.take i) pq ∧ x = m - i ∧ D = [] ∧
    L = [(5, .int .i64 i), (0, .pointer (some ⟨b, 0, none⟩)), (1, .slice ba bs.length cap)] ∧ S = [pB b (.slice pa room room) a (q.length + i : Nat) f w h s1 a1 n1 f1 w1 h1, Cq, H, F])
    ⟨0, Cp, ps, by omega, ho, by simpa using hR, rfl, rfl, rfl, rfl⟩ ?_
  rintro x D L S ⟨i, Cq, pq, hi, hoq, hRq, rfl, rfl, rfl, rfl⟩
  (repeat (first | (with_reducible refine then_n ?_) | (with_reducible refine then_r ?_) | (with_reducible refine then_e ?_) | (with_reducible refine block_n ?_) | (with_reducible refine block_r ?_) | (with_reducible refine block_e ?_) | refine block_o ?_ | (with_reducible refine scope_n ?_) | (with_reducible refine scope_r ?_) | (with_reducible refine scope_e ?_) | (with_reducible refine code_seq ?_) | (with_reducible refine code_skip ?_) | (with_reducible refine code_label ?_) | (with_reducible refine code_block ?_) | (with_reducible refine code_scope ?_) | (with_reducible refine code_exit ?_) | (with_reducible refine code_ret ?_) | refine regq_to ?_ | (with_reducible refine run_nil ?_) | ((with_reducible refine run_probe ?_); refine runq_more ?_) | (with_reducible refine draw_nil ?_) | ((with_reducible refine draw_probe ?_); (first | refine drawq_more ?_ | refine drawq_as ?_)) | refine code_then ?_ | refine code_else ?_))
  refine code_dr [[], [], [1], [0, 1, 2], [0, 1, 2, 3], [0, 1, 2, 3, 4], [0, 1, 2, 3, 4, 5], [0, 1, 2, 3, 4, 5, 6], [0, 1, 2, 3, 4, 5, 6, 7], [0, 1, 2, 3, 4], [0, 1, 2, 3, 4, 9], [0, 1, 2, 3, 4, 9, 10], [0, 1, 2, 3, 4, 9, 10, 11], [0, 1, 2, 3, 4, 9, 10, 11, 12], [0, 1, 2, 3, 4, 5, 6, 7, 8, 9, 10, 11, 12, 13], [0, 1, 2, 3, 4, 5, 6, 7, 8, 9, 10, 11, 12, 13, 14]] [(0, false, []), (1, false, []), (2, false, []), (3, false, []), (4, false, []), (5, false, []), (6, false, []), (7, false, []), (8, false, []), (9, false, []), (10, false, []), (11, false, []), (12, false, []), (13, false, []), (14, false, []), (15, false, [])] ?_
  (repeat (first | (with_reducible refine then_n ?_) | (with_reducible refine then_r ?_) | (with_reducible refine then_e ?_) | (with_reducible refine block_n ?_) | (with_reducible refine block_r ?_) | (with_reducible refine block_e ?_) | refine block_o ?_ | (with_reducible refine scope_n ?_) | (with_reducible refine scope_r ?_) | (with_reducible refine scope_e ?_) | (with_reducible refine code_seq ?_) | (with_reducible refine code_skip ?_) | (with_reducible refine code_label ?_) | (with_reducible refine code_block ?_) | (with_reducible refine code_scope ?_) | (with_reducible refine code_exit ?_) | (with_reducible refine code_ret ?_) | refine regq_to ?_ | (with_reducible refine run_nil ?_) | ((with_reducible refine run_probe ?_); refine runq_more ?_) | (with_reducible refine draw_nil ?_) | ((with_reducible refine draw_probe ?_); (first | refine drawq_more ?_ | refine drawq_as ?_)) | refine code_then ?_ | refine code_else ?_))
  by_cases e1 : (i : Int) < bs.length
  · rw [decide_eq_true e1]
    (repeat (first | (with_reducible refine then_n ?_) | (with_reducible refine then_r ?_) | (with_reducible refine then_e ?_) | (with_reducible refine block_n ?_) | (with_reducible refine block_r ?_) | (with_reducible refine block_e ?_) | refine block_o ?_ | (with_reducible refine scope_n ?_) | (with_reducible refine scope_r ?_) | (with_reducible refine scope_e ?_) | (with_reducible refine code_seq ?_) | (with_reducible refine code_skip ?_) | (with_reducible refine code_label ?_) | (with_reducible refine code_block ?_) | (with_reducible refine code_scope ?_) | (with_reducible refine code_exit ?_) | (with_reducible refine code_ret ?_) | refine regq_to ?_ | (with_reducible refine run_nil ?_) | ((with_reducible refine run_probe ?_); refine runq_more ?_) | (with_reducible refine draw_nil ?_) | ((with_reducible refine draw_probe ?_); (first | refine drawq_more ?_ | refine drawq_as ?_)) | refine code_then ?_ | refine code_else ?_))
    by_cases e2 : ((q.length + i : Nat) : Int) < room
    · rw [decide_eq_true e2]
      (repeat (first | (with_reducible refine then_n ?_) | (with_reducible refine then_r ?_) | (with_reducible refine then_e ?_) | (with_reducible refine block_n ?_) | (with_reducible refine block_r ?_) | (with_reducible refine block_e ?_) | refine block_o ?_ | (with_reducible refine scope_n ?_) | (with_reducible refine scope_r ?_) | (with_reducible refine scope_e ?_) | (with_reducible refine code_seq ?_) | (with_reducible refine code_skip ?_) | (with_reducible refine code_label ?_) | (with_reducible refine code_block ?_) | (with_reducible refine code_scope ?_) | (with_reducible refine code_exit ?_) | (with_reducible refine code_ret ?_) | refine regq_to ?_ | (with_reducible refine run_nil ?_) | ((with_reducible refine run_probe ?_); refine runq_more ?_) | (with_reducible refine draw_nil ?_) | ((with_reducible refine draw_probe ?_); (first | refine drawq_more ?_ | refine drawq_as ?_)) | refine code_then ?_ | refine code_else ?_))
      refine code_dr [[], [0], [0, 1], [0, 1, 2], [], [4], [4, 5], [4, 5, 6], [], [8], [8, 9], [8, 9, 10], [4, 5, 6, 7, 8, 9, 10, 11], [], [13], [13, 14], [13, 14, 15], [13, 14, 15, 16], [4, 5, 6, 7, 8, 9, 10, 11, 12, 13, 14, 15, 16, 17], [], [], [19, 20], [19, 20, 21], [0, 1, 2, 3, 4, 5, 6, 7, 8, 9, 10, 11, 12, 13, 14, 15, 16, 17, 18, 19, 20, 21, 22], [0, 1, 2, 3, 4, 5, 6, 7, 8, 9, 10, 11, 12, 13, 14, 15, 16, 17, 18, 19, 20, 21, 22, 23]] [(0, false, []), (1, false, []), (2, false, []), (3, false, []), (4, false, []), (5, false, []), (6, false, []), (7, false, []), (8, false, []), (9, false, []), (10, false, []), (11, false, []), (12, false, []), (13, false, []), (14, false, []), (15, false, []), (16, false, []), (17, false, []), (18, false, []), (19, false, []), (20, false, []), (21, false, []), (22, false, []), (23, false, []), (24, true, [])] ?_
      (repeat (first | (with_reducible refine then_n ?_) | (with_reducible refine then_r ?_) | (with_reducible refine then_e ?_) | (with_reducible refine block_n ?_) | (with_reducible refine block_r ?_) | (with_reducible refine block_e ?_) | refine block_o ?_ | (with_reducible refine scope_n ?_) | (with_reducible refine scope_r ?_) | (with_reducible refine scope_e ?_) | (with_reducible refine code_seq ?_) | (with_reducible refine code_skip ?_) | (with_reducible refine code_label ?_) | (with_reducible refine code_block ?_) | (with_reducible refine code_scope ?_) | (with_reducible refine code_exit ?_) | (with_reducible refine code_ret ?_) | refine regq_to ?_ | (with_reducible refine run_nil ?_) | ((with_reducible refine run_probe ?_); refine runq_more ?_) | (with_reducible refine draw_nil ?_) | ((with_reducible refine draw_probe ?_); (first | refine drawq_more ?_ | refine drawq_as ?_)) | refine code_then ?_ | refine code_else ?_))
      obtain ⟨x, hx⟩ : ∃ x, x = (a + (q.length + i)) % room := ⟨_, rfl⟩
      have hxr : x < room := by rw [hx]; exact Nat.mod_lt _ (by omega)
      rw [show ((a : Int) + ((q.length + i : Nat) : Int)) % (room : Int) = (x : Int) from by rw [hx]; simp only [Int.natCast_emod, Int.natCast_add]]
      have hpl : pq.length = room := hRq.1
      (repeat (first | (with_reducible refine then_n ?_) | (with_reducible refine then_r ?_) | (with_reducible refine then_e ?_) | (with_reducible refine block_n ?_) | (with_reducible refine block_r ?_) | (with_reducible refine block_e ?_) | refine block_o ?_ | (with_reducible refine scope_n ?_) | (with_reducible refine scope_r ?_) | (with_reducible refine scope_e ?_) | (with_reducible refine code_seq ?_) | (with_reducible refine code_skip ?_) | (with_reducible refine code_label ?_) | (with_reducible refine code_block ?_) | (with_reducible refine code_scope ?_) | (with_reducible refine code_exit ?_) | (with_reducible refine code_ret ?_) | refine regq_to ?_ | (with_reducible refine run_nil ?_) | ((with_reducible refine run_probe ?_); refine runq_more ?_) | (with_reducible refine draw_nil ?_) | ((with_reducible refine draw_probe ?_); (first | refine drawq_more ?_ | refine drawq_as ?_)) | refine code_then ?_ | refine code_else ?_))
      refine draw_op fun K hK => ?_; (apply own_store8 hoq); (· (repeat (first | with_reducible exact Pick.head _ _ | with_reducible apply Pick.tail))); (· omega); (intro C9 ho9); refine hK _ _ ?_; clear hK K
      (repeat (first | (with_reducible refine then_n ?_) | (with_reducible refine then_r ?_) | (with_reducible refine then_e ?_) | (with_reducible refine block_n ?_) | (with_reducible refine block_r ?_) | (with_reducible refine block_e ?_) | refine block_o ?_ | (with_reducible refine scope_n ?_) | (with_reducible refine scope_r ?_) | (with_reducible refine scope_e ?_) | (with_reducible refine code_seq ?_) | (with_reducible refine code_skip ?_) | (with_reducible refine code_label ?_) | (with_reducible refine code_block ?_) | (with_reducible refine code_scope ?_) | (with_reducible refine code_exit ?_) | (with_reducible refine code_ret ?_) | refine regq_to ?_ | (with_reducible refine run_nil ?_) | ((with_reducible refine run_probe ?_); refine runq_more ?_) | (with_reducible refine draw_nil ?_) | ((with_reducible refine draw_probe ?_); (first | refine drawq_more ?_ | refine drawq_as ?_)) | refine code_then ?_ | refine code_else ?_))
      have hil : i < bs.length := by omega
      have hap : q ++ bs.take (i + 1) = (q ++ bs.take i) ++ [bs.getD i 0] := by
        rw [List.take_add_one, List.getElem?_eq_getElem hil, List.append_assoc, List.getD_eq_getElem?_getD, List.getElem?_eq_getElem hil]; rfl
      have hql : (q ++ bs.take i).length = q.length + i := by rw [List.length_append, List.length_take]; omega
      have hR2 := hRq.put (by rw [hql]; omega) (bs.getD i 0)
      rw [← hap, hql, ← hx] at hR2
      rw [show (((q.length + i : Nat) : Int) + 1) = ((q.length + (i + 1) : Nat) : Int) from by omega]
      exact again ⟨i + 1, C9, _, by omega, ho9, hR2, rfl, rfl, rfl, rfl⟩
    · rw [decide_eq_false e2]
      obtain rfl : m = i := by omega
      (repeat (first | (with_reducible refine then_n ?_) | (with_reducible refine then_r ?_) | (with_reducible refine then_e ?_) | (with_reducible refine block_n ?_) | (with_reducible refine block_r ?_) | (with_reducible refine block_e ?_) | refine block_o ?_ | (with_reducible refine scope_n ?_) | (with_reducible refine scope_r ?_) | (with_reducible refine scope_e ?_) | (with_reducible refine code_seq ?_) | (with_reducible refine code_skip ?_) | (with_reducible refine code_label ?_) | (with_reducible refine code_block ?_) | (with_reducible refine code_scope ?_) | (with_reducible refine code_exit ?_) | (with_reducible refine code_ret ?_) | refine regq_to ?_ | (with_reducible refine run_nil ?_) | ((with_reducible refine run_probe ?_); refine runq_more ?_) | (with_reducible refine draw_nil ?_) | ((with_reducible refine draw_probe ?_); (first | refine drawq_more ?_ | refine drawq_as ?_)) | refine code_then ?_ | refine code_else ?_))
      refine back_tmp [pB b (.slice pa room room) a (q.length + m : Nat) f ((w : Int) + (m : Int)) h s1 a1 n1 f1 w1 h1, Cq, H] ⟨rfl, Cq, pq, hoq, hRq, rfl⟩
  · rw [decide_eq_false e1]
    obtain rfl : m = i := by omega
    (repeat (first | (with_reducible refine then_n ?_) | (with_reducible refine then_r ?_) | (with_reducible refine then_e ?_) | (with_reducible refine block_n ?_) | (with_reducible refine block_r ?_) | (with_reducible refine block_e ?_) | refine block_o ?_ | (with_reducible refine scope_n ?_) | (with_reducible refine scope_r ?_) | (with_reducible refine scope_e ?_) | (with_reducible refine code_seq ?_) | (with_reducible refine code_skip ?_) | (with_reducible refine code_label ?_) | (with_reducible refine code_block ?_) | (with_reducible refine code_scope ?_) | (with_reducible refine code_exit ?_) | (with_reducible refine code_ret ?_) | refine regq_to ?_ | (with_reducible refine run_nil ?_) | ((with_reducible refine run_probe ?_); refine runq_more ?_) | (with_reducible refine draw_nil ?_) | ((with_reducible refine draw_probe ?_); (first | refine drawq_more ?_ | refine drawq_as ?_)) | refine code_then ?_ | refine code_else ?_))
    refine back_tmp [pB b (.slice pa room room) a (q.length + m : Nat) f ((w : Int) + (m : Int)) h s1 a1 n1 f1 w1 h1, Cq, H] ⟨rfl, Cq, pq, hoq, hRq, rfl⟩

set_option maxHeartbeats 1000000 in
theorem put_1 (b : Nat) (pa : Option Addr) (room a : Nat) (q ps : List UInt8) (f : Bool) (w : Nat) (h : Nat) (s0 : Value) (a0 n0 : Int) (f0 : Bool) (w0 : Int) (h0 : Nat) (Cp H : Chunk) (ba : Option Addr) (cap : Nat) (bs : List UInt8)
    (hroom : room ≤ 1000000) (hw : w ≤ 1000000) (hbl : bs.length ≤ 1000000) (hR : Ring room a q ps) (ho : Own8 5 Cp pa room room ps) (hr : Rd 1 [H] ba bs.length (bs.map b8)) :
    Meets Tryd.prog 22 [.pointer (some ⟨b, 6, none⟩), .slice ba bs.length cap] [pB b s0 a0 n0 f0 w0 h0 (.slice pa room room) a q.length f w h, Cp, H]
      fun v A => v = .int .i64 (min bs.length (room - q.length) : Nat) ∧ ∃ Cp' ps', Own8 5 Cp' pa room room ps' ∧ Ring room a (q ++ bs.take (min bs.length (room - q.length))) ps' ∧
        A = [pB b s0 a0 n0 f0 w0 h0 (.slice pa room room) a (q ++ bs.take (min bs.length (room - q.length))).length f (w + min bs.length (room - q.length) : Nat) h, Cp', H] := by
  obtain ⟨m, hm⟩ : ∃ m, m = min bs.length (room - q.length) := ⟨_, rfl⟩
  rw [← hm]
  have hml : m ≤ bs.length := by omega
  rw [show (q ++ bs.take m).length = q.length + m from by rw [List.length_append, List.length_take]; omega, show ((w + m : Nat) : Int) = (w : Int) + (m : Int) from by omega]
  have hqr := hR.2.2.1
  have har := hR.2.1
  refine spec_intro Tryd.func22 rfl (by kernel_rfl) (by rw [Tryd.ntmps22]; simp) fun F => ?_; rw [Tryd.ntmps22, Tryd.results22]
  (repeat (first | (with_reducible refine then_n ?_) | (with_reducible refine then_r ?_) | (with_reducible refine then_e ?_) | (with_reducible refine block_n ?_) | (with_reducible refine block_r ?_) | (with_reducible refine block_e ?_) | refine block_o ?_ | (with_reducible refine scope_n ?_) | (with_reducible refine scope_r ?_) | (with_reducible refine scope_e ?_) | (with_reducible refine code_seq ?_) | (with_reducible refine code_skip ?_) | (with_reducible refine code_label ?_) | (with_reducible refine code_block ?_) | (with_reducible refine code_scope ?_) | (with_reducible refine code_exit ?_) | (with_reducible refine code_ret ?_) | refine regq_to ?_ | (with_reducible refine run_nil ?_) | ((with_reducible refine run_probe ?_); refine runq_more ?_) | (with_reducible refine draw_nil ?_) | ((with_reducible refine draw_probe ?_); (first | refine drawq_more ?_ | refine drawq_as ?_)) | refine code_then ?_ | refine code_else ?_))
  refine loop_i (fun x D L S => ∃ (i : Nat) (Cq : Chunk) (pq : List UInt8), i ≤ m ∧ Own8 5 Cq pa room room pq ∧ Ring room a (q ++ bs.take i) pq ∧ x = m - i ∧ D = [] ∧
    L = [(5, .int .i64 i), (0, .pointer (some ⟨b, 6, none⟩)), (1, .slice ba bs.length cap)] ∧ S = [pB b s0 a0 n0 f0 w0 h0 (.slice pa room room) a (q.length + i : Nat) f w h, Cq, H, F])
    ⟨0, Cp, ps, by omega, ho, by simpa using hR, rfl, rfl, rfl, rfl⟩ ?_
  rintro x D L S ⟨i, Cq, pq, hi, hoq, hRq, rfl, rfl, rfl, rfl⟩
  (repeat (first | (with_reducible refine then_n ?_) | (with_reducible refine then_r ?_) | (with_reducible refine then_e ?_) | (with_reducible refine block_n ?_) | (with_reducible refine block_r ?_) | (with_reducible refine block_e ?_) | refine block_o ?_ | (with_reducible refine scope_n ?_) | (with_reducible refine scope_r ?_) | (with_reducible refine scope_e ?_) | (with_reducible refine code_seq ?_) | (with_reducible refine code_skip ?_) | (with_reducible refine code_label ?_) | (with_reducible refine code_block ?_) | (with_reducible refine code_scope ?_) | (with_reducible refine code_exit ?_) | (with_reducible refine code_ret ?_) | refine regq_to ?_ | (with_reducible refine run_nil ?_) | ((with_reducible refine run_probe ?_); refine runq_more ?_) | (with_reducible refine draw_nil ?_) | ((with_reducible refine draw_probe ?_); (first | refine drawq_more ?_ | refine drawq_as ?_)) | refine code_then ?_ | refine code_else ?_))
  refine code_dr [[], [], [1], [0, 1, 2], [0, 1, 2, 3], [0, 1, 2, 3, 4], [0, 1, 2, 3, 4, 5], [0, 1, 2, 3, 4, 5, 6], [0, 1, 2, 3, 4, 5, 6, 7], [0, 1, 2, 3, 4], [0, 1, 2, 3, 4, 9], [0, 1, 2, 3, 4, 9, 10], [0, 1, 2, 3, 4, 9, 10, 11], [0, 1, 2, 3, 4, 9, 10, 11, 12], [0, 1, 2, 3, 4, 5, 6, 7, 8, 9, 10, 11, 12, 13], [0, 1, 2, 3, 4, 5, 6, 7, 8, 9, 10, 11, 12, 13, 14]] [(0, false, []), (1, false, []), (2, false, []), (3, false, []), (4, false, []), (5, false, []), (6, false, []), (7, false, []), (8, false, []), (9, false, []), (10, false, []), (11, false, []), (12, false, []), (13, false, []), (14, false, []), (15, false, [])] ?_
  (repeat (first | (with_reducible refine then_n ?_) | (with_reducible refine then_r ?_) | (with_reducible refine then_e ?_) | (with_reducible refine block_n ?_) | (with_reducible refine block_r ?_) | (with_reducible refine block_e ?_) | refine block_o ?_ | (with_reducible refine scope_n ?_) | (with_reducible refine scope_r ?_) | (with_reducible refine scope_e ?_) | (with_reducible refine code_seq ?_) | (with_reducible refine code_skip ?_) | (with_reducible refine code_label ?_) | (with_reducible refine code_block ?_) | (with_reducible refine code_scope ?_) | (with_reducible refine code_exit ?_) | (with_reducible refine code_ret ?_) | refine regq_to ?_ | (with_reducible refine run_nil ?_) | ((with_reducible refine run_probe ?_); refine runq_more ?_) | (with_reducible refine draw_nil ?_) | ((with_reducible refine draw_probe ?_); (first | refine drawq_more ?_ | refine drawq_as ?_)) | refine code_then ?_ | refine code_else ?_))
  by_cases e1 : (i : Int) < bs.length
  · rw [decide_eq_true e1]
    (repeat (first | (with_reducible refine then_n ?_) | (with_reducible refine then_r ?_) | (with_reducible refine then_e ?_) | (with_reducible refine block_n ?_) | (with_reducible refine block_r ?_) | (with_reducible refine block_e ?_) | refine block_o ?_ | (with_reducible refine scope_n ?_) | (with_reducible refine scope_r ?_) | (with_reducible refine scope_e ?_) | (with_reducible refine code_seq ?_) | (with_reducible refine code_skip ?_) | (with_reducible refine code_label ?_) | (with_reducible refine code_block ?_) | (with_reducible refine code_scope ?_) | (with_reducible refine code_exit ?_) | (with_reducible refine code_ret ?_) | refine regq_to ?_ | (with_reducible refine run_nil ?_) | ((with_reducible refine run_probe ?_); refine runq_more ?_) | (with_reducible refine draw_nil ?_) | ((with_reducible refine draw_probe ?_); (first | refine drawq_more ?_ | refine drawq_as ?_)) | refine code_then ?_ | refine code_else ?_))
    by_cases e2 : ((q.length + i : Nat) : Int) < room
    · rw [decide_eq_true e2]
      (repeat (first | (with_reducible refine then_n ?_) | (with_reducible refine then_r ?_) | (with_reducible refine then_e ?_) | (with_reducible refine block_n ?_) | (with_reducible refine block_r ?_) | (with_reducible refine block_e ?_) | refine block_o ?_ | (with_reducible refine scope_n ?_) | (with_reducible refine scope_r ?_) | (with_reducible refine scope_e ?_) | (with_reducible refine code_seq ?_) | (with_reducible refine code_skip ?_) | (with_reducible refine code_label ?_) | (with_reducible refine code_block ?_) | (with_reducible refine code_scope ?_) | (with_reducible refine code_exit ?_) | (with_reducible refine code_ret ?_) | refine regq_to ?_ | (with_reducible refine run_nil ?_) | ((with_reducible refine run_probe ?_); refine runq_more ?_) | (with_reducible refine draw_nil ?_) | ((with_reducible refine draw_probe ?_); (first | refine drawq_more ?_ | refine drawq_as ?_)) | refine code_then ?_ | refine code_else ?_))
      refine code_dr [[], [0], [0, 1], [0, 1, 2], [], [4], [4, 5], [4, 5, 6], [], [8], [8, 9], [8, 9, 10], [4, 5, 6, 7, 8, 9, 10, 11], [], [13], [13, 14], [13, 14, 15], [13, 14, 15, 16], [4, 5, 6, 7, 8, 9, 10, 11, 12, 13, 14, 15, 16, 17], [], [], [19, 20], [19, 20, 21], [0, 1, 2, 3, 4, 5, 6, 7, 8, 9, 10, 11, 12, 13, 14, 15, 16, 17, 18, 19, 20, 21, 22], [0, 1, 2, 3, 4, 5, 6, 7, 8, 9, 10, 11, 12, 13, 14, 15, 16, 17, 18, 19, 20, 21, 22, 23]] [(0, false, []), (1, false, []), (2, false, []), (3, false, []), (4, false, []), (5, false, []), (6, false, []), (7, false, []), (8, false, []), (9, false, []), (10, false, []), (11, false, []), (12, false, []), (13, false, []), (14, false, []), (15, false, []), (16, false, []), (17, false, []), (18, false, []), (19, false, []), (20, false, []), (21, false, []), (22, false, []), (23, false, []), (24, true, [])] ?_
      (repeat (first | (with_reducible refine then_n ?_) | (with_reducible refine then_r ?_) | (with_reducible refine then_e ?_) | (with_reducible refine block_n ?_) | (with_reducible refine block_r ?_) | (with_reducible refine block_e ?_) | refine block_o ?_ | (with_reducible refine scope_n ?_) | (with_reducible refine scope_r ?_) | (with_reducible refine scope_e ?_) | (with_reducible refine code_seq ?_) | (with_reducible refine code_skip ?_) | (with_reducible refine code_label ?_) | (with_reducible refine code_block ?_) | (with_reducible refine code_scope ?_) | (with_reducible refine code_exit ?_) | (with_reducible refine code_ret ?_) | refine regq_to ?_ | (with_reducible refine run_nil ?_) | ((with_reducible refine run_probe ?_); refine runq_more ?_) | (with_reducible refine draw_nil ?_) | ((with_reducible refine draw_probe ?_); (first | refine drawq_more ?_ | refine drawq_as ?_)) | refine code_then ?_ | refine code_else ?_))
      obtain ⟨x, hx⟩ : ∃ x, x = (a + (q.length + i)) % room := ⟨_, rfl⟩
      have hxr : x < room := by rw [hx]; exact Nat.mod_lt _ (by omega)
      rw [show ((a : Int) + ((q.length + i : Nat) : Int)) % (room : Int) = (x : Int) from by rw [hx]; simp only [Int.natCast_emod, Int.natCast_add]]
      have hpl : pq.length = room := hRq.1
      (repeat (first | (with_reducible refine then_n ?_) | (with_reducible refine then_r ?_) | (with_reducible refine then_e ?_) | (with_reducible refine block_n ?_) | (with_reducible refine block_r ?_) | (with_reducible refine block_e ?_) | refine block_o ?_ | (with_reducible refine scope_n ?_) | (with_reducible refine scope_r ?_) | (with_reducible refine scope_e ?_) | (with_reducible refine code_seq ?_) | (with_reducible refine code_skip ?_) | (with_reducible refine code_label ?_) | (with_reducible refine code_block ?_) | (with_reducible refine code_scope ?_) | (with_reducible refine code_exit ?_) | (with_reducible refine code_ret ?_) | refine regq_to ?_ | (with_reducible refine run_nil ?_) | ((with_reducible refine run_probe ?_); refine runq_more ?_) | (with_reducible refine draw_nil ?_) | ((with_reducible refine draw_probe ?_); (first | refine drawq_more ?_ | refine drawq_as ?_)) | refine code_then ?_ | refine code_else ?_))
      refine draw_op fun K hK => ?_; (apply own_store8 hoq); (· (repeat (first | with_reducible exact Pick.head _ _ | with_reducible apply Pick.tail))); (· omega); (intro C9 ho9); refine hK _ _ ?_; clear hK K
      (repeat (first | (with_reducible refine then_n ?_) | (with_reducible refine then_r ?_) | (with_reducible refine then_e ?_) | (with_reducible refine block_n ?_) | (with_reducible refine block_r ?_) | (with_reducible refine block_e ?_) | refine block_o ?_ | (with_reducible refine scope_n ?_) | (with_reducible refine scope_r ?_) | (with_reducible refine scope_e ?_) | (with_reducible refine code_seq ?_) | (with_reducible refine code_skip ?_) | (with_reducible refine code_label ?_) | (with_reducible refine code_block ?_) | (with_reducible refine code_scope ?_) | (with_reducible refine code_exit ?_) | (with_reducible refine code_ret ?_) | refine regq_to ?_ | (with_reducible refine run_nil ?_) | ((with_reducible refine run_probe ?_); refine runq_more ?_) | (with_reducible refine draw_nil ?_) | ((with_reducible refine draw_probe ?_); (first | refine drawq_more ?_ | refine drawq_as ?_)) | refine code_then ?_ | refine code_else ?_))
      have hil : i < bs.length := by omega
      have hap : q ++ bs.take (i + 1) = (q ++ bs.take i) ++ [bs.getD i 0] := by
        rw [List.take_add_one, List.getElem?_eq_getElem hil, List.append_assoc, List.getD_eq_getElem?_getD, List.getElem?_eq_getElem hil]; rfl
      have hql : (q ++ bs.take i).length = q.length + i := by rw [List.length_append, List.length_take]; omega
      have hR2 := hRq.put (by rw [hql]; omega) (bs.getD i 0)
      rw [← hap, hql, ← hx] at hR2
      rw [show (((q.length + i : Nat) : Int) + 1) = ((q.length + (i + 1) : Nat) : Int) from by omega]
      exact again ⟨i + 1, C9, _, by omega, ho9, hR2, rfl, rfl, rfl, rfl⟩
    · rw [decide_eq_false e2]
      obtain rfl : m = i := by omega
      (repeat (first | (with_reducible refine then_n ?_) | (with_reducible refine then_r ?_) | (with_reducible refine then_e ?_) | (with_reducible refine block_n ?_) | (with_reducible refine block_r ?_) | (with_reducible refine block_e ?_) | refine block_o ?_ | (with_reducible refine scope_n ?_) | (with_reducible refine scope_r ?_) | (with_reducible refine scope_e ?_) | (with_reducible refine code_seq ?_) | (with_reducible refine code_skip ?_) | (with_reducible refine code_label ?_) | (with_reducible refine code_block ?_) | (with_reducible refine code_scope ?_) | (with_reducible refine code_exit ?_) | (with_reducible refine code_ret ?_) | refine regq_to ?_ | (with_reducible refine run_nil ?_) | ((with_reducible refine run_probe ?_); refine runq_more ?_) | (with_reducible refine draw_nil ?_) | ((with_reducible refine draw_probe ?_); (first | refine drawq_more ?_ | refine drawq_as ?_)) | refine code_then ?_ | refine code_else ?_))
      refine back_tmp [pB b s0 a0 n0 f0 w0 h0 (.slice pa room room) a (q.length + m : Nat) f ((w : Int) + (m : Int)) h, Cq, H] ⟨rfl, Cq, pq, hoq, hRq, rfl⟩
  · rw [decide_eq_false e1]
    obtain rfl : m = i := by omega
    (repeat (first | (with_reducible refine then_n ?_) | (with_reducible refine then_r ?_) | (with_reducible refine then_e ?_) | (with_reducible refine block_n ?_) | (with_reducible refine block_r ?_) | (with_reducible refine block_e ?_) | refine block_o ?_ | (with_reducible refine scope_n ?_) | (with_reducible refine scope_r ?_) | (with_reducible refine scope_e ?_) | (with_reducible refine code_seq ?_) | (with_reducible refine code_skip ?_) | (with_reducible refine code_label ?_) | (with_reducible refine code_block ?_) | (with_reducible refine code_scope ?_) | (with_reducible refine code_exit ?_) | (with_reducible refine code_ret ?_) | refine regq_to ?_ | (with_reducible refine run_nil ?_) | ((with_reducible refine run_probe ?_); refine runq_more ?_) | (with_reducible refine draw_nil ?_) | ((with_reducible refine draw_probe ?_); (first | refine drawq_more ?_ | refine drawq_as ?_)) | refine code_then ?_ | refine code_else ?_))
    refine back_tmp [pB b s0 a0 n0 f0 w0 h0 (.slice pa room room) a (q.length + m : Nat) f ((w : Int) + (m : Int)) h, Cq, H] ⟨rfl, Cq, pq, hoq, hRq, rfl⟩

set_option maxHeartbeats 1000000 in
theorem take_0 {t1 : TypeId} (G : Chunk) (m1 : Nat × Nat) (hG1 : (1, Obj.cells (rowW Go.Sha.odd) t1 m1) ∈ G) (b : Nat) (pa : Option Addr) (room a : Nat) (q ps : List UInt8) (f : Bool) (w : Int) (h : Nat) (s1 : Value) (a1 n1 : Int) (f1 : Bool) (w1 : Int) (h1 : Nat) (Cp Cr : Chunk)
    (r : List UInt8) (ar : Option Addr) (cr : Nat) (most : Int) (m : Nat) (hm : m = min most.toNat q.length)
    (hroom : room ≤ 1000000) (hrl : r.length ≤ 1000000) (hR : Ring room a q ps) (ho : Own8 5 Cp pa room room ps) (hCr : Own8 5 Cr ar (left r).length cr (left r)) :
    Meets Tryd.prog 23 [.pointer (some ⟨b, 0, none⟩), .int .i64 most] [G, pB b (.slice pa room room) a q.length f w h s1 a1 n1 f1 w1 h1, Cp, hashA h r ar cr, Cr]
      fun v A => ∃ O oa oc a' Cr' ar' cr', v = .slice oa m oc ∧ Own8 5 O oa m oc (q.take m) ∧ Ring room a' (q.drop m) ps ∧ Own8 5 Cr' ar' (left (r ++ q.take m)).length cr' (left (r ++ q.take m)) ∧
        A = [O, G, pB b (.slice pa room room) (a' : Nat) (q.length - m : Nat) f w h s1 a1 n1 f1 w1 h1, Cp, hashA h (r ++ q.take m) ar' cr', Cr'] := by
  have hqr := hR.2.2.1
  refine spec_intro Tryd.func23 rfl (by kernel_rfl) (by rw [Tryd.ntmps23]; simp) fun F => ?_; rw [Tryd.ntmps23, Tryd.results23]
  (repeat (first | (with_reducible refine then_n ?_) | (with_reducible refine then_r ?_) | (with_reducible refine then_e ?_) | (with_reducible refine block_n ?_) | (with_reducible refine block_r ?_) | (with_reducible refine block_e ?_) | refine block_o ?_ | (with_reducible refine scope_n ?_) | (with_reducible refine scope_r ?_) | (with_reducible refine scope_e ?_) | (with_reducible refine code_seq ?_) | (with_reducible refine code_skip ?_) | (with_reducible refine code_label ?_) | (with_reducible refine code_block ?_) | (with_reducible refine code_scope ?_) | (with_reducible refine code_exit ?_) | (with_reducible refine code_ret ?_) | refine regq_to ?_ | (with_reducible refine run_nil ?_) | ((with_reducible refine run_probe ?_); refine runq_more ?_) | (with_reducible refine draw_nil ?_) | ((with_reducible refine draw_probe ?_); (first | refine drawq_more ?_ | refine drawq_as ?_)) | refine code_then ?_ | refine code_else ?_))
  refine code_nil ?_
  refine loop_i (fun x D L S => ∃ (i : Nat) (X : Chunk) (xa : Option Addr) (xc a' : Nat), i ≤ m ∧ Own8 5 X xa i xc (q.take i) ∧ Ring room a' (q.drop i) ps ∧ x = m - i ∧ D = [] ∧
    L = [(5, .slice xa i xc), (0, .pointer (some ⟨b, 0, none⟩)), (1, .int .i64 most)] ∧ S = [X, pB b (.slice pa room room) (a' : Nat) (q.length - i : Nat) f w h s1 a1 n1 f1 w1 h1, G, Cp, hashA h r ar cr, Cr, F])
    ⟨0, [], none, 0, a, by omega, own_nil, by simpa using hR, rfl, rfl, rfl, rfl⟩ ?_
  rintro x D L S ⟨i, X, xa, xc, a', hi, hX, hRq, rfl, rfl, rfl, rfl⟩
  (repeat (first | (with_reducible refine then_n ?_) | (with_reducible refine then_r ?_) | (with_reducible refine then_e ?_) | (with_reducible refine block_n ?_) | (with_reducible refine block_r ?_) | (with_reducible refine block_e ?_) | refine block_o ?_ | (with_reducible refine scope_n ?_) | (with_reducible refine scope_r ?_) | (with_reducible refine scope_e ?_) | (with_reducible refine code_seq ?_) | (with_reducible refine code_skip ?_) | (with_reducible refine code_label ?_) | (with_reducible refine code_block ?_) | (with_reducible refine code_scope ?_) | (with_reducible refine code_exit ?_) | (with_reducible refine code_ret ?_) | refine regq_to ?_ | (with_reducible refine run_nil ?_) | ((with_reducible refine run_probe ?_); refine runq_more ?_) | (with_reducible refine draw_nil ?_) | ((with_reducible refine draw_probe ?_); (first | refine drawq_more ?_ | refine drawq_as ?_)) | refine code_then ?_ | refine code_else ?_))
  by_cases e1 : (i : Int) < most
  · rw [decide_eq_true e1]
    (repeat (first | (with_reducible refine then_n ?_) | (with_reducible refine then_r ?_) | (with_reducible refine then_e ?_) | (with_reducible refine block_n ?_) | (with_reducible refine block_r ?_) | (with_reducible refine block_e ?_) | refine block_o ?_ | (with_reducible refine scope_n ?_) | (with_reducible refine scope_r ?_) | (with_reducible refine scope_e ?_) | (with_reducible refine code_seq ?_) | (with_reducible refine code_skip ?_) | (with_reducible refine code_label ?_) | (with_reducible refine code_block ?_) | (with_reducible refine code_scope ?_) | (with_reducible refine code_exit ?_) | (with_reducible refine code_ret ?_) | refine regq_to ?_ | (with_reducible refine run_nil ?_) | ((with_reducible refine run_probe ?_); refine runq_more ?_) | (with_reducible refine draw_nil ?_) | ((with_reducible refine draw_probe ?_); (first | refine drawq_more ?_ | refine drawq_as ?_)) | refine code_then ?_ | refine code_else ?_))
    by_cases e2 : (0 : Int) < ((q.length - i : Nat) : Int)
    · rw [decide_eq_true e2]
      (repeat (first | (with_reducible refine then_n ?_) | (with_reducible refine then_r ?_) | (with_reducible refine then_e ?_) | (with_reducible refine block_n ?_) | (with_reducible refine block_r ?_) | (with_reducible refine block_e ?_) | refine block_o ?_ | (with_reducible refine scope_n ?_) | (with_reducible refine scope_r ?_) | (with_reducible refine scope_e ?_) | (with_reducible refine code_seq ?_) | (with_reducible refine code_skip ?_) | (with_reducible refine code_label ?_) | (with_reducible refine code_block ?_) | (with_reducible refine code_scope ?_) | (with_reducible refine code_exit ?_) | (with_reducible refine code_ret ?_) | refine regq_to ?_ | (with_reducible refine run_nil ?_) | ((with_reducible refine run_probe ?_); refine runq_more ?_) | (with_reducible refine draw_nil ?_) | ((with_reducible refine draw_probe ?_); (first | refine drawq_more ?_ | refine drawq_as ?_)) | refine code_then ?_ | refine code_else ?_))
      have hil : i < q.length := by omega
      have hRc := hRq
      rw [List.drop_eq_getElem_cons hil] at hRc
      have hfst := hRc.first
      have hnx := hRc.next
      have har := hRq.2.1
      have hpl := hRq.1
      refine code_dr [[], [], [1], [1, 2], [1, 2, 3], [], [5], [5, 6], [5, 6, 7], [1, 2, 3, 4, 5, 6, 7, 8], [1, 2, 3, 4, 5, 6, 7, 8, 9], [1, 2, 3, 4, 5, 6, 7, 8, 9, 10], [0, 1, 2, 3, 4, 5, 6, 7, 8, 9, 10, 11], [0, 1, 2, 3, 4, 5, 6, 7, 8, 9, 10, 11, 12]] [(0, false, []), (1, false, []), (2, false, []), (3, false, []), (4, false, []), (5, false, []), (6, false, []), (7, false, []), (8, false, []), (9, false, []), (10, false, []), (11, true, []), (12, true, []), (13, true, [])] ?_
      (repeat (first | (with_reducible refine then_n ?_) | (with_reducible refine then_r ?_) | (with_reducible refine then_e ?_) | (with_reducible refine block_n ?_) | (with_reducible refine block_r ?_) | (with_reducible refine block_e ?_) | refine block_o ?_ | (with_reducible refine scope_n ?_) | (with_reducible refine scope_r ?_) | (with_reducible refine scope_e ?_) | (with_reducible refine code_seq ?_) | (with_reducible refine code_skip ?_) | (with_reducible refine code_label ?_) | (with_reducible refine code_block ?_) | (with_reducible refine code_scope ?_) | (with_reducible refine code_exit ?_) | (with_reducible refine code_ret ?_) | refine regq_to ?_ | (with_reducible refine run_nil ?_) | ((with_reducible refine run_probe ?_); refine runq_more ?_) | (with_reducible refine draw_nil ?_) | ((with_reducible refine draw_probe ?_); (first | refine drawq_more ?_ | refine drawq_as ?_)) | refine code_then ?_ | refine code_else ?_))
      refine draw_op fun K hK => ?_; refine build8 [ps.getD a' 0] (by decide) rfl rfl (fun b3 C3 ho3 => ?_); refine hK _ _ ?_; clear hK K
      refine draw_op fun K hK => ?_; refine app8 hX (by (repeat (first | with_reducible exact Pick.head _ _ | with_reducible apply Pick.tail))) (ho3.rd (by (repeat (first | with_reducible assumption | with_reducible exact List.mem_cons_self .. | with_reducible apply List.mem_cons_of_mem)))) (by omega) (fun C4 a4 cap4 ho4 => ?_); refine hK _ _ ?_; clear hK K
      (repeat (first | (with_reducible refine then_n ?_) | (with_reducible refine then_r ?_) | (with_reducible refine then_e ?_) | (with_reducible refine block_n ?_) | (with_reducible refine block_r ?_) | (with_reducible refine block_e ?_) | refine block_o ?_ | (with_reducible refine scope_n ?_) | (with_reducible refine scope_r ?_) | (with_reducible refine scope_e ?_) | (with_reducible refine code_seq ?_) | (with_reducible refine code_skip ?_) | (with_reducible refine code_label ?_) | (with_reducible refine code_block ?_) | (with_reducible refine code_scope ?_) | (with_reducible refine code_exit ?_) | (with_reducible refine code_ret ?_) | refine regq_to ?_ | (with_reducible refine run_nil ?_) | ((with_reducible refine run_probe ?_); refine runq_more ?_) | (with_reducible refine draw_nil ?_) | ((with_reducible refine draw_probe ?_); (first | refine drawq_more ?_ | refine drawq_as ?_)) | refine code_then ?_ | refine code_else ?_))
      refine code_dr [[], [], [1], [1, 2], [1, 2, 3], [1, 2, 3, 4], [], [6], [6, 7], [6, 7, 8], [6, 7, 8, 9], [1, 2, 3, 4, 5, 6, 7, 8, 9, 10], [0, 1, 2, 3, 4, 5, 6, 7, 8, 9, 10, 11], [0, 1, 2, 3, 4, 5, 6, 7, 8, 9, 10, 11, 12], [0, 1, 2, 3, 4, 5, 6, 7, 8, 9, 10, 11, 12, 13]] [(0, false, []), (1, false, []), (2, false, []), (3, false, []), (4, false, []), (5, false, []), (6, false, []), (7, false, []), (8, false, []), (9, false, []), (10, false, []), (11, false, []), (12, false, []), (13, false, []), (14, true, [])] ?_
      (repeat (first | (with_reducible refine then_n ?_) | (with_reducible refine then_r ?_) | (with_reducible refine then_e ?_) | (with_reducible refine block_n ?_) | (with_reducible refine block_r ?_) | (with_reducible refine block_e ?_) | refine block_o ?_ | (with_reducible refine scope_n ?_) | (with_reducible refine scope_r ?_) | (with_reducible refine scope_e ?_) | (with_reducible refine code_seq ?_) | (with_reducible refine code_skip ?_) | (with_reducible refine code_label ?_) | (with_reducible refine code_block ?_) | (with_reducible refine code_scope ?_) | (with_reducible refine code_exit ?_) | (with_reducible refine code_ret ?_) | refine regq_to ?_ | (with_reducible refine run_nil ?_) | ((with_reducible refine run_probe ?_); refine runq_more ?_) | (with_reducible refine draw_nil ?_) | ((with_reducible refine draw_probe ?_); (first | refine drawq_more ?_ | refine drawq_as ?_)) | refine code_then ?_ | refine code_else ?_))
      rw [hfst, show q.take i ++ [q[i]] = q.take (i + 1) from by rw [List.take_add_one, List.getElem?_eq_getElem hil]; rfl] at ho4
      rw [show (((q.length - i : Nat) : Int) - 1) = ((q.length - (i + 1) : Nat) : Int) from by omega, show ((a' : Int) + 1) % (room : Int) = (((a' + 1) % room : Nat) : Int) from by simp only [Int.natCast_emod, Int.natCast_add]; rfl]
      exact again ⟨i + 1, C4, a4, cap4, _, by omega, ho4, hnx, rfl, rfl, rfl, rfl⟩
    · rw [decide_eq_false e2]
      obtain rfl : m = i := by omega
      have hl : (q.take m).length = m := by rw [List.length_take]; omega
      have hW := write2_spec G Cr X m1 hG1 h r ar xa cr xc (q.take m) hrl (by omega) hCr (by rw [hl]; exact hX.rd (S := [X]) (by simp))
      rw [hl] at hW
      (repeat (first | (with_reducible refine then_n ?_) | (with_reducible refine then_r ?_) | (with_reducible refine then_e ?_) | (with_reducible refine block_n ?_) | (with_reducible refine block_r ?_) | (with_reducible refine block_e ?_) | refine block_o ?_ | (with_reducible refine scope_n ?_) | (with_reducible refine scope_r ?_) | (with_reducible refine scope_e ?_) | (with_reducible refine code_seq ?_) | (with_reducible refine code_skip ?_) | (with_reducible refine code_label ?_) | (with_reducible refine code_block ?_) | (with_reducible refine code_scope ?_) | (with_reducible refine code_exit ?_) | (with_reducible refine code_ret ?_) | refine regq_to ?_ | (with_reducible refine run_nil ?_) | ((with_reducible refine run_probe ?_); refine runq_more ?_) | (with_reducible refine draw_nil ?_) | ((with_reducible refine draw_probe ?_); (first | refine drawq_more ?_ | refine drawq_as ?_)) | refine code_then ?_ | refine code_else ?_))
      refine run_op fun K hK => ?_; refine calls_to (hW) ?_; rintro v A ⟨rfl, C5, a5, c5, ho5, rfl⟩; (try simp only [List.nil_append, List.cons_append]); refine hK _ _ ?_; clear hK K; (repeat (first | (with_reducible refine then_n ?_) | (with_reducible refine then_r ?_) | (with_reducible refine then_e ?_) | (with_reducible refine block_n ?_) | (with_reducible refine block_r ?_) | (with_reducible refine block_e ?_) | refine block_o ?_ | (with_reducible refine scope_n ?_) | (with_reducible refine scope_r ?_) | (with_reducible refine scope_e ?_) | (with_reducible refine code_seq ?_) | (with_reducible refine code_skip ?_) | (with_reducible refine code_label ?_) | (with_reducible refine code_block ?_) | (with_reducible refine code_scope ?_) | (with_reducible refine code_exit ?_) | (with_reducible refine code_ret ?_) | refine regq_to ?_ | (with_reducible refine run_nil ?_) | ((with_reducible refine run_probe ?_); refine runq_more ?_) | (with_reducible refine draw_nil ?_) | ((with_reducible refine draw_probe ?_); (first | refine drawq_more ?_ | refine drawq_as ?_)) | refine code_then ?_ | refine code_else ?_))
      refine back_tmp [X, G, pB b (.slice pa room room) (a' : Nat) (q.length - m : Nat) f w h s1 a1 n1 f1 w1 h1, Cp, hashA h (r ++ q.take m) a5 c5, C5] ⟨X, xa, xc, a', C5, a5, c5, rfl, hX, hRq, ho5, rfl⟩
  · rw [decide_eq_false e1]
    obtain rfl : m = i := by omega
    have hl : (q.take m).length = m := by rw [List.length_take]; omega
    have hW := write2_spec G Cr X m1 hG1 h r ar xa cr xc (q.take m) hrl (by omega) hCr (by rw [hl]; exact hX.rd (S := [X]) (by simp))
    rw [hl] at hW
    (repeat (first | (with_reducible refine then_n ?_) | (with_reducible refine then_r ?_) | (with_reducible refine then_e ?_) | (with_reducible refine block_n ?_) | (with_reducible refine block_r ?_) | (with_reducible refine block_e ?_) | refine block_o ?_ | (with_reducible refine scope_n ?_) | (with_reducible refine scope_r ?_) | (with_reducible refine scope_e ?_) | (with_reducible refine code_seq ?_) | (with_reducible refine code_skip ?_) | (with_reducible refine code_label ?_) | (with_reducible refine code_block ?_) | (with_reducible refine code_scope ?_) | (with_reducible refine code_exit ?_) | (with_reducible refine code_ret ?_) | refine regq_to ?_ | (with_reducible refine run_nil ?_) | ((with_reducible refine run_probe ?_); refine runq_more ?_) | (with_reducible refine draw_nil ?_) | ((with_reducible refine draw_probe ?_); (first | refine drawq_more ?_ | refine drawq_as ?_)) | refine code_then ?_ | refine code_else ?_))
    refine run_op fun K hK => ?_; refine calls_to (hW) ?_; rintro v A ⟨rfl, C5, a5, c5, ho5, rfl⟩; (try simp only [List.nil_append, List.cons_append]); refine hK _ _ ?_; clear hK K; (repeat (first | (with_reducible refine then_n ?_) | (with_reducible refine then_r ?_) | (with_reducible refine then_e ?_) | (with_reducible refine block_n ?_) | (with_reducible refine block_r ?_) | (with_reducible refine block_e ?_) | refine block_o ?_ | (with_reducible refine scope_n ?_) | (with_reducible refine scope_r ?_) | (with_reducible refine scope_e ?_) | (with_reducible refine code_seq ?_) | (with_reducible refine code_skip ?_) | (with_reducible refine code_label ?_) | (with_reducible refine code_block ?_) | (with_reducible refine code_scope ?_) | (with_reducible refine code_exit ?_) | (with_reducible refine code_ret ?_) | refine regq_to ?_ | (with_reducible refine run_nil ?_) | ((with_reducible refine run_probe ?_); refine runq_more ?_) | (with_reducible refine draw_nil ?_) | ((with_reducible refine draw_probe ?_); (first | refine drawq_more ?_ | refine drawq_as ?_)) | refine code_then ?_ | refine code_else ?_))
    refine back_tmp [X, G, pB b (.slice pa room room) (a' : Nat) (q.length - m : Nat) f w h s1 a1 n1 f1 w1 h1, Cp, hashA h (r ++ q.take m) a5 c5, C5] ⟨X, xa, xc, a', C5, a5, c5, rfl, hX, hRq, ho5, rfl⟩

set_option maxHeartbeats 1000000 in
theorem take_1 {t1 : TypeId} (G : Chunk) (m1 : Nat × Nat) (hG1 : (1, Obj.cells (rowW Go.Sha.odd) t1 m1) ∈ G) (b : Nat) (pa : Option Addr) (room a : Nat) (q ps : List UInt8) (f : Bool) (w : Int) (h : Nat) (s0 : Value) (a0 n0 : Int) (f0 : Bool) (w0 : Int) (h0 : Nat) (Cp Cr : Chunk)
    (r : List UInt8) (ar : Option Addr) (cr : Nat) (most : Int) (m : Nat) (hm : m = min most.toNat q.length)
    (hroom : room ≤ 1000000) (hrl : r.length ≤ 1000000) (hR : Ring room a q ps) (ho : Own8 5 Cp pa room room ps) (hCr : Own8 5 Cr ar (left r).length cr (left r)) :
    Meets Tryd.prog 23 [.pointer (some ⟨b, 6, none⟩), .int .i64 most] [G, pB b s0 a0 n0 f0 w0 h0 (.slice pa room room) a q.length f w h, Cp, hashA h r ar cr, Cr]
      fun v A => ∃ O oa oc a' Cr' ar' cr', v = .slice oa m oc ∧ Own8 5 O oa m oc (q.take m) ∧ Ring room a' (q.drop m) ps ∧ Own8 5 Cr' ar' (left (r ++ q.take m)).length cr' (left (r ++ q.take m)) ∧
        A = [O, G, pB b s0 a0 n0 f0 w0 h0 (.slice pa room room) (a' : Nat) (q.length - m : Nat) f w h, Cp, hashA h (r ++ q.take m) ar' cr', Cr'] := by
  have hqr := hR.2.2.1
  refine spec_intro Tryd.func23 rfl (by kernel_rfl) (by rw [Tryd.ntmps23]; simp) fun F => ?_; rw [Tryd.ntmps23, Tryd.results23]
  (repeat (first | (with_reducible refine then_n ?_) | (with_reducible refine then_r ?_) | (with_reducible refine then_e ?_) | (with_reducible refine block_n ?_) | (with_reducible refine block_r ?_) | (with_reducible refine block_e ?_) | refine block_o ?_ | (with_reducible refine scope_n ?_) | (with_reducible refine scope_r ?_) | (with_reducible refine scope_e ?_) | (with_reducible refine code_seq ?_) | (with_reducible refine code_skip ?_) | (with_reducible refine code_label ?_) | (with_reducible refine code_block ?_) | (with_reducible refine code_scope ?_) | (with_reducible refine code_exit ?_) | (with_reducible refine code_ret ?_) | refine regq_to ?_ | (with_reducible refine run_nil ?_) | ((with_reducible refine run_probe ?_); refine runq_more ?_) | (with_reducible refine draw_nil ?_) | ((with_reducible refine draw_probe ?_); (first | refine drawq_more ?_ | refine drawq_as ?_)) | refine code_then ?_ | refine code_else ?_))
  refine code_nil ?_
  refine loop_i (fun x D L S => ∃ (i : Nat) (X : Chunk) (xa : Option Addr) (xc a' : Nat), i ≤ m ∧ Own8 5 X xa i xc (q.take i) ∧ Ring room a' (q.drop i) ps ∧ x = m - i ∧ D = [] ∧
    L = [(5, .slice xa i xc), (0, .pointer (some ⟨b, 6, none⟩)), (1, .int .i64 most)] ∧ S = [X, pB b s0 a0 n0 f0 w0 h0 (.slice pa room room) (a' : Nat) (q.length - i : Nat) f w h, G, Cp, hashA h r ar cr, Cr, F])
    ⟨0, [], none, 0, a, by omega, own_nil, by simpa using hR, rfl, rfl, rfl, rfl⟩ ?_
  rintro x D L S ⟨i, X, xa, xc, a', hi, hX, hRq, rfl, rfl, rfl, rfl⟩
  (repeat (first | (with_reducible refine then_n ?_) | (with_reducible refine then_r ?_) | (with_reducible refine then_e ?_) | (with_reducible refine block_n ?_) | (with_reducible refine block_r ?_) | (with_reducible refine block_e ?_) | refine block_o ?_ | (with_reducible refine scope_n ?_) | (with_reducible refine scope_r ?_) | (with_reducible refine scope_e ?_) | (with_reducible refine code_seq ?_) | (with_reducible refine code_skip ?_) | (with_reducible refine code_label ?_) | (with_reducible refine code_block ?_) | (with_reducible refine code_scope ?_) | (with_reducible refine code_exit ?_) | (with_reducible refine code_ret ?_) | refine regq_to ?_ | (with_reducible refine run_nil ?_) | ((with_reducible refine run_probe ?_); refine runq_more ?_) | (with_reducible refine draw_nil ?_) | ((with_reducible refine draw_probe ?_); (first | refine drawq_more ?_ | refine drawq_as ?_)) | refine code_then ?_ | refine code_else ?_))
  by_cases e1 : (i : Int) < most
  · rw [decide_eq_true e1]
    (repeat (first | (with_reducible refine then_n ?_) | (with_reducible refine then_r ?_) | (with_reducible refine then_e ?_) | (with_reducible refine block_n ?_) | (with_reducible refine block_r ?_) | (with_reducible refine block_e ?_) | refine block_o ?_ | (with_reducible refine scope_n ?_) | (with_reducible refine scope_r ?_) | (with_reducible refine scope_e ?_) | (with_reducible refine code_seq ?_) | (with_reducible refine code_skip ?_) | (with_reducible refine code_label ?_) | (with_reducible refine code_block ?_) | (with_reducible refine code_scope ?_) | (with_reducible refine code_exit ?_) | (with_reducible refine code_ret ?_) | refine regq_to ?_ | (with_reducible refine run_nil ?_) | ((with_reducible refine run_probe ?_); refine runq_more ?_) | (with_reducible refine draw_nil ?_) | ((with_reducible refine draw_probe ?_); (first | refine drawq_more ?_ | refine drawq_as ?_)) | refine code_then ?_ | refine code_else ?_))
    by_cases e2 : (0 : Int) < ((q.length - i : Nat) : Int)
    · rw [decide_eq_true e2]
      (repeat (first | (with_reducible refine then_n ?_) | (with_reducible refine then_r ?_) | (with_reducible refine then_e ?_) | (with_reducible refine block_n ?_) | (with_reducible refine block_r ?_) | (with_reducible refine block_e ?_) | refine block_o ?_ | (with_reducible refine scope_n ?_) | (with_reducible refine scope_r ?_) | (with_reducible refine scope_e ?_) | (with_reducible refine code_seq ?_) | (with_reducible refine code_skip ?_) | (with_reducible refine code_label ?_) | (with_reducible refine code_block ?_) | (with_reducible refine code_scope ?_) | (with_reducible refine code_exit ?_) | (with_reducible refine code_ret ?_) | refine regq_to ?_ | (with_reducible refine run_nil ?_) | ((with_reducible refine run_probe ?_); refine runq_more ?_) | (with_reducible refine draw_nil ?_) | ((with_reducible refine draw_probe ?_); (first | refine drawq_more ?_ | refine drawq_as ?_)) | refine code_then ?_ | refine code_else ?_))
      have hil : i < q.length := by omega
      have hRc := hRq
      rw [List.drop_eq_getElem_cons hil] at hRc
      have hfst := hRc.first
      have hnx := hRc.next
      have har := hRq.2.1
      have hpl := hRq.1
      refine code_dr [[], [], [1], [1, 2], [1, 2, 3], [], [5], [5, 6], [5, 6, 7], [1, 2, 3, 4, 5, 6, 7, 8], [1, 2, 3, 4, 5, 6, 7, 8, 9], [1, 2, 3, 4, 5, 6, 7, 8, 9, 10], [0, 1, 2, 3, 4, 5, 6, 7, 8, 9, 10, 11], [0, 1, 2, 3, 4, 5, 6, 7, 8, 9, 10, 11, 12]] [(0, false, []), (1, false, []), (2, false, []), (3, false, []), (4, false, []), (5, false, []), (6, false, []), (7, false, []), (8, false, []), (9, false, []), (10, false, []), (11, true, []), (12, true, []), (13, true, [])] ?_
      (repeat (first | (with_reducible refine then_n ?_) | (with_reducible refine then_r ?_) | (with_reducible refine then_e ?_) | (with_reducible refine block_n ?_) | (with_reducible refine block_r ?_) | (with_reducible refine block_e ?_) | refine block_o ?_ | (with_reducible refine scope_n ?_) | (with_reducible refine scope_r ?_) | (with_reducible refine scope_e ?_) | (with_reducible refine code_seq ?_) | (with_reducible refine code_skip ?_) | (with_reducible refine code_label ?_) | (with_reducible refine code_block ?_) | (with_reducible refine code_scope ?_) | (with_reducible refine code_exit ?_) | (with_reducible refine code_ret ?_) | refine regq_to ?_ | (with_reducible refine run_nil ?_) | ((with_reducible refine run_probe ?_); refine runq_more ?_) | (with_reducible refine draw_nil ?_) | ((with_reducible refine draw_probe ?_); (first | refine drawq_more ?_ | refine drawq_as ?_)) | refine code_then ?_ | refine code_else ?_))
      refine draw_op fun K hK => ?_; refine build8 [ps.getD a' 0] (by decide) rfl rfl (fun b3 C3 ho3 => ?_); refine hK _ _ ?_; clear hK K
      refine draw_op fun K hK => ?_; refine app8 hX (by (repeat (first | with_reducible exact Pick.head _ _ | with_reducible apply Pick.tail))) (ho3.rd (by (repeat (first | with_reducible assumption | with_reducible exact List.mem_cons_self .. | with_reducible apply List.mem_cons_of_mem)))) (by omega) (fun C4 a4 cap4 ho4 => ?_); refine hK _ _ ?_; clear hK K
      (repeat (first | (with_reducible refine then_n ?_) | (with_reducible refine then_r ?_) | (with_reducible refine then_e ?_) | (with_reducible refine block_n ?_) | (with_reducible refine block_r ?_) | (with_reducible refine block_e ?_) | refine block_o ?_ | (with_reducible refine scope_n ?_) | (with_reducible refine scope_r ?_) | (with_reducible refine scope_e ?_) | (with_reducible refine code_seq ?_) | (with_reducible refine code_skip ?_) | (with_reducible refine code_label ?_) | (with_reducible refine code_block ?_) | (with_reducible refine code_scope ?_) | (with_reducible refine code_exit ?_) | (with_reducible refine code_ret ?_) | refine regq_to ?_ | (with_reducible refine run_nil ?_) | ((with_reducible refine run_probe ?_); refine runq_more ?_) | (with_reducible refine draw_nil ?_) | ((with_reducible refine draw_probe ?_); (first | refine drawq_more ?_ | refine drawq_as ?_)) | refine code_then ?_ | refine code_else ?_))
      refine code_dr [[], [], [1], [1, 2], [1, 2, 3], [1, 2, 3, 4], [], [6], [6, 7], [6, 7, 8], [6, 7, 8, 9], [1, 2, 3, 4, 5, 6, 7, 8, 9, 10], [0, 1, 2, 3, 4, 5, 6, 7, 8, 9, 10, 11], [0, 1, 2, 3, 4, 5, 6, 7, 8, 9, 10, 11, 12], [0, 1, 2, 3, 4, 5, 6, 7, 8, 9, 10, 11, 12, 13]] [(0, false, []), (1, false, []), (2, false, []), (3, false, []), (4, false, []), (5, false, []), (6, false, []), (7, false, []), (8, false, []), (9, false, []), (10, false, []), (11, false, []), (12, false, []), (13, false, []), (14, true, [])] ?_
      (repeat (first | (with_reducible refine then_n ?_) | (with_reducible refine then_r ?_) | (with_reducible refine then_e ?_) | (with_reducible refine block_n ?_) | (with_reducible refine block_r ?_) | (with_reducible refine block_e ?_) | refine block_o ?_ | (with_reducible refine scope_n ?_) | (with_reducible refine scope_r ?_) | (with_reducible refine scope_e ?_) | (with_reducible refine code_seq ?_) | (with_reducible refine code_skip ?_) | (with_reducible refine code_label ?_) | (with_reducible refine code_block ?_) | (with_reducible refine code_scope ?_) | (with_reducible refine code_exit ?_) | (with_reducible refine code_ret ?_) | refine regq_to ?_ | (with_reducible refine run_nil ?_) | ((with_reducible refine run_probe ?_); refine runq_more ?_) | (with_reducible refine draw_nil ?_) | ((with_reducible refine draw_probe ?_); (first | refine drawq_more ?_ | refine drawq_as ?_)) | refine code_then ?_ | refine code_else ?_))
      rw [hfst, show q.take i ++ [q[i]] = q.take (i + 1) from by rw [List.take_add_one, List.getElem?_eq_getElem hil]; rfl] at ho4
      rw [show (((q.length - i : Nat) : Int) - 1) = ((q.length - (i + 1) : Nat) : Int) from by omega, show ((a' : Int) + 1) % (room : Int) = (((a' + 1) % room : Nat) : Int) from by simp only [Int.natCast_emod, Int.natCast_add]; rfl]
      exact again ⟨i + 1, C4, a4, cap4, _, by omega, ho4, hnx, rfl, rfl, rfl, rfl⟩
    · rw [decide_eq_false e2]
      obtain rfl : m = i := by omega
      have hl : (q.take m).length = m := by rw [List.length_take]; omega
      have hW := write2_spec G Cr X m1 hG1 h r ar xa cr xc (q.take m) hrl (by omega) hCr (by rw [hl]; exact hX.rd (S := [X]) (by simp))
      rw [hl] at hW
      (repeat (first | (with_reducible refine then_n ?_) | (with_reducible refine then_r ?_) | (with_reducible refine then_e ?_) | (with_reducible refine block_n ?_) | (with_reducible refine block_r ?_) | (with_reducible refine block_e ?_) | refine block_o ?_ | (with_reducible refine scope_n ?_) | (with_reducible refine scope_r ?_) | (with_reducible refine scope_e ?_) | (with_reducible refine code_seq ?_) | (with_reducible refine code_skip ?_) | (with_reducible refine code_label ?_) | (with_reducible refine code_block ?_) | (with_reducible refine code_scope ?_) | (with_reducible refine code_exit ?_) | (with_reducible refine code_ret ?_) | refine regq_to ?_ | (with_reducible refine run_nil ?_) | ((with_reducible refine run_probe ?_); refine runq_more ?_) | (with_reducible refine draw_nil ?_) | ((with_reducible refine draw_probe ?_); (first | refine drawq_more ?_ | refine drawq_as ?_)) | refine code_then ?_ | refine code_else ?_))
      refine run_op fun K hK => ?_; refine calls_to (hW) ?_; rintro v A ⟨rfl, C5, a5, c5, ho5, rfl⟩; (try simp only [List.nil_append, List.cons_append]); refine hK _ _ ?_; clear hK K; (repeat (first | (with_reducible refine then_n ?_) | (with_reducible refine then_r ?_) | (with_reducible refine then_e ?_) | (with_reducible refine block_n ?_) | (with_reducible refine block_r ?_) | (with_reducible refine block_e ?_) | refine block_o ?_ | (with_reducible refine scope_n ?_) | (with_reducible refine scope_r ?_) | (with_reducible refine scope_e ?_) | (with_reducible refine code_seq ?_) | (with_reducible refine code_skip ?_) | (with_reducible refine code_label ?_) | (with_reducible refine code_block ?_) | (with_reducible refine code_scope ?_) | (with_reducible refine code_exit ?_) | (with_reducible refine code_ret ?_) | refine regq_to ?_ | (with_reducible refine run_nil ?_) | ((with_reducible refine run_probe ?_); refine runq_more ?_) | (with_reducible refine draw_nil ?_) | ((with_reducible refine draw_probe ?_); (first | refine drawq_more ?_ | refine drawq_as ?_)) | refine code_then ?_ | refine code_else ?_))
      refine back_tmp [X, G, pB b s0 a0 n0 f0 w0 h0 (.slice pa room room) (a' : Nat) (q.length - m : Nat) f w h, Cp, hashA h (r ++ q.take m) a5 c5, C5] ⟨X, xa, xc, a', C5, a5, c5, rfl, hX, hRq, ho5, rfl⟩
  · rw [decide_eq_false e1]
    obtain rfl : m = i := by omega
    have hl : (q.take m).length = m := by rw [List.length_take]; omega
    have hW := write2_spec G Cr X m1 hG1 h r ar xa cr xc (q.take m) hrl (by omega) hCr (by rw [hl]; exact hX.rd (S := [X]) (by simp))
    rw [hl] at hW
    (repeat (first | (with_reducible refine then_n ?_) | (with_reducible refine then_r ?_) | (with_reducible refine then_e ?_) | (with_reducible refine block_n ?_) | (with_reducible refine block_r ?_) | (with_reducible refine block_e ?_) | refine block_o ?_ | (with_reducible refine scope_n ?_) | (with_reducible refine scope_r ?_) | (with_reducible refine scope_e ?_) | (with_reducible refine code_seq ?_) | (with_reducible refine code_skip ?_) | (with_reducible refine code_label ?_) | (with_reducible refine code_block ?_) | (with_reducible refine code_scope ?_) | (with_reducible refine code_exit ?_) | (with_reducible refine code_ret ?_) | refine regq_to ?_ | (with_reducible refine run_nil ?_) | ((with_reducible refine run_probe ?_); refine runq_more ?_) | (with_reducible refine draw_nil ?_) | ((with_reducible refine draw_probe ?_); (first | refine drawq_more ?_ | refine drawq_as ?_)) | refine code_then ?_ | refine code_else ?_))
    refine run_op fun K hK => ?_; refine calls_to (hW) ?_; rintro v A ⟨rfl, C5, a5, c5, ho5, rfl⟩; (try simp only [List.nil_append, List.cons_append]); refine hK _ _ ?_; clear hK K; (repeat (first | (with_reducible refine then_n ?_) | (with_reducible refine then_r ?_) | (with_reducible refine then_e ?_) | (with_reducible refine block_n ?_) | (with_reducible refine block_r ?_) | (with_reducible refine block_e ?_) | refine block_o ?_ | (with_reducible refine scope_n ?_) | (with_reducible refine scope_r ?_) | (with_reducible refine scope_e ?_) | (with_reducible refine code_seq ?_) | (with_reducible refine code_skip ?_) | (with_reducible refine code_label ?_) | (with_reducible refine code_block ?_) | (with_reducible refine code_scope ?_) | (with_reducible refine code_exit ?_) | (with_reducible refine code_ret ?_) | refine regq_to ?_ | (with_reducible refine run_nil ?_) | ((with_reducible refine run_probe ?_); refine runq_more ?_) | (with_reducible refine draw_nil ?_) | ((with_reducible refine draw_probe ?_); (first | refine drawq_more ?_ | refine drawq_as ?_)) | refine code_then ?_ | refine code_else ?_))
    refine back_tmp [X, G, pB b s0 a0 n0 f0 w0 h0 (.slice pa room room) (a' : Nat) (q.length - m : Nat) f w h, Cp, hashA h (r ++ q.take m) a5 c5, C5] ⟨X, xa, xc, a', C5, a5, c5, rfl, hX, hRq, ho5, rfl⟩

end Go.Proofs.YtlcbaijjjphmjaaDoor
