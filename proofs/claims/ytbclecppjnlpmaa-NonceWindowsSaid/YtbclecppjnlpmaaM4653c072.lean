/- Texts in a row: the walk's rules and contracts, as each says. Conditions: as each says. -/
import Derived.Test.YtbclecppjnlpmaaM35b0b5b9
import Derived.Test.YtbclecppjnlpmaaM8832a324
import Derived.Test.YtbclecppjnlpmaaM9d370173
import Derived.Test.YtbclecppjnlpmaaMfc4042cc
import Derived.Test.YtbclecppjnlpmaaM82d52c69
/- Numbers' bytes and digits; which texts may be drawn. Conditions: as each says. -/
set_option linter.unusedSimpArgs false
set_option linter.unusedVariables false
namespace Go.Proofs.Ytbclecppjnlpmaa
open Go Go.Ost Go.Sha

theorem refbytes_spec (n k : Nat) (hn : n < 18446744073709551616) (hk : k ≤ 1000) : Meets Try.prog 57 [.int .u64 n, .int .i64 k] [] (New8 5 (be k n) []) := by
  refine spec_intro Try.func57 rfl (by kernel_rfl) (by rw [Try.ntmps57]; simp) fun F => ?_; rw [Try.ntmps57, Try.results57]
  refine code_seq_k fun N1 hN1 => ?_
  refine reg_to ?_; (try refine run_end ?_)
  refine hN1 _ _ _ ?_; clear hN1
  refine code_seq_k fun N2 hN2 => ?_
  refine reg_to ?_; (try refine run_end ?_)
  refine run_op fun K hK => ?_
  refine make8 (by omega) (fun b1 C1 ho1 => ?_)
  refine hK _ _ ?_; clear hK K
  (try refine run_to ?_); (try refine run_end ?_)
  refine hN2 _ _ _ ?_; clear hN2
  refine code_seq_k fun N3 hN3 => ?_
  refine code_seq_k fun N4 hN4 => ?_
  refine reg_to ?_; (try refine run_end ?_)
  refine hN4 _ _ _ ?_; clear hN4
  refine code_block ?_
  refine code_loop (fun q D L S => ∃ (i : Nat) (C : Chunk) (j : Int) (v : Nat), i ≤ k ∧ j = (k : Int) - 1 - i ∧ v = n / 256 ^ i ∧ Own8 5 C (some ⟨b1, 0, none⟩) k k (List.replicate (k - i) 0 ++ (be k n).drop (k - i)) ∧ q = k - i ∧ D = [] ∧ L = [(6, .int .i64 j), (0, .int .u64 (v : Int)), (5, .slice (some ⟨b1, 0, none⟩) k k)] ∧ S = [C, F]) ?_ ?_
  · refine ⟨_, _, _, ⟨0, C1, (k : Int) - 1, n, by omega, by omega, by simp, ?_, rfl, rfl, rfl, rfl⟩, by (repeat (first | exact True.intro | (refine And.intro ?_ ?_; (· (try simp only [evT, lookT_hit, lookT_miss, Nat.reduceBEq]); (first | done | exact rfl))))), by first | ((repeat (first | with_reducible exact Among.nil _ | with_reducible exact Pick.head _ _ | with_reducible apply Pick.tail | with_reducible apply Among.cons)); done) | ((repeat (first | exact Among.nil _ | exact Pick.head _ _ | apply Pick.tail | apply Among.cons)); done)⟩
    rw [Nat.sub_zero, List.drop_of_length_le (by rw [be_len]; omega), List.append_nil]
    exact ho1
  · rintro q D L S ⟨i, C, j, v, hi, hj, hv, ho, rfl, rfl, rfl, rfl⟩
    have hvn : v ≤ n := by rw [hv]; exact Nat.div_le_self _ _
    refine code_seq_k fun N5 hN5 => ?_
    refine code_seq_k fun N6 hN6 => ?_
    refine reg_to ?_; (try refine run_end ?_)
    refine hN6 _ _ _ ?_; clear hN6
    refine code_if (fun hc => ?_) (fun hc => ?_)
    · have hc := of_decide_eq_true hc
      refine code_skip ?_
      refine hN5 _ _ _ ?_; clear hN5
      refine code_seq_k fun N7 hN7 => ?_
      refine code_block ?_
      refine code_seq_k fun N8 hN8 => ?_
      refine reg_to ?_; (try refine run_end ?_)
      have e1 : Value.int .u8 ((v : Int) % 256) = b8 (UInt8.ofNat (n / 256 ^ i % 256)) := by
        simp only [b8, ← hv, UInt8.toNat_ofNat']; congr 1; omega
      have e2 : (⟨b1, 0 + j.toNat * 1, none⟩ : Addr) = elA (some ⟨b1, 0, none⟩) (k - 1 - i) := by
        simp only [elA, Option.getD_some, add_mk]; congr 1; omega
      refine run_op fun K hK => ?_
      rw [e1, e2]
      refine own_store8 ho (by (repeat (first | with_reducible exact Pick.head _ _ | with_reducible apply Pick.tail))) (by simp [be_len]; omega) (fun C2 ho2 => ?_)
      rw [be_back k n i (by omega)] at ho2
      refine hK _ _ ?_; clear hK K
      (try refine run_to ?_); (try refine run_end ?_)
      refine hN8 _ _ _ ?_; clear hN8
      refine reg_to ?_; (try refine run_end ?_)
      refine hN7 _ _ _ ?_; clear hN7
      refine reg_to ?_; (try refine run_end ?_)
      have hv2 : v / 256 = n / 256 ^ (i + 1) := by rw [hv, Nat.div_div_eq_div_mul, Nat.pow_succ]
      rw [show ((v : Int) / 256) = ((v / 256 : Nat) : Int) from by omega]
      exact again ⟨i + 1, C2, j - 1, v / 256, by omega, by omega, hv2, ho2, rfl, rfl, rfl, rfl⟩
    · have hc := of_decide_eq_false hc
      refine code_exit ?_; try simp only [Cont.then, Cont.block, Cont.noGoto, reduceIte, Nat.reduceEqDiff]
      refine hN3 _ _ _ ?_; clear hN3
      have e : List.replicate (k - i) 0 ++ (be k n).drop (k - i) = be k n := by rw [show k - i = 0 from by omega]; rfl
      rw [e] at ho
      refine code_seq_k fun N9 hN9 => ?_
      refine reg_to ?_; (try refine run_end ?_)
      refine hN9 _ _ _ ?_; clear hN9
      refine code_back ?_
      have e2 := be_len k n
      refine ret_tmp [C] (by (try simp only [evT, lookT_hit, lookT_miss, Nat.reduceBEq]); (first | done | exact rfl)) ⟨C, some ⟨b1, 0, none⟩, k, ?_, ?_, rfl⟩ (by first | ((repeat (first | with_reducible exact Among.nil _ | with_reducible exact Pick.head _ _ | with_reducible apply Pick.tail | with_reducible apply Among.cons)); done) | ((repeat (first | exact Among.nil _ | exact Pick.head _ _ | apply Pick.tail | apply Among.cons)); done))
      · rw [e2]
      · rw [e2]; exact ho


theorem refhex_spec (H : Chunk) (a : Option Addr) (cap : Nat) (bs : List UInt8) (hb : bs.length ≤ 1000000) (h : Rd 1 [H] a bs.length (bs.map b8)) :
    Meets Try.prog 10 [.slice a bs.length cap] [H] fun v A => v = .string (str (hex bs)) ∧ A = [H] := by
  refine spec_intro Try.func10 rfl (by kernel_rfl) (by rw [Try.ntmps10]; simp) fun F => ?_; rw [Try.ntmps10, Try.results10]
  refine code_seq_k fun N1 hN1 => ?_
  refine reg_to ?_; (try refine run_end ?_)
  refine hN1 _ _ _ ?_; clear hN1
  refine code_seq_k fun N2 hN2 => ?_
  refine reg_to ?_; (try refine run_end ?_)
  refine hN2 _ _ _ ?_; clear hN2
  refine code_seq_k fun N3 hN3 => ?_
  refine code_seq_k fun N4 hN4 => ?_
  refine reg_to ?_; (try refine run_end ?_)
  refine hN4 _ _ _ ?_; clear hN4
  refine code_block ?_
  refine code_loop (fun q D L S => ∃ i : Nat, i ≤ bs.length ∧ q = bs.length - i ∧ D = [] ∧ L = [(8, .int .i64 i), (7, .int .i64 bs.length), (6, .slice a bs.length cap), (3, .string (str (hex (bs.take i))))] ∧ S = [F, H]) ?_ ?_
  · exact ⟨_, _, _, ⟨0, by omega, rfl, rfl, rfl, rfl⟩, by (repeat (first | exact True.intro | (refine And.intro ?_ ?_; (· (try simp only [evT, lookT_hit, lookT_miss, Nat.reduceBEq]); (first | done | exact rfl))))), by first | ((repeat (first | with_reducible exact Among.nil _ | with_reducible exact Pick.head _ _ | with_reducible apply Pick.tail | with_reducible apply Among.cons)); done) | ((repeat (first | exact Among.nil _ | exact Pick.head _ _ | apply Pick.tail | apply Among.cons)); done)⟩
  · rintro q D L S ⟨i, hi, rfl, rfl, rfl, rfl⟩
    refine code_seq_k fun N5 hN5 => ?_
    refine reg_to ?_; (try refine run_end ?_)
    refine hN5 _ _ _ ?_; clear hN5
    refine code_seq_k fun N6 hN6 => ?_
    refine code_if (fun hc => ?_) (fun hc => ?_)
    · have hc := of_decide_eq_true hc
      refine code_skip ?_
      refine hN6 _ _ _ ?_; clear hN6
      refine code_seq_k fun N7 hN7 => ?_
      refine code_block ?_
      refine code_seq_k fun N8 hN8 => ?_
      refine code_reg ?_; (repeat ((with_reducible refine run_cons fun K hK => ?_); (try simp only [gos, gob, Nat.reduceBEq, if_true, reduceIte, reduceCtorEq, Nat.reduceLT, Nat.reduceEqDiff, Nat.reduceAdd, Nat.reduceSub, Int.reduceLT, Int.reduceLE, Int.reduceBEq, Int.reduceBNe, Int.reduceToNat, Int.reduceAdd, Int.reduceSub, Int.reduceMul, Int.reduceDiv, Int.reduceMod, Int.reducePow, Int.toNat_natCast, Nat.sub_zero]); (try (simp (disch := omega) only [gow, gobw, index_rd (h.next F)]; try simp only [gos, gob, Nat.reduceBEq, if_true, reduceIte, reduceCtorEq, Nat.reduceLT, Nat.reduceEqDiff, Nat.reduceAdd, Nat.reduceSub, Int.reduceLT, Int.reduceLE, Int.reduceBEq, Int.reduceBNe, Int.reduceToNat, Int.reduceAdd, Int.reduceSub, Int.reduceMul, Int.reduceDiv, Int.reduceMod, Int.reducePow, Int.toNat_natCast, Nat.sub_zero])); (first | (with_reducible refine hK _ _ ?_) | (refine rd_load8 (h.next F) (by omega) ?_; (with_reducible refine hK _ _ ?_)) | ((with_reducible apply load_box); (· (repeat (first | with_reducible exact Lies.one | with_reducible apply Lies.next))); (with_reducible refine hK _ _ ?_)) | ((with_reducible apply load_one); (· (repeat (first | with_reducible exact Lies.one | with_reducible apply Lies.next))); (· exact rfl); (with_reducible refine hK _ _ ?_))); clear hK K)); try ((with_reducible refine run_nil ?_); try simp only [Cont.then, Cont.block, Cont.noGoto, reduceIte, Nat.reduceEqDiff])
      refine hN8 _ _ _ ?_; clear hN8
      rw [show b8 (bs.getD i 0) = .int .u8 (bs.getD i 0).toNat from rfl]
      have hx := (bs.getD i 0).toNat_lt
      refine code_draw [[], [], [1], [], [3], [3, 4], [1, 2, 3, 4, 5], [], [7], [], [9], [9, 10], [7, 8, 9, 10, 11], [1, 2, 3, 4, 5, 6, 7, 8, 9, 10, 11, 12], [0, 1, 2, 3, 4, 5, 6, 7, 8, 9, 10, 11, 12, 13], [0, 1, 2, 3, 4, 5, 6, 7, 8, 9, 10, 11, 12, 13, 14]] [(0, false, []), (1, false, []), (2, false, []), (3, false, []), (4, false, []), (5, false, []), (6, false, []), (7, false, []), (8, false, []), (9, false, []), (10, false, []), (11, false, []), (12, false, []), (13, false, []), (14, false, []), (15, true, [])] (by kernel_rfl) (by kernel_rfl) ?_
      (try refine draw_to ?_); (try refine draw_end ?_)
      refine draw_quiet (by simp only [List.getElem?_toArray, List.getElem?_cons_succ, List.getElem?_cons_zero]; rfl) fun K hK => ?_; (try simp only [gos, gob, Nat.reduceBEq, if_true, reduceIte, reduceCtorEq, Nat.reduceLT, Nat.reduceEqDiff, Nat.reduceAdd, Nat.reduceSub, Int.reduceLT, Int.reduceLE, Int.reduceBEq, Int.reduceBNe, Int.reduceToNat, Int.reduceAdd, Int.reduceSub, Int.reduceMul, Int.reduceDiv, Int.reduceMod, Int.reducePow, Int.toNat_natCast, Nat.sub_zero, goq]); (try (simp (disch := omega) only [gow, gobw]; try simp only [gos, gob, Nat.reduceBEq, if_true, reduceIte, reduceCtorEq, Nat.reduceLT, Nat.reduceEqDiff, Nat.reduceAdd, Nat.reduceSub, Int.reduceLT, Int.reduceLE, Int.reduceBEq, Int.reduceBNe, Int.reduceToNat, Int.reduceAdd, Int.reduceSub, Int.reduceMul, Int.reduceDiv, Int.reduceMod, Int.reducePow, Int.toNat_natCast, Nat.sub_zero, goq]))
      rw [show Value.string ⟨#[48, 49, 50, 51, 52, 53, 54, 55, 56, 57, 97, 98, 99, 100, 101, 102]⟩ = .string (str digits) from rfl]
      rw [str_cut (by omega) (by omega) (by show _ ≤ (16 : Int); omega), show ((((bs.getD i 0).toNat : Int) / 16 + 1).toNat - (((bs.getD i 0).toNat : Int) / 16).toNat) = 1 from by omega, show (((bs.getD i 0).toNat : Int) / 16).toNat = (bs.getD i 0).toNat / 16 from by omega, dig1 _ (by omega)]
      (with_reducible refine hK _ _ ?_); clear hK K
      (try refine draw_to ?_); (try refine draw_end ?_)
      refine draw_quiet (by simp only [List.getElem?_toArray, List.getElem?_cons_succ, List.getElem?_cons_zero]; rfl) fun K hK => ?_; (try simp only [gos, gob, Nat.reduceBEq, if_true, reduceIte, reduceCtorEq, Nat.reduceLT, Nat.reduceEqDiff, Nat.reduceAdd, Nat.reduceSub, Int.reduceLT, Int.reduceLE, Int.reduceBEq, Int.reduceBNe, Int.reduceToNat, Int.reduceAdd, Int.reduceSub, Int.reduceMul, Int.reduceDiv, Int.reduceMod, Int.reducePow, Int.toNat_natCast, Nat.sub_zero, goq]); (try (simp (disch := omega) only [gow, gobw]; try simp only [gos, gob, Nat.reduceBEq, if_true, reduceIte, reduceCtorEq, Nat.reduceLT, Nat.reduceEqDiff, Nat.reduceAdd, Nat.reduceSub, Int.reduceLT, Int.reduceLE, Int.reduceBEq, Int.reduceBNe, Int.reduceToNat, Int.reduceAdd, Int.reduceSub, Int.reduceMul, Int.reduceDiv, Int.reduceMod, Int.reducePow, Int.toNat_natCast, Nat.sub_zero, goq]))
      rw [show Value.string ⟨#[48, 49, 50, 51, 52, 53, 54, 55, 56, 57, 97, 98, 99, 100, 101, 102]⟩ = .string (str digits) from rfl]
      rw [str_cut (by omega) (by omega) (by show _ ≤ (16 : Int); omega), show ((((bs.getD i 0).toNat : Int) % 16 + 1).toNat - (((bs.getD i 0).toNat : Int) % 16).toNat) = 1 from by omega, show (((bs.getD i 0).toNat : Int) % 16).toNat = (bs.getD i 0).toNat % 16 from by omega, dig1 _ (by omega)]
      (with_reducible refine hK _ _ ?_); clear hK K
      refine draw_quiet (by simp only [List.getElem?_toArray, List.getElem?_cons_succ, List.getElem?_cons_zero]; rfl) fun K hK => ?_; (try simp only [gos, gob, Nat.reduceBEq, if_true, reduceIte, reduceCtorEq, Nat.reduceLT, Nat.reduceEqDiff, Nat.reduceAdd, Nat.reduceSub, Int.reduceLT, Int.reduceLE, Int.reduceBEq, Int.reduceBNe, Int.reduceToNat, Int.reduceAdd, Int.reduceSub, Int.reduceMul, Int.reduceDiv, Int.reduceMod, Int.reducePow, Int.toNat_natCast, Nat.sub_zero, goq]); (try (simp (disch := omega) only [gow, gobw]; try simp only [gos, gob, Nat.reduceBEq, if_true, reduceIte, reduceCtorEq, Nat.reduceLT, Nat.reduceEqDiff, Nat.reduceAdd, Nat.reduceSub, Int.reduceLT, Int.reduceLE, Int.reduceBEq, Int.reduceBNe, Int.reduceToNat, Int.reduceAdd, Int.reduceSub, Int.reduceMul, Int.reduceDiv, Int.reduceMod, Int.reducePow, Int.toNat_natCast, Nat.sub_zero, goq]))
      rw [str_add (by simp)]
      (with_reducible refine hK _ _ ?_); clear hK K
      refine draw_quiet (by simp only [List.getElem?_toArray, List.getElem?_cons_succ, List.getElem?_cons_zero]; rfl) fun K hK => ?_; (try simp only [gos, gob, Nat.reduceBEq, if_true, reduceIte, reduceCtorEq, Nat.reduceLT, Nat.reduceEqDiff, Nat.reduceAdd, Nat.reduceSub, Int.reduceLT, Int.reduceLE, Int.reduceBEq, Int.reduceBNe, Int.reduceToNat, Int.reduceAdd, Int.reduceSub, Int.reduceMul, Int.reduceDiv, Int.reduceMod, Int.reducePow, Int.toNat_natCast, Nat.sub_zero, goq]); (try (simp (disch := omega) only [gow, gobw]; try simp only [gos, gob, Nat.reduceBEq, if_true, reduceIte, reduceCtorEq, Nat.reduceLT, Nat.reduceEqDiff, Nat.reduceAdd, Nat.reduceSub, Int.reduceLT, Int.reduceLE, Int.reduceBEq, Int.reduceBNe, Int.reduceToNat, Int.reduceAdd, Int.reduceSub, Int.reduceMul, Int.reduceDiv, Int.reduceMod, Int.reducePow, Int.toNat_natCast, Nat.sub_zero, goq]))
      rw [str_add (by rw [hex_len, List.length_take]; simp; omega)]
      (with_reducible refine hK _ _ ?_); clear hK K
      (try refine draw_to ?_); (try refine draw_end ?_)
      refine draw_op fun K hK => ?_; (repeat refine pend ?_); refine hK _ _ ?_; clear hK K
      (try refine draw_to ?_); (try refine draw_end ?_)
      rw [show hex (bs.take i) ++ [digits.getD ((bs.getD i 0).toNat / 16) 0, digits.getD ((bs.getD i 0).toNat % 16) 0] = hex (bs.take (i + 1)) from by rw [hex_next bs i (by omega)]; rfl]
      refine hN7 _ _ _ ?_; clear hN7
      refine reg_to ?_; (try refine run_end ?_)
      exact again ⟨i + 1, by omega, rfl, rfl, rfl, rfl⟩
    · have hc := of_decide_eq_false hc
      refine code_exit ?_; try simp only [Cont.then, Cont.block, Cont.noGoto, reduceIte, Nat.reduceEqDiff]
      refine hN3 _ _ _ ?_; clear hN3
      obtain rfl : i = bs.length := by omega
      rw [List.take_length]
      refine code_seq_k fun N9 hN9 => ?_
      refine reg_to ?_; (try refine run_end ?_)
      refine hN9 _ _ _ ?_; clear hN9
      refine code_back ?_
      refine back_tmp [H] ?_; exact ⟨rfl, rfl⟩


/-! ### Texts -/

def nonB (c : UInt8) : Bool := !(decide ((c.toNat : Int) < 33) || (decide ((126 : Int) < (c.toNat : Int)) || ((c.toNat : Int) == 44)))
def drawB (s : List UInt8) : Bool := s.all nonB && (decide (1 ≤ s.length) && decide (s.length ≤ 40))

theorem all_take_next {p : UInt8 → Bool} (s : List UInt8) (i : Nat) (h : i < s.length) : (s.take (i + 1)).all p = ((s.take i).all p && p (s.getD i 0)) := by
  rw [List.take_add_one, List.all_append, List.getD_eq_getElem?_getD, List.getElem?_eq_getElem h]
  simp
theorem all_cut {p : UInt8 → Bool} {s : List UInt8} {i : Nat} (h : i < s.length) (hp : p (s.getD i 0) = false) : s.all p = false := by
  rw [List.all_eq_false]
  refine ⟨s.getD i 0, ?_, by rw [hp]; simp⟩
  rw [List.getD_eq_getElem?_getD, List.getElem?_eq_getElem h]
  exact List.getElem_mem h

theorem snonce_spec (s : List UInt8) (hs : s.length ≤ 1000000) : Meets Try.prog 41 [.string (str s)] [] fun v A => v = .bool (s.all nonB && (decide (1 ≤ s.length) && decide (s.length ≤ 64))) ∧ A = [] := by
  refine spec_intro Try.func41 rfl (by kernel_rfl) (by rw [Try.ntmps41]; simp) fun F => ?_; rw [Try.ntmps41, Try.results41]
  (repeat (first | (with_reducible refine then_n ?_) | (with_reducible refine then_r ?_) | (with_reducible refine then_e ?_) | (with_reducible refine block_n ?_) | (with_reducible refine block_r ?_) | (with_reducible refine block_e ?_) | refine block_o ?_ | (with_reducible refine scope_n ?_) | (with_reducible refine scope_r ?_) | (with_reducible refine scope_e ?_) | (with_reducible refine code_seq ?_) | (with_reducible refine code_skip ?_) | (with_reducible refine code_label ?_) | (with_reducible refine code_block ?_) | (with_reducible refine code_scope ?_) | (with_reducible refine code_exit ?_) | (with_reducible refine code_ret ?_) | refine regq_to ?_ | (with_reducible refine run_nil ?_) | ((with_reducible refine run_probe ?_); refine runq_more ?_) | (with_reducible refine draw_nil ?_) | ((with_reducible refine draw_probe ?_); (first | refine drawq_more ?_ | refine drawq_as ?_)) | refine code_then ?_ | refine code_else ?_))
  refine loop_i (fun q D L S => ∃ i : Nat, i ≤ s.length ∧ (s.take i).all nonB = true ∧ q = s.length - i ∧ D = [] ∧ L = [(6, .int .i64 i), (5, .int .i64 s.length), (0, .string (str s))] ∧ S = [F])
    ⟨0, by omega, by simp, rfl, rfl, rfl, rfl⟩ ?_
  rintro q D L S ⟨i, hi, hall, rfl, rfl, rfl, rfl⟩
  (repeat (first | (with_reducible refine then_n ?_) | (with_reducible refine then_r ?_) | (with_reducible refine then_e ?_) | (with_reducible refine block_n ?_) | (with_reducible refine block_r ?_) | (with_reducible refine block_e ?_) | refine block_o ?_ | (with_reducible refine scope_n ?_) | (with_reducible refine scope_r ?_) | (with_reducible refine scope_e ?_) | (with_reducible refine code_seq ?_) | (with_reducible refine code_skip ?_) | (with_reducible refine code_label ?_) | (with_reducible refine code_block ?_) | (with_reducible refine code_scope ?_) | (with_reducible refine code_exit ?_) | (with_reducible refine code_ret ?_) | refine regq_to ?_ | (with_reducible refine run_nil ?_) | ((with_reducible refine run_probe ?_); refine runq_more ?_) | (with_reducible refine draw_nil ?_) | ((with_reducible refine draw_probe ?_); (first | refine drawq_more ?_ | refine drawq_as ?_)) | refine code_then ?_ | refine code_else ?_))
  refine if_d (fun hc => ?_) (fun hc => ?_)
  · have hil : i < s.length := by omega
    have hnx := all_take_next (p := nonB) s i hil
    have hct := all_cut (p := nonB) hil
    have hx := (s.getD i 0).toNat_lt
    (repeat (first | (with_reducible refine then_n ?_) | (with_reducible refine then_r ?_) | (with_reducible refine then_e ?_) | (with_reducible refine block_n ?_) | (with_reducible refine block_r ?_) | (with_reducible refine block_e ?_) | refine block_o ?_ | (with_reducible refine scope_n ?_) | (with_reducible refine scope_r ?_) | (with_reducible refine scope_e ?_) | (with_reducible refine code_seq ?_) | (with_reducible refine code_skip ?_) | (with_reducible refine code_label ?_) | (with_reducible refine code_block ?_) | (with_reducible refine code_scope ?_) | (with_reducible refine code_exit ?_) | (with_reducible refine code_ret ?_) | refine regq_to ?_ | (with_reducible refine run_nil ?_) | ((with_reducible refine run_probe ?_); refine runq_more ?_) | (with_reducible refine draw_nil ?_) | ((with_reducible refine draw_probe ?_); (first | refine drawq_more ?_ | refine drawq_as ?_)) | refine code_then ?_ | refine code_else ?_))
    cases h1 : decide (((s.getD i 0).toNat : Int) < 33) with
    | true =>
      rw [hct (by simp only [nonB, h1]; rfl)]
      (repeat (first | (with_reducible refine then_n ?_) | (with_reducible refine then_r ?_) | (with_reducible refine then_e ?_) | (with_reducible refine block_n ?_) | (with_reducible refine block_r ?_) | (with_reducible refine block_e ?_) | refine block_o ?_ | (with_reducible refine scope_n ?_) | (with_reducible refine scope_r ?_) | (with_reducible refine scope_e ?_) | (with_reducible refine code_seq ?_) | (with_reducible refine code_skip ?_) | (with_reducible refine code_label ?_) | (with_reducible refine code_block ?_) | (with_reducible refine code_scope ?_) | (with_reducible refine code_exit ?_) | (with_reducible refine code_ret ?_) | refine regq_to ?_ | (with_reducible refine run_nil ?_) | ((with_reducible refine run_probe ?_); refine runq_more ?_) | (with_reducible refine draw_nil ?_) | ((with_reducible refine draw_probe ?_); (first | refine drawq_more ?_ | refine drawq_as ?_)) | refine code_then ?_ | refine code_else ?_))
      refine back_tmp [] ?_; exact ⟨rfl, rfl⟩
    | false =>
      (repeat (first | (with_reducible refine then_n ?_) | (with_reducible refine then_r ?_) | (with_reducible refine then_e ?_) | (with_reducible refine block_n ?_) | (with_reducible refine block_r ?_) | (with_reducible refine block_e ?_) | refine block_o ?_ | (with_reducible refine scope_n ?_) | (with_reducible refine scope_r ?_) | (with_reducible refine scope_e ?_) | (with_reducible refine code_seq ?_) | (with_reducible refine code_skip ?_) | (with_reducible refine code_label ?_) | (with_reducible refine code_block ?_) | (with_reducible refine code_scope ?_) | (with_reducible refine code_exit ?_) | (with_reducible refine code_ret ?_) | refine regq_to ?_ | (with_reducible refine run_nil ?_) | ((with_reducible refine run_probe ?_); refine runq_more ?_) | (with_reducible refine draw_nil ?_) | ((with_reducible refine draw_probe ?_); (first | refine drawq_more ?_ | refine drawq_as ?_)) | refine code_then ?_ | refine code_else ?_))
      cases h2 : decide ((126 : Int) < ((s.getD i 0).toNat : Int)) with
      | true =>
        rw [hct (by simp only [nonB, h1, h2]; rfl)]
        (repeat (first | (with_reducible refine then_n ?_) | (with_reducible refine then_r ?_) | (with_reducible refine then_e ?_) | (with_reducible refine block_n ?_) | (with_reducible refine block_r ?_) | (with_reducible refine block_e ?_) | refine block_o ?_ | (with_reducible refine scope_n ?_) | (with_reducible refine scope_r ?_) | (with_reducible refine scope_e ?_) | (with_reducible refine code_seq ?_) | (with_reducible refine code_skip ?_) | (with_reducible refine code_label ?_) | (with_reducible refine code_block ?_) | (with_reducible refine code_scope ?_) | (with_reducible refine code_exit ?_) | (with_reducible refine code_ret ?_) | refine regq_to ?_ | (with_reducible refine run_nil ?_) | ((with_reducible refine run_probe ?_); refine runq_more ?_) | (with_reducible refine draw_nil ?_) | ((with_reducible refine draw_probe ?_); (first | refine drawq_more ?_ | refine drawq_as ?_)) | refine code_then ?_ | refine code_else ?_))
        refine back_tmp [] ?_; exact ⟨rfl, rfl⟩
      | false =>
        (repeat (first | (with_reducible refine then_n ?_) | (with_reducible refine then_r ?_) | (with_reducible refine then_e ?_) | (with_reducible refine block_n ?_) | (with_reducible refine block_r ?_) | (with_reducible refine block_e ?_) | refine block_o ?_ | (with_reducible refine scope_n ?_) | (with_reducible refine scope_r ?_) | (with_reducible refine scope_e ?_) | (with_reducible refine code_seq ?_) | (with_reducible refine code_skip ?_) | (with_reducible refine code_label ?_) | (with_reducible refine code_block ?_) | (with_reducible refine code_scope ?_) | (with_reducible refine code_exit ?_) | (with_reducible refine code_ret ?_) | refine regq_to ?_ | (with_reducible refine run_nil ?_) | ((with_reducible refine run_probe ?_); refine runq_more ?_) | (with_reducible refine draw_nil ?_) | ((with_reducible refine draw_probe ?_); (first | refine drawq_more ?_ | refine drawq_as ?_)) | refine code_then ?_ | refine code_else ?_))
        cases h3 : (((s.getD i 0).toNat : Int) == 44) with
        | true =>
          rw [hct (by simp only [nonB, h1, h2, h3]; rfl)]
          (repeat (first | (with_reducible refine then_n ?_) | (with_reducible refine then_r ?_) | (with_reducible refine then_e ?_) | (with_reducible refine block_n ?_) | (with_reducible refine block_r ?_) | (with_reducible refine block_e ?_) | refine block_o ?_ | (with_reducible refine scope_n ?_) | (with_reducible refine scope_r ?_) | (with_reducible refine scope_e ?_) | (with_reducible refine code_seq ?_) | (with_reducible refine code_skip ?_) | (with_reducible refine code_label ?_) | (with_reducible refine code_block ?_) | (with_reducible refine code_scope ?_) | (with_reducible refine code_exit ?_) | (with_reducible refine code_ret ?_) | refine regq_to ?_ | (with_reducible refine run_nil ?_) | ((with_reducible refine run_probe ?_); refine runq_more ?_) | (with_reducible refine draw_nil ?_) | ((with_reducible refine draw_probe ?_); (first | refine drawq_more ?_ | refine drawq_as ?_)) | refine code_then ?_ | refine code_else ?_))
          refine back_tmp [] ?_; exact ⟨rfl, rfl⟩
        | false =>
          (repeat (first | (with_reducible refine then_n ?_) | (with_reducible refine then_r ?_) | (with_reducible refine then_e ?_) | (with_reducible refine block_n ?_) | (with_reducible refine block_r ?_) | (with_reducible refine block_e ?_) | refine block_o ?_ | (with_reducible refine scope_n ?_) | (with_reducible refine scope_r ?_) | (with_reducible refine scope_e ?_) | (with_reducible refine code_seq ?_) | (with_reducible refine code_skip ?_) | (with_reducible refine code_label ?_) | (with_reducible refine code_block ?_) | (with_reducible refine code_scope ?_) | (with_reducible refine code_exit ?_) | (with_reducible refine code_ret ?_) | refine regq_to ?_ | (with_reducible refine run_nil ?_) | ((with_reducible refine run_probe ?_); refine runq_more ?_) | (with_reducible refine draw_nil ?_) | ((with_reducible refine draw_probe ?_); (first | refine drawq_more ?_ | refine drawq_as ?_)) | refine code_then ?_ | refine code_else ?_))
          exact again ⟨i + 1, by omega, by rw [hnx, hall]; simp only [nonB, h1, h2, h3]; rfl, rfl, rfl, rfl, rfl⟩
  · obtain rfl : i = s.length := by omega
    rw [List.take_length] at hall
    rw [hall]
    (repeat (first | (with_reducible refine then_n ?_) | (with_reducible refine then_r ?_) | (with_reducible refine then_e ?_) | (with_reducible refine block_n ?_) | (with_reducible refine block_r ?_) | (with_reducible refine block_e ?_) | refine block_o ?_ | (with_reducible refine scope_n ?_) | (with_reducible refine scope_r ?_) | (with_reducible refine scope_e ?_) | (with_reducible refine code_seq ?_) | (with_reducible refine code_skip ?_) | (with_reducible refine code_label ?_) | (with_reducible refine code_block ?_) | (with_reducible refine code_scope ?_) | (with_reducible refine code_exit ?_) | (with_reducible refine code_ret ?_) | refine regq_to ?_ | (with_reducible refine run_nil ?_) | ((with_reducible refine run_probe ?_); refine runq_more ?_) | (with_reducible refine draw_nil ?_) | ((with_reducible refine draw_probe ?_); (first | refine drawq_more ?_ | refine drawq_as ?_)) | refine code_then ?_ | refine code_else ?_))
    have e : decide ((s.length : Int) ≤ 64) = decide (s.length ≤ 64) := by
      by_cases h : s.length ≤ 64
      · rw [decide_eq_true h, decide_eq_true (by omega)]
      · rw [decide_eq_false h, decide_eq_false (by omega)]
    by_cases h : s = []
    · subst h
      rw [bne_self_eq_false]
      (repeat (first | (with_reducible refine then_n ?_) | (with_reducible refine then_r ?_) | (with_reducible refine then_e ?_) | (with_reducible refine block_n ?_) | (with_reducible refine block_r ?_) | (with_reducible refine block_e ?_) | refine block_o ?_ | (with_reducible refine scope_n ?_) | (with_reducible refine scope_r ?_) | (with_reducible refine scope_e ?_) | (with_reducible refine code_seq ?_) | (with_reducible refine code_skip ?_) | (with_reducible refine code_label ?_) | (with_reducible refine code_block ?_) | (with_reducible refine code_scope ?_) | (with_reducible refine code_exit ?_) | (with_reducible refine code_ret ?_) | refine regq_to ?_ | (with_reducible refine run_nil ?_) | ((with_reducible refine run_probe ?_); refine runq_more ?_) | (with_reducible refine draw_nil ?_) | ((with_reducible refine draw_probe ?_); (first | refine drawq_more ?_ | refine drawq_as ?_)) | refine code_then ?_ | refine code_else ?_))
      refine back_tmp [] ?_; exact ⟨rfl, rfl⟩
    · have hp : 0 < s.length := List.length_pos_iff.2 h
      rw [bne_iff_ne.2 h]
      (repeat (first | (with_reducible refine then_n ?_) | (with_reducible refine then_r ?_) | (with_reducible refine then_e ?_) | (with_reducible refine block_n ?_) | (with_reducible refine block_r ?_) | (with_reducible refine block_e ?_) | refine block_o ?_ | (with_reducible refine scope_n ?_) | (with_reducible refine scope_r ?_) | (with_reducible refine scope_e ?_) | (with_reducible refine code_seq ?_) | (with_reducible refine code_skip ?_) | (with_reducible refine code_label ?_) | (with_reducible refine code_block ?_) | (with_reducible refine code_scope ?_) | (with_reducible refine code_exit ?_) | (with_reducible refine code_ret ?_) | refine regq_to ?_ | (with_reducible refine run_nil ?_) | ((with_reducible refine run_probe ?_); refine runq_more ?_) | (with_reducible refine draw_nil ?_) | ((with_reducible refine draw_probe ?_); (first | refine drawq_more ?_ | refine drawq_as ?_)) | refine code_then ?_ | refine code_else ?_))
      rw [decide_eq_true (show 1 ≤ s.length by omega), ← e]
      refine back_tmp [] ?_; exact ⟨rfl, rfl⟩

theorem rnonce_spec (s : List UInt8) (hs : s.length ≤ 1000000) : Meets Try.prog 56 [.string (str s)] [] fun v A => v = .bool (s.all nonB && (decide (1 ≤ s.length) && decide (s.length ≤ 64))) ∧ A = [] := by
  refine spec_intro Try.func56 rfl (by kernel_rfl) (by rw [Try.ntmps56]; simp) fun F => ?_; rw [Try.ntmps56, Try.results56]
  (repeat (first | (with_reducible refine then_n ?_) | (with_reducible refine then_r ?_) | (with_reducible refine then_e ?_) | (with_reducible refine block_n ?_) | (with_reducible refine block_r ?_) | (with_reducible refine block_e ?_) | refine block_o ?_ | (with_reducible refine scope_n ?_) | (with_reducible refine scope_r ?_) | (with_reducible refine scope_e ?_) | (with_reducible refine code_seq ?_) | (with_reducible refine code_skip ?_) | (with_reducible refine code_label ?_) | (with_reducible refine code_block ?_) | (with_reducible refine code_scope ?_) | (with_reducible refine code_exit ?_) | (with_reducible refine code_ret ?_) | refine regq_to ?_ | (with_reducible refine run_nil ?_) | ((with_reducible refine run_probe ?_); refine runq_more ?_) | (with_reducible refine draw_nil ?_) | ((with_reducible refine draw_probe ?_); (first | refine drawq_more ?_ | refine drawq_as ?_)) | refine code_then ?_ | refine code_else ?_))
  refine loop_i (fun q D L S => ∃ i : Nat, i ≤ s.length ∧ (s.take i).all nonB = true ∧ q = s.length - i ∧ D = [] ∧ L = [(3, .int .i64 i), (0, .string (str s))] ∧ S = [F])
    ⟨0, by omega, by simp, rfl, rfl, rfl, rfl⟩ ?_
  rintro q D L S ⟨i, hi, hall, rfl, rfl, rfl, rfl⟩
  (repeat (first | (with_reducible refine then_n ?_) | (with_reducible refine then_r ?_) | (with_reducible refine then_e ?_) | (with_reducible refine block_n ?_) | (with_reducible refine block_r ?_) | (with_reducible refine block_e ?_) | refine block_o ?_ | (with_reducible refine scope_n ?_) | (with_reducible refine scope_r ?_) | (with_reducible refine scope_e ?_) | (with_reducible refine code_seq ?_) | (with_reducible refine code_skip ?_) | (with_reducible refine code_label ?_) | (with_reducible refine code_block ?_) | (with_reducible refine code_scope ?_) | (with_reducible refine code_exit ?_) | (with_reducible refine code_ret ?_) | refine regq_to ?_ | (with_reducible refine run_nil ?_) | ((with_reducible refine run_probe ?_); refine runq_more ?_) | (with_reducible refine draw_nil ?_) | ((with_reducible refine draw_probe ?_); (first | refine drawq_more ?_ | refine drawq_as ?_)) | refine code_then ?_ | refine code_else ?_))
  refine if_d (fun hc => ?_) (fun hc => ?_)
  · have hil : i < s.length := by omega
    have hnx := all_take_next (p := nonB) s i hil
    have hct := all_cut (p := nonB) hil
    have hx := (s.getD i 0).toNat_lt
    (repeat (first | (with_reducible refine then_n ?_) | (with_reducible refine then_r ?_) | (with_reducible refine then_e ?_) | (with_reducible refine block_n ?_) | (with_reducible refine block_r ?_) | (with_reducible refine block_e ?_) | refine block_o ?_ | (with_reducible refine scope_n ?_) | (with_reducible refine scope_r ?_) | (with_reducible refine scope_e ?_) | (with_reducible refine code_seq ?_) | (with_reducible refine code_skip ?_) | (with_reducible refine code_label ?_) | (with_reducible refine code_block ?_) | (with_reducible refine code_scope ?_) | (with_reducible refine code_exit ?_) | (with_reducible refine code_ret ?_) | refine regq_to ?_ | (with_reducible refine run_nil ?_) | ((with_reducible refine run_probe ?_); refine runq_more ?_) | (with_reducible refine draw_nil ?_) | ((with_reducible refine draw_probe ?_); (first | refine drawq_more ?_ | refine drawq_as ?_)) | refine code_then ?_ | refine code_else ?_))
    cases h1 : decide (((s.getD i 0).toNat : Int) < 33) with
    | true =>
      rw [hct (by simp only [nonB, h1]; rfl)]
      (repeat (first | (with_reducible refine then_n ?_) | (with_reducible refine then_r ?_) | (with_reducible refine then_e ?_) | (with_reducible refine block_n ?_) | (with_reducible refine block_r ?_) | (with_reducible refine block_e ?_) | refine block_o ?_ | (with_reducible refine scope_n ?_) | (with_reducible refine scope_r ?_) | (with_reducible refine scope_e ?_) | (with_reducible refine code_seq ?_) | (with_reducible refine code_skip ?_) | (with_reducible refine code_label ?_) | (with_reducible refine code_block ?_) | (with_reducible refine code_scope ?_) | (with_reducible refine code_exit ?_) | (with_reducible refine code_ret ?_) | refine regq_to ?_ | (with_reducible refine run_nil ?_) | ((with_reducible refine run_probe ?_); refine runq_more ?_) | (with_reducible refine draw_nil ?_) | ((with_reducible refine draw_probe ?_); (first | refine drawq_more ?_ | refine drawq_as ?_)) | refine code_then ?_ | refine code_else ?_))
      refine back_tmp [] ?_; exact ⟨rfl, rfl⟩
    | false =>
      (repeat (first | (with_reducible refine then_n ?_) | (with_reducible refine then_r ?_) | (with_reducible refine then_e ?_) | (with_reducible refine block_n ?_) | (with_reducible refine block_r ?_) | (with_reducible refine block_e ?_) | refine block_o ?_ | (with_reducible refine scope_n ?_) | (with_reducible refine scope_r ?_) | (with_reducible refine scope_e ?_) | (with_reducible refine code_seq ?_) | (with_reducible refine code_skip ?_) | (with_reducible refine code_label ?_) | (with_reducible refine code_block ?_) | (with_reducible refine code_scope ?_) | (with_reducible refine code_exit ?_) | (with_reducible refine code_ret ?_) | refine regq_to ?_ | (with_reducible refine run_nil ?_) | ((with_reducible refine run_probe ?_); refine runq_more ?_) | (with_reducible refine draw_nil ?_) | ((with_reducible refine draw_probe ?_); (first | refine drawq_more ?_ | refine drawq_as ?_)) | refine code_then ?_ | refine code_else ?_))
      cases h2 : decide ((126 : Int) < ((s.getD i 0).toNat : Int)) with
      | true =>
        rw [hct (by simp only [nonB, h1, h2]; rfl)]
        (repeat (first | (with_reducible refine then_n ?_) | (with_reducible refine then_r ?_) | (with_reducible refine then_e ?_) | (with_reducible refine block_n ?_) | (with_reducible refine block_r ?_) | (with_reducible refine block_e ?_) | refine block_o ?_ | (with_reducible refine scope_n ?_) | (with_reducible refine scope_r ?_) | (with_reducible refine scope_e ?_) | (with_reducible refine code_seq ?_) | (with_reducible refine code_skip ?_) | (with_reducible refine code_label ?_) | (with_reducible refine code_block ?_) | (with_reducible refine code_scope ?_) | (with_reducible refine code_exit ?_) | (with_reducible refine code_ret ?_) | refine regq_to ?_ | (with_reducible refine run_nil ?_) | ((with_reducible refine run_probe ?_); refine runq_more ?_) | (with_reducible refine draw_nil ?_) | ((with_reducible refine draw_probe ?_); (first | refine drawq_more ?_ | refine drawq_as ?_)) | refine code_then ?_ | refine code_else ?_))
        refine back_tmp [] ?_; exact ⟨rfl, rfl⟩
      | false =>
        (repeat (first | (with_reducible refine then_n ?_) | (with_reducible refine then_r ?_) | (with_reducible refine then_e ?_) | (with_reducible refine block_n ?_) | (with_reducible refine block_r ?_) | (with_reducible refine block_e ?_) | refine block_o ?_ | (with_reducible refine scope_n ?_) | (with_reducible refine scope_r ?_) | (with_reducible refine scope_e ?_) | (with_reducible refine code_seq ?_) | (with_reducible refine code_skip ?_) | (with_reducible refine code_label ?_) | (with_reducible refine code_block ?_) | (with_reducible refine code_scope ?_) | (with_reducible refine code_exit ?_) | (with_reducible refine code_ret ?_) | refine regq_to ?_ | (with_reducible refine run_nil ?_) | ((with_reducible refine run_probe ?_); refine runq_more ?_) | (with_reducible refine draw_nil ?_) | ((with_reducible refine draw_probe ?_); (first | refine drawq_more ?_ | refine drawq_as ?_)) | refine code_then ?_ | refine code_else ?_))
        cases h3 : (((s.getD i 0).toNat : Int) == 44) with
        | true =>
          rw [hct (by simp only [nonB, h1, h2, h3]; rfl)]
          (repeat (first | (with_reducible refine then_n ?_) | (with_reducible refine then_r ?_) | (with_reducible refine then_e ?_) | (with_reducible refine block_n ?_) | (with_reducible refine block_r ?_) | (with_reducible refine block_e ?_) | refine block_o ?_ | (with_reducible refine scope_n ?_) | (with_reducible refine scope_r ?_) | (with_reducible refine scope_e ?_) | (with_reducible refine code_seq ?_) | (with_reducible refine code_skip ?_) | (with_reducible refine code_label ?_) | (with_reducible refine code_block ?_) | (with_reducible refine code_scope ?_) | (with_reducible refine code_exit ?_) | (with_reducible refine code_ret ?_) | refine regq_to ?_ | (with_reducible refine run_nil ?_) | ((with_reducible refine run_probe ?_); refine runq_more ?_) | (with_reducible refine draw_nil ?_) | ((with_reducible refine draw_probe ?_); (first | refine drawq_more ?_ | refine drawq_as ?_)) | refine code_then ?_ | refine code_else ?_))
          refine back_tmp [] ?_; exact ⟨rfl, rfl⟩
        | false =>
          (repeat (first | (with_reducible refine then_n ?_) | (with_reducible refine then_r ?_) | (with_reducible refine then_e ?_) | (with_reducible refine block_n ?_) | (with_reducible refine block_r ?_) | (with_reducible refine block_e ?_) | refine block_o ?_ | (with_reducible refine scope_n ?_) | (with_reducible refine scope_r ?_) | (with_reducible refine scope_e ?_) | (with_reducible refine code_seq ?_) | (with_reducible refine code_skip ?_) | (with_reducible refine code_label ?_) | (with_reducible refine code_block ?_) | (with_reducible refine code_scope ?_) | (with_reducible refine code_exit ?_) | (with_reducible refine code_ret ?_) | refine regq_to ?_ | (with_reducible refine run_nil ?_) | ((with_reducible refine run_probe ?_); refine runq_more ?_) | (with_reducible refine draw_nil ?_) | ((with_reducible refine draw_probe ?_); (first | refine drawq_more ?_ | refine drawq_as ?_)) | refine code_then ?_ | refine code_else ?_))
          exact again ⟨i + 1, by omega, by rw [hnx, hall]; simp only [nonB, h1, h2, h3]; rfl, rfl, rfl, rfl, rfl⟩
  · obtain rfl : i = s.length := by omega
    rw [List.take_length] at hall
    rw [hall]
    (repeat (first | (with_reducible refine then_n ?_) | (with_reducible refine then_r ?_) | (with_reducible refine then_e ?_) | (with_reducible refine block_n ?_) | (with_reducible refine block_r ?_) | (with_reducible refine block_e ?_) | refine block_o ?_ | (with_reducible refine scope_n ?_) | (with_reducible refine scope_r ?_) | (with_reducible refine scope_e ?_) | (with_reducible refine code_seq ?_) | (with_reducible refine code_skip ?_) | (with_reducible refine code_label ?_) | (with_reducible refine code_block ?_) | (with_reducible refine code_scope ?_) | (with_reducible refine code_exit ?_) | (with_reducible refine code_ret ?_) | refine regq_to ?_ | (with_reducible refine run_nil ?_) | ((with_reducible refine run_probe ?_); refine runq_more ?_) | (with_reducible refine draw_nil ?_) | ((with_reducible refine draw_probe ?_); (first | refine drawq_more ?_ | refine drawq_as ?_)) | refine code_then ?_ | refine code_else ?_))
    have e : decide ((s.length : Int) ≤ 64) = decide (s.length ≤ 64) := by
      by_cases h : s.length ≤ 64
      · rw [decide_eq_true h, decide_eq_true (by omega)]
      · rw [decide_eq_false h, decide_eq_false (by omega)]
    by_cases h : 1 ≤ s.length
    · rw [decide_eq_true h, decide_eq_true (show (1 : Int) ≤ s.length by omega), ← e]
      (repeat (first | (with_reducible refine then_n ?_) | (with_reducible refine then_r ?_) | (with_reducible refine then_e ?_) | (with_reducible refine block_n ?_) | (with_reducible refine block_r ?_) | (with_reducible refine block_e ?_) | refine block_o ?_ | (with_reducible refine scope_n ?_) | (with_reducible refine scope_r ?_) | (with_reducible refine scope_e ?_) | (with_reducible refine code_seq ?_) | (with_reducible refine code_skip ?_) | (with_reducible refine code_label ?_) | (with_reducible refine code_block ?_) | (with_reducible refine code_scope ?_) | (with_reducible refine code_exit ?_) | (with_reducible refine code_ret ?_) | refine regq_to ?_ | (with_reducible refine run_nil ?_) | ((with_reducible refine run_probe ?_); refine runq_more ?_) | (with_reducible refine draw_nil ?_) | ((with_reducible refine draw_probe ?_); (first | refine drawq_more ?_ | refine drawq_as ?_)) | refine code_then ?_ | refine code_else ?_))
      refine back_tmp [] ?_; exact ⟨rfl, rfl⟩
    · rw [decide_eq_false h, decide_eq_false (show ¬ (1 : Int) ≤ s.length by omega)]
      (repeat (first | (with_reducible refine then_n ?_) | (with_reducible refine then_r ?_) | (with_reducible refine then_e ?_) | (with_reducible refine block_n ?_) | (with_reducible refine block_r ?_) | (with_reducible refine block_e ?_) | refine block_o ?_ | (with_reducible refine scope_n ?_) | (with_reducible refine scope_r ?_) | (with_reducible refine scope_e ?_) | (with_reducible refine code_seq ?_) | (with_reducible refine code_skip ?_) | (with_reducible refine code_label ?_) | (with_reducible refine code_block ?_) | (with_reducible refine code_scope ?_) | (with_reducible refine code_exit ?_) | (with_reducible refine code_ret ?_) | refine regq_to ?_ | (with_reducible refine run_nil ?_) | ((with_reducible refine run_probe ?_); refine runq_more ?_) | (with_reducible refine draw_nil ?_) | ((with_reducible refine draw_probe ?_); (first | refine drawq_more ?_ | refine drawq_as ?_)) | refine code_then ?_ | refine code_else ?_))
      refine back_tmp [] ?_; exact ⟨rfl, rfl⟩

theorem draws_spec (s : List UInt8) (hs : s.length ≤ 1000000) : Meets Try.prog 24 [.string (str s)] [] fun v A => v = .bool (drawB s) ∧ A = [] := by
  have key : drawB s = ((s.all nonB && (decide (1 ≤ s.length) && decide (s.length ≤ 64))) && decide ((s.length : Int) ≤ 40)) := by
    unfold drawB
    by_cases h : s.length ≤ 40
    · rw [decide_eq_true h, decide_eq_true (show s.length ≤ 64 by omega), decide_eq_true (show (s.length : Int) ≤ 40 by omega), Bool.and_true, Bool.and_true]
    · rw [decide_eq_false h, decide_eq_false (show ¬ (s.length : Int) ≤ 40 by omega), Bool.and_false, Bool.and_false, Bool.and_false]
  have hn := snonce_spec s hs
  rw [key]
  cases hB : (s.all nonB && (decide (1 ≤ s.length) && decide (s.length ≤ 64))) with
  | false =>
    rw [hB] at hn
    refine spec_intro Try.func24 rfl (by kernel_rfl) (by rw [Try.ntmps24]; simp) fun F => ?_; rw [Try.ntmps24, Try.results24]
    (repeat (first | (with_reducible refine then_n ?_) | (with_reducible refine then_r ?_) | (with_reducible refine then_e ?_) | (with_reducible refine block_n ?_) | (with_reducible refine block_r ?_) | (with_reducible refine block_e ?_) | refine block_o ?_ | (with_reducible refine scope_n ?_) | (with_reducible refine scope_r ?_) | (with_reducible refine scope_e ?_) | (with_reducible refine code_seq ?_) | (with_reducible refine code_skip ?_) | (with_reducible refine code_label ?_) | (with_reducible refine code_block ?_) | (with_reducible refine code_scope ?_) | (with_reducible refine code_exit ?_) | (with_reducible refine code_ret ?_) | refine regq_to ?_ | (with_reducible refine run_nil ?_) | ((with_reducible refine run_probe ?_); refine runq_more ?_) | (with_reducible refine draw_nil ?_) | ((with_reducible refine draw_probe ?_); (first | refine drawq_more ?_ | refine drawq_as ?_)) | refine code_then ?_ | refine code_else ?_))
    refine run_op fun K hK => ?_; refine calls_to (hn) ?_; rintro v A ⟨rfl, rfl⟩; (try simp only [List.nil_append, List.cons_append]); refine hK _ _ ?_; clear hK K; (repeat (first | (with_reducible refine then_n ?_) | (with_reducible refine then_r ?_) | (with_reducible refine then_e ?_) | (with_reducible refine block_n ?_) | (with_reducible refine block_r ?_) | (with_reducible refine block_e ?_) | refine block_o ?_ | (with_reducible refine scope_n ?_) | (with_reducible refine scope_r ?_) | (with_reducible refine scope_e ?_) | (with_reducible refine code_seq ?_) | (with_reducible refine code_skip ?_) | (with_reducible refine code_label ?_) | (with_reducible refine code_block ?_) | (with_reducible refine code_scope ?_) | (with_reducible refine code_exit ?_) | (with_reducible refine code_ret ?_) | refine regq_to ?_ | (with_reducible refine run_nil ?_) | ((with_reducible refine run_probe ?_); refine runq_more ?_) | (with_reducible refine draw_nil ?_) | ((with_reducible refine draw_probe ?_); (first | refine drawq_more ?_ | refine drawq_as ?_)) | refine code_then ?_ | refine code_else ?_))
    refine back_tmp [] ?_; exact ⟨rfl, rfl⟩
  | true =>
    rw [hB] at hn
    refine spec_intro Try.func24 rfl (by kernel_rfl) (by rw [Try.ntmps24]; simp) fun F => ?_; rw [Try.ntmps24, Try.results24]
    (repeat (first | (with_reducible refine then_n ?_) | (with_reducible refine then_r ?_) | (with_reducible refine then_e ?_) | (with_reducible refine block_n ?_) | (with_reducible refine block_r ?_) | (with_reducible refine block_e ?_) | refine block_o ?_ | (with_reducible refine scope_n ?_) | (with_reducible refine scope_r ?_) | (with_reducible refine scope_e ?_) | (with_reducible refine code_seq ?_) | (with_reducible refine code_skip ?_) | (with_reducible refine code_label ?_) | (with_reducible refine code_block ?_) | (with_reducible refine code_scope ?_) | (with_reducible refine code_exit ?_) | (with_reducible refine code_ret ?_) | refine regq_to ?_ | (with_reducible refine run_nil ?_) | ((with_reducible refine run_probe ?_); refine runq_more ?_) | (with_reducible refine draw_nil ?_) | ((with_reducible refine draw_probe ?_); (first | refine drawq_more ?_ | refine drawq_as ?_)) | refine code_then ?_ | refine code_else ?_))
    refine run_op fun K hK => ?_; refine calls_to (hn) ?_; rintro v A ⟨rfl, rfl⟩; (try simp only [List.nil_append, List.cons_append]); refine hK _ _ ?_; clear hK K; (repeat (first | (with_reducible refine then_n ?_) | (with_reducible refine then_r ?_) | (with_reducible refine then_e ?_) | (with_reducible refine block_n ?_) | (with_reducible refine block_r ?_) | (with_reducible refine block_e ?_) | refine block_o ?_ | (with_reducible refine scope_n ?_) | (with_reducible refine scope_r ?_) | (with_reducible refine scope_e ?_) | (with_reducible refine code_seq ?_) | (with_reducible refine code_skip ?_) | (with_reducible refine code_label ?_) | (with_reducible refine code_block ?_) | (with_reducible refine code_scope ?_) | (with_reducible refine code_exit ?_) | (with_reducible refine code_ret ?_) | refine regq_to ?_ | (with_reducible refine run_nil ?_) | ((with_reducible refine run_probe ?_); refine runq_more ?_) | (with_reducible refine draw_nil ?_) | ((with_reducible refine draw_probe ?_); (first | refine drawq_more ?_ | refine drawq_as ?_)) | refine code_then ?_ | refine code_else ?_))
    refine back_tmp [] ?_; exact ⟨rfl, rfl⟩

/-! ### The last dot -/

theorem getD_mid (d h : List UInt8) (k : Nat) : (d ++ (46 : UInt8) :: h).getD k 0 = if k < d.length then d.getD k 0 else if k = d.length then 46 else h.getD (k - d.length - 1) 0 := by
  simp only [List.getD_eq_getElem?_getD]
  by_cases h1 : k < d.length
  · rw [if_pos h1, List.getElem?_append_left h1]
  · rw [if_neg h1, List.getElem?_append_right (by omega)]
    by_cases h2 : k = d.length
    · rw [if_pos h2, h2]; simp
    · rw [if_neg h2, show k - d.length = (k - d.length - 1) + 1 from by omega]; simp
theorem lastbyte_spec (d h : List UInt8) (hd : d.length ≤ 1000000) (hl : h.length ≤ 1000000) (hh : ∀ c ∈ h, c ≠ 46) : Meets Try.prog 60 [.string (str (d ++ 46 :: h)), .int .u8 46] [] fun v A => v = .int .i64 d.length ∧ A = [] := by
  obtain ⟨s, hs⟩ : ∃ s, d ++ (46 : UInt8) :: h = s := ⟨_, rfl⟩
  have hsl : s.length = d.length + h.length + 1 := by rw [← hs]; simp; omega
  have hg := getD_mid d h
  rw [hs] at hg ⊢
  refine spec_intro Try.func60 rfl (by kernel_rfl) (by rw [Try.ntmps60]; simp) fun F => ?_; rw [Try.ntmps60, Try.results60]
  (repeat (first | (with_reducible refine then_n ?_) | (with_reducible refine then_r ?_) | (with_reducible refine then_e ?_) | (with_reducible refine block_n ?_) | (with_reducible refine block_r ?_) | (with_reducible refine block_e ?_) | refine block_o ?_ | (with_reducible refine scope_n ?_) | (with_reducible refine scope_r ?_) | (with_reducible refine scope_e ?_) | (with_reducible refine code_seq ?_) | (with_reducible refine code_skip ?_) | (with_reducible refine code_label ?_) | (with_reducible refine code_block ?_) | (with_reducible refine code_scope ?_) | (with_reducible refine code_exit ?_) | (with_reducible refine code_ret ?_) | refine regq_to ?_ | (with_reducible refine run_nil ?_) | ((with_reducible refine run_probe ?_); refine runq_more ?_) | (with_reducible refine draw_nil ?_) | ((with_reducible refine draw_probe ?_); (first | refine drawq_more ?_ | refine drawq_as ?_)) | refine code_then ?_ | refine code_else ?_))
  rw [show ((s.length : Int) - 1) = ((s.length - 1 : Nat) : Int) from by omega]
  refine loop_i (fun q D L S => ∃ k : Nat, d.length ≤ k ∧ k < s.length ∧ q = k + 1 ∧ D = [] ∧ L = [(5, .int .i64 k), (0, .string (str s)), (1, .int .u8 46)] ∧ S = [F])
    ⟨s.length - 1, by omega, by omega, rfl, rfl, rfl, rfl⟩ ?_
  rintro q D L S ⟨k, hk1, hk2, rfl, rfl, rfl, rfl⟩
  (repeat (first | (with_reducible refine then_n ?_) | (with_reducible refine then_r ?_) | (with_reducible refine then_e ?_) | (with_reducible refine block_n ?_) | (with_reducible refine block_r ?_) | (with_reducible refine block_e ?_) | refine block_o ?_ | (with_reducible refine scope_n ?_) | (with_reducible refine scope_r ?_) | (with_reducible refine scope_e ?_) | (with_reducible refine code_seq ?_) | (with_reducible refine code_skip ?_) | (with_reducible refine code_label ?_) | (with_reducible refine code_block ?_) | (with_reducible refine code_scope ?_) | (with_reducible refine code_exit ?_) | (with_reducible refine code_ret ?_) | refine regq_to ?_ | (with_reducible refine run_nil ?_) | ((with_reducible refine run_probe ?_); refine runq_more ?_) | (with_reducible refine draw_nil ?_) | ((with_reducible refine draw_probe ?_); (first | refine drawq_more ?_ | refine drawq_as ?_)) | refine code_then ?_ | refine code_else ?_))
  rw [decide_eq_true (show (0 : Int) ≤ k by omega)]
  (repeat (first | (with_reducible refine then_n ?_) | (with_reducible refine then_r ?_) | (with_reducible refine then_e ?_) | (with_reducible refine block_n ?_) | (with_reducible refine block_r ?_) | (with_reducible refine block_e ?_) | refine block_o ?_ | (with_reducible refine scope_n ?_) | (with_reducible refine scope_r ?_) | (with_reducible refine scope_e ?_) | (with_reducible refine code_seq ?_) | (with_reducible refine code_skip ?_) | (with_reducible refine code_label ?_) | (with_reducible refine code_block ?_) | (with_reducible refine code_scope ?_) | (with_reducible refine code_exit ?_) | (with_reducible refine code_ret ?_) | refine regq_to ?_ | (with_reducible refine run_nil ?_) | ((with_reducible refine run_probe ?_); refine runq_more ?_) | (with_reducible refine draw_nil ?_) | ((with_reducible refine draw_probe ?_); (first | refine drawq_more ?_ | refine drawq_as ?_)) | refine code_then ?_ | refine code_else ?_))
  rw [show (b8 (s.getD k 0)) = .int .u8 (s.getD k 0).toNat from rfl]
  by_cases h2 : k = d.length
  · have e : s.getD k 0 = 46 := by rw [hg, if_neg (by omega), if_pos h2]
    rw [e]
    (repeat (first | (with_reducible refine then_n ?_) | (with_reducible refine then_r ?_) | (with_reducible refine then_e ?_) | (with_reducible refine block_n ?_) | (with_reducible refine block_r ?_) | (with_reducible refine block_e ?_) | refine block_o ?_ | (with_reducible refine scope_n ?_) | (with_reducible refine scope_r ?_) | (with_reducible refine scope_e ?_) | (with_reducible refine code_seq ?_) | (with_reducible refine code_skip ?_) | (with_reducible refine code_label ?_) | (with_reducible refine code_block ?_) | (with_reducible refine code_scope ?_) | (with_reducible refine code_exit ?_) | (with_reducible refine code_ret ?_) | refine regq_to ?_ | (with_reducible refine run_nil ?_) | ((with_reducible refine run_probe ?_); refine runq_more ?_) | (with_reducible refine draw_nil ?_) | ((with_reducible refine draw_probe ?_); (first | refine drawq_more ?_ | refine drawq_as ?_)) | refine code_then ?_ | refine code_else ?_))
    subst h2
    refine back_tmp [] ?_; exact ⟨rfl, rfl⟩
  · have e : s.getD k 0 ≠ 46 := by
      rw [hg, if_neg (by omega), if_neg h2]
      refine hh _ ?_
      rw [List.getD_eq_getElem?_getD, List.getElem?_eq_getElem (by omega)]
      exact List.getElem_mem _
    have e2 : (((s.getD k 0).toNat : Int) == 46) = false := beq_eq_false_iff_ne.2 (fun h => e (UInt8.toNat_inj.1 (by rw [show (46 : UInt8).toNat = 46 from rfl]; omega)))
    (repeat (first | (with_reducible refine then_n ?_) | (with_reducible refine then_r ?_) | (with_reducible refine then_e ?_) | (with_reducible refine block_n ?_) | (with_reducible refine block_r ?_) | (with_reducible refine block_e ?_) | refine block_o ?_ | (with_reducible refine scope_n ?_) | (with_reducible refine scope_r ?_) | (with_reducible refine scope_e ?_) | (with_reducible refine code_seq ?_) | (with_reducible refine code_skip ?_) | (with_reducible refine code_label ?_) | (with_reducible refine code_block ?_) | (with_reducible refine code_scope ?_) | (with_reducible refine code_exit ?_) | (with_reducible refine code_ret ?_) | refine regq_to ?_ | (with_reducible refine run_nil ?_) | ((with_reducible refine run_probe ?_); refine runq_more ?_) | (with_reducible refine draw_nil ?_) | ((with_reducible refine draw_probe ?_); (first | refine drawq_more ?_ | refine drawq_as ?_)) | refine code_then ?_ | refine code_else ?_))
    rw [e2]
    (repeat (first | (with_reducible refine then_n ?_) | (with_reducible refine then_r ?_) | (with_reducible refine then_e ?_) | (with_reducible refine block_n ?_) | (with_reducible refine block_r ?_) | (with_reducible refine block_e ?_) | refine block_o ?_ | (with_reducible refine scope_n ?_) | (with_reducible refine scope_r ?_) | (with_reducible refine scope_e ?_) | (with_reducible refine code_seq ?_) | (with_reducible refine code_skip ?_) | (with_reducible refine code_label ?_) | (with_reducible refine code_block ?_) | (with_reducible refine code_scope ?_) | (with_reducible refine code_exit ?_) | (with_reducible refine code_ret ?_) | refine regq_to ?_ | (with_reducible refine run_nil ?_) | ((with_reducible refine run_probe ?_); refine runq_more ?_) | (with_reducible refine draw_nil ?_) | ((with_reducible refine draw_probe ?_); (first | refine drawq_more ?_ | refine drawq_as ?_)) | refine code_then ?_ | refine code_else ?_))
    rw [show ((k : Int) - 1) = ((k - 1 : Nat) : Int) from by omega]
    exact again ⟨k - 1, by omega, by omega, rfl, rfl, rfl, rfl⟩
theorem lastidx_spec (d h : List UInt8) (hd : d.length ≤ 1000000) (hl : h.length ≤ 1000000) (hh : ∀ c ∈ h, c ≠ 46) : Meets Try.prog 44 [.string (str (d ++ 46 :: h)), .string (str [46])] [] fun v A => v = .int .i64 d.length ∧ A = [] := by
  refine spec_intro Try.func44 rfl (by kernel_rfl) (by rw [Try.ntmps44]; simp) fun F => ?_; rw [Try.ntmps44, Try.results44]
  (repeat (first | (with_reducible refine then_n ?_) | (with_reducible refine then_r ?_) | (with_reducible refine then_e ?_) | (with_reducible refine block_n ?_) | (with_reducible refine block_r ?_) | (with_reducible refine block_e ?_) | refine block_o ?_ | (with_reducible refine scope_n ?_) | (with_reducible refine scope_r ?_) | (with_reducible refine scope_e ?_) | (with_reducible refine code_seq ?_) | (with_reducible refine code_skip ?_) | (with_reducible refine code_label ?_) | (with_reducible refine code_block ?_) | (with_reducible refine code_scope ?_) | (with_reducible refine code_exit ?_) | (with_reducible refine code_ret ?_) | refine regq_to ?_ | (with_reducible refine run_nil ?_) | ((with_reducible refine run_probe ?_); refine runq_more ?_) | (with_reducible refine draw_nil ?_) | ((with_reducible refine draw_probe ?_); (first | refine drawq_more ?_ | refine drawq_as ?_)) | refine code_then ?_ | refine code_else ?_))
  refine run_op fun K hK => ?_; rw [sidx (by decide) (by decide)]; refine hK _ _ ?_; clear hK K
  (repeat (first | (with_reducible refine then_n ?_) | (with_reducible refine then_r ?_) | (with_reducible refine then_e ?_) | (with_reducible refine block_n ?_) | (with_reducible refine block_r ?_) | (with_reducible refine block_e ?_) | refine block_o ?_ | (with_reducible refine scope_n ?_) | (with_reducible refine scope_r ?_) | (with_reducible refine scope_e ?_) | (with_reducible refine code_seq ?_) | (with_reducible refine code_skip ?_) | (with_reducible refine code_label ?_) | (with_reducible refine code_block ?_) | (with_reducible refine code_scope ?_) | (with_reducible refine code_exit ?_) | (with_reducible refine code_ret ?_) | refine regq_to ?_ | (with_reducible refine run_nil ?_) | ((with_reducible refine run_probe ?_); refine runq_more ?_) | (with_reducible refine draw_nil ?_) | ((with_reducible refine draw_probe ?_); (first | refine drawq_more ?_ | refine drawq_as ?_)) | refine code_then ?_ | refine code_else ?_))
  refine run_op fun K hK => ?_; refine calls_to (lastbyte_spec d h hd hl hh) ?_; rintro v A ⟨rfl, rfl⟩; (try simp only [List.nil_append, List.cons_append]); refine hK _ _ ?_; clear hK K; (repeat (first | (with_reducible refine then_n ?_) | (with_reducible refine then_r ?_) | (with_reducible refine then_e ?_) | (with_reducible refine block_n ?_) | (with_reducible refine block_r ?_) | (with_reducible refine block_e ?_) | refine block_o ?_ | (with_reducible refine scope_n ?_) | (with_reducible refine scope_r ?_) | (with_reducible refine scope_e ?_) | (with_reducible refine code_seq ?_) | (with_reducible refine code_skip ?_) | (with_reducible refine code_label ?_) | (with_reducible refine code_block ?_) | (with_reducible refine code_scope ?_) | (with_reducible refine code_exit ?_) | (with_reducible refine code_ret ?_) | refine regq_to ?_ | (with_reducible refine run_nil ?_) | ((with_reducible refine run_probe ?_); refine runq_more ?_) | (with_reducible refine draw_nil ?_) | ((with_reducible refine draw_probe ?_); (first | refine drawq_more ?_ | refine drawq_as ?_)) | refine code_then ?_ | refine code_else ?_))
  refine back_tmp [] ?_; exact ⟨rfl, rfl⟩
theorem drawn_spec (d h : List UInt8) (hd : d.length ≤ 1000000) (hl : h.length ≤ 1000000) (hh : ∀ c ∈ h, c ≠ 46) : Meets Try.prog 26 [.string (str (d ++ 46 :: h))] [] fun v A => v = .string (str d) ∧ A = [] := by
  have hz : (d ++ (46 : UInt8) :: h).length = d.length + h.length + 1 := by simp; omega
  refine spec_intro Try.func26 rfl (by kernel_rfl) (by rw [Try.ntmps26]; simp) fun F => ?_; rw [Try.ntmps26, Try.results26]
  (repeat (first | (with_reducible refine then_n ?_) | (with_reducible refine then_r ?_) | (with_reducible refine then_e ?_) | (with_reducible refine block_n ?_) | (with_reducible refine block_r ?_) | (with_reducible refine block_e ?_) | refine block_o ?_ | (with_reducible refine scope_n ?_) | (with_reducible refine scope_r ?_) | (with_reducible refine scope_e ?_) | (with_reducible refine code_seq ?_) | (with_reducible refine code_skip ?_) | (with_reducible refine code_label ?_) | (with_reducible refine code_block ?_) | (with_reducible refine code_scope ?_) | (with_reducible refine code_exit ?_) | (with_reducible refine code_ret ?_) | refine regq_to ?_ | (with_reducible refine run_nil ?_) | ((with_reducible refine run_probe ?_); refine runq_more ?_) | (with_reducible refine draw_nil ?_) | ((with_reducible refine draw_probe ?_); (first | refine drawq_more ?_ | refine drawq_as ?_)) | refine code_then ?_ | refine code_else ?_))
  refine run_op fun K hK => ?_; refine calls_to (lastidx_spec d h hd hl hh) ?_; rintro v A ⟨rfl, rfl⟩; (try simp only [List.nil_append, List.cons_append]); refine hK _ _ ?_; clear hK K; (repeat (first | (with_reducible refine then_n ?_) | (with_reducible refine then_r ?_) | (with_reducible refine then_e ?_) | (with_reducible refine block_n ?_) | (with_reducible refine block_r ?_) | (with_reducible refine block_e ?_) | refine block_o ?_ | (with_reducible refine scope_n ?_) | (with_reducible refine scope_r ?_) | (with_reducible refine scope_e ?_) | (with_reducible refine code_seq ?_) | (with_reducible refine code_skip ?_) | (with_reducible refine code_label ?_) | (with_reducible refine code_block ?_) | (with_reducible refine code_scope ?_) | (with_reducible refine code_exit ?_) | (with_reducible refine code_ret ?_) | refine regq_to ?_ | (with_reducible refine run_nil ?_) | ((with_reducible refine run_probe ?_); refine runq_more ?_) | (with_reducible refine draw_nil ?_) | ((with_reducible refine draw_probe ?_); (first | refine drawq_more ?_ | refine drawq_as ?_)) | refine code_then ?_ | refine code_else ?_))
  (repeat (first | (with_reducible refine then_n ?_) | (with_reducible refine then_r ?_) | (with_reducible refine then_e ?_) | (with_reducible refine block_n ?_) | (with_reducible refine block_r ?_) | (with_reducible refine block_e ?_) | refine block_o ?_ | (with_reducible refine scope_n ?_) | (with_reducible refine scope_r ?_) | (with_reducible refine scope_e ?_) | (with_reducible refine code_seq ?_) | (with_reducible refine code_skip ?_) | (with_reducible refine code_label ?_) | (with_reducible refine code_block ?_) | (with_reducible refine code_scope ?_) | (with_reducible refine code_exit ?_) | (with_reducible refine code_ret ?_) | refine regq_to ?_ | (with_reducible refine run_nil ?_) | ((with_reducible refine run_probe ?_); refine runq_more ?_) | (with_reducible refine draw_nil ?_) | ((with_reducible refine draw_probe ?_); (first | refine drawq_more ?_ | refine drawq_as ?_)) | refine code_then ?_ | refine code_else ?_))
  rw [List.take_left' rfl]
  refine back_tmp [] ?_; exact ⟨rfl, rfl⟩

/-! ### Digits -/

theorem digit_spec (s : Nat) (h : s < 16) : digits[s]? = some (digits.getD s 0) := by
  rw [List.getD_eq_getElem?_getD, List.getElem?_eq_getElem (show s < digits.length from h)]; rfl
set_option maxHeartbeats 1000000 in
theorem bhex_spec (H : Chunk) (a : Option Addr) (cap : Nat) (bs : List UInt8) (hb : bs.length ≤ 100000) (h : Rd 1 [H] a bs.length (bs.map b8)) :
    Meets Try.prog 48 [.slice a bs.length cap] [H] fun v A => v = .string (str (hex bs)) ∧ A = [H] := by
  refine spec_intro Try.func48 rfl (by kernel_rfl) (by rw [Try.ntmps48]; simp) fun F => ?_; rw [Try.ntmps48, Try.results48]
  (repeat (first | (with_reducible refine then_n ?_) | (with_reducible refine then_r ?_) | (with_reducible refine then_e ?_) | (with_reducible refine block_n ?_) | (with_reducible refine block_r ?_) | (with_reducible refine block_e ?_) | refine block_o ?_ | (with_reducible refine scope_n ?_) | (with_reducible refine scope_r ?_) | (with_reducible refine scope_e ?_) | (with_reducible refine code_seq ?_) | (with_reducible refine code_skip ?_) | (with_reducible refine code_label ?_) | (with_reducible refine code_block ?_) | (with_reducible refine code_scope ?_) | (with_reducible refine code_exit ?_) | (with_reducible refine code_ret ?_) | refine regq_to ?_ | (with_reducible refine run_nil ?_) | ((with_reducible refine run_probe ?_); refine runq_more ?_) | (with_reducible refine draw_nil ?_) | ((with_reducible refine draw_probe ?_); (first | refine drawq_more ?_ | refine drawq_as ?_)) | refine code_then ?_ | refine code_else ?_))
  refine run_op fun K hK => ?_; refine alloc_new fun b3 => ?_; (try simp only [Value.cells]); refine hK _ _ ?_; clear hK K
  (repeat (first | (with_reducible refine then_n ?_) | (with_reducible refine then_r ?_) | (with_reducible refine then_e ?_) | (with_reducible refine block_n ?_) | (with_reducible refine block_r ?_) | (with_reducible refine block_e ?_) | refine block_o ?_ | (with_reducible refine scope_n ?_) | (with_reducible refine scope_r ?_) | (with_reducible refine scope_e ?_) | (with_reducible refine code_seq ?_) | (with_reducible refine code_skip ?_) | (with_reducible refine code_label ?_) | (with_reducible refine code_block ?_) | (with_reducible refine code_scope ?_) | (with_reducible refine code_exit ?_) | (with_reducible refine code_ret ?_) | refine regq_to ?_ | (with_reducible refine run_nil ?_) | ((with_reducible refine run_probe ?_); refine runq_more ?_) | (with_reducible refine draw_nil ?_) | ((with_reducible refine draw_probe ?_); (first | refine drawq_more ?_ | refine drawq_as ?_)) | refine code_then ?_ | refine code_else ?_))
  refine code_nil ?_
  refine loop_i (fun q D L S => ∃ (i : Nat) (p a' : Option Addr) (cap' : Nat) (X : Chunk), i ≤ bs.length ∧ Bd b3 (hex (bs.take i)) p a' cap' X ∧ q = bs.length - i ∧ D = [] ∧
    L = [(8, .int .i64 i), (7, .int .i64 bs.length), (6, .slice a bs.length cap), (3, .pointer (some ⟨b3, 0, none⟩))] ∧ S = [bdB b3 p a' (hex (bs.take i)).length cap', X, F, H])
    ⟨0, none, none, 0, [], by omega, Bd.new b3, rfl, rfl, rfl, rfl⟩ ?_
  rintro q D L S ⟨i, p, a', cap', X, hi, hB, rfl, rfl, rfl, rfl⟩
  have hel := hex_len (bs.take i)
  rw [List.length_take] at hel
  (repeat (first | (with_reducible refine then_n ?_) | (with_reducible refine then_r ?_) | (with_reducible refine then_e ?_) | (with_reducible refine block_n ?_) | (with_reducible refine block_r ?_) | (with_reducible refine block_e ?_) | refine block_o ?_ | (with_reducible refine scope_n ?_) | (with_reducible refine scope_r ?_) | (with_reducible refine scope_e ?_) | (with_reducible refine code_seq ?_) | (with_reducible refine code_skip ?_) | (with_reducible refine code_label ?_) | (with_reducible refine code_block ?_) | (with_reducible refine code_scope ?_) | (with_reducible refine code_exit ?_) | (with_reducible refine code_ret ?_) | refine regq_to ?_ | (with_reducible refine run_nil ?_) | ((with_reducible refine run_probe ?_); refine runq_more ?_) | (with_reducible refine draw_nil ?_) | ((with_reducible refine draw_probe ?_); (first | refine drawq_more ?_ | refine drawq_as ?_)) | refine code_then ?_ | refine code_else ?_))
  refine if_d (fun hc => ?_) (fun hc => ?_)
  · have hil : i < bs.length := by omega
    have hnx := hex_next bs i hil
    have hx := (bs.getD i 0).toNat_lt
    (repeat (first | (with_reducible refine then_n ?_) | (with_reducible refine then_r ?_) | (with_reducible refine then_e ?_) | (with_reducible refine block_n ?_) | (with_reducible refine block_r ?_) | (with_reducible refine block_e ?_) | refine block_o ?_ | (with_reducible refine scope_n ?_) | (with_reducible refine scope_r ?_) | (with_reducible refine scope_e ?_) | (with_reducible refine code_seq ?_) | (with_reducible refine code_skip ?_) | (with_reducible refine code_label ?_) | (with_reducible refine code_block ?_) | (with_reducible refine code_scope ?_) | (with_reducible refine code_exit ?_) | (with_reducible refine code_ret ?_) | refine regq_to ?_ | (with_reducible refine run_nil ?_) | ((with_reducible refine run_probe ?_); refine runq_more ?_) | (with_reducible refine draw_nil ?_) | ((with_reducible refine draw_probe ?_); (first | refine drawq_more ?_ | refine drawq_as ?_)) | refine code_then ?_ | refine code_else ?_))
    refine run_op fun K hK => ?_
    rw [show Value.string ⟨#[48, 49, 50, 51, 52, 53, 54, 55, 56, 57, 97, 98, 99, 100, 101, 102]⟩ = .string (str digits) from rfl]
    rw [sidx (by omega) (by show _ < (16 : Int); omega), show (((bs.getD i 0).toNat / 16 : Nat) : Int).toNat = (bs.getD i 0).toNat / 16 from by omega]
    refine hK _ _ ?_; clear hK K
    refine run_op fun K hK => ?_; refine calls_to (wbyte_spec hB (by omega) (digits.getD ((bs.getD i 0).toNat / 16) 0)) ?_; rintro v A ⟨rfl, p1, a1, cap1, X1, hB1, rfl⟩; (try simp only [List.nil_append, List.cons_append]); refine hK _ _ ?_; clear hK K; (repeat (first | (with_reducible refine then_n ?_) | (with_reducible refine then_r ?_) | (with_reducible refine then_e ?_) | (with_reducible refine block_n ?_) | (with_reducible refine block_r ?_) | (with_reducible refine block_e ?_) | refine block_o ?_ | (with_reducible refine scope_n ?_) | (with_reducible refine scope_r ?_) | (with_reducible refine scope_e ?_) | (with_reducible refine code_seq ?_) | (with_reducible refine code_skip ?_) | (with_reducible refine code_label ?_) | (with_reducible refine code_block ?_) | (with_reducible refine code_scope ?_) | (with_reducible refine code_exit ?_) | (with_reducible refine code_ret ?_) | refine regq_to ?_ | (with_reducible refine run_nil ?_) | ((with_reducible refine run_probe ?_); refine runq_more ?_) | (with_reducible refine draw_nil ?_) | ((with_reducible refine draw_probe ?_); (first | refine drawq_more ?_ | refine drawq_as ?_)) | refine code_then ?_ | refine code_else ?_))
    refine run_op fun K hK => ?_
    rw [show Value.string ⟨#[48, 49, 50, 51, 52, 53, 54, 55, 56, 57, 97, 98, 99, 100, 101, 102]⟩ = .string (str digits) from rfl]
    rw [sidx (by omega) (by show _ < (16 : Int); omega), show (((bs.getD i 0).toNat % 16 : Nat) : Int).toNat = (bs.getD i 0).toNat % 16 from by omega]
    refine hK _ _ ?_; clear hK K
    refine run_op fun K hK => ?_; refine calls_to (wbyte_spec hB1 (by rw [List.length_append, List.length_singleton]; omega) (digits.getD ((bs.getD i 0).toNat % 16) 0)) ?_; rintro v A ⟨rfl, p2, a2, cap2, X2, hB2, rfl⟩; (try simp only [List.nil_append, List.cons_append]); refine hK _ _ ?_; clear hK K; (repeat (first | (with_reducible refine then_n ?_) | (with_reducible refine then_r ?_) | (with_reducible refine then_e ?_) | (with_reducible refine block_n ?_) | (with_reducible refine block_r ?_) | (with_reducible refine block_e ?_) | refine block_o ?_ | (with_reducible refine scope_n ?_) | (with_reducible refine scope_r ?_) | (with_reducible refine scope_e ?_) | (with_reducible refine code_seq ?_) | (with_reducible refine code_skip ?_) | (with_reducible refine code_label ?_) | (with_reducible refine code_block ?_) | (with_reducible refine code_scope ?_) | (with_reducible refine code_exit ?_) | (with_reducible refine code_ret ?_) | refine regq_to ?_ | (with_reducible refine run_nil ?_) | ((with_reducible refine run_probe ?_); refine runq_more ?_) | (with_reducible refine draw_nil ?_) | ((with_reducible refine draw_probe ?_); (first | refine drawq_more ?_ | refine drawq_as ?_)) | refine code_then ?_ | refine code_else ?_))
    rw [show hex (bs.take i) ++ [digits.getD ((bs.getD i 0).toNat / 16) 0] ++ [digits.getD ((bs.getD i 0).toNat % 16) 0] = hex (bs.take (i + 1)) from by rw [hnx, List.append_assoc]; rfl] at hB2 ⊢
    exact again ⟨i + 1, p2, a2, cap2, X2, by omega, hB2, rfl, rfl, rfl, rfl⟩
  · obtain rfl : i = bs.length := by omega
    rw [List.take_length] at hB hel ⊢
    (repeat (first | (with_reducible refine then_n ?_) | (with_reducible refine then_r ?_) | (with_reducible refine then_e ?_) | (with_reducible refine block_n ?_) | (with_reducible refine block_r ?_) | (with_reducible refine block_e ?_) | refine block_o ?_ | (with_reducible refine scope_n ?_) | (with_reducible refine scope_r ?_) | (with_reducible refine scope_e ?_) | (with_reducible refine code_seq ?_) | (with_reducible refine code_skip ?_) | (with_reducible refine code_label ?_) | (with_reducible refine code_block ?_) | (with_reducible refine code_scope ?_) | (with_reducible refine code_exit ?_) | (with_reducible refine code_ret ?_) | refine regq_to ?_ | (with_reducible refine run_nil ?_) | ((with_reducible refine run_probe ?_); refine runq_more ?_) | (with_reducible refine draw_nil ?_) | ((with_reducible refine draw_probe ?_); (first | refine drawq_more ?_ | refine drawq_as ?_)) | refine code_then ?_ | refine code_else ?_))
    refine run_op fun K hK => ?_; refine calls_to (bstring_spec hB (by omega)) ?_; rintro v A ⟨rfl, rfl⟩; (try simp only [List.nil_append, List.cons_append]); refine hK _ _ ?_; clear hK K; (repeat (first | (with_reducible refine then_n ?_) | (with_reducible refine then_r ?_) | (with_reducible refine then_e ?_) | (with_reducible refine block_n ?_) | (with_reducible refine block_r ?_) | (with_reducible refine block_e ?_) | refine block_o ?_ | (with_reducible refine scope_n ?_) | (with_reducible refine scope_r ?_) | (with_reducible refine scope_e ?_) | (with_reducible refine code_seq ?_) | (with_reducible refine code_skip ?_) | (with_reducible refine code_label ?_) | (with_reducible refine code_block ?_) | (with_reducible refine code_scope ?_) | (with_reducible refine code_exit ?_) | (with_reducible refine code_ret ?_) | refine regq_to ?_ | (with_reducible refine run_nil ?_) | ((with_reducible refine run_probe ?_); refine runq_more ?_) | (with_reducible refine draw_nil ?_) | ((with_reducible refine draw_probe ?_); (first | refine drawq_more ?_ | refine drawq_as ?_)) | refine code_then ?_ | refine code_else ?_))
    refine back_tmp [H] ?_; exact ⟨rfl, rfl⟩

/-- The digits of a number. -/
def hx (n : Nat) : List UInt8 := hex (be 8 n)
theorem hx_len (n : Nat) : (hx n).length = 16 := by unfold hx; rw [hex_len, be_len]
set_option maxHeartbeats 1000000 in
theorem serial_spec (n : Nat) (hn : n < 18446744073709551616) : Meets Try.prog 28 [.int .u64 n] [] fun v A => v = .string (str (hx n)) ∧ A = [] := by
  refine spec_intro Try.func28 rfl (by kernel_rfl) (by rw [Try.ntmps28]; simp) fun F => ?_; rw [Try.ntmps28, Try.results28]
  (repeat (first | (with_reducible refine then_n ?_) | (with_reducible refine then_r ?_) | (with_reducible refine then_e ?_) | (with_reducible refine block_n ?_) | (with_reducible refine block_r ?_) | (with_reducible refine block_e ?_) | refine block_o ?_ | (with_reducible refine scope_n ?_) | (with_reducible refine scope_r ?_) | (with_reducible refine scope_e ?_) | (with_reducible refine code_seq ?_) | (with_reducible refine code_skip ?_) | (with_reducible refine code_label ?_) | (with_reducible refine code_block ?_) | (with_reducible refine code_scope ?_) | (with_reducible refine code_exit ?_) | (with_reducible refine code_ret ?_) | refine regq_to ?_ | (with_reducible refine run_nil ?_) | ((with_reducible refine run_probe ?_); refine runq_more ?_) | (with_reducible refine draw_nil ?_) | ((with_reducible refine draw_probe ?_); (first | refine drawq_more ?_ | refine drawq_as ?_)) | refine code_then ?_ | refine code_else ?_))
  refine run_op fun K hK => ?_; refine make8 (n := 8) (by decide) (fun b1 C1 ho1 => ?_); refine hK _ _ ?_; clear hK K
  (repeat (first | (with_reducible refine then_n ?_) | (with_reducible refine then_r ?_) | (with_reducible refine then_e ?_) | (with_reducible refine block_n ?_) | (with_reducible refine block_r ?_) | (with_reducible refine block_e ?_) | refine block_o ?_ | (with_reducible refine scope_n ?_) | (with_reducible refine scope_r ?_) | (with_reducible refine scope_e ?_) | (with_reducible refine code_seq ?_) | (with_reducible refine code_skip ?_) | (with_reducible refine code_label ?_) | (with_reducible refine code_block ?_) | (with_reducible refine code_scope ?_) | (with_reducible refine code_exit ?_) | (with_reducible refine code_ret ?_) | refine regq_to ?_ | (with_reducible refine run_nil ?_) | ((with_reducible refine run_probe ?_); refine runq_more ?_) | (with_reducible refine draw_nil ?_) | ((with_reducible refine draw_probe ?_); (first | refine drawq_more ?_ | refine drawq_as ?_)) | refine code_then ?_ | refine code_else ?_))
  refine loop_i (fun q D L S => ∃ (i : Nat) (C : Chunk), i ≤ 8 ∧ Own8 5 C (some ⟨b1, 0, none⟩) 8 8 ((be 8 n).take i ++ List.replicate (8 - i) 0) ∧ q = 8 - i ∧ D = [] ∧
    L = [(8, .int .i64 i), (7, .int .i64 8), (3, .slice (some ⟨b1, 0, none⟩) 8 8), (0, .int .u64 n)] ∧ S = [C, F])
    ⟨0, C1, by omega, ho1, rfl, rfl, rfl, rfl⟩ ?_
  rintro q D L S ⟨i, C, hi, ho, rfl, rfl, rfl, rfl⟩
  (repeat (first | (with_reducible refine then_n ?_) | (with_reducible refine then_r ?_) | (with_reducible refine then_e ?_) | (with_reducible refine block_n ?_) | (with_reducible refine block_r ?_) | (with_reducible refine block_e ?_) | refine block_o ?_ | (with_reducible refine scope_n ?_) | (with_reducible refine scope_r ?_) | (with_reducible refine scope_e ?_) | (with_reducible refine code_seq ?_) | (with_reducible refine code_skip ?_) | (with_reducible refine code_label ?_) | (with_reducible refine code_block ?_) | (with_reducible refine code_scope ?_) | (with_reducible refine code_exit ?_) | (with_reducible refine code_ret ?_) | refine regq_to ?_ | (with_reducible refine run_nil ?_) | ((with_reducible refine run_probe ?_); refine runq_more ?_) | (with_reducible refine draw_nil ?_) | ((with_reducible refine draw_probe ?_); (first | refine drawq_more ?_ | refine drawq_as ?_)) | refine code_then ?_ | refine code_else ?_))
  refine if_d (fun hc => ?_) (fun hc => ?_)
  · have hi8 : i < 8 := by omega
    have hl : ((be 8 n).take i).length = i := by rw [List.length_take, be_len]; omega
    have hset : ((be 8 n).take i ++ List.replicate (8 - i) 0).set i (UInt8.ofNat (n / 256 ^ (8 - 1 - i))) = (be 8 n).take (i + 1) ++ List.replicate (8 - (i + 1)) 0 := by
      rw [be_next 8 n i hi8, show 8 - i = (8 - (i + 1)) + 1 from by omega, List.replicate_succ, List.set_append_right _ _ (by omega), hl, Nat.sub_self, List.set_cons_zero, List.append_assoc]; rfl
    have e1 : Value.int .u8 (IntKind.u8.wrap ((n : Int) / 2 ^ (8 * ((7 : Int) - i)).toNat)) = b8 (UInt8.ofNat (n / 256 ^ (8 - 1 - i))) := by
      rw [show (8 * ((7 : Int) - i)).toNat = 8 * (8 - 1 - i) from by omega, shift8, wrap8_mod]; rfl
    have e2 : (⟨b1, 0 + i * 1, none⟩ : Addr) = elA (some ⟨b1, 0, none⟩) i := by
      simp only [elA, Option.getD_some, add_mk]; congr 1; omega
    (repeat (first | (with_reducible refine then_n ?_) | (with_reducible refine then_r ?_) | (with_reducible refine then_e ?_) | (with_reducible refine block_n ?_) | (with_reducible refine block_r ?_) | (with_reducible refine block_e ?_) | refine block_o ?_ | (with_reducible refine scope_n ?_) | (with_reducible refine scope_r ?_) | (with_reducible refine scope_e ?_) | (with_reducible refine code_seq ?_) | (with_reducible refine code_skip ?_) | (with_reducible refine code_label ?_) | (with_reducible refine code_block ?_) | (with_reducible refine code_scope ?_) | (with_reducible refine code_exit ?_) | (with_reducible refine code_ret ?_) | refine regq_to ?_ | (with_reducible refine run_nil ?_) | ((with_reducible refine run_probe ?_); refine runq_more ?_) | (with_reducible refine draw_nil ?_) | ((with_reducible refine draw_probe ?_); (first | refine drawq_more ?_ | refine drawq_as ?_)) | refine code_then ?_ | refine code_else ?_))
    refine run_op fun K hK => ?_; rw [e1, e2]; refine own_store8 ho (by (repeat (first | with_reducible exact Pick.head _ _ | with_reducible apply Pick.tail))) (by simp [be_len]; omega) (fun C2 ho2 => ?_); refine hK _ _ ?_; clear hK K
    rw [hset] at ho2
    (repeat (first | (with_reducible refine then_n ?_) | (with_reducible refine then_r ?_) | (with_reducible refine then_e ?_) | (with_reducible refine block_n ?_) | (with_reducible refine block_r ?_) | (with_reducible refine block_e ?_) | refine block_o ?_ | (with_reducible refine scope_n ?_) | (with_reducible refine scope_r ?_) | (with_reducible refine scope_e ?_) | (with_reducible refine code_seq ?_) | (with_reducible refine code_skip ?_) | (with_reducible refine code_label ?_) | (with_reducible refine code_block ?_) | (with_reducible refine code_scope ?_) | (with_reducible refine code_exit ?_) | (with_reducible refine code_ret ?_) | refine regq_to ?_ | (with_reducible refine run_nil ?_) | ((with_reducible refine run_probe ?_); refine runq_more ?_) | (with_reducible refine draw_nil ?_) | ((with_reducible refine draw_probe ?_); (first | refine drawq_more ?_ | refine drawq_as ?_)) | refine code_then ?_ | refine code_else ?_))
    exact again ⟨i + 1, C2, by omega, ho2, rfl, rfl, rfl, rfl⟩
  · obtain rfl : i = 8 := by omega
    rw [show (be 8 n).take 8 ++ List.replicate (8 - 8) 0 = be 8 n from by rw [List.take_of_length_le (by rw [be_len]; omega)]; simp] at ho
    have hb := bhex_spec C (some ⟨b1, 0, none⟩) 8 (be 8 n) (by rw [be_len]; decide) (by rw [be_len]; exact ho.rd (by simp))
    rw [be_len] at hb
    (repeat (first | (with_reducible refine then_n ?_) | (with_reducible refine then_r ?_) | (with_reducible refine then_e ?_) | (with_reducible refine block_n ?_) | (with_reducible refine block_r ?_) | (with_reducible refine block_e ?_) | refine block_o ?_ | (with_reducible refine scope_n ?_) | (with_reducible refine scope_r ?_) | (with_reducible refine scope_e ?_) | (with_reducible refine code_seq ?_) | (with_reducible refine code_skip ?_) | (with_reducible refine code_label ?_) | (with_reducible refine code_block ?_) | (with_reducible refine code_scope ?_) | (with_reducible refine code_exit ?_) | (with_reducible refine code_ret ?_) | refine regq_to ?_ | (with_reducible refine run_nil ?_) | ((with_reducible refine run_probe ?_); refine runq_more ?_) | (with_reducible refine draw_nil ?_) | ((with_reducible refine draw_probe ?_); (first | refine drawq_more ?_ | refine drawq_as ?_)) | refine code_then ?_ | refine code_else ?_))
    refine run_op fun K hK => ?_; refine calls_to (hb) ?_; rintro v A ⟨rfl, rfl⟩; (try simp only [List.nil_append, List.cons_append]); refine hK _ _ ?_; clear hK K; (repeat (first | (with_reducible refine then_n ?_) | (with_reducible refine then_r ?_) | (with_reducible refine then_e ?_) | (with_reducible refine block_n ?_) | (with_reducible refine block_r ?_) | (with_reducible refine block_e ?_) | refine block_o ?_ | (with_reducible refine scope_n ?_) | (with_reducible refine scope_r ?_) | (with_reducible refine scope_e ?_) | (with_reducible refine code_seq ?_) | (with_reducible refine code_skip ?_) | (with_reducible refine code_label ?_) | (with_reducible refine code_block ?_) | (with_reducible refine code_scope ?_) | (with_reducible refine code_exit ?_) | (with_reducible refine code_ret ?_) | refine regq_to ?_ | (with_reducible refine run_nil ?_) | ((with_reducible refine run_probe ?_); refine runq_more ?_) | (with_reducible refine draw_nil ?_) | ((with_reducible refine draw_probe ?_); (first | refine drawq_more ?_ | refine drawq_as ?_)) | refine code_then ?_ | refine code_else ?_))
    refine back_tmp [] ?_; exact ⟨rfl, rfl⟩

end Go.Proofs.Ytbclecppjnlpmaa

/- A store of nonces as plain data; what its functions come to. Conditions: as each says. -/
set_option linter.unusedSimpArgs false
set_option linter.unusedVariables false
namespace Go.Proofs.Ytbclecppjnlpmaa
open Go Go.Ost Go.Tab Go.Sha

abbrev Es := List (List UInt8 × V)
structure NS where
  room : Nat
  win : Int
  es : Es
  ser : Nat
  last : Int
  mark : Int
  mrk : Bool

def oldB (s : NS) (now : Int) (x : List UInt8 × V) : Bool := (decide (x.2.at_ < now) && decide (s.win < now - x.2.at_)) || (s.mrk && decide (x.2.at_ ≤ s.mark))
def sweepN (s : NS) (now : Int) : Int × NS := ((pruneE (oldB s now) s.es).1, { s with es := (pruneE (oldB s now) s.es).2 })
def maxI (a b : Int) : Int := if a < b then b else a
def dropN (s : NS) : NS := match s.es with
  | [] => s
  | x :: es => { s with es := es, mark := maxI s.mark x.2.at_, mrk := true }
def roomN (s : NS) (now : Int) : NS := if s.es.length = s.room then (if 0 < (sweepN s now).1 then (sweepN s now).2 else dropN s) else s
/-- The nonce of a draw. -/
def nonN (d : List UInt8) (n : Nat) : List UInt8 := d ++ 46 :: hx n
def addN (s : NS) (d : List UInt8) (now : Int) : NS := { s with es := s.es ++ [(nonN d (s.ser + 1), ⟨nonN d (s.ser + 1), d, now, false, 0⟩)], ser := s.ser + 1, last := now }
def hasD (d : List UInt8) (es : Es) : Bool := es.any fun x => decide (x.2.draw = d)
def issueN (s : NS) (d : List UInt8) (now : Int) : (List UInt8 × Int) × NS :=
  if drawB d = false then (([], 4), s) else if now < s.last then (([], 9), s) else if hasD d s.es then (([], 7), s) else ((nonN d (s.ser + 1), 0), addN (roomN s now) d now)
def lateB (s : NS) (now : Int) (v : V) : Bool := !decide (v.at_ ≤ now ∧ now - v.at_ ≤ s.win) || (s.mrk && decide (v.at_ ≤ s.mark))
def findN (s : NS) (n : List UInt8) (now : Int) : Int × V := match mget s.es n with
  | none => (6, v0)
  | some v => if lateB s now v then (9, v0) else (0, v)
def spendN (s : NS) (n : List UInt8) (now : Int) : Int × NS :=
  if (findN s n now).1 = 0 then (if (findN s n now).2.sp || decide (0 < (findN s n now).2.cnt) then (10, s) else (0, { s with es := mput s.es n { (findN s n now).2 with sp := true } })) else ((findN s n now).1, s)
def useN (s : NS) (n : List UInt8) (c now : Int) : Int × NS :=
  if (findN s n now).1 = 0 then (if c = 0 then (1, s) else if (findN s n now).2.sp || decide (c ≤ (findN s n now).2.cnt) then (10, s) else (0, { s with es := mput s.es n { (findN s n now).2 with cnt := c } })) else ((findN s n now).1, s)

theorem find_cases (s : NS) (n : List UInt8) (now : Int) : (findN s n now = (6, v0) ∧ mget s.es n = none) ∨ ∃ v, mget s.es n = some v ∧ ((findN s n now = (9, v0) ∧ lateB s now v = true) ∨ (findN s n now = (0, v) ∧ lateB s now v = false)) := by
  unfold findN
  cases mget s.es n with
  | none => exact .inl ⟨rfl, rfl⟩
  | some v =>
    refine .inr ⟨v, rfl, ?_⟩
    cases h : lateB s now v with
    | true => exact .inl ⟨by simp [h], rfl⟩
    | false => exact .inr ⟨by simp [h], rfl⟩

/-! ### Numbers' digits -/

theorem dig_inj : ∀ i < 16, ∀ j < 16, digits.getD i 0 = digits.getD j 0 → i = j := by decide
theorem dig_dot : ∀ i < 16, digits.getD i 0 ≠ 46 := by decide
theorem hex2_inj {x y : UInt8} (h : hex2 x = hex2 y) : x = y := by
  simp only [hex2, List.cons.injEq, and_true] at h
  have hx := x.toNat_lt
  have hy := y.toNat_lt
  have h1 := dig_inj _ (by omega) _ (by omega) h.1
  have h2 := dig_inj _ (by omega) _ (by omega) h.2
  exact UInt8.toNat_inj.1 (by omega)
theorem hex_inj : ∀ {a b : List UInt8}, hex a = hex b → a = b
  | [], [], _ => rfl
  | [], y :: b, h => by simp [hex, hex2] at h
  | x :: a, [], h => by simp [hex, hex2] at h
  | x :: a, y :: b, h => by
    simp only [hex, List.flatMap_cons] at h
    obtain ⟨h1, h2⟩ := List.append_inj h (by simp [hex2])
    rw [hex2_inj h1, hex_inj (a := a) (b := b) h2]
theorem hx_inj {n m : Nat} (hn : n < 65536) (hm : m < 65536) (h : hx n = hx m) : n = m := by
  have h1 := hex_inj h
  have e6 := be_get 8 n 6 (by decide)
  have e7 := be_get 8 n 7 (by decide)
  have f6 := be_get 8 m 6 (by decide)
  have f7 := be_get 8 m 7 (by decide)
  rw [h1] at e6 e7
  have g6 := congrArg UInt8.toNat (e6.symm.trans f6)
  have g7 := congrArg UInt8.toNat (e7.symm.trans f7)
  simp only [UInt8.toNat_ofNat', show 8 - 1 - 6 = 1 from rfl, show 8 - 1 - 7 = 0 from rfl, Nat.pow_one, Nat.pow_zero, Nat.div_one] at g6 g7
  omega
theorem hx_dot (n : Nat) : ∀ c ∈ hx n, c ≠ 46 := by
  intro c hc
  unfold hx hex at hc
  obtain ⟨x, _, hx⟩ := List.mem_flatMap.1 hc
  have hlt := x.toNat_lt
  simp only [hex2, List.mem_cons, List.not_mem_nil, or_false] at hx
  rcases hx with rfl | rfl
  · exact dig_dot _ (by omega)
  · exact dig_dot _ (by omega)
theorem non_inj {d e : List UInt8} {n m : Nat} (hn : n < 65536) (hm : m < 65536) (h : nonN d n = nonN e m) : d = e ∧ n = m := by
  unfold nonN at h
  obtain ⟨h1, h2⟩ := List.append_inj' h (by simp [hx_len])
  exact ⟨h1, hx_inj hn hm (List.cons.inj h2).2⟩
theorem non_len (d : List UInt8) (n : Nat) : (nonN d n).length = d.length + 17 := by simp [nonN, hx_len]

/-! ### What holds of a store -/

structure EnOk (ser : Nat) (x : List UInt8 × V) : Prop where
  key : x.1 = x.2.non
  draw : x.2.draw.length ≤ 40
  num : ∃ n, n ≤ ser ∧ x.2.non = nonN x.2.draw n
  at0 : 0 ≤ x.2.at_
  c0 : 0 ≤ x.2.cnt
structure NOk (s : NS) : Prop where
  r1 : 1 ≤ s.room
  r2 : s.room ≤ 64
  w1 : 1 ≤ s.win
  w2 : s.win ≤ 1099511627776
  ser : s.ser ≤ 1000
  fit : s.es.length ≤ s.room
  mk0 : s.mrk = false → s.mark = 0
  mark0 : 0 ≤ s.mark
  last0 : 0 ≤ s.last
  en : ∀ x ∈ s.es, EnOk s.ser x

theorem EnOk.le {a b : Nat} {x : List UInt8 × V} (h : EnOk a x) (hab : a ≤ b) : EnOk b x := by
  obtain ⟨h1, h2, ⟨n, hn, h3⟩, h4, h5⟩ := h
  exact ⟨h1, h2, ⟨n, by omega, h3⟩, h4, h5⟩
theorem mget_mem {es : Es} {s : List UInt8} {v : V} (h : mget es s = some v) : (s, v) ∈ es := by
  obtain ⟨pre, post, h1, _⟩ := mget_split h
  rw [h1]; simp
/-- A new nonce isn't there yet. -/
theorem NOk.fresh {s : NS} (h : NOk s) (d : List UInt8) : mget s.es (nonN d (s.ser + 1)) = none := by
  cases hm : mget s.es (nonN d (s.ser + 1)) with
  | none => rfl
  | some v =>
    exfalso
    obtain ⟨h1, _, ⟨n, hn, h3⟩, _⟩ := h.en _ (mget_mem hm)
    have := h.ser
    simp only at h1 h3
    rw [← h1] at h3
    have := (non_inj (by omega) (by omega) h3).2
    omega
theorem sweep_zero {s : NS} {now : Int} (h : ¬ 0 < (sweepN s now).1) : (pruneE (oldB s now) s.es).2 = s.es := by
  have h0 : (s.es.filter (oldB s now)).length = 0 := by
    have h1 : ¬ (0 : Int) < ((s.es.filter (oldB s now)).length : Nat) := h
    omega
  show s.es.filter (fun x => !oldB s now x) = s.es
  rw [List.filter_eq_self]
  intro x hx
  cases ho : oldB s now x with
  | false => rfl
  | true =>
    have := List.mem_filter.2 ⟨hx, ho⟩
    rw [List.length_eq_zero_iff.1 h0] at this
    cases this
theorem ok_sub {s : NS} (h : NOk s) {es : Es} (hs : ∀ x ∈ es, x ∈ s.es) (hl : es.length ≤ s.es.length) : NOk { s with es := es } := by
  obtain ⟨h1, h2, h3, h4, h5, h6, h7, h8, h9, h10⟩ := h
  exact ⟨h1, h2, h3, h4, h5, Nat.le_trans hl h6, h7, h8, h9, fun x hx => h10 x (hs x hx)⟩
theorem ok_sweep {s : NS} (h : NOk s) (now : Int) : NOk (sweepN s now).2 :=
  ok_sub h (fun x hx => (List.mem_filter.1 hx).1) (List.length_filter_le _ _)
theorem max_ge (a b : Int) : a ≤ maxI a b ∧ b ≤ maxI a b := by unfold maxI; split <;> omega
theorem ok_drop {s : NS} (h : NOk s) : NOk (dropN s) := by
  obtain ⟨room, win, es, ser, last, mark, mk⟩ := s
  obtain ⟨h1, h2, h3, h4, h5, h6, h7, h8, h9, h10⟩ := h
  cases es with
  | nil => exact ⟨h1, h2, h3, h4, h5, h6, h7, h8, h9, h10⟩
  | cons x es =>
    have h11 := max_ge mark x.2.at_
    have h12 : 0 ≤ mark := h8
    have h13 : es.length + 1 ≤ room := h6
    exact ⟨h1, h2, h3, h4, h5, by show es.length ≤ room; omega, (fun h => by cases h), by show 0 ≤ maxI mark x.2.at_; omega, h9, fun y hy => h10 y (List.mem_cons_of_mem _ hy)⟩
theorem ok_room {s : NS} (h : NOk s) (now : Int) : NOk (roomN s now) := by
  unfold roomN
  split
  · split
    · exact ok_sweep h now
    · exact ok_drop h
  · exact h
theorem room_ser (s : NS) (now : Int) : (roomN s now).ser = s.ser := by
  unfold roomN
  split
  · split
    · rfl
    · unfold dropN; split <;> rfl
  · rfl
theorem room_room (s : NS) (now : Int) : (roomN s now).room = s.room := by
  unfold roomN
  split
  · split
    · rfl
    · unfold dropN; split <;> rfl
  · rfl
theorem filter_two {α : Type} (p : α → Bool) (l : List α) : (l.filter p).length + (l.filter fun x => !p x).length = l.length := by
  induction l with
  | nil => rfl
  | cons x l ih =>
    simp only [List.filter_cons, List.length_cons]
    cases p x <;> simp <;> omega
/-- There is room for one more. -/
theorem room_fit {s : NS} (h : NOk s) (now : Int) : (roomN s now).es.length < s.room := by
  have hr := h.r1
  have hf := h.fit
  unfold roomN
  split
  · rename_i he
    split
    · rename_i hp
      have h1 : (0 : Int) < ((s.es.filter (oldB s now)).length : Nat) := hp
      have h2 := filter_two (oldB s now) s.es
      show (s.es.filter fun x => !oldB s now x).length < s.room
      omega
    · unfold dropN
      split
      · rename_i h0
        rw [h0] at he; simp at he; omega
      · rename_i x es h0
        rw [h0] at he; simp at he ⊢; omega
  · omega
theorem ok_add {s : NS} (h : NOk s) (hf : s.es.length < s.room) (hser : s.ser < 1000) (d : List UInt8) (hd : d.length ≤ 40) (now : Int) (hn : 0 ≤ now) : NOk (addN s d now) := by
  obtain ⟨h1, h2, h3, h4, h5, h6, h7, h8, h9, h10⟩ := h
  refine ⟨h1, h2, h3, h4, by show s.ser + 1 ≤ 1000; omega, by show (s.es ++ [_]).length ≤ s.room; simp; omega, h7, h8, hn, fun x hx => ?_⟩
  rcases List.mem_append.1 hx with hx | hx
  · exact (h10 x hx).le (Nat.le_succ _)
  · rw [List.mem_singleton.1 hx]
    exact ⟨rfl, hd, ⟨s.ser + 1, Nat.le_refl _, rfl⟩, hn, by show (0 : Int) ≤ 0; omega⟩
theorem draw_len {d : List UInt8} (h : ¬ drawB d = false) : d.length ≤ 40 := by
  have h' : drawB d = true := by cases hb : drawB d <;> simp_all
  simp only [drawB, Bool.and_eq_true, decide_eq_true_eq] at h'
  exact h'.2.2
theorem ok_issue {s : NS} (h : NOk s) (hser : s.ser < 1000) (d : List UInt8) (now : Int) (hn : 0 ≤ now) : NOk (issueN s d now).2 := by
  unfold issueN
  split
  · exact h
  · rename_i hd
    split
    · exact h
    · split
      · exact h
      · exact ok_add (ok_room h now) (by rw [room_room]; exact room_fit h now) (by rw [room_ser]; exact hser) d (draw_len hd) now hn
theorem issue_ser (s : NS) (d : List UInt8) (now : Int) : (issueN s d now).2.ser ≤ s.ser + 1 := by
  unfold issueN
  split
  · exact Nat.le_succ _
  · split
    · exact Nat.le_succ _
    · split
      · exact Nat.le_succ _
      · show (roomN s now).ser + 1 ≤ _
        rw [room_ser]; exact Nat.le_refl _
theorem ok_put {s : NS} (h : NOk s) {n : List UInt8} {v w : V} (hm : mget s.es n = some v) (h1 : w.non = v.non) (h2 : w.draw = v.draw) (h3 : w.at_ = v.at_) (h4 : 0 ≤ w.cnt) : NOk { s with es := mput s.es n w } := by
  obtain ⟨pre, post, e1, e2, _, _⟩ := mget_split hm
  obtain ⟨k1, k2, k3, k4, k5, k6, k7, k8, k9, k10⟩ := h
  refine ⟨k1, k2, k3, k4, k5, ?_, k7, k8, k9, fun x hx => ?_⟩
  · show (mput s.es n w).length ≤ s.room
    rw [e2]; rw [e1] at k6; simpa using k6
  · have hx' : x ∈ mput s.es n w := hx
    rw [e2] at hx'
    rw [e1] at k10
    rcases List.mem_append.1 hx' with hx' | hx'
    · exact k10 x (by simp [hx'])
    · rcases List.mem_cons.1 hx' with rfl | hx'
      · obtain ⟨q1, q2, ⟨m, hm, q3⟩, q4, q5⟩ := k10 (n, v) (by simp)
        exact ⟨q1.trans h1.symm, by show w.draw.length ≤ 40; rw [h2]; exact q2, ⟨m, hm, by show w.non = nonN w.draw m; rw [h1, h2]; exact q3⟩, by show 0 ≤ w.at_; rw [h3]; exact q4, h4⟩
      · exact k10 x (by simp [hx'])
theorem ok_spend {s : NS} (h : NOk s) (n : List UInt8) (now : Int) : NOk (spendN s n now).2 := by
  unfold spendN
  rcases find_cases s n now with ⟨e, _⟩ | ⟨v, hm, ⟨e, _⟩ | ⟨e, _⟩⟩
  · rw [e]; exact h
  · rw [e]; exact h
  · rw [e, if_pos rfl]
    split
    · exact h
    · exact ok_put h hm rfl rfl rfl (h.en _ (mget_mem hm)).c0
theorem ok_use {s : NS} (h : NOk s) (n : List UInt8) (c : Int) (hc : 0 ≤ c) (now : Int) : NOk (useN s n c now).2 := by
  unfold useN
  rcases find_cases s n now with ⟨e, _⟩ | ⟨v, hm, ⟨e, _⟩ | ⟨e, _⟩⟩
  · rw [e]; exact h
  · rw [e]; exact h
  · rw [e, if_pos rfl]
    split
    · exact h
    · split
      · exact h
      · exact ok_put h hm rfl rfl rfl hc
theorem spend_ser (s : NS) (n : List UInt8) (now : Int) : (spendN s n now).2.ser = s.ser := by
  unfold spendN; split
  · split <;> rfl
  · rfl
theorem use_ser (s : NS) (n : List UInt8) (c now : Int) : (useN s n c now).2.ser = s.ser := by
  unfold useN; split
  · split
    · rfl
    · split <;> rfl
  · rfl

end Go.Proofs.Ytbclecppjnlpmaa
