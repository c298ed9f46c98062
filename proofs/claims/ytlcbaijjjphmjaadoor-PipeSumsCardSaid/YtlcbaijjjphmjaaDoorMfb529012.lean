/- The document's pipe: cut, is it over; as one chunk; a pipe and the document's by one state. Conditions: as each says. -/
import Derived.Test.YtlcbaijjjphmjaaDoorMa59fd97c
set_option linter.unusedSimpArgs false
set_option linter.unusedVariables false
namespace Go.Proofs.YtlcbaijjjphmjaaDoor
open Go Go.Ost Go.Pip

set_option maxHeartbeats 1000000 in
theorem rcut_spec (x : Nat) (room : Int) (a0 a1 : Option Addr) (n0 c0 r0 l0 n1 c1 r1 l1 : Nat) (f0 f1 : Bool) (hn0 : n0 ≤ 1000000) (hn1 : n1 ≤ 1000000) (h0 : r0 + l0 ≤ n0) (h1 : r1 + l1 ≤ n1) :
    Meets Tryd.prog 28 [.pointer (some ⟨x, 0, none⟩)] [xB x room (.slice a0 n0 c0) r0 f0 l0 (.slice a1 n1 c1) r1 f1 l1]
      fun v A => v = .tuple #[] ∧ A = [xB x room (.slice a0 n0 c0) r0 true (n0 - r0 : Nat) (.slice a1 n1 c1) r1 true (n1 - r1 : Nat)] := by
  refine spec_intro Tryd.func28 rfl (by kernel_rfl) (by rw [Tryd.ntmps28]; simp) fun F => ?_; rw [Tryd.ntmps28, Tryd.results28]
  (repeat (first | (with_reducible refine then_n ?_) | (with_reducible refine then_r ?_) | (with_reducible refine then_e ?_) | (with_reducible refine block_n ?_) | (with_reducible refine block_r ?_) | (with_reducible refine block_e ?_) | refine block_o ?_ | (with_reducible refine scope_n ?_) | (with_reducible refine scope_r ?_) | (with_reducible refine scope_e ?_) | (with_reducible refine code_seq ?_) | (with_reducible refine code_skip ?_) | (with_reducible refine code_label ?_) | (with_reducible refine code_block ?_) | (with_reducible refine code_scope ?_) | (with_reducible refine code_exit ?_) | (with_reducible refine code_ret ?_) | refine regq_to ?_ | (with_reducible refine run_nil ?_) | ((with_reducible refine run_probe ?_); refine runq_more ?_) | (with_reducible refine draw_nil ?_) | ((with_reducible refine draw_probe ?_); (first | refine drawq_more ?_ | refine drawq_as ?_)) | refine code_then ?_ | refine code_else ?_))
  refine loop_i (fun q D L S => D = [] ∧ ∃ i : Nat, q = 2 - i ∧ L = [(5, .int .i64 i), (0, .pointer (some ⟨x, 0, none⟩))] ∧
    ((i = 0 ∧ S = [F, xB x room (.slice a0 n0 c0) r0 f0 l0 (.slice a1 n1 c1) r1 f1 l1]) ∨ (i = 1 ∧ S = [F, xB x room (.slice a0 n0 c0) r0 true (n0 - r0 : Nat) (.slice a1 n1 c1) r1 f1 l1]) ∨
      (i = 2 ∧ S = [F, xB x room (.slice a0 n0 c0) r0 true (n0 - r0 : Nat) (.slice a1 n1 c1) r1 true (n1 - r1 : Nat)])))
    ⟨rfl, 0, rfl, rfl, .inl ⟨rfl, rfl⟩⟩ ?_
  rintro q D L S ⟨rfl, i, rfl, rfl, ⟨rfl, rfl⟩ | ⟨rfl, rfl⟩ | ⟨rfl, rfl⟩⟩
  · (repeat (first | (with_reducible refine then_n ?_) | (with_reducible refine then_r ?_) | (with_reducible refine then_e ?_) | (with_reducible refine block_n ?_) | (with_reducible refine block_r ?_) | (with_reducible refine block_e ?_) | refine block_o ?_ | (with_reducible refine scope_n ?_) | (with_reducible refine scope_r ?_) | (with_reducible refine scope_e ?_) | (with_reducible refine code_seq ?_) | (with_reducible refine code_skip ?_) | (with_reducible refine code_label ?_) | (with_reducible refine code_block ?_) | (with_reducible refine code_scope ?_) | (with_reducible refine code_exit ?_) | (with_reducible refine code_ret ?_) | refine regq_to ?_ | (with_reducible refine run_nil ?_) | ((with_reducible refine run_probe ?_); refine runq_more ?_) | (with_reducible refine draw_nil ?_) | ((with_reducible refine draw_probe ?_); (first | refine drawq_more ?_ | refine drawq_as ?_)) | refine code_then ?_ | refine code_else ?_))
    refine code_dr [[], [], [0], [0, 2], [0, 1, 2, 3], [0, 1, 2, 3, 4], [0, 1, 2, 3, 4, 5], [], [], [7], [7, 9], [7, 8, 9, 10], [7, 8, 9, 10, 11], [7, 8, 9, 10, 11, 12], [0, 1, 2, 3, 4, 5, 6, 7, 8, 9, 10, 11, 12, 13], [0], [0, 15], [0, 1, 2, 3, 4, 5, 6, 7, 8, 9, 10, 11, 12, 13, 14, 15, 16], [0, 1, 2, 3, 4, 5, 6, 7, 8, 9, 10, 11, 12, 13, 14, 15, 16, 17], [0, 1, 2, 3, 4, 5, 6, 7, 8, 9, 10, 11, 12, 13, 14, 15, 16, 17, 18]] [(0, false, []), (1, false, []), (2, false, []), (3, false, []), (4, false, []), (5, false, []), (6, false, []), (7, false, []), (8, false, []), (9, false, []), (10, false, []), (11, false, []), (12, false, []), (15, false, []), (16, false, []), (13, true, [6]), (14, false, []), (17, false, []), (18, false, []), (19, true, [])] ?_
    (repeat (first | (with_reducible refine then_n ?_) | (with_reducible refine then_r ?_) | (with_reducible refine then_e ?_) | (with_reducible refine block_n ?_) | (with_reducible refine block_r ?_) | (with_reducible refine block_e ?_) | refine block_o ?_ | (with_reducible refine scope_n ?_) | (with_reducible refine scope_r ?_) | (with_reducible refine scope_e ?_) | (with_reducible refine code_seq ?_) | (with_reducible refine code_skip ?_) | (with_reducible refine code_label ?_) | (with_reducible refine code_block ?_) | (with_reducible refine code_scope ?_) | (with_reducible refine code_exit ?_) | (with_reducible refine code_ret ?_) | refine regq_to ?_ | (with_reducible refine run_nil ?_) | ((with_reducible refine run_probe ?_); refine runq_more ?_) | (with_reducible refine draw_nil ?_) | ((with_reducible refine draw_probe ?_); (first | refine drawq_more ?_ | refine drawq_as ?_)) | refine code_then ?_ | refine code_else ?_))
    refine draw_quiet (by simp only [List.getElem?_toArray, List.getElem?_cons_succ, List.getElem?_cons_zero]; rfl) fun K hK => ?_; (try simp only [gos, gob, Nat.reduceBEq, if_true, reduceIte, reduceCtorEq, Nat.reduceLT, Nat.reduceEqDiff, Nat.reduceAdd, Nat.reduceSub, Int.reduceLT, Int.reduceLE, Int.reduceBEq, Int.reduceBNe, Int.reduceToNat, Int.reduceAdd, Int.reduceSub, Int.reduceMul, Int.reduceDiv, Int.reduceMod, Int.reducePow, Int.toNat_natCast, Nat.sub_zero, goq]); (try (simp (disch := omega) only [gow, gobw]; try simp only [gos, gob, Nat.reduceBEq, if_true, reduceIte, reduceCtorEq, Nat.reduceLT, Nat.reduceEqDiff, Nat.reduceAdd, Nat.reduceSub, Int.reduceLT, Int.reduceLE, Int.reduceBEq, Int.reduceBNe, Int.reduceToNat, Int.reduceAdd, Int.reduceSub, Int.reduceMul, Int.reduceDiv, Int.reduceMod, Int.reducePow, Int.toNat_natCast, Nat.sub_zero, goq])); refine load_sub (vs := [.int .i64 room, .slice a0 n0 c0, .int .i64 r0, .bool f0, .int .i64 l0, .slice a1 n1 c1, .int .i64 r1, .bool f1, .int .i64 l1]) (ws := [.slice a0 n0 c0, .int .i64 r0, .bool f0, .int .i64 l0]) (by (repeat (first | with_reducible exact Lies.one | with_reducible apply Lies.next))) (by simp only [List.length_cons, List.length_nil]; decide) rfl ?_; refine hK _ _ ?_; clear hK K
    (repeat (first | (with_reducible refine then_n ?_) | (with_reducible refine then_r ?_) | (with_reducible refine then_e ?_) | (with_reducible refine block_n ?_) | (with_reducible refine block_r ?_) | (with_reducible refine block_e ?_) | refine block_o ?_ | (with_reducible refine scope_n ?_) | (with_reducible refine scope_r ?_) | (with_reducible refine scope_e ?_) | (with_reducible refine code_seq ?_) | (with_reducible refine code_skip ?_) | (with_reducible refine code_label ?_) | (with_reducible refine code_block ?_) | (with_reducible refine code_scope ?_) | (with_reducible refine code_exit ?_) | (with_reducible refine code_ret ?_) | refine regq_to ?_ | (with_reducible refine run_nil ?_) | ((with_reducible refine run_probe ?_); refine runq_more ?_) | (with_reducible refine draw_nil ?_) | ((with_reducible refine draw_probe ?_); (first | refine drawq_more ?_ | refine drawq_as ?_)) | refine code_then ?_ | refine code_else ?_))
    refine draw_op fun K hK => ?_; refine calls_to (waits_spec a0 n0 c0 r0 l0 f0 hn0 (by omega) (by omega)) ?_; rintro v A ⟨rfl, rfl⟩; (try simp only [List.nil_append, List.cons_append]); (repeat refine pend ?_); refine hK _ _ ?_; clear hK K
    (repeat (first | (with_reducible refine then_n ?_) | (with_reducible refine then_r ?_) | (with_reducible refine then_e ?_) | (with_reducible refine block_n ?_) | (with_reducible refine block_r ?_) | (with_reducible refine block_e ?_) | refine block_o ?_ | (with_reducible refine scope_n ?_) | (with_reducible refine scope_r ?_) | (with_reducible refine scope_e ?_) | (with_reducible refine code_seq ?_) | (with_reducible refine code_skip ?_) | (with_reducible refine code_label ?_) | (with_reducible refine code_block ?_) | (with_reducible refine code_scope ?_) | (with_reducible refine code_exit ?_) | (with_reducible refine code_ret ?_) | refine regq_to ?_ | (with_reducible refine run_nil ?_) | ((with_reducible refine run_probe ?_); refine runq_more ?_) | (with_reducible refine draw_nil ?_) | ((with_reducible refine draw_probe ?_); (first | refine drawq_more ?_ | refine drawq_as ?_)) | refine code_then ?_ | refine code_else ?_))
    rw [show (l0 : Int) + ((n0 : Int) - r0 - l0) = ((n0 - r0 : Nat) : Int) from by omega]
    exact again ⟨rfl, 1, rfl, rfl, .inr (.inl ⟨rfl, rfl⟩)⟩
  · (repeat (first | (with_reducible refine then_n ?_) | (with_reducible refine then_r ?_) | (with_reducible refine then_e ?_) | (with_reducible refine block_n ?_) | (with_reducible refine block_r ?_) | (with_reducible refine block_e ?_) | refine block_o ?_ | (with_reducible refine scope_n ?_) | (with_reducible refine scope_r ?_) | (with_reducible refine scope_e ?_) | (with_reducible refine code_seq ?_) | (with_reducible refine code_skip ?_) | (with_reducible refine code_label ?_) | (with_reducible refine code_block ?_) | (with_reducible refine code_scope ?_) | (with_reducible refine code_exit ?_) | (with_reducible refine code_ret ?_) | refine regq_to ?_ | (with_reducible refine run_nil ?_) | ((with_reducible refine run_probe ?_); refine runq_more ?_) | (with_reducible refine draw_nil ?_) | ((with_reducible refine draw_probe ?_); (first | refine drawq_more ?_ | refine drawq_as ?_)) | refine code_then ?_ | refine code_else ?_))
    refine code_dr [[], [], [0], [0, 2], [0, 1, 2, 3], [0, 1, 2, 3, 4], [0, 1, 2, 3, 4, 5], [], [], [7], [7, 9], [7, 8, 9, 10], [7, 8, 9, 10, 11], [7, 8, 9, 10, 11, 12], [0, 1, 2, 3, 4, 5, 6, 7, 8, 9, 10, 11, 12, 13], [0], [0, 15], [0, 1, 2, 3, 4, 5, 6, 7, 8, 9, 10, 11, 12, 13, 14, 15, 16], [0, 1, 2, 3, 4, 5, 6, 7, 8, 9, 10, 11, 12, 13, 14, 15, 16, 17], [0, 1, 2, 3, 4, 5, 6, 7, 8, 9, 10, 11, 12, 13, 14, 15, 16, 17, 18]] [(0, false, []), (1, false, []), (2, false, []), (3, false, []), (4, false, []), (5, false, []), (6, false, []), (7, false, []), (8, false, []), (9, false, []), (10, false, []), (11, false, []), (12, false, []), (15, false, []), (16, false, []), (13, true, [6]), (14, false, []), (17, false, []), (18, false, []), (19, true, [])] ?_
    (repeat (first | (with_reducible refine then_n ?_) | (with_reducible refine then_r ?_) | (with_reducible refine then_e ?_) | (with_reducible refine block_n ?_) | (with_reducible refine block_r ?_) | (with_reducible refine block_e ?_) | refine block_o ?_ | (with_reducible refine scope_n ?_) | (with_reducible refine scope_r ?_) | (with_reducible refine scope_e ?_) | (with_reducible refine code_seq ?_) | (with_reducible refine code_skip ?_) | (with_reducible refine code_label ?_) | (with_reducible refine code_block ?_) | (with_reducible refine code_scope ?_) | (with_reducible refine code_exit ?_) | (with_reducible refine code_ret ?_) | refine regq_to ?_ | (with_reducible refine run_nil ?_) | ((with_reducible refine run_probe ?_); refine runq_more ?_) | (with_reducible refine draw_nil ?_) | ((with_reducible refine draw_probe ?_); (first | refine drawq_more ?_ | refine drawq_as ?_)) | refine code_then ?_ | refine code_else ?_))
    refine draw_quiet (by simp only [List.getElem?_toArray, List.getElem?_cons_succ, List.getElem?_cons_zero]; rfl) fun K hK => ?_; (try simp only [gos, gob, Nat.reduceBEq, if_true, reduceIte, reduceCtorEq, Nat.reduceLT, Nat.reduceEqDiff, Nat.reduceAdd, Nat.reduceSub, Int.reduceLT, Int.reduceLE, Int.reduceBEq, Int.reduceBNe, Int.reduceToNat, Int.reduceAdd, Int.reduceSub, Int.reduceMul, Int.reduceDiv, Int.reduceMod, Int.reducePow, Int.toNat_natCast, Nat.sub_zero, goq]); (try (simp (disch := omega) only [gow, gobw]; try simp only [gos, gob, Nat.reduceBEq, if_true, reduceIte, reduceCtorEq, Nat.reduceLT, Nat.reduceEqDiff, Nat.reduceAdd, Nat.reduceSub, Int.reduceLT, Int.reduceLE, Int.reduceBEq, Int.reduceBNe, Int.reduceToNat, Int.reduceAdd, Int.reduceSub, Int.reduceMul, Int.reduceDiv, Int.reduceMod, Int.reducePow, Int.toNat_natCast, Nat.sub_zero, goq])); refine load_sub (vs := [.int .i64 room, .slice a0 n0 c0, .int .i64 r0, .bool true, .int .i64 (n0 - r0 : Nat), .slice a1 n1 c1, .int .i64 r1, .bool f1, .int .i64 l1]) (ws := [.slice a1 n1 c1, .int .i64 r1, .bool f1, .int .i64 l1]) (by (repeat (first | with_reducible exact Lies.one | with_reducible apply Lies.next))) (by simp only [List.length_cons, List.length_nil]; decide) rfl ?_; refine hK _ _ ?_; clear hK K
    (repeat (first | (with_reducible refine then_n ?_) | (with_reducible refine then_r ?_) | (with_reducible refine then_e ?_) | (with_reducible refine block_n ?_) | (with_reducible refine block_r ?_) | (with_reducible refine block_e ?_) | refine block_o ?_ | (with_reducible refine scope_n ?_) | (with_reducible refine scope_r ?_) | (with_reducible refine scope_e ?_) | (with_reducible refine code_seq ?_) | (with_reducible refine code_skip ?_) | (with_reducible refine code_label ?_) | (with_reducible refine code_block ?_) | (with_reducible refine code_scope ?_) | (with_reducible refine code_exit ?_) | (with_reducible refine code_ret ?_) | refine regq_to ?_ | (with_reducible refine run_nil ?_) | ((with_reducible refine run_probe ?_); refine runq_more ?_) | (with_reducible refine draw_nil ?_) | ((with_reducible refine draw_probe ?_); (first | refine drawq_more ?_ | refine drawq_as ?_)) | refine code_then ?_ | refine code_else ?_))
    refine draw_op fun K hK => ?_; refine calls_to (waits_spec a1 n1 c1 r1 l1 f1 hn1 (by omega) (by omega)) ?_; rintro v A ⟨rfl, rfl⟩; (try simp only [List.nil_append, List.cons_append]); (repeat refine pend ?_); refine hK _ _ ?_; clear hK K
    (repeat (first | (with_reducible refine then_n ?_) | (with_reducible refine then_r ?_) | (with_reducible refine then_e ?_) | (with_reducible refine block_n ?_) | (with_reducible refine block_r ?_) | (with_reducible refine block_e ?_) | refine block_o ?_ | (with_reducible refine scope_n ?_) | (with_reducible refine scope_r ?_) | (with_reducible refine scope_e ?_) | (with_reducible refine code_seq ?_) | (with_reducible refine code_skip ?_) | (with_reducible refine code_label ?_) | (with_reducible refine code_block ?_) | (with_reducible refine code_scope ?_) | (with_reducible refine code_exit ?_) | (with_reducible refine code_ret ?_) | refine regq_to ?_ | (with_reducible refine run_nil ?_) | ((with_reducible refine run_probe ?_); refine runq_more ?_) | (with_reducible refine draw_nil ?_) | ((with_reducible refine draw_probe ?_); (first | refine drawq_more ?_ | refine drawq_as ?_)) | refine code_then ?_ | refine code_else ?_))
    rw [show (l1 : Int) + ((n1 : Int) - r1 - l1) = ((n1 - r1 : Nat) : Int) from by omega]
    exact again ⟨rfl, 2, rfl, rfl, .inr (.inr ⟨rfl, rfl⟩)⟩
  · (repeat (first | (with_reducible refine then_n ?_) | (with_reducible refine then_r ?_) | (with_reducible refine then_e ?_) | (with_reducible refine block_n ?_) | (with_reducible refine block_r ?_) | (with_reducible refine block_e ?_) | refine block_o ?_ | (with_reducible refine scope_n ?_) | (with_reducible refine scope_r ?_) | (with_reducible refine scope_e ?_) | (with_reducible refine code_seq ?_) | (with_reducible refine code_skip ?_) | (with_reducible refine code_label ?_) | (with_reducible refine code_block ?_) | (with_reducible refine code_scope ?_) | (with_reducible refine code_exit ?_) | (with_reducible refine code_ret ?_) | refine regq_to ?_ | (with_reducible refine run_nil ?_) | ((with_reducible refine run_probe ?_); refine runq_more ?_) | (with_reducible refine draw_nil ?_) | ((with_reducible refine draw_probe ?_); (first | refine drawq_more ?_ | refine drawq_as ?_)) | refine code_then ?_ | refine code_else ?_))
    exact back_none_n [xB x room (.slice a0 n0 c0) r0 true (n0 - r0 : Nat) (.slice a1 n1 c1) r1 true (n1 - r1 : Nat)] ⟨rfl, rfl⟩

set_option maxHeartbeats 1000000 in
theorem rover_spec (x : Nat) (room : Int) (a0 a1 : Option Addr) (n0 c0 r0 l0 n1 c1 r1 l1 : Nat) (f0 f1 : Bool) (hn0 : n0 ≤ 1000000) (hn1 : n1 ≤ 1000000) (h0 : r0 + l0 ≤ n0) (h1 : r1 + l1 ≤ n1) :
    Meets Tryd.prog 38 [.pointer (some ⟨x, 0, none⟩)] [xB x room (.slice a0 n0 c0) r0 f0 l0 (.slice a1 n1 c1) r1 f1 l1]
      fun v A => v = .bool (f0 && (f1 && (((n0 : Int) - r0 - l0 == 0) && ((n1 : Int) - r1 - l1 == 0)))) ∧ A = [xB x room (.slice a0 n0 c0) r0 f0 l0 (.slice a1 n1 c1) r1 f1 l1] := by
  refine spec_intro Tryd.func38 rfl (by kernel_rfl) (by rw [Tryd.ntmps38]; simp) fun F => ?_; rw [Tryd.ntmps38, Tryd.results38]
  (repeat (first | (with_reducible refine then_n ?_) | (with_reducible refine then_r ?_) | (with_reducible refine then_e ?_) | (with_reducible refine block_n ?_) | (with_reducible refine block_r ?_) | (with_reducible refine block_e ?_) | refine block_o ?_ | (with_reducible refine scope_n ?_) | (with_reducible refine scope_r ?_) | (with_reducible refine scope_e ?_) | (with_reducible refine code_seq ?_) | (with_reducible refine code_skip ?_) | (with_reducible refine code_label ?_) | (with_reducible refine code_block ?_) | (with_reducible refine code_scope ?_) | (with_reducible refine code_exit ?_) | (with_reducible refine code_ret ?_) | refine regq_to ?_ | (with_reducible refine run_nil ?_) | ((with_reducible refine run_probe ?_); refine runq_more ?_) | (with_reducible refine draw_nil ?_) | ((with_reducible refine draw_probe ?_); (first | refine drawq_more ?_ | refine drawq_as ?_)) | refine code_then ?_ | refine code_else ?_))
  cases f0 with
  | false =>
    (repeat (first | (with_reducible refine then_n ?_) | (with_reducible refine then_r ?_) | (with_reducible refine then_e ?_) | (with_reducible refine block_n ?_) | (with_reducible refine block_r ?_) | (with_reducible refine block_e ?_) | refine block_o ?_ | (with_reducible refine scope_n ?_) | (with_reducible refine scope_r ?_) | (with_reducible refine scope_e ?_) | (with_reducible refine code_seq ?_) | (with_reducible refine code_skip ?_) | (with_reducible refine code_label ?_) | (with_reducible refine code_block ?_) | (with_reducible refine code_scope ?_) | (with_reducible refine code_exit ?_) | (with_reducible refine code_ret ?_) | refine regq_to ?_ | (with_reducible refine run_nil ?_) | ((with_reducible refine run_probe ?_); refine runq_more ?_) | (with_reducible refine draw_nil ?_) | ((with_reducible refine draw_probe ?_); (first | refine drawq_more ?_ | refine drawq_as ?_)) | refine code_then ?_ | refine code_else ?_))
    refine back_tmp [xB x room (.slice a0 n0 c0) r0 false l0 (.slice a1 n1 c1) r1 f1 l1] ?_; exact ⟨rfl, rfl⟩
  | true =>
    (repeat (first | (with_reducible refine then_n ?_) | (with_reducible refine then_r ?_) | (with_reducible refine then_e ?_) | (with_reducible refine block_n ?_) | (with_reducible refine block_r ?_) | (with_reducible refine block_e ?_) | refine block_o ?_ | (with_reducible refine scope_n ?_) | (with_reducible refine scope_r ?_) | (with_reducible refine scope_e ?_) | (with_reducible refine code_seq ?_) | (with_reducible refine code_skip ?_) | (with_reducible refine code_label ?_) | (with_reducible refine code_block ?_) | (with_reducible refine code_scope ?_) | (with_reducible refine code_exit ?_) | (with_reducible refine code_ret ?_) | refine regq_to ?_ | (with_reducible refine run_nil ?_) | ((with_reducible refine run_probe ?_); refine runq_more ?_) | (with_reducible refine draw_nil ?_) | ((with_reducible refine draw_probe ?_); (first | refine drawq_more ?_ | refine drawq_as ?_)) | refine code_then ?_ | refine code_else ?_))
    cases f1 with
    | false =>
      (repeat (first | (with_reducible refine then_n ?_) | (with_reducible refine then_r ?_) | (with_reducible refine then_e ?_) | (with_reducible refine block_n ?_) | (with_reducible refine block_r ?_) | (with_reducible refine block_e ?_) | refine block_o ?_ | (with_reducible refine scope_n ?_) | (with_reducible refine scope_r ?_) | (with_reducible refine scope_e ?_) | (with_reducible refine code_seq ?_) | (with_reducible refine code_skip ?_) | (with_reducible refine code_label ?_) | (with_reducible refine code_block ?_) | (with_reducible refine code_scope ?_) | (with_reducible refine code_exit ?_) | (with_reducible refine code_ret ?_) | refine regq_to ?_ | (with_reducible refine run_nil ?_) | ((with_reducible refine run_probe ?_); refine runq_more ?_) | (with_reducible refine draw_nil ?_) | ((with_reducible refine draw_probe ?_); (first | refine drawq_more ?_ | refine drawq_as ?_)) | refine code_then ?_ | refine code_else ?_))
      refine back_tmp [xB x room (.slice a0 n0 c0) r0 true l0 (.slice a1 n1 c1) r1 false l1] ?_; exact ⟨rfl, rfl⟩
    | true =>
      (repeat (first | (with_reducible refine then_n ?_) | (with_reducible refine then_r ?_) | (with_reducible refine then_e ?_) | (with_reducible refine block_n ?_) | (with_reducible refine block_r ?_) | (with_reducible refine block_e ?_) | refine block_o ?_ | (with_reducible refine scope_n ?_) | (with_reducible refine scope_r ?_) | (with_reducible refine scope_e ?_) | (with_reducible refine code_seq ?_) | (with_reducible refine code_skip ?_) | (with_reducible refine code_label ?_) | (with_reducible refine code_block ?_) | (with_reducible refine code_scope ?_) | (with_reducible refine code_exit ?_) | (with_reducible refine code_ret ?_) | refine regq_to ?_ | (with_reducible refine run_nil ?_) | ((with_reducible refine run_probe ?_); refine runq_more ?_) | (with_reducible refine draw_nil ?_) | ((with_reducible refine draw_probe ?_); (first | refine drawq_more ?_ | refine drawq_as ?_)) | refine code_then ?_ | refine code_else ?_))
      refine run_op fun K hK => ?_; refine load_sub (vs := [.int .i64 room, .slice a0 n0 c0, .int .i64 r0, .bool true, .int .i64 l0, .slice a1 n1 c1, .int .i64 r1, .bool true, .int .i64 l1]) (ws := [.slice a0 n0 c0, .int .i64 r0, .bool true, .int .i64 l0]) (by (repeat (first | with_reducible exact Lies.one | with_reducible apply Lies.next))) (by simp only [List.length_cons, List.length_nil]; decide) rfl ?_; refine hK _ _ ?_; clear hK K
      refine run_op fun K hK => ?_; refine calls_to (waits_spec a0 n0 c0 r0 l0 true hn0 (by omega) (by omega)) ?_; rintro v A ⟨rfl, rfl⟩; (try simp only [List.nil_append, List.cons_append]); refine hK _ _ ?_; clear hK K; (repeat (first | (with_reducible refine then_n ?_) | (with_reducible refine then_r ?_) | (with_reducible refine then_e ?_) | (with_reducible refine block_n ?_) | (with_reducible refine block_r ?_) | (with_reducible refine block_e ?_) | refine block_o ?_ | (with_reducible refine scope_n ?_) | (with_reducible refine scope_r ?_) | (with_reducible refine scope_e ?_) | (with_reducible refine code_seq ?_) | (with_reducible refine code_skip ?_) | (with_reducible refine code_label ?_) | (with_reducible refine code_block ?_) | (with_reducible refine code_scope ?_) | (with_reducible refine code_exit ?_) | (with_reducible refine code_ret ?_) | refine regq_to ?_ | (with_reducible refine run_nil ?_) | ((with_reducible refine run_probe ?_); refine runq_more ?_) | (with_reducible refine draw_nil ?_) | ((with_reducible refine draw_probe ?_); (first | refine drawq_more ?_ | refine drawq_as ?_)) | refine code_then ?_ | refine code_else ?_))
      cases hz : ((n0 : Int) - r0 - l0 == 0) with
      | false =>
        (repeat (first | (with_reducible refine then_n ?_) | (with_reducible refine then_r ?_) | (with_reducible refine then_e ?_) | (with_reducible refine block_n ?_) | (with_reducible refine block_r ?_) | (with_reducible refine block_e ?_) | refine block_o ?_ | (with_reducible refine scope_n ?_) | (with_reducible refine scope_r ?_) | (with_reducible refine scope_e ?_) | (with_reducible refine code_seq ?_) | (with_reducible refine code_skip ?_) | (with_reducible refine code_label ?_) | (with_reducible refine code_block ?_) | (with_reducible refine code_scope ?_) | (with_reducible refine code_exit ?_) | (with_reducible refine code_ret ?_) | refine regq_to ?_ | (with_reducible refine run_nil ?_) | ((with_reducible refine run_probe ?_); refine runq_more ?_) | (with_reducible refine draw_nil ?_) | ((with_reducible refine draw_probe ?_); (first | refine drawq_more ?_ | refine drawq_as ?_)) | refine code_then ?_ | refine code_else ?_))
        refine back_tmp [xB x room (.slice a0 n0 c0) r0 true l0 (.slice a1 n1 c1) r1 true l1] ?_; exact ⟨rfl, rfl⟩
      | true =>
        (repeat (first | (with_reducible refine then_n ?_) | (with_reducible refine then_r ?_) | (with_reducible refine then_e ?_) | (with_reducible refine block_n ?_) | (with_reducible refine block_r ?_) | (with_reducible refine block_e ?_) | refine block_o ?_ | (with_reducible refine scope_n ?_) | (with_reducible refine scope_r ?_) | (with_reducible refine scope_e ?_) | (with_reducible refine code_seq ?_) | (with_reducible refine code_skip ?_) | (with_reducible refine code_label ?_) | (with_reducible refine code_block ?_) | (with_reducible refine code_scope ?_) | (with_reducible refine code_exit ?_) | (with_reducible refine code_ret ?_) | refine regq_to ?_ | (with_reducible refine run_nil ?_) | ((with_reducible refine run_probe ?_); refine runq_more ?_) | (with_reducible refine draw_nil ?_) | ((with_reducible refine draw_probe ?_); (first | refine drawq_more ?_ | refine drawq_as ?_)) | refine code_then ?_ | refine code_else ?_))
        refine run_op fun K hK => ?_; refine load_sub (vs := [.int .i64 room, .slice a0 n0 c0, .int .i64 r0, .bool true, .int .i64 l0, .slice a1 n1 c1, .int .i64 r1, .bool true, .int .i64 l1]) (ws := [.slice a1 n1 c1, .int .i64 r1, .bool true, .int .i64 l1]) (by (repeat (first | with_reducible exact Lies.one | with_reducible apply Lies.next))) (by simp only [List.length_cons, List.length_nil]; decide) rfl ?_; refine hK _ _ ?_; clear hK K
        refine run_op fun K hK => ?_; refine calls_to (waits_spec a1 n1 c1 r1 l1 true hn1 (by omega) (by omega)) ?_; rintro v A ⟨rfl, rfl⟩; (try simp only [List.nil_append, List.cons_append]); refine hK _ _ ?_; clear hK K; (repeat (first | (with_reducible refine then_n ?_) | (with_reducible refine then_r ?_) | (with_reducible refine then_e ?_) | (with_reducible refine block_n ?_) | (with_reducible refine block_r ?_) | (with_reducible refine block_e ?_) | refine block_o ?_ | (with_reducible refine scope_n ?_) | (with_reducible refine scope_r ?_) | (with_reducible refine scope_e ?_) | (with_reducible refine code_seq ?_) | (with_reducible refine code_skip ?_) | (with_reducible refine code_label ?_) | (with_reducible refine code_block ?_) | (with_reducible refine code_scope ?_) | (with_reducible refine code_exit ?_) | (with_reducible refine code_ret ?_) | refine regq_to ?_ | (with_reducible refine run_nil ?_) | ((with_reducible refine run_probe ?_); refine runq_more ?_) | (with_reducible refine draw_nil ?_) | ((with_reducible refine draw_probe ?_); (first | refine drawq_more ?_ | refine drawq_as ?_)) | refine code_then ?_ | refine code_else ?_))
        refine back_tmp [xB x room (.slice a0 n0 c0) r0 true l0 (.slice a1 n1 c1) r1 true l1] ?_; exact ⟨rfl, rfl⟩

/-- The document's pipe, and all that is its own. -/
def IsRef (T : Chunk) (x room : Nat) (w0 w1 : Wy) : Prop := ∃ a0 c0 C0 a1 c1 C1, Own8 5 C0 a0 w0.all.length c0 w0.all ∧ Own8 5 C1 a1 w1.all.length c1 w1.all ∧
  T = xB x room (.slice a0 w0.all.length c0) w0.r.length w0.f w0.l.length (.slice a1 w1.all.length c1) w1.r.length w1.f w1.l.length ++ (C0 ++ C1)
theorem q_len (w : Wy) : w.all.length - w.r.length - w.l.length = w.q.length := by rw [all_len]; omega
theorem rl_le (w : Wy) : w.r.length + w.l.length ≤ w.all.length := by rw [all_len]; omega

/-- What a pipe and the document's are both. -/
abbrev PS := Option (Nat × Wy × Wy)
def PHalf (pv : Value) (T : Chunk) : PS → Prop
  | none => pv = .pointer none ∧ T = []
  | some (room, w0, w1) => ∃ b, pv = .pointer (some ⟨b, 0, none⟩) ∧ IsPipe T b room w0 w1
def XHalf (xv : Value) (U : Chunk) : PS → Prop
  | none => xv = .pointer none ∧ U = []
  | some (room, w0, w1) => ∃ x, xv = .pointer (some ⟨x, 0, none⟩) ∧ IsRef U x room w0 w1
/-- It isn't too much yet. -/
def PSmall (n : Nat) : PS → Prop
  | none => True
  | some (room, w0, w1) => 1 ≤ room ∧ room ≤ 4096 ∧ w0.ok room ∧ w1.ok room ∧ w0.all.length ≤ n ∧ w1.all.length ≤ n
def sread (s : PS) (i most : Int) : (List UInt8 × Int) × PS := match s with
  | none => (([], 6), none)
  | some (room, w0, w1) => if i = 0 then ((w0.q.take most.toNat, 0), some (room, wtake w0 most, w1)) else if i = 1 then ((w1.q.take most.toNat, 0), some (room, w0, wtake w1 most)) else (([], 1), s)
def swrite (s : PS) (i : Int) (bs : List UInt8) : (Int × Int) × PS := match s with
  | none => ((0, 6), none)
  | some (room, w0, w1) => if i = 0 then (if w0.f = true then ((0, 14), s) else ((fits w0 room bs, 0), some (room, wput w0 room bs, w1)))
    else if i = 1 then (if w1.f = true then ((0, 14), s) else ((fits w1 room bs, 0), some (room, w0, wput w1 room bs))) else ((0, 1), s)
def sshut (s : PS) (i : Int) : Int × PS := match s with
  | none => (6, none)
  | some (room, w0, w1) => if i = 0 then ((if w0.f = true then 14 else 0), some (room, wshut w0, w1)) else if i = 1 then ((if w1.f = true then 14 else 0), some (room, w0, wshut w1)) else (1, s)
def scut (s : PS) : PS := match s with
  | none => none
  | some (room, w0, w1) => some (room, wcut w0, wcut w1)

theorem small_read {n : Nat} {s : PS} (h : PSmall n s) (i most : Int) : PSmall n (sread s i most).2 := by
  rcases s with _ | ⟨room, w0, w1⟩
  · exact trivial
  · obtain ⟨h1, h2, h3, h4, h5, h6⟩ := h
    unfold sread
    simp only
    split
    · exact ⟨h1, h2, ok_take h3 most, h4, by rw [all_take]; exact h5, h6⟩
    · split
      · exact ⟨h1, h2, h3, ok_take h4 most, h5, by rw [all_take]; exact h6⟩
      · exact ⟨h1, h2, h3, h4, h5, h6⟩
theorem small_put {n : Nat} {w : Wy} {room : Nat} (h : w.ok room) (hn : w.all.length ≤ n) (hf : w.f = false) (bs : List UInt8) (hb : bs.length ≤ 300) : (wput w room bs).all.length ≤ n + 300 := by
  rw [all_put h hf, List.length_append, List.length_take]; omega
theorem small_write {n : Nat} {s : PS} (h : PSmall n s) (i : Int) (bs : List UInt8) (hb : bs.length ≤ 300) : PSmall (n + 300) (swrite s i bs).2 := by
  rcases s with _ | ⟨room, w0, w1⟩
  · exact trivial
  · obtain ⟨h1, h2, h3, h4, h5, h6⟩ := h
    unfold swrite
    simp only
    split
    · split
      · exact ⟨h1, h2, h3, h4, by omega, by omega⟩
      · rename_i hf
        exact ⟨h1, h2, ok_put h3 (by simpa using hf) bs, h4, small_put h3 h5 (by simpa using hf) bs hb, by omega⟩
    · split
      · split
        · exact ⟨h1, h2, h3, h4, by omega, by omega⟩
        · rename_i hf
          exact ⟨h1, h2, h3, ok_put h4 (by simpa using hf) bs, by omega, small_put h4 h6 (by simpa using hf) bs hb⟩
      · exact ⟨h1, h2, h3, h4, by omega, by omega⟩
theorem small_shut {n : Nat} {s : PS} (h : PSmall n s) (i : Int) : PSmall n (sshut s i).2 := by
  rcases s with _ | ⟨room, w0, w1⟩
  · exact trivial
  · obtain ⟨h1, h2, h3, h4, h5, h6⟩ := h
    unfold sshut
    simp only
    split
    · exact ⟨h1, h2, ok_shut h3, h4, h5, h6⟩
    · split
      · exact ⟨h1, h2, h3, ok_shut h4, h5, h6⟩
      · exact ⟨h1, h2, h3, h4, h5, h6⟩
theorem small_cut {n : Nat} {s : PS} (h : PSmall n s) : PSmall n (scut s) := by
  rcases s with _ | ⟨room, w0, w1⟩
  · exact trivial
  · obtain ⟨h1, h2, h3, h4, h5, h6⟩ := h
    exact ⟨h1, h2, ok_cut h3, ok_cut h4, by rw [all_cut]; exact h5, by rw [all_cut]; exact h6⟩
theorem small_le {n m : Nat} {s : PS} (h : PSmall n s) (hm : n ≤ m) : PSmall m s := by
  rcases s with _ | ⟨room, w0, w1⟩
  · exact trivial
  · obtain ⟨h1, h2, h3, h4, h5, h6⟩ := h
    exact ⟨h1, h2, h3, h4, by omega, by omega⟩

/-! ### The pipe -/

theorem pR {t1 : TypeId} (G : Chunk) (m1 : Nat × Nat) (hG1 : (1, Obj.cells (rowW Go.Sha.odd) t1 m1) ∈ G) {pv : Value} {T : Chunk} {s : PS} (h : PHalf pv T s) (hs : PSmall 1000000 s) (i most : Int) :
    Meets Tryd.prog 14 [pv, .int .i64 i, .int .i64 most] [G, T]
      fun v A => ∃ O oa oc T', v = .tuple #[.slice oa (sread s i most).1.1.length oc, .int .i64 (sread s i most).1.2] ∧ Own8 5 O oa (sread s i most).1.1.length oc (sread s i most).1.1 ∧ PHalf pv T' (sread s i most).2 ∧ A = [O, G, T'] := by
  have no : ∀ E, NoWay pv i E → (sread s i most) = (([], E), s) → Meets Tryd.prog 14 [pv, .int .i64 i, .int .i64 most] [G, T]
      fun v A => ∃ O oa oc T', v = .tuple #[.slice oa (sread s i most).1.1.length oc, .int .i64 (sread s i most).1.2] ∧ Own8 5 O oa (sread s i most).1.1.length oc (sread s i most).1.1 ∧ PHalf pv T' (sread s i most).2 ∧ A = [O, G, T'] := by
    intro E hE e
    rw [e]
    refine Meets.conv [G, T] (read_no hE most) rfl (.nil _) ?_
    rintro v A ⟨rfl, rfl⟩
    exact ⟨[[], G, T], [G, T], by simp, by first | ((repeat (first | with_reducible exact Among.nil _ | with_reducible exact Pick.head _ _ | with_reducible apply Pick.tail | with_reducible apply Among.cons)); done) | ((repeat (first | exact Among.nil _ | exact Pick.head _ _ | apply Pick.tail | apply Among.cons)); done), [], none, 0, T, rfl, own_nil, h, rfl⟩
  rcases s with _ | ⟨room, w0, w1⟩
  · obtain ⟨rfl, rfl⟩ := h
    exact no 6 (noway_nil i) rfl
  · obtain ⟨b, rfl, hT⟩ := h
    obtain ⟨h1, h2, h3, h4, h5, h6⟩ := hs
    by_cases i0 : i = 0
    · subst i0
      refine (pread_0 G m1 hG1 hT h5 most).mono ?_
      rintro v A ⟨O, oa, oc, T', rfl, hO, hT', rfl⟩
      exact ⟨O, oa, oc, T', rfl, hO, ⟨b, rfl, hT'⟩, rfl⟩
    · by_cases i1 : i = 1
      · subst i1
        refine (pread_1 G m1 hG1 hT h6 most).mono ?_
        rintro v A ⟨O, oa, oc, T', rfl, hO, hT', rfl⟩
        exact ⟨O, oa, oc, T', rfl, hO, ⟨b, rfl, hT'⟩, rfl⟩
      · exact no 1 (noway_odd b i i0 i1) (by unfold sread; simp only; rw [if_neg i0, if_neg i1])

theorem pW {H : Chunk} {pv : Value} {T : Chunk} {s : PS} (h : PHalf pv T s) (hs : PSmall 900000 s) (i : Int) (ba : Option Addr) (cap : Nat) (bs : List UInt8) (hbl : bs.length ≤ 300) (hr : Rd 1 [H] ba bs.length (bs.map b8)) :
    Meets Tryd.prog 9 [pv, .int .i64 i, .slice ba bs.length cap] [T, H]
      fun v A => ∃ T', v = .tuple #[.int .i64 (swrite s i bs).1.1, .int .i64 (swrite s i bs).1.2] ∧ PHalf pv T' (swrite s i bs).2 ∧ A = [T', H] := by
  have no : ∀ E, NoWay pv i E → swrite s i bs = ((0, E), s) → Meets Tryd.prog 9 [pv, .int .i64 i, .slice ba bs.length cap] [T, H]
      fun v A => ∃ T', v = .tuple #[.int .i64 (swrite s i bs).1.1, .int .i64 (swrite s i bs).1.2] ∧ PHalf pv T' (swrite s i bs).2 ∧ A = [T', H] := by
    intro E hE e
    rw [e]
    refine Meets.conv [T, H] (write_no hE _) rfl (.nil _) ?_
    rintro v A ⟨rfl, rfl⟩
    exact ⟨[T, H], [T, H], by simp, by first | ((repeat (first | with_reducible exact Among.nil _ | with_reducible exact Pick.head _ _ | with_reducible apply Pick.tail | with_reducible apply Among.cons)); done) | ((repeat (first | exact Among.nil _ | exact Pick.head _ _ | apply Pick.tail | apply Among.cons)); done), T, rfl, h, rfl⟩
  rcases s with _ | ⟨room, w0, w1⟩
  · obtain ⟨rfl, rfl⟩ := h
    exact no 6 (noway_nil i) rfl
  · obtain ⟨b, rfl, hT⟩ := h
    obtain ⟨h1, h2, h3, h4, h5, h6⟩ := hs
    have shut : ∀ (hm : Meets Tryd.prog 9 [.pointer (some ⟨b, 0, none⟩), .int .i64 i, .slice ba bs.length cap] [T] fun v A => v = .tuple #[.int .i64 0, .int .i64 14] ∧ A = [T]) (e : swrite (some (room, w0, w1)) i bs = ((0, 14), some (room, w0, w1))), Meets Tryd.prog 9 [.pointer (some ⟨b, 0, none⟩), .int .i64 i, .slice ba bs.length cap] [T, H]
        fun v A => ∃ T', v = .tuple #[.int .i64 (swrite (some (room, w0, w1)) i bs).1.1, .int .i64 (swrite (some (room, w0, w1)) i bs).1.2] ∧ PHalf (.pointer (some ⟨b, 0, none⟩)) T' (swrite (some (room, w0, w1)) i bs).2 ∧ A = [T', H] := by
      intro hm e
      rw [e]
      refine Meets.conv [T, H] hm rfl (by (repeat (first | with_reducible exact Take.nil _ | with_reducible exact Pick.head _ _ | with_reducible apply Pick.tail | with_reducible apply Take.cons))) ?_
      rintro v A ⟨rfl, rfl⟩
      exact ⟨[T, H], [T, H], by simp, by first | ((repeat (first | with_reducible exact Among.nil _ | with_reducible exact Pick.head _ _ | with_reducible apply Pick.tail | with_reducible apply Among.cons)); done) | ((repeat (first | exact Among.nil _ | exact Pick.head _ _ | apply Pick.tail | apply Among.cons)); done), T, rfl, ⟨b, rfl, hT⟩, rfl⟩
    by_cases i0 : i = 0
    · subst i0
      cases hf : w0.f with
      | true => exact shut (pwriteshut_0 hT hf _) (by simp [swrite, hf])
      | false =>
        have e : swrite (some (room, w0, w1)) 0 bs = (((fits w0 room bs : Int), 0), some (room, wput w0 room bs, w1)) := by simp [swrite, hf]
        rw [e]
        refine (pwrite_0 hT hf (by omega) ba cap bs (by omega) hr).mono ?_
        rintro v A ⟨rfl, T', hT', rfl⟩
        exact ⟨T', rfl, ⟨b, rfl, hT'⟩, rfl⟩
    · by_cases i1 : i = 1
      · subst i1
        cases hf : w1.f with
        | true => exact shut (pwriteshut_1 hT hf _) (by simp [swrite, hf])
        | false =>
          have e : swrite (some (room, w0, w1)) 1 bs = (((fits w1 room bs : Int), 0), some (room, w0, wput w1 room bs)) := by simp [swrite, hf]
          rw [e]
          refine (pwrite_1 hT hf (by omega) ba cap bs (by omega) hr).mono ?_
          rintro v A ⟨rfl, T', hT', rfl⟩
          exact ⟨T', rfl, ⟨b, rfl, hT'⟩, rfl⟩
      · exact no 1 (noway_odd b i i0 i1) (by unfold swrite; simp only; rw [if_neg i0, if_neg i1])

theorem pS {pv : Value} {T : Chunk} {s : PS} (h : PHalf pv T s) (i : Int) :
    Meets Tryd.prog 10 [pv, .int .i64 i] [T] fun v A => ∃ T', v = .int .i64 (sshut s i).1 ∧ PHalf pv T' (sshut s i).2 ∧ A = [T'] := by
  have no : ∀ E, NoWay pv i E → sshut s i = (E, s) → Meets Tryd.prog 10 [pv, .int .i64 i] [T] fun v A => ∃ T', v = .int .i64 (sshut s i).1 ∧ PHalf pv T' (sshut s i).2 ∧ A = [T'] := by
    intro E hE e
    rw [e]
    refine Meets.conv [T] (shut_no hE) rfl (.nil _) ?_
    rintro v A ⟨rfl, rfl⟩
    exact ⟨[T], [T], by simp, by first | ((repeat (first | with_reducible exact Among.nil _ | with_reducible exact Pick.head _ _ | with_reducible apply Pick.tail | with_reducible apply Among.cons)); done) | ((repeat (first | exact Among.nil _ | exact Pick.head _ _ | apply Pick.tail | apply Among.cons)); done), T, rfl, h, rfl⟩
  rcases s with _ | ⟨room, w0, w1⟩
  · obtain ⟨rfl, rfl⟩ := h
    exact no 6 (noway_nil i) rfl
  · obtain ⟨b, rfl, hT⟩ := h
    by_cases i0 : i = 0
    · subst i0
      refine (pshut_0 hT).mono ?_
      rintro v A ⟨rfl, T', hT', rfl⟩
      exact ⟨T', rfl, ⟨b, rfl, hT'⟩, rfl⟩
    · by_cases i1 : i = 1
      · subst i1
        refine (pshut_1 hT).mono ?_
        rintro v A ⟨rfl, T', hT', rfl⟩
        exact ⟨T', rfl, ⟨b, rfl, hT'⟩, rfl⟩
      · exact no 1 (noway_odd b i i0 i1) (by unfold sshut; simp only; rw [if_neg i0, if_neg i1])

theorem pC {pv : Value} {T : Chunk} {s : PS} (h : PHalf pv T s) : Meets Tryd.prog 13 [pv] [T] fun v A => ∃ T', v = .tuple #[] ∧ PHalf pv T' (scut s) ∧ A = [T'] := by
  rcases s with _ | ⟨room, w0, w1⟩
  · obtain ⟨rfl, rfl⟩ := h
    refine Meets.conv [] cut_nil rfl (.nil _) ?_
    rintro v A ⟨rfl, rfl⟩
    exact ⟨[[]], [], rfl, .nil _, [], rfl, ⟨rfl, rfl⟩, rfl⟩
  · obtain ⟨b, rfl, hT⟩ := h
    refine (pcut_spec hT).mono ?_
    rintro v A ⟨rfl, T', hT', rfl⟩
    exact ⟨T', rfl, ⟨b, rfl, hT'⟩, rfl⟩


theorem xread_0 {U : Chunk} {x room : Nat} {w0 w1 : Wy} (h : IsRef U x room w0 w1) (hall : w0.all.length ≤ 1000000) (most : Int) :
    Meets Tryd.prog 25 [.pointer (some ⟨x, 0, none⟩), .int .i64 0, .int .i64 most] [U]
      fun v A => ∃ O oa oc U', v = .tuple #[.slice oa (w0.q.take most.toNat).length oc, .int .i64 0] ∧ Own8 5 O oa (w0.q.take most.toNat).length oc (w0.q.take most.toNat) ∧ IsRef U' x room (wtake w0 most) w1 ∧ A = [O, U'] := by
  obtain ⟨a0, c0, C0, a1, c1, C1, h0, h1, rfl⟩ := h
  have hw := rread_0 x room (.slice a1 w1.all.length c1) w1.r.length w1.f w1.l.length w0.f a0 c0 w0.r.length w0.l.length w0.all C0 h0 hall (rl_le w0) most (min most.toNat w0.q.length) (by rw [q_len])
  rw [all_sub w0 _ (Nat.min_le_right _ _), take_cap] at hw
  refine Meets.conv [xB x room (.slice a0 w0.all.length c0) w0.r.length w0.f w0.l.length (.slice a1 w1.all.length c1) w1.r.length w1.f w1.l.length, C0, C1] (hw) (by simp only [List.flatten_cons, List.flatten_nil, List.append_assoc, List.append_nil]) (by (repeat (first | with_reducible exact Take.nil _ | with_reducible exact Pick.head _ _ | with_reducible apply Pick.tail | with_reducible apply Take.cons))) ?_; rintro v A ⟨O, oa, oc, rfl, hO, rfl⟩
  rw [show w0.r.length + min most.toNat w0.q.length = (wtake w0 most).r.length from by show _ = (w0.r ++ w0.q.take most.toNat).length; rw [List.length_append, List.length_take]]
  exact ⟨[O, xB x room (.slice a0 w0.all.length c0) (wtake w0 most).r.length w0.f w0.l.length (.slice a1 w1.all.length c1) w1.r.length w1.f w1.l.length ++ (C0 ++ C1)], [O, xB x room (.slice a0 w0.all.length c0) (wtake w0 most).r.length w0.f w0.l.length (.slice a1 w1.all.length c1) w1.r.length w1.f w1.l.length, C0, C1], by simp only [List.flatten_cons, List.flatten_nil, List.append_assoc, List.append_nil], by first | ((repeat (first | with_reducible exact Among.nil _ | with_reducible exact Pick.head _ _ | with_reducible apply Pick.tail | with_reducible apply Among.cons)); done) | ((repeat (first | exact Among.nil _ | exact Pick.head _ _ | apply Pick.tail | apply Among.cons)); done),
    O, oa, oc, _, rfl, hO, ⟨a0, c0, C0, a1, c1, C1, by rw [all_take]; exact h0, h1, by rw [all_take]; rfl⟩, rfl⟩
theorem xwriteshut_0 {U : Chunk} {x room : Nat} {w0 w1 : Wy} (h : IsRef U x room w0 w1) (hf : w0.f = true) (s : Value) :
    Meets Tryd.prog 30 [.pointer (some ⟨x, 0, none⟩), .int .i64 0, s] [U] fun v A => v = .tuple #[.int .i64 0, .int .i64 14] ∧ A = [U] := by
  obtain ⟨a0, c0, C0, a1, c1, C1, h0, h1, rfl⟩ := h
  have hw := rwriteshut_0 x room (.slice a1 w1.all.length c1) w1.r.length w1.f w1.l.length (.slice a0 w0.all.length c0) (by simp [Value.cell1]) w0.r.length w0.l.length s
  rw [← hf] at hw
  refine Meets.conv [xB x room (.slice a0 w0.all.length c0) w0.r.length w0.f w0.l.length (.slice a1 w1.all.length c1) w1.r.length w1.f w1.l.length, C0, C1] (hw) (by simp only [List.flatten_cons, List.flatten_nil, List.append_assoc, List.append_nil]) (by (repeat (first | with_reducible exact Take.nil _ | with_reducible exact Pick.head _ _ | with_reducible apply Pick.tail | with_reducible apply Take.cons))) ?_; rintro v A ⟨rfl, rfl⟩
  exact ⟨[xB x room (.slice a0 w0.all.length c0) w0.r.length w0.f w0.l.length (.slice a1 w1.all.length c1) w1.r.length w1.f w1.l.length ++ (C0 ++ C1)], [xB x room (.slice a0 w0.all.length c0) w0.r.length w0.f w0.l.length (.slice a1 w1.all.length c1) w1.r.length w1.f w1.l.length, C0, C1], by simp only [List.flatten_cons, List.flatten_nil, List.append_assoc, List.append_nil], by first | ((repeat (first | with_reducible exact Among.nil _ | with_reducible exact Pick.head _ _ | with_reducible apply Pick.tail | with_reducible apply Among.cons)); done) | ((repeat (first | exact Among.nil _ | exact Pick.head _ _ | apply Pick.tail | apply Among.cons)); done), rfl, rfl⟩
theorem xwrite_0 {U H : Chunk} {x room : Nat} {w0 w1 : Wy} (h : IsRef U x room w0 w1) (hr2 : room ≤ 4096) (hok : w0.ok room) (hf : w0.f = false) (hall : w0.all.length ≤ 1000000) (ba : Option Addr) (cap : Nat) (bs : List UInt8) (hbc : bs.length ≤ cap) (hbl : bs.length ≤ 1000000) (hr : Rd 1 [H] ba bs.length (bs.map b8)) :
    Meets Tryd.prog 30 [.pointer (some ⟨x, 0, none⟩), .int .i64 0, .slice ba bs.length cap] [U, H]
      fun v A => v = .tuple #[.int .i64 (fits w0 room bs), .int .i64 0] ∧ ∃ U', IsRef U' x room (wput w0 room bs) w1 ∧ A = [U', H] := by
  obtain ⟨a0, c0, C0, a1, c1, C1, h0, h1, rfl⟩ := h
  have hw := rwrite_0 x room (.slice a1 w1.all.length c1) w1.r.length w1.f w1.l.length a0 c0 w0.r.length w0.l.length w0.all C0 H h0 hall (rl_le w0) (by rw [q_len]; exact hok.1) hr2 ba cap bs hbc hbl hr (fits w0 room bs) (by rw [q_len]; rfl)
  rw [← all_put hok hf bs] at hw
  rw [← hf] at hw
  refine Meets.conv [xB x room (.slice a0 w0.all.length c0) w0.r.length w0.f w0.l.length (.slice a1 w1.all.length c1) w1.r.length w1.f w1.l.length, C0, C1, H] (hw) (by simp only [List.flatten_cons, List.flatten_nil, List.append_assoc, List.append_nil]) (by (repeat (first | with_reducible exact Take.nil _ | with_reducible exact Pick.head _ _ | with_reducible apply Pick.tail | with_reducible apply Take.cons))) ?_; rintro v A ⟨rfl, aa, ac, CA, hCA, rfl⟩
  exact ⟨[xB x room (.slice aa (wput w0 room bs).all.length ac) w0.r.length w0.f w0.l.length (.slice a1 w1.all.length c1) w1.r.length w1.f w1.l.length ++ (CA ++ C1), H], [xB x room (.slice aa (wput w0 room bs).all.length ac) w0.r.length w0.f w0.l.length (.slice a1 w1.all.length c1) w1.r.length w1.f w1.l.length, CA, C1, H], by simp only [List.flatten_cons, List.flatten_nil, List.append_assoc, List.append_nil], by first | ((repeat (first | with_reducible exact Among.nil _ | with_reducible exact Pick.head _ _ | with_reducible apply Pick.tail | with_reducible apply Among.cons)); done) | ((repeat (first | exact Among.nil _ | exact Pick.head _ _ | apply Pick.tail | apply Among.cons)); done),
    rfl, _, ⟨aa, ac, CA, a1, c1, C1, hCA, h1, rfl⟩, rfl⟩
theorem xshut_0 {U : Chunk} {x room : Nat} {w0 w1 : Wy} (h : IsRef U x room w0 w1) :
    Meets Tryd.prog 27 [.pointer (some ⟨x, 0, none⟩), .int .i64 0] [U] fun v A => v = .int .i64 (if w0.f = true then 14 else 0) ∧ ∃ U', IsRef U' x room (wshut w0) w1 ∧ A = [U'] := by
  obtain ⟨a0, c0, C0, a1, c1, C1, h0, h1, rfl⟩ := h
  refine Meets.conv [xB x room (.slice a0 w0.all.length c0) w0.r.length w0.f w0.l.length (.slice a1 w1.all.length c1) w1.r.length w1.f w1.l.length, C0, C1] (rshut_0 x room (.slice a0 w0.all.length c0) w0.r.length w0.f w0.l.length (.slice a1 w1.all.length c1) w1.r.length w1.f w1.l.length) (by simp only [List.flatten_cons, List.flatten_nil, List.append_assoc, List.append_nil]) (by (repeat (first | with_reducible exact Take.nil _ | with_reducible exact Pick.head _ _ | with_reducible apply Pick.tail | with_reducible apply Take.cons))) ?_; rintro v A ⟨rfl, rfl⟩
  exact ⟨[xB x room (.slice a0 w0.all.length c0) w0.r.length true w0.l.length (.slice a1 w1.all.length c1) w1.r.length w1.f w1.l.length ++ (C0 ++ C1)], [xB x room (.slice a0 w0.all.length c0) w0.r.length true w0.l.length (.slice a1 w1.all.length c1) w1.r.length w1.f w1.l.length, C0, C1], by simp only [List.flatten_cons, List.flatten_nil, List.append_assoc, List.append_nil], by first | ((repeat (first | with_reducible exact Among.nil _ | with_reducible exact Pick.head _ _ | with_reducible apply Pick.tail | with_reducible apply Among.cons)); done) | ((repeat (first | exact Among.nil _ | exact Pick.head _ _ | apply Pick.tail | apply Among.cons)); done),
    rfl, _, ⟨a0, c0, C0, a1, c1, C1, h0, h1, rfl⟩, rfl⟩


theorem xread_1 {U : Chunk} {x room : Nat} {w0 w1 : Wy} (h : IsRef U x room w0 w1) (hall : w1.all.length ≤ 1000000) (most : Int) :
    Meets Tryd.prog 25 [.pointer (some ⟨x, 0, none⟩), .int .i64 1, .int .i64 most] [U]
      fun v A => ∃ O oa oc U', v = .tuple #[.slice oa (w1.q.take most.toNat).length oc, .int .i64 0] ∧ Own8 5 O oa (w1.q.take most.toNat).length oc (w1.q.take most.toNat) ∧ IsRef U' x room w0 (wtake w1 most) ∧ A = [O, U'] := by
  obtain ⟨a0, c0, C0, a1, c1, C1, h0, h1, rfl⟩ := h
  have hw := rread_1 x room (.slice a0 w0.all.length c0) w0.r.length w0.f w0.l.length w1.f a1 c1 w1.r.length w1.l.length w1.all C1 h1 hall (rl_le w1) most (min most.toNat w1.q.length) (by rw [q_len])
  rw [all_sub w1 _ (Nat.min_le_right _ _), take_cap] at hw
  refine Meets.conv [xB x room (.slice a0 w0.all.length c0) w0.r.length w0.f w0.l.length (.slice a1 w1.all.length c1) w1.r.length w1.f w1.l.length, C0, C1] (hw) (by simp only [List.flatten_cons, List.flatten_nil, List.append_assoc, List.append_nil]) (by (repeat (first | with_reducible exact Take.nil _ | with_reducible exact Pick.head _ _ | with_reducible apply Pick.tail | with_reducible apply Take.cons))) ?_; rintro v A ⟨O, oa, oc, rfl, hO, rfl⟩
  rw [show w1.r.length + min most.toNat w1.q.length = (wtake w1 most).r.length from by show _ = (w1.r ++ w1.q.take most.toNat).length; rw [List.length_append, List.length_take]]
  exact ⟨[O, xB x room (.slice a0 w0.all.length c0) w0.r.length w0.f w0.l.length (.slice a1 w1.all.length c1) (wtake w1 most).r.length w1.f w1.l.length ++ (C0 ++ C1)], [O, xB x room (.slice a0 w0.all.length c0) w0.r.length w0.f w0.l.length (.slice a1 w1.all.length c1) (wtake w1 most).r.length w1.f w1.l.length, C0, C1], by simp only [List.flatten_cons, List.flatten_nil, List.append_assoc, List.append_nil], by first | ((repeat (first | with_reducible exact Among.nil _ | with_reducible exact Pick.head _ _ | with_reducible apply Pick.tail | with_reducible apply Among.cons)); done) | ((repeat (first | exact Among.nil _ | exact Pick.head _ _ | apply Pick.tail | apply Among.cons)); done),
    O, oa, oc, _, rfl, hO, ⟨a0, c0, C0, a1, c1, C1, h0, by rw [all_take]; exact h1, by rw [all_take]; rfl⟩, rfl⟩
theorem xwriteshut_1 {U : Chunk} {x room : Nat} {w0 w1 : Wy} (h : IsRef U x room w0 w1) (hf : w1.f = true) (s : Value) :
    Meets Tryd.prog 30 [.pointer (some ⟨x, 0, none⟩), .int .i64 1, s] [U] fun v A => v = .tuple #[.int .i64 0, .int .i64 14] ∧ A = [U] := by
  obtain ⟨a0, c0, C0, a1, c1, C1, h0, h1, rfl⟩ := h
  have hw := rwriteshut_1 x room (.slice a0 w0.all.length c0) w0.r.length w0.f w0.l.length (.slice a1 w1.all.length c1) (by simp [Value.cell1]) w1.r.length w1.l.length s
  rw [← hf] at hw
  refine Meets.conv [xB x room (.slice a0 w0.all.length c0) w0.r.length w0.f w0.l.length (.slice a1 w1.all.length c1) w1.r.length w1.f w1.l.length, C0, C1] (hw) (by simp only [List.flatten_cons, List.flatten_nil, List.append_assoc, List.append_nil]) (by (repeat (first | with_reducible exact Take.nil _ | with_reducible exact Pick.head _ _ | with_reducible apply Pick.tail | with_reducible apply Take.cons))) ?_; rintro v A ⟨rfl, rfl⟩
  exact ⟨[xB x room (.slice a0 w0.all.length c0) w0.r.length w0.f w0.l.length (.slice a1 w1.all.length c1) w1.r.length w1.f w1.l.length ++ (C0 ++ C1)], [xB x room (.slice a0 w0.all.length c0) w0.r.length w0.f w0.l.length (.slice a1 w1.all.length c1) w1.r.length w1.f w1.l.length, C0, C1], by simp only [List.flatten_cons, List.flatten_nil, List.append_assoc, List.append_nil], by first | ((repeat (first | with_reducible exact Among.nil _ | with_reducible exact Pick.head _ _ | with_reducible apply Pick.tail | with_reducible apply Among.cons)); done) | ((repeat (first | exact Among.nil _ | exact Pick.head _ _ | apply Pick.tail | apply Among.cons)); done), rfl, rfl⟩
theorem xwrite_1 {U H : Chunk} {x room : Nat} {w0 w1 : Wy} (h : IsRef U x room w0 w1) (hr2 : room ≤ 4096) (hok : w1.ok room) (hf : w1.f = false) (hall : w1.all.length ≤ 1000000) (ba : Option Addr) (cap : Nat) (bs : List UInt8) (hbc : bs.length ≤ cap) (hbl : bs.length ≤ 1000000) (hr : Rd 1 [H] ba bs.length (bs.map b8)) :
    Meets Tryd.prog 30 [.pointer (some ⟨x, 0, none⟩), .int .i64 1, .slice ba bs.length cap] [U, H]
      fun v A => v = .tuple #[.int .i64 (fits w1 room bs), .int .i64 0] ∧ ∃ U', IsRef U' x room w0 (wput w1 room bs) ∧ A = [U', H] := by
  obtain ⟨a0, c0, C0, a1, c1, C1, h0, h1, rfl⟩ := h
  have hw := rwrite_1 x room (.slice a0 w0.all.length c0) w0.r.length w0.f w0.l.length a1 c1 w1.r.length w1.l.length w1.all C1 H h1 hall (rl_le w1) (by rw [q_len]; exact hok.1) hr2 ba cap bs hbc hbl hr (fits w1 room bs) (by rw [q_len]; rfl)
  rw [← all_put hok hf bs] at hw
  rw [← hf] at hw
  refine Meets.conv [xB x room (.slice a0 w0.all.length c0) w0.r.length w0.f w0.l.length (.slice a1 w1.all.length c1) w1.r.length w1.f w1.l.length, C0, C1, H] (hw) (by simp only [List.flatten_cons, List.flatten_nil, List.append_assoc, List.append_nil]) (by (repeat (first | with_reducible exact Take.nil _ | with_reducible exact Pick.head _ _ | with_reducible apply Pick.tail | with_reducible apply Take.cons))) ?_; rintro v A ⟨rfl, aa, ac, CA, hCA, rfl⟩
  exact ⟨[xB x room (.slice a0 w0.all.length c0) w0.r.length w0.f w0.l.length (.slice aa (wput w1 room bs).all.length ac) w1.r.length w1.f w1.l.length ++ (C0 ++ CA), H], [xB x room (.slice a0 w0.all.length c0) w0.r.length w0.f w0.l.length (.slice aa (wput w1 room bs).all.length ac) w1.r.length w1.f w1.l.length, C0, CA, H], by simp only [List.flatten_cons, List.flatten_nil, List.append_assoc, List.append_nil], by first | ((repeat (first | with_reducible exact Among.nil _ | with_reducible exact Pick.head _ _ | with_reducible apply Pick.tail | with_reducible apply Among.cons)); done) | ((repeat (first | exact Among.nil _ | exact Pick.head _ _ | apply Pick.tail | apply Among.cons)); done),
    rfl, _, ⟨a0, c0, C0, aa, ac, CA, h0, hCA, rfl⟩, rfl⟩
theorem xshut_1 {U : Chunk} {x room : Nat} {w0 w1 : Wy} (h : IsRef U x room w0 w1) :
    Meets Tryd.prog 27 [.pointer (some ⟨x, 0, none⟩), .int .i64 1] [U] fun v A => v = .int .i64 (if w1.f = true then 14 else 0) ∧ ∃ U', IsRef U' x room w0 (wshut w1) ∧ A = [U'] := by
  obtain ⟨a0, c0, C0, a1, c1, C1, h0, h1, rfl⟩ := h
  refine Meets.conv [xB x room (.slice a0 w0.all.length c0) w0.r.length w0.f w0.l.length (.slice a1 w1.all.length c1) w1.r.length w1.f w1.l.length, C0, C1] (rshut_1 x room (.slice a0 w0.all.length c0) w0.r.length w0.f w0.l.length (.slice a1 w1.all.length c1) w1.r.length w1.f w1.l.length) (by simp only [List.flatten_cons, List.flatten_nil, List.append_assoc, List.append_nil]) (by (repeat (first | with_reducible exact Take.nil _ | with_reducible exact Pick.head _ _ | with_reducible apply Pick.tail | with_reducible apply Take.cons))) ?_; rintro v A ⟨rfl, rfl⟩
  exact ⟨[xB x room (.slice a0 w0.all.length c0) w0.r.length w0.f w0.l.length (.slice a1 w1.all.length c1) w1.r.length true w1.l.length ++ (C0 ++ C1)], [xB x room (.slice a0 w0.all.length c0) w0.r.length w0.f w0.l.length (.slice a1 w1.all.length c1) w1.r.length true w1.l.length, C0, C1], by simp only [List.flatten_cons, List.flatten_nil, List.append_assoc, List.append_nil], by first | ((repeat (first | with_reducible exact Among.nil _ | with_reducible exact Pick.head _ _ | with_reducible apply Pick.tail | with_reducible apply Among.cons)); done) | ((repeat (first | exact Among.nil _ | exact Pick.head _ _ | apply Pick.tail | apply Among.cons)); done),
    rfl, _, ⟨a0, c0, C0, a1, c1, C1, h0, h1, rfl⟩, rfl⟩


theorem xcut_spec {U : Chunk} {x room : Nat} {w0 w1 : Wy} (h : IsRef U x room w0 w1) (hs0 : w0.all.length ≤ 1000000) (hs1 : w1.all.length ≤ 1000000) :
    Meets Tryd.prog 28 [.pointer (some ⟨x, 0, none⟩)] [U] fun v A => v = .tuple #[] ∧ ∃ U', IsRef U' x room (wcut w0) (wcut w1) ∧ A = [U'] := by
  obtain ⟨a0, c0, C0, a1, c1, C1, h0, h1, rfl⟩ := h
  have hw := rcut_spec x room a0 a1 w0.all.length c0 w0.r.length w0.l.length w1.all.length c1 w1.r.length w1.l.length w0.f w1.f hs0 hs1 (rl_le w0) (rl_le w1)
  have el : ∀ w : Wy, w.all.length - w.r.length = (wcut w).l.length := fun w => by rw [all_len]; show _ = (w.q ++ w.l).length; rw [List.length_append]; omega
  rw [el, el] at hw
  refine Meets.conv [xB x room (.slice a0 w0.all.length c0) w0.r.length w0.f w0.l.length (.slice a1 w1.all.length c1) w1.r.length w1.f w1.l.length, C0, C1] (hw) (by simp only [List.flatten_cons, List.flatten_nil, List.append_assoc, List.append_nil]) (by (repeat (first | with_reducible exact Take.nil _ | with_reducible exact Pick.head _ _ | with_reducible apply Pick.tail | with_reducible apply Take.cons))) ?_; rintro v A ⟨rfl, rfl⟩
  exact ⟨[xB x room (.slice a0 w0.all.length c0) w0.r.length true (wcut w0).l.length (.slice a1 w1.all.length c1) w1.r.length true (wcut w1).l.length ++ (C0 ++ C1)], [xB x room (.slice a0 w0.all.length c0) w0.r.length true (wcut w0).l.length (.slice a1 w1.all.length c1) w1.r.length true (wcut w1).l.length, C0, C1], by simp only [List.flatten_cons, List.flatten_nil, List.append_assoc, List.append_nil], by first | ((repeat (first | with_reducible exact Among.nil _ | with_reducible exact Pick.head _ _ | with_reducible apply Pick.tail | with_reducible apply Among.cons)); done) | ((repeat (first | exact Among.nil _ | exact Pick.head _ _ | apply Pick.tail | apply Among.cons)); done),
    rfl, _, ⟨a0, c0, C0, a1, c1, C1, by rw [all_cut]; exact h0, by rw [all_cut]; exact h1, by rw [all_cut, all_cut]; rfl⟩, rfl⟩
theorem wait0 (w : Wy) : ((w.all.length : Int) - w.r.length - w.l.length == 0) = decide (w.q = []) := by
  have h := all_len w
  cases hq : w.q with
  | nil =>
    rw [hq, List.length_nil] at h
    rw [show ((w.all.length : Int) - w.r.length - w.l.length) = 0 from by omega]; rfl
  | cons c q =>
    rw [hq, List.length_cons] at h
    rw [beq_eq_false_iff_ne.2 (by omega)]; rfl
theorem xover_spec {U : Chunk} {x room : Nat} {w0 w1 : Wy} (h : IsRef U x room w0 w1) (hs0 : w0.all.length ≤ 1000000) (hs1 : w1.all.length ≤ 1000000) :
    Meets Tryd.prog 38 [.pointer (some ⟨x, 0, none⟩)] [U] fun v A => v = .bool ((w0.f && decide (w0.q = [])) && (w1.f && decide (w1.q = []))) ∧ A = [U] := by
  obtain ⟨a0, c0, C0, a1, c1, C1, h0, h1, rfl⟩ := h
  have hw := rover_spec x room a0 a1 w0.all.length c0 w0.r.length w0.l.length w1.all.length c1 w1.r.length w1.l.length w0.f w1.f hs0 hs1 (rl_le w0) (rl_le w1)
  rw [wait0, wait0, show (w0.f && (w1.f && (decide (w0.q = []) && decide (w1.q = [])))) = ((w0.f && decide (w0.q = [])) && (w1.f && decide (w1.q = []))) from by cases w0.f <;> cases w1.f <;> simp] at hw
  refine Meets.conv [xB x room (.slice a0 w0.all.length c0) w0.r.length w0.f w0.l.length (.slice a1 w1.all.length c1) w1.r.length w1.f w1.l.length, C0, C1] (hw) (by simp only [List.flatten_cons, List.flatten_nil, List.append_assoc, List.append_nil]) (by (repeat (first | with_reducible exact Take.nil _ | with_reducible exact Pick.head _ _ | with_reducible apply Pick.tail | with_reducible apply Take.cons))) ?_; rintro v A ⟨rfl, rfl⟩
  exact ⟨[xB x room (.slice a0 w0.all.length c0) w0.r.length w0.f w0.l.length (.slice a1 w1.all.length c1) w1.r.length w1.f w1.l.length ++ (C0 ++ C1)], [xB x room (.slice a0 w0.all.length c0) w0.r.length w0.f w0.l.length (.slice a1 w1.all.length c1) w1.r.length w1.f w1.l.length, C0, C1], by simp only [List.flatten_cons, List.flatten_nil, List.append_assoc, List.append_nil], by first | ((repeat (first | with_reducible exact Among.nil _ | with_reducible exact Pick.head _ _ | with_reducible apply Pick.tail | with_reducible apply Among.cons)); done) | ((repeat (first | exact Among.nil _ | exact Pick.head _ _ | apply Pick.tail | apply Among.cons)); done), rfl, rfl⟩

/-! ### The document's -/

theorem xR {xv : Value} {U : Chunk} {s : PS} (h : XHalf xv U s) (hs : PSmall 1000000 s) (i most : Int) :
    Meets Tryd.prog 25 [xv, .int .i64 i, .int .i64 most] [U]
      fun v A => ∃ O oa oc U', v = .tuple #[.slice oa (sread s i most).1.1.length oc, .int .i64 (sread s i most).1.2] ∧ Own8 5 O oa (sread s i most).1.1.length oc (sread s i most).1.1 ∧ XHalf xv U' (sread s i most).2 ∧ A = [O, U'] := by
  rcases s with _ | ⟨room, w0, w1⟩
  · obtain ⟨rfl, rfl⟩ := h
    refine Meets.conv [] (rread_nil i most) rfl (.nil _) ?_
    rintro v A ⟨rfl, rfl⟩
    exact ⟨[[], []], [], rfl, .nil _, [], none, 0, [], rfl, own_nil, ⟨rfl, rfl⟩, rfl⟩
  · obtain ⟨x, rfl, hU⟩ := h
    obtain ⟨h1, h2, h3, h4, h5, h6⟩ := hs
    by_cases i0 : i = 0
    · subst i0
      refine (xread_0 hU h5 most).mono ?_
      rintro v A ⟨O, oa, oc, U', rfl, hO, hU', rfl⟩
      exact ⟨O, oa, oc, U', rfl, hO, ⟨x, rfl, hU'⟩, rfl⟩
    · by_cases i1 : i = 1
      · subst i1
        refine (xread_1 hU h6 most).mono ?_
        rintro v A ⟨O, oa, oc, U', rfl, hO, hU', rfl⟩
        exact ⟨O, oa, oc, U', rfl, hO, ⟨x, rfl, hU'⟩, rfl⟩
      · rw [show sread (some (room, w0, w1)) i most = (([], 1), some (room, w0, w1)) from by unfold sread; simp only; rw [if_neg i0, if_neg i1]]
        refine Meets.conv [U] (rread_odd x i most i0 i1) rfl (.nil _) ?_
        rintro v A ⟨rfl, rfl⟩
        exact ⟨[[], U], [U], by simp, by first | ((repeat (first | with_reducible exact Among.nil _ | with_reducible exact Pick.head _ _ | with_reducible apply Pick.tail | with_reducible apply Among.cons)); done) | ((repeat (first | exact Among.nil _ | exact Pick.head _ _ | apply Pick.tail | apply Among.cons)); done), [], none, 0, U, rfl, own_nil, ⟨x, rfl, hU⟩, rfl⟩
theorem xW {H : Chunk} {xv : Value} {U : Chunk} {s : PS} (h : XHalf xv U s) (hs : PSmall 900000 s) (i : Int) (ba : Option Addr) (cap : Nat) (bs : List UInt8) (hbc : bs.length ≤ cap) (hbl : bs.length ≤ 300) (hr : Rd 1 [H] ba bs.length (bs.map b8)) :
    Meets Tryd.prog 30 [xv, .int .i64 i, .slice ba bs.length cap] [U, H]
      fun v A => ∃ U', v = .tuple #[.int .i64 (swrite s i bs).1.1, .int .i64 (swrite s i bs).1.2] ∧ XHalf xv U' (swrite s i bs).2 ∧ A = [U', H] := by
  rcases s with _ | ⟨room, w0, w1⟩
  · obtain ⟨rfl, rfl⟩ := h
    refine Meets.conv [H] (rwrite_nil i _) rfl (.nil _) ?_
    rintro v A ⟨rfl, rfl⟩
    exact ⟨[[], H], [H], rfl, by first | ((repeat (first | with_reducible exact Among.nil _ | with_reducible exact Pick.head _ _ | with_reducible apply Pick.tail | with_reducible apply Among.cons)); done) | ((repeat (first | exact Among.nil _ | exact Pick.head _ _ | apply Pick.tail | apply Among.cons)); done), [], rfl, ⟨rfl, rfl⟩, rfl⟩
  · obtain ⟨x, rfl, hU⟩ := h
    obtain ⟨h1, h2, h3, h4, h5, h6⟩ := hs
    have same : ∀ (p : Int × Int) (hm : Meets Tryd.prog 30 [.pointer (some ⟨x, 0, none⟩), .int .i64 i, .slice ba bs.length cap] [U] fun v A => v = .tuple #[.int .i64 p.1, .int .i64 p.2] ∧ A = [U]) (e : swrite (some (room, w0, w1)) i bs = (p, some (room, w0, w1))), Meets Tryd.prog 30 [.pointer (some ⟨x, 0, none⟩), .int .i64 i, .slice ba bs.length cap] [U, H]
        fun v A => ∃ U', v = .tuple #[.int .i64 (swrite (some (room, w0, w1)) i bs).1.1, .int .i64 (swrite (some (room, w0, w1)) i bs).1.2] ∧ XHalf (.pointer (some ⟨x, 0, none⟩)) U' (swrite (some (room, w0, w1)) i bs).2 ∧ A = [U', H] := by
      intro p hm e
      rw [e]
      refine Meets.conv [U, H] hm rfl (by (repeat (first | with_reducible exact Take.nil _ | with_reducible exact Pick.head _ _ | with_reducible apply Pick.tail | with_reducible apply Take.cons))) ?_
      rintro v A ⟨rfl, rfl⟩
      exact ⟨[U, H], [U, H], by simp, by first | ((repeat (first | with_reducible exact Among.nil _ | with_reducible exact Pick.head _ _ | with_reducible apply Pick.tail | with_reducible apply Among.cons)); done) | ((repeat (first | exact Among.nil _ | exact Pick.head _ _ | apply Pick.tail | apply Among.cons)); done), U, rfl, ⟨x, rfl, hU⟩, rfl⟩
    by_cases i0 : i = 0
    · subst i0
      cases hf : w0.f with
      | true => exact same (0, 14) (xwriteshut_0 hU hf _) (by simp [swrite, hf])
      | false =>
        rw [show swrite (some (room, w0, w1)) 0 bs = (((fits w0 room bs : Int), 0), some (room, wput w0 room bs, w1)) from by simp [swrite, hf]]
        refine (xwrite_0 hU h2 h3 hf (by omega) ba cap bs hbc (by omega) hr).mono ?_
        rintro v A ⟨rfl, U', hU', rfl⟩
        exact ⟨U', rfl, ⟨x, rfl, hU'⟩, rfl⟩
    · by_cases i1 : i = 1
      · subst i1
        cases hf : w1.f with
        | true => exact same (0, 14) (xwriteshut_1 hU hf _) (by simp [swrite, hf])
        | false =>
          rw [show swrite (some (room, w0, w1)) 1 bs = (((fits w1 room bs : Int), 0), some (room, w0, wput w1 room bs)) from by simp [swrite, hf]]
          refine (xwrite_1 hU h2 h4 hf (by omega) ba cap bs hbc (by omega) hr).mono ?_
          rintro v A ⟨rfl, U', hU', rfl⟩
          exact ⟨U', rfl, ⟨x, rfl, hU'⟩, rfl⟩
      · refine same (0, 1) ?_ (by unfold swrite; simp only; rw [if_neg i0, if_neg i1])
        refine Meets.conv [U] (rwrite_odd x i _ i0 i1) rfl (.nil _) ?_
        rintro v A ⟨rfl, rfl⟩
        exact ⟨[U], [U], by simp, by first | ((repeat (first | with_reducible exact Among.nil _ | with_reducible exact Pick.head _ _ | with_reducible apply Pick.tail | with_reducible apply Among.cons)); done) | ((repeat (first | exact Among.nil _ | exact Pick.head _ _ | apply Pick.tail | apply Among.cons)); done), rfl, rfl⟩
theorem xS {xv : Value} {U : Chunk} {s : PS} (h : XHalf xv U s) (i : Int) :
    Meets Tryd.prog 27 [xv, .int .i64 i] [U] fun v A => ∃ U', v = .int .i64 (sshut s i).1 ∧ XHalf xv U' (sshut s i).2 ∧ A = [U'] := by
  rcases s with _ | ⟨room, w0, w1⟩
  · obtain ⟨rfl, rfl⟩ := h
    refine Meets.conv [] (rshut_nil i) rfl (.nil _) ?_
    rintro v A ⟨rfl, rfl⟩
    exact ⟨[[]], [], rfl, .nil _, [], rfl, ⟨rfl, rfl⟩, rfl⟩
  · obtain ⟨x, rfl, hU⟩ := h
    by_cases i0 : i = 0
    · subst i0
      refine (xshut_0 hU).mono ?_
      rintro v A ⟨rfl, U', hU', rfl⟩
      exact ⟨U', rfl, ⟨x, rfl, hU'⟩, rfl⟩
    · by_cases i1 : i = 1
      · subst i1
        refine (xshut_1 hU).mono ?_
        rintro v A ⟨rfl, U', hU', rfl⟩
        exact ⟨U', rfl, ⟨x, rfl, hU'⟩, rfl⟩
      · rw [show sshut (some (room, w0, w1)) i = (1, some (room, w0, w1)) from by unfold sshut; simp only; rw [if_neg i0, if_neg i1]]
        refine Meets.conv [U] (rshut_odd x i i0 i1) rfl (.nil _) ?_
        rintro v A ⟨rfl, rfl⟩
        exact ⟨[U], [U], by simp, by first | ((repeat (first | with_reducible exact Among.nil _ | with_reducible exact Pick.head _ _ | with_reducible apply Pick.tail | with_reducible apply Among.cons)); done) | ((repeat (first | exact Among.nil _ | exact Pick.head _ _ | apply Pick.tail | apply Among.cons)); done), U, rfl, ⟨x, rfl, hU⟩, rfl⟩
theorem xC {xv : Value} {U : Chunk} {s : PS} (h : XHalf xv U s) (hs : PSmall 1000000 s) : Meets Tryd.prog 28 [xv] [U] fun v A => ∃ U', v = .tuple #[] ∧ XHalf xv U' (scut s) ∧ A = [U'] := by
  rcases s with _ | ⟨room, w0, w1⟩
  · obtain ⟨rfl, rfl⟩ := h
    refine Meets.conv [] rcut_nil rfl (.nil _) ?_
    rintro v A ⟨rfl, rfl⟩
    exact ⟨[[]], [], rfl, .nil _, [], rfl, ⟨rfl, rfl⟩, rfl⟩
  · obtain ⟨x, rfl, hU⟩ := h
    obtain ⟨h1, h2, h3, h4, h5, h6⟩ := hs
    refine (xcut_spec hU h5 h6).mono ?_
    rintro v A ⟨rfl, U', hU', rfl⟩
    exact ⟨U', rfl, ⟨x, rfl, hU'⟩, rfl⟩

end Go.Proofs.YtlcbaijjjphmjaaDoor
