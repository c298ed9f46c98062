/- Texts in a row: the walk's rules and contracts, as each says. Conditions: as each says. -/
import Derived.Test.YtlcbaijjjphmjaaDoorM2d272a24
import Derived.Test.YtlcbaijjjphmjaaDoorMa288b973
/- A pipe: a way of it; how much room; shut, over. Conditions: as each says. -/
set_option linter.unusedSimpArgs false
set_option linter.unusedVariables false
namespace Go.Proofs.YtlcbaijjjphmjaaDoor
open Go Go.Ost Go.Pip

abbrev pB (b : Nat) (s0 : Value) (a0 n0 : Int) (f0 : Bool) (w0 : Int) (h0 : Nat) (s1 : Value) (a1 n1 : Int) (f1 : Bool) (w1 : Int) (h1 : Nat) : Chunk :=
  [(b, .cells #[s0, .int .i64 a0, .int .i64 n0, .bool f0, .int .u64 w0, .pointer (some ⟨h0, 0, none⟩), s1, .int .i64 a1, .int .i64 n1, .bool f1, .int .u64 w1, .pointer (some ⟨h1, 0, none⟩)] 62 (0, 0))]

theorem way_nil (i : Int) : Meets Tryd.prog 21 [.pointer none, .int .i64 i] [] fun v A => v = .tuple #[.pointer none, .int .i64 6] ∧ A = [] := by
  refine spec_intro Tryd.func21 rfl (by kernel_rfl) (by rw [Tryd.ntmps21]; simp) fun F => ?_; rw [Tryd.ntmps21, Tryd.results21]
  (repeat (first | (with_reducible refine then_n ?_) | (with_reducible refine then_r ?_) | (with_reducible refine then_e ?_) | (with_reducible refine block_n ?_) | (with_reducible refine block_r ?_) | (with_reducible refine block_e ?_) | refine block_o ?_ | (with_reducible refine scope_n ?_) | (with_reducible refine scope_r ?_) | (with_reducible refine scope_e ?_) | (with_reducible refine code_seq ?_) | (with_reducible refine code_skip ?_) | (with_reducible refine code_label ?_) | (with_reducible refine code_block ?_) | (with_reducible refine code_scope ?_) | (with_reducible refine code_exit ?_) | (with_reducible refine code_ret ?_) | refine regq_to ?_ | (with_reducible refine run_nil ?_) | ((with_reducible refine run_probe ?_); refine runq_more ?_) | (with_reducible refine draw_nil ?_) | ((with_reducible refine draw_probe ?_); (first | refine drawq_more ?_ | refine drawq_as ?_)) | refine code_then ?_ | refine code_else ?_))
  exact back_cells (vs := [.pointer none, .int .i64 6]) [] ⟨rfl, rfl⟩
theorem way_odd (b : Nat) (i : Int) (h0 : i ≠ 0) (h1 : i ≠ 1) : Meets Tryd.prog 21 [.pointer (some ⟨b, 0, none⟩), .int .i64 i] [] fun v A => v = .tuple #[.pointer none, .int .i64 1] ∧ A = [] := by
  refine spec_intro Tryd.func21 rfl (by kernel_rfl) (by rw [Tryd.ntmps21]; simp) fun F => ?_; rw [Tryd.ntmps21, Tryd.results21]
  (repeat (first | (with_reducible refine then_n ?_) | (with_reducible refine then_r ?_) | (with_reducible refine then_e ?_) | (with_reducible refine block_n ?_) | (with_reducible refine block_r ?_) | (with_reducible refine block_e ?_) | refine block_o ?_ | (with_reducible refine scope_n ?_) | (with_reducible refine scope_r ?_) | (with_reducible refine scope_e ?_) | (with_reducible refine code_seq ?_) | (with_reducible refine code_skip ?_) | (with_reducible refine code_label ?_) | (with_reducible refine code_block ?_) | (with_reducible refine code_scope ?_) | (with_reducible refine code_exit ?_) | (with_reducible refine code_ret ?_) | refine regq_to ?_ | (with_reducible refine run_nil ?_) | ((with_reducible refine run_probe ?_); refine runq_more ?_) | (with_reducible refine draw_nil ?_) | ((with_reducible refine draw_probe ?_); (first | refine drawq_more ?_ | refine drawq_as ?_)) | refine code_then ?_ | refine code_else ?_))
  rw [bne_iff_ne.2 h0]
  (repeat (first | (with_reducible refine then_n ?_) | (with_reducible refine then_r ?_) | (with_reducible refine then_e ?_) | (with_reducible refine block_n ?_) | (with_reducible refine block_r ?_) | (with_reducible refine block_e ?_) | refine block_o ?_ | (with_reducible refine scope_n ?_) | (with_reducible refine scope_r ?_) | (with_reducible refine scope_e ?_) | (with_reducible refine code_seq ?_) | (with_reducible refine code_skip ?_) | (with_reducible refine code_label ?_) | (with_reducible refine code_block ?_) | (with_reducible refine code_scope ?_) | (with_reducible refine code_exit ?_) | (with_reducible refine code_ret ?_) | refine regq_to ?_ | (with_reducible refine run_nil ?_) | ((with_reducible refine run_probe ?_); refine runq_more ?_) | (with_reducible refine draw_nil ?_) | ((with_reducible refine draw_probe ?_); (first | refine drawq_more ?_ | refine drawq_as ?_)) | refine code_then ?_ | refine code_else ?_))
  rw [bne_iff_ne.2 h1]
  (repeat (first | (with_reducible refine then_n ?_) | (with_reducible refine then_r ?_) | (with_reducible refine then_e ?_) | (with_reducible refine block_n ?_) | (with_reducible refine block_r ?_) | (with_reducible refine block_e ?_) | refine block_o ?_ | (with_reducible refine scope_n ?_) | (with_reducible refine scope_r ?_) | (with_reducible refine scope_e ?_) | (with_reducible refine code_seq ?_) | (with_reducible refine code_skip ?_) | (with_reducible refine code_label ?_) | (with_reducible refine code_block ?_) | (with_reducible refine code_scope ?_) | (with_reducible refine code_exit ?_) | (with_reducible refine code_ret ?_) | refine regq_to ?_ | (with_reducible refine run_nil ?_) | ((with_reducible refine run_probe ?_); refine runq_more ?_) | (with_reducible refine draw_nil ?_) | ((with_reducible refine draw_probe ?_); (first | refine drawq_more ?_ | refine drawq_as ?_)) | refine code_then ?_ | refine code_else ?_))
  exact back_cells (vs := [.pointer none, .int .i64 1]) [] ⟨rfl, rfl⟩

theorem way_0 (b : Nat) : Meets Tryd.prog 21 [.pointer (some ⟨b, 0, none⟩), .int .i64 0] [] fun v A => v = .tuple #[.pointer (some ⟨b, 0, none⟩), .int .i64 0] ∧ A = [] := by
  refine spec_intro Tryd.func21 rfl (by kernel_rfl) (by rw [Tryd.ntmps21]; simp) fun F => ?_; rw [Tryd.ntmps21, Tryd.results21]
  (repeat (first | (with_reducible refine then_n ?_) | (with_reducible refine then_r ?_) | (with_reducible refine then_e ?_) | (with_reducible refine block_n ?_) | (with_reducible refine block_r ?_) | (with_reducible refine block_e ?_) | refine block_o ?_ | (with_reducible refine scope_n ?_) | (with_reducible refine scope_r ?_) | (with_reducible refine scope_e ?_) | (with_reducible refine code_seq ?_) | (with_reducible refine code_skip ?_) | (with_reducible refine code_label ?_) | (with_reducible refine code_block ?_) | (with_reducible refine code_scope ?_) | (with_reducible refine code_exit ?_) | (with_reducible refine code_ret ?_) | refine regq_to ?_ | (with_reducible refine run_nil ?_) | ((with_reducible refine run_probe ?_); refine runq_more ?_) | (with_reducible refine draw_nil ?_) | ((with_reducible refine draw_probe ?_); (first | refine drawq_more ?_ | refine drawq_as ?_)) | refine code_then ?_ | refine code_else ?_))
  exact back_cells (vs := [.pointer (some ⟨b, 0, none⟩), .int .i64 0]) [] ⟨rfl, rfl⟩
theorem shut_0 (b : Nat) (s0 : Value) (a0 n0 : Int) (f0 : Bool) (w0 : Int) (h0 : Nat) (s1 : Value) (a1 n1 : Int) (f1 : Bool) (w1 : Int) (h1 : Nat) : Meets Tryd.prog 10 [.pointer (some ⟨b, 0, none⟩), .int .i64 0] [pB b s0 a0 n0 f0 w0 h0 s1 a1 n1 f1 w1 h1]
    fun v A => v = .int .i64 (if f0 = true then 14 else 0) ∧ A = [pB b s0 a0 n0 true w0 h0 s1 a1 n1 f1 w1 h1] := by
  refine spec_intro Tryd.func10 rfl (by kernel_rfl) (by rw [Tryd.ntmps10]; simp) fun F => ?_; rw [Tryd.ntmps10, Tryd.results10]
  (repeat (first | (with_reducible refine then_n ?_) | (with_reducible refine then_r ?_) | (with_reducible refine then_e ?_) | (with_reducible refine block_n ?_) | (with_reducible refine block_r ?_) | (with_reducible refine block_e ?_) | refine block_o ?_ | (with_reducible refine scope_n ?_) | (with_reducible refine scope_r ?_) | (with_reducible refine scope_e ?_) | (with_reducible refine code_seq ?_) | (with_reducible refine code_skip ?_) | (with_reducible refine code_label ?_) | (with_reducible refine code_block ?_) | (with_reducible refine code_scope ?_) | (with_reducible refine code_exit ?_) | (with_reducible refine code_ret ?_) | refine regq_to ?_ | (with_reducible refine run_nil ?_) | ((with_reducible refine run_probe ?_); refine runq_more ?_) | (with_reducible refine draw_nil ?_) | ((with_reducible refine draw_probe ?_); (first | refine drawq_more ?_ | refine drawq_as ?_)) | refine code_then ?_ | refine code_else ?_))
  refine run_op fun K hK => ?_; refine calls_to (way_0 b) ?_; rintro v A ⟨rfl, rfl⟩; (try simp only [List.nil_append, List.cons_append]); refine hK _ _ ?_; clear hK K; (repeat (first | (with_reducible refine then_n ?_) | (with_reducible refine then_r ?_) | (with_reducible refine then_e ?_) | (with_reducible refine block_n ?_) | (with_reducible refine block_r ?_) | (with_reducible refine block_e ?_) | refine block_o ?_ | (with_reducible refine scope_n ?_) | (with_reducible refine scope_r ?_) | (with_reducible refine scope_e ?_) | (with_reducible refine code_seq ?_) | (with_reducible refine code_skip ?_) | (with_reducible refine code_label ?_) | (with_reducible refine code_block ?_) | (with_reducible refine code_scope ?_) | (with_reducible refine code_exit ?_) | (with_reducible refine code_ret ?_) | refine regq_to ?_ | (with_reducible refine run_nil ?_) | ((with_reducible refine run_probe ?_); refine runq_more ?_) | (with_reducible refine draw_nil ?_) | ((with_reducible refine draw_probe ?_); (first | refine drawq_more ?_ | refine drawq_as ?_)) | refine code_then ?_ | refine code_else ?_))
  cases f0 with
  | true =>
    (repeat (first | (with_reducible refine then_n ?_) | (with_reducible refine then_r ?_) | (with_reducible refine then_e ?_) | (with_reducible refine block_n ?_) | (with_reducible refine block_r ?_) | (with_reducible refine block_e ?_) | refine block_o ?_ | (with_reducible refine scope_n ?_) | (with_reducible refine scope_r ?_) | (with_reducible refine scope_e ?_) | (with_reducible refine code_seq ?_) | (with_reducible refine code_skip ?_) | (with_reducible refine code_label ?_) | (with_reducible refine code_block ?_) | (with_reducible refine code_scope ?_) | (with_reducible refine code_exit ?_) | (with_reducible refine code_ret ?_) | refine regq_to ?_ | (with_reducible refine run_nil ?_) | ((with_reducible refine run_probe ?_); refine runq_more ?_) | (with_reducible refine draw_nil ?_) | ((with_reducible refine draw_probe ?_); (first | refine drawq_more ?_ | refine drawq_as ?_)) | refine code_then ?_ | refine code_else ?_))
    refine back_tmp [pB b s0 a0 n0 true w0 h0 s1 a1 n1 f1 w1 h1] ?_; exact ⟨rfl, rfl⟩
  | false =>
    (repeat (first | (with_reducible refine then_n ?_) | (with_reducible refine then_r ?_) | (with_reducible refine then_e ?_) | (with_reducible refine block_n ?_) | (with_reducible refine block_r ?_) | (with_reducible refine block_e ?_) | refine block_o ?_ | (with_reducible refine scope_n ?_) | (with_reducible refine scope_r ?_) | (with_reducible refine scope_e ?_) | (with_reducible refine code_seq ?_) | (with_reducible refine code_skip ?_) | (with_reducible refine code_label ?_) | (with_reducible refine code_block ?_) | (with_reducible refine code_scope ?_) | (with_reducible refine code_exit ?_) | (with_reducible refine code_ret ?_) | refine regq_to ?_ | (with_reducible refine run_nil ?_) | ((with_reducible refine run_probe ?_); refine runq_more ?_) | (with_reducible refine draw_nil ?_) | ((with_reducible refine draw_probe ?_); (first | refine drawq_more ?_ | refine drawq_as ?_)) | refine code_then ?_ | refine code_else ?_))
    refine back_tmp [pB b s0 a0 n0 true w0 h0 s1 a1 n1 f1 w1 h1] ?_; exact ⟨rfl, rfl⟩
theorem room_0 (b : Nat) (pa : Option Addr) (room : Nat) (hr : room ≤ 1000000) (a0 : Int) (q0 : List UInt8) (hq : q0.length ≤ room) (f0 : Bool) (w0 : Int) (h0 : Nat) (s1 : Value) (a1 n1 : Int) (f1 : Bool) (w1 : Int) (h1 : Nat) :
    Meets Tryd.prog 12 [.pointer (some ⟨b, 0, none⟩), .int .i64 0] [pB b (.slice pa room room) a0 q0.length f0 w0 h0 s1 a1 n1 f1 w1 h1]
    fun v A => v = .int .i64 (if f0 = true then 0 else room - q0.length) ∧ A = [pB b (.slice pa room room) a0 q0.length f0 w0 h0 s1 a1 n1 f1 w1 h1] := by
  refine spec_intro Tryd.func12 rfl (by kernel_rfl) (by rw [Tryd.ntmps12]; simp) fun F => ?_; rw [Tryd.ntmps12, Tryd.results12]
  (repeat (first | (with_reducible refine then_n ?_) | (with_reducible refine then_r ?_) | (with_reducible refine then_e ?_) | (with_reducible refine block_n ?_) | (with_reducible refine block_r ?_) | (with_reducible refine block_e ?_) | refine block_o ?_ | (with_reducible refine scope_n ?_) | (with_reducible refine scope_r ?_) | (with_reducible refine scope_e ?_) | (with_reducible refine code_seq ?_) | (with_reducible refine code_skip ?_) | (with_reducible refine code_label ?_) | (with_reducible refine code_block ?_) | (with_reducible refine code_scope ?_) | (with_reducible refine code_exit ?_) | (with_reducible refine code_ret ?_) | refine regq_to ?_ | (with_reducible refine run_nil ?_) | ((with_reducible refine run_probe ?_); refine runq_more ?_) | (with_reducible refine draw_nil ?_) | ((with_reducible refine draw_probe ?_); (first | refine drawq_more ?_ | refine drawq_as ?_)) | refine code_then ?_ | refine code_else ?_))
  refine run_op fun K hK => ?_; refine calls_to (way_0 b) ?_; rintro v A ⟨rfl, rfl⟩; (try simp only [List.nil_append, List.cons_append]); refine hK _ _ ?_; clear hK K; (repeat (first | (with_reducible refine then_n ?_) | (with_reducible refine then_r ?_) | (with_reducible refine then_e ?_) | (with_reducible refine block_n ?_) | (with_reducible refine block_r ?_) | (with_reducible refine block_e ?_) | refine block_o ?_ | (with_reducible refine scope_n ?_) | (with_reducible refine scope_r ?_) | (with_reducible refine scope_e ?_) | (with_reducible refine code_seq ?_) | (with_reducible refine code_skip ?_) | (with_reducible refine code_label ?_) | (with_reducible refine code_block ?_) | (with_reducible refine code_scope ?_) | (with_reducible refine code_exit ?_) | (with_reducible refine code_ret ?_) | refine regq_to ?_ | (with_reducible refine run_nil ?_) | ((with_reducible refine run_probe ?_); refine runq_more ?_) | (with_reducible refine draw_nil ?_) | ((with_reducible refine draw_probe ?_); (first | refine drawq_more ?_ | refine drawq_as ?_)) | refine code_then ?_ | refine code_else ?_))
  cases f0 with
  | true =>
    (repeat (first | (with_reducible refine then_n ?_) | (with_reducible refine then_r ?_) | (with_reducible refine then_e ?_) | (with_reducible refine block_n ?_) | (with_reducible refine block_r ?_) | (with_reducible refine block_e ?_) | refine block_o ?_ | (with_reducible refine scope_n ?_) | (with_reducible refine scope_r ?_) | (with_reducible refine scope_e ?_) | (with_reducible refine code_seq ?_) | (with_reducible refine code_skip ?_) | (with_reducible refine code_label ?_) | (with_reducible refine code_block ?_) | (with_reducible refine code_scope ?_) | (with_reducible refine code_exit ?_) | (with_reducible refine code_ret ?_) | refine regq_to ?_ | (with_reducible refine run_nil ?_) | ((with_reducible refine run_probe ?_); refine runq_more ?_) | (with_reducible refine draw_nil ?_) | ((with_reducible refine draw_probe ?_); (first | refine drawq_more ?_ | refine drawq_as ?_)) | refine code_then ?_ | refine code_else ?_))
    refine back_tmp [pB b (.slice pa room room) a0 q0.length true w0 h0 s1 a1 n1 f1 w1 h1] ?_; exact ⟨rfl, rfl⟩
  | false =>
    (repeat (first | (with_reducible refine then_n ?_) | (with_reducible refine then_r ?_) | (with_reducible refine then_e ?_) | (with_reducible refine block_n ?_) | (with_reducible refine block_r ?_) | (with_reducible refine block_e ?_) | refine block_o ?_ | (with_reducible refine scope_n ?_) | (with_reducible refine scope_r ?_) | (with_reducible refine scope_e ?_) | (with_reducible refine code_seq ?_) | (with_reducible refine code_skip ?_) | (with_reducible refine code_label ?_) | (with_reducible refine code_block ?_) | (with_reducible refine code_scope ?_) | (with_reducible refine code_exit ?_) | (with_reducible refine code_ret ?_) | refine regq_to ?_ | (with_reducible refine run_nil ?_) | ((with_reducible refine run_probe ?_); refine runq_more ?_) | (with_reducible refine draw_nil ?_) | ((with_reducible refine draw_probe ?_); (first | refine drawq_more ?_ | refine drawq_as ?_)) | refine code_then ?_ | refine code_else ?_))
    refine code_dr [[], [0], [0, 1], [0, 1, 2], [0, 1, 2, 3], [], [5], [5, 6], [5, 6, 7], [0, 1, 2, 3, 4, 5, 6, 7, 8], [0, 1, 2, 3, 4, 5, 6, 7, 8, 9]] [(0, false, []), (1, false, []), (2, false, []), (3, false, []), (4, false, []), (5, false, []), (6, false, []), (7, false, []), (8, false, []), (9, false, []), (10, true, [])] ?_
    (repeat (first | (with_reducible refine then_n ?_) | (with_reducible refine then_r ?_) | (with_reducible refine then_e ?_) | (with_reducible refine block_n ?_) | (with_reducible refine block_r ?_) | (with_reducible refine block_e ?_) | refine block_o ?_ | (with_reducible refine scope_n ?_) | (with_reducible refine scope_r ?_) | (with_reducible refine scope_e ?_) | (with_reducible refine code_seq ?_) | (with_reducible refine code_skip ?_) | (with_reducible refine code_label ?_) | (with_reducible refine code_block ?_) | (with_reducible refine code_scope ?_) | (with_reducible refine code_exit ?_) | (with_reducible refine code_ret ?_) | refine regq_to ?_ | (with_reducible refine run_nil ?_) | ((with_reducible refine run_probe ?_); refine runq_more ?_) | (with_reducible refine draw_nil ?_) | ((with_reducible refine draw_probe ?_); (first | refine drawq_more ?_ | refine drawq_as ?_)) | refine code_then ?_ | refine code_else ?_))
    refine back_tmp [pB b (.slice pa room room) a0 q0.length false w0 h0 s1 a1 n1 f1 w1 h1] ?_; exact ⟨rfl, rfl⟩

theorem way_1 (b : Nat) : Meets Tryd.prog 21 [.pointer (some ⟨b, 0, none⟩), .int .i64 1] [] fun v A => v = .tuple #[.pointer (some ⟨b, 6, none⟩), .int .i64 0] ∧ A = [] := by
  refine spec_intro Tryd.func21 rfl (by kernel_rfl) (by rw [Tryd.ntmps21]; simp) fun F => ?_; rw [Tryd.ntmps21, Tryd.results21]
  (repeat (first | (with_reducible refine then_n ?_) | (with_reducible refine then_r ?_) | (with_reducible refine then_e ?_) | (with_reducible refine block_n ?_) | (with_reducible refine block_r ?_) | (with_reducible refine block_e ?_) | refine block_o ?_ | (with_reducible refine scope_n ?_) | (with_reducible refine scope_r ?_) | (with_reducible refine scope_e ?_) | (with_reducible refine code_seq ?_) | (with_reducible refine code_skip ?_) | (with_reducible refine code_label ?_) | (with_reducible refine code_block ?_) | (with_reducible refine code_scope ?_) | (with_reducible refine code_exit ?_) | (with_reducible refine code_ret ?_) | refine regq_to ?_ | (with_reducible refine run_nil ?_) | ((with_reducible refine run_probe ?_); refine runq_more ?_) | (with_reducible refine draw_nil ?_) | ((with_reducible refine draw_probe ?_); (first | refine drawq_more ?_ | refine drawq_as ?_)) | refine code_then ?_ | refine code_else ?_))
  exact back_cells (vs := [.pointer (some ⟨b, 6, none⟩), .int .i64 0]) [] ⟨rfl, rfl⟩
theorem shut_1 (b : Nat) (s0 : Value) (a0 n0 : Int) (f0 : Bool) (w0 : Int) (h0 : Nat) (s1 : Value) (a1 n1 : Int) (f1 : Bool) (w1 : Int) (h1 : Nat) : Meets Tryd.prog 10 [.pointer (some ⟨b, 0, none⟩), .int .i64 1] [pB b s0 a0 n0 f0 w0 h0 s1 a1 n1 f1 w1 h1]
    fun v A => v = .int .i64 (if f1 = true then 14 else 0) ∧ A = [pB b s0 a0 n0 f0 w0 h0 s1 a1 n1 true w1 h1] := by
  refine spec_intro Tryd.func10 rfl (by kernel_rfl) (by rw [Tryd.ntmps10]; simp) fun F => ?_; rw [Tryd.ntmps10, Tryd.results10]
  (repeat (first | (with_reducible refine then_n ?_) | (with_reducible refine then_r ?_) | (with_reducible refine then_e ?_) | (with_reducible refine block_n ?_) | (with_reducible refine block_r ?_) | (with_reducible refine block_e ?_) | refine block_o ?_ | (with_reducible refine scope_n ?_) | (with_reducible refine scope_r ?_) | (with_reducible refine scope_e ?_) | (with_reducible refine code_seq ?_) | (with_reducible refine code_skip ?_) | (with_reducible refine code_label ?_) | (with_reducible refine code_block ?_) | (with_reducible refine code_scope ?_) | (with_reducible refine code_exit ?_) | (with_reducible refine code_ret ?_) | refine regq_to ?_ | (with_reducible refine run_nil ?_) | ((with_reducible refine run_probe ?_); refine runq_more ?_) | (with_reducible refine draw_nil ?_) | ((with_reducible refine draw_probe ?_); (first | refine drawq_more ?_ | refine drawq_as ?_)) | refine code_then ?_ | refine code_else ?_))
  refine run_op fun K hK => ?_; refine calls_to (way_1 b) ?_; rintro v A ⟨rfl, rfl⟩; (try simp only [List.nil_append, List.cons_append]); refine hK _ _ ?_; clear hK K; (repeat (first | (with_reducible refine then_n ?_) | (with_reducible refine then_r ?_) | (with_reducible refine then_e ?_) | (with_reducible refine block_n ?_) | (with_reducible refine block_r ?_) | (with_reducible refine block_e ?_) | refine block_o ?_ | (with_reducible refine scope_n ?_) | (with_reducible refine scope_r ?_) | (with_reducible refine scope_e ?_) | (with_reducible refine code_seq ?_) | (with_reducible refine code_skip ?_) | (with_reducible refine code_label ?_) | (with_reducible refine code_block ?_) | (with_reducible refine code_scope ?_) | (with_reducible refine code_exit ?_) | (with_reducible refine code_ret ?_) | refine regq_to ?_ | (with_reducible refine run_nil ?_) | ((with_reducible refine run_probe ?_); refine runq_more ?_) | (with_reducible refine draw_nil ?_) | ((with_reducible refine draw_probe ?_); (first | refine drawq_more ?_ | refine drawq_as ?_)) | refine code_then ?_ | refine code_else ?_))
  cases f1 with
  | true =>
    (repeat (first | (with_reducible refine then_n ?_) | (with_reducible refine then_r ?_) | (with_reducible refine then_e ?_) | (with_reducible refine block_n ?_) | (with_reducible refine block_r ?_) | (with_reducible refine block_e ?_) | refine block_o ?_ | (with_reducible refine scope_n ?_) | (with_reducible refine scope_r ?_) | (with_reducible refine scope_e ?_) | (with_reducible refine code_seq ?_) | (with_reducible refine code_skip ?_) | (with_reducible refine code_label ?_) | (with_reducible refine code_block ?_) | (with_reducible refine code_scope ?_) | (with_reducible refine code_exit ?_) | (with_reducible refine code_ret ?_) | refine regq_to ?_ | (with_reducible refine run_nil ?_) | ((with_reducible refine run_probe ?_); refine runq_more ?_) | (with_reducible refine draw_nil ?_) | ((with_reducible refine draw_probe ?_); (first | refine drawq_more ?_ | refine drawq_as ?_)) | refine code_then ?_ | refine code_else ?_))
    refine back_tmp [pB b s0 a0 n0 f0 w0 h0 s1 a1 n1 true w1 h1] ?_; exact ⟨rfl, rfl⟩
  | false =>
    (repeat (first | (with_reducible refine then_n ?_) | (with_reducible refine then_r ?_) | (with_reducible refine then_e ?_) | (with_reducible refine block_n ?_) | (with_reducible refine block_r ?_) | (with_reducible refine block_e ?_) | refine block_o ?_ | (with_reducible refine scope_n ?_) | (with_reducible refine scope_r ?_) | (with_reducible refine scope_e ?_) | (with_reducible refine code_seq ?_) | (with_reducible refine code_skip ?_) | (with_reducible refine code_label ?_) | (with_reducible refine code_block ?_) | (with_reducible refine code_scope ?_) | (with_reducible refine code_exit ?_) | (with_reducible refine code_ret ?_) | refine regq_to ?_ | (with_reducible refine run_nil ?_) | ((with_reducible refine run_probe ?_); refine runq_more ?_) | (with_reducible refine draw_nil ?_) | ((with_reducible refine draw_probe ?_); (first | refine drawq_more ?_ | refine drawq_as ?_)) | refine code_then ?_ | refine code_else ?_))
    refine back_tmp [pB b s0 a0 n0 f0 w0 h0 s1 a1 n1 true w1 h1] ?_; exact ⟨rfl, rfl⟩
theorem room_1 (b : Nat) (pa : Option Addr) (room : Nat) (hr : room ≤ 1000000) (a1 : Int) (q1 : List UInt8) (hq : q1.length ≤ room) (f1 : Bool) (w1 : Int) (h1 : Nat) (s0 : Value) (a0 n0 : Int) (f0 : Bool) (w0 : Int) (h0 : Nat) :
    Meets Tryd.prog 12 [.pointer (some ⟨b, 0, none⟩), .int .i64 1] [pB b s0 a0 n0 f0 w0 h0 (.slice pa room room) a1 q1.length f1 w1 h1]
    fun v A => v = .int .i64 (if f1 = true then 0 else room - q1.length) ∧ A = [pB b s0 a0 n0 f0 w0 h0 (.slice pa room room) a1 q1.length f1 w1 h1] := by
  refine spec_intro Tryd.func12 rfl (by kernel_rfl) (by rw [Tryd.ntmps12]; simp) fun F => ?_; rw [Tryd.ntmps12, Tryd.results12]
  (repeat (first | (with_reducible refine then_n ?_) | (with_reducible refine then_r ?_) | (with_reducible refine then_e ?_) | (with_reducible refine block_n ?_) | (with_reducible refine block_r ?_) | (with_reducible refine block_e ?_) | refine block_o ?_ | (with_reducible refine scope_n ?_) | (with_reducible refine scope_r ?_) | (with_reducible refine scope_e ?_) | (with_reducible refine code_seq ?_) | (with_reducible refine code_skip ?_) | (with_reducible refine code_label ?_) | (with_reducible refine code_block ?_) | (with_reducible refine code_scope ?_) | (with_reducible refine code_exit ?_) | (with_reducible refine code_ret ?_) | refine regq_to ?_ | (with_reducible refine run_nil ?_) | ((with_reducible refine run_probe ?_); refine runq_more ?_) | (with_reducible refine draw_nil ?_) | ((with_reducible refine draw_probe ?_); (first | refine drawq_more ?_ | refine drawq_as ?_)) | refine code_then ?_ | refine code_else ?_))
  refine run_op fun K hK => ?_; refine calls_to (way_1 b) ?_; rintro v A ⟨rfl, rfl⟩; (try simp only [List.nil_append, List.cons_append]); refine hK _ _ ?_; clear hK K; (repeat (first | (with_reducible refine then_n ?_) | (with_reducible refine then_r ?_) | (with_reducible refine then_e ?_) | (with_reducible refine block_n ?_) | (with_reducible refine block_r ?_) | (with_reducible refine block_e ?_) | refine block_o ?_ | (with_reducible refine scope_n ?_) | (with_reducible refine scope_r ?_) | (with_reducible refine scope_e ?_) | (with_reducible refine code_seq ?_) | (with_reducible refine code_skip ?_) | (with_reducible refine code_label ?_) | (with_reducible refine code_block ?_) | (with_reducible refine code_scope ?_) | (with_reducible refine code_exit ?_) | (with_reducible refine code_ret ?_) | refine regq_to ?_ | (with_reducible refine run_nil ?_) | ((with_reducible refine run_probe ?_); refine runq_more ?_) | (with_reducible refine draw_nil ?_) | ((with_reducible refine draw_probe ?_); (first | refine drawq_more ?_ | refine drawq_as ?_)) | refine code_then ?_ | refine code_else ?_))
  cases f1 with
  | true =>
    (repeat (first | (with_reducible refine then_n ?_) | (with_reducible refine then_r ?_) | (with_reducible refine then_e ?_) | (with_reducible refine block_n ?_) | (with_reducible refine block_r ?_) | (with_reducible refine block_e ?_) | refine block_o ?_ | (with_reducible refine scope_n ?_) | (with_reducible refine scope_r ?_) | (with_reducible refine scope_e ?_) | (with_reducible refine code_seq ?_) | (with_reducible refine code_skip ?_) | (with_reducible refine code_label ?_) | (with_reducible refine code_block ?_) | (with_reducible refine code_scope ?_) | (with_reducible refine code_exit ?_) | (with_reducible refine code_ret ?_) | refine regq_to ?_ | (with_reducible refine run_nil ?_) | ((with_reducible refine run_probe ?_); refine runq_more ?_) | (with_reducible refine draw_nil ?_) | ((with_reducible refine draw_probe ?_); (first | refine drawq_more ?_ | refine drawq_as ?_)) | refine code_then ?_ | refine code_else ?_))
    refine back_tmp [pB b s0 a0 n0 f0 w0 h0 (.slice pa room room) a1 q1.length true w1 h1] ?_; exact ⟨rfl, rfl⟩
  | false =>
    (repeat (first | (with_reducible refine then_n ?_) | (with_reducible refine then_r ?_) | (with_reducible refine then_e ?_) | (with_reducible refine block_n ?_) | (with_reducible refine block_r ?_) | (with_reducible refine block_e ?_) | refine block_o ?_ | (with_reducible refine scope_n ?_) | (with_reducible refine scope_r ?_) | (with_reducible refine scope_e ?_) | (with_reducible refine code_seq ?_) | (with_reducible refine code_skip ?_) | (with_reducible refine code_label ?_) | (with_reducible refine code_block ?_) | (with_reducible refine code_scope ?_) | (with_reducible refine code_exit ?_) | (with_reducible refine code_ret ?_) | refine regq_to ?_ | (with_reducible refine run_nil ?_) | ((with_reducible refine run_probe ?_); refine runq_more ?_) | (with_reducible refine draw_nil ?_) | ((with_reducible refine draw_probe ?_); (first | refine drawq_more ?_ | refine drawq_as ?_)) | refine code_then ?_ | refine code_else ?_))
    refine code_dr [[], [0], [0, 1], [0, 1, 2], [0, 1, 2, 3], [], [5], [5, 6], [5, 6, 7], [0, 1, 2, 3, 4, 5, 6, 7, 8], [0, 1, 2, 3, 4, 5, 6, 7, 8, 9]] [(0, false, []), (1, false, []), (2, false, []), (3, false, []), (4, false, []), (5, false, []), (6, false, []), (7, false, []), (8, false, []), (9, false, []), (10, true, [])] ?_
    (repeat (first | (with_reducible refine then_n ?_) | (with_reducible refine then_r ?_) | (with_reducible refine then_e ?_) | (with_reducible refine block_n ?_) | (with_reducible refine block_r ?_) | (with_reducible refine block_e ?_) | refine block_o ?_ | (with_reducible refine scope_n ?_) | (with_reducible refine scope_r ?_) | (with_reducible refine scope_e ?_) | (with_reducible refine code_seq ?_) | (with_reducible refine code_skip ?_) | (with_reducible refine code_label ?_) | (with_reducible refine code_block ?_) | (with_reducible refine code_scope ?_) | (with_reducible refine code_exit ?_) | (with_reducible refine code_ret ?_) | refine regq_to ?_ | (with_reducible refine run_nil ?_) | ((with_reducible refine run_probe ?_); refine runq_more ?_) | (with_reducible refine draw_nil ?_) | ((with_reducible refine draw_probe ?_); (first | refine drawq_more ?_ | refine drawq_as ?_)) | refine code_then ?_ | refine code_else ?_))
    refine back_tmp [pB b s0 a0 n0 f0 w0 h0 (.slice pa room room) a1 q1.length false w1 h1] ?_; exact ⟨rfl, rfl⟩


/-- No way: a nil pipe, a number that is none. -/
def NoWay (p : Value) (i : Int) (E : Int) : Prop := (E = 1 ∨ E = 6) ∧ Meets Tryd.prog 21 [p, .int .i64 i] [] fun v A => v = .tuple #[.pointer none, .int .i64 E] ∧ A = []
theorem NoWay.ne {p : Value} {i E : Int} (h : NoWay p i E) : (E != 0) = true := by rcases h.1 with h | h <;> rw [h] <;> rfl
theorem noway_nil (i : Int) : NoWay (.pointer none) i 6 := ⟨.inr rfl, way_nil i⟩
theorem noway_odd (b : Nat) (i : Int) (h0 : i ≠ 0) (h1 : i ≠ 1) : NoWay (.pointer (some ⟨b, 0, none⟩)) i 1 := ⟨.inl rfl, way_odd b i h0 h1⟩
theorem shut_no {p : Value} {i E : Int} (h : NoWay p i E) : Meets Tryd.prog 10 [p, .int .i64 i] [] fun v A => v = .int .i64 E ∧ A = [] := by
  refine spec_intro Tryd.func10 rfl (by kernel_rfl) (by rw [Tryd.ntmps10]; simp) fun F => ?_; rw [Tryd.ntmps10, Tryd.results10]
  (repeat (first | (with_reducible refine then_n ?_) | (with_reducible refine then_r ?_) | (with_reducible refine then_e ?_) | (with_reducible refine block_n ?_) | (with_reducible refine block_r ?_) | (with_reducible refine block_e ?_) | refine block_o ?_ | (with_reducible refine scope_n ?_) | (with_reducible refine scope_r ?_) | (with_reducible refine scope_e ?_) | (with_reducible refine code_seq ?_) | (with_reducible refine code_skip ?_) | (with_reducible refine code_label ?_) | (with_reducible refine code_block ?_) | (with_reducible refine code_scope ?_) | (with_reducible refine code_exit ?_) | (with_reducible refine code_ret ?_) | refine regq_to ?_ | (with_reducible refine run_nil ?_) | ((with_reducible refine run_probe ?_); refine runq_more ?_) | (with_reducible refine draw_nil ?_) | ((with_reducible refine draw_probe ?_); (first | refine drawq_more ?_ | refine drawq_as ?_)) | refine code_then ?_ | refine code_else ?_))
  refine run_op fun K hK => ?_; refine calls_to (h.2) ?_; rintro v A ⟨rfl, rfl⟩; (try simp only [List.nil_append, List.cons_append]); refine hK _ _ ?_; clear hK K; (repeat (first | (with_reducible refine then_n ?_) | (with_reducible refine then_r ?_) | (with_reducible refine then_e ?_) | (with_reducible refine block_n ?_) | (with_reducible refine block_r ?_) | (with_reducible refine block_e ?_) | refine block_o ?_ | (with_reducible refine scope_n ?_) | (with_reducible refine scope_r ?_) | (with_reducible refine scope_e ?_) | (with_reducible refine code_seq ?_) | (with_reducible refine code_skip ?_) | (with_reducible refine code_label ?_) | (with_reducible refine code_block ?_) | (with_reducible refine code_scope ?_) | (with_reducible refine code_exit ?_) | (with_reducible refine code_ret ?_) | refine regq_to ?_ | (with_reducible refine run_nil ?_) | ((with_reducible refine run_probe ?_); refine runq_more ?_) | (with_reducible refine draw_nil ?_) | ((with_reducible refine draw_probe ?_); (first | refine drawq_more ?_ | refine drawq_as ?_)) | refine code_then ?_ | refine code_else ?_))
  rw [h.ne]
  (repeat (first | (with_reducible refine then_n ?_) | (with_reducible refine then_r ?_) | (with_reducible refine then_e ?_) | (with_reducible refine block_n ?_) | (with_reducible refine block_r ?_) | (with_reducible refine block_e ?_) | refine block_o ?_ | (with_reducible refine scope_n ?_) | (with_reducible refine scope_r ?_) | (with_reducible refine scope_e ?_) | (with_reducible refine code_seq ?_) | (with_reducible refine code_skip ?_) | (with_reducible refine code_label ?_) | (with_reducible refine code_block ?_) | (with_reducible refine code_scope ?_) | (with_reducible refine code_exit ?_) | (with_reducible refine code_ret ?_) | refine regq_to ?_ | (with_reducible refine run_nil ?_) | ((with_reducible refine run_probe ?_); refine runq_more ?_) | (with_reducible refine draw_nil ?_) | ((with_reducible refine draw_probe ?_); (first | refine drawq_more ?_ | refine drawq_as ?_)) | refine code_then ?_ | refine code_else ?_))
  refine back_tmp [] ?_; exact ⟨rfl, rfl⟩
theorem room_no {p : Value} {i E : Int} (h : NoWay p i E) : Meets Tryd.prog 12 [p, .int .i64 i] [] fun v A => v = .int .i64 0 ∧ A = [] := by
  refine spec_intro Tryd.func12 rfl (by kernel_rfl) (by rw [Tryd.ntmps12]; simp) fun F => ?_; rw [Tryd.ntmps12, Tryd.results12]
  (repeat (first | (with_reducible refine then_n ?_) | (with_reducible refine then_r ?_) | (with_reducible refine then_e ?_) | (with_reducible refine block_n ?_) | (with_reducible refine block_r ?_) | (with_reducible refine block_e ?_) | refine block_o ?_ | (with_reducible refine scope_n ?_) | (with_reducible refine scope_r ?_) | (with_reducible refine scope_e ?_) | (with_reducible refine code_seq ?_) | (with_reducible refine code_skip ?_) | (with_reducible refine code_label ?_) | (with_reducible refine code_block ?_) | (with_reducible refine code_scope ?_) | (with_reducible refine code_exit ?_) | (with_reducible refine code_ret ?_) | refine regq_to ?_ | (with_reducible refine run_nil ?_) | ((with_reducible refine run_probe ?_); refine runq_more ?_) | (with_reducible refine draw_nil ?_) | ((with_reducible refine draw_probe ?_); (first | refine drawq_more ?_ | refine drawq_as ?_)) | refine code_then ?_ | refine code_else ?_))
  refine run_op fun K hK => ?_; refine calls_to (h.2) ?_; rintro v A ⟨rfl, rfl⟩; (try simp only [List.nil_append, List.cons_append]); refine hK _ _ ?_; clear hK K; (repeat (first | (with_reducible refine then_n ?_) | (with_reducible refine then_r ?_) | (with_reducible refine then_e ?_) | (with_reducible refine block_n ?_) | (with_reducible refine block_r ?_) | (with_reducible refine block_e ?_) | refine block_o ?_ | (with_reducible refine scope_n ?_) | (with_reducible refine scope_r ?_) | (with_reducible refine scope_e ?_) | (with_reducible refine code_seq ?_) | (with_reducible refine code_skip ?_) | (with_reducible refine code_label ?_) | (with_reducible refine code_block ?_) | (with_reducible refine code_scope ?_) | (with_reducible refine code_exit ?_) | (with_reducible refine code_ret ?_) | refine regq_to ?_ | (with_reducible refine run_nil ?_) | ((with_reducible refine run_probe ?_); refine runq_more ?_) | (with_reducible refine draw_nil ?_) | ((with_reducible refine draw_probe ?_); (first | refine drawq_more ?_ | refine drawq_as ?_)) | refine code_then ?_ | refine code_else ?_))
  rw [h.ne]
  (repeat (first | (with_reducible refine then_n ?_) | (with_reducible refine then_r ?_) | (with_reducible refine then_e ?_) | (with_reducible refine block_n ?_) | (with_reducible refine block_r ?_) | (with_reducible refine block_e ?_) | refine block_o ?_ | (with_reducible refine scope_n ?_) | (with_reducible refine scope_r ?_) | (with_reducible refine scope_e ?_) | (with_reducible refine code_seq ?_) | (with_reducible refine code_skip ?_) | (with_reducible refine code_label ?_) | (with_reducible refine code_block ?_) | (with_reducible refine code_scope ?_) | (with_reducible refine code_exit ?_) | (with_reducible refine code_ret ?_) | refine regq_to ?_ | (with_reducible refine run_nil ?_) | ((with_reducible refine run_probe ?_); refine runq_more ?_) | (with_reducible refine draw_nil ?_) | ((with_reducible refine draw_probe ?_); (first | refine drawq_more ?_ | refine drawq_as ?_)) | refine code_then ?_ | refine code_else ?_))
  refine back_tmp [] ?_; exact ⟨rfl, rfl⟩
theorem read_no {p : Value} {i E : Int} (h : NoWay p i E) (m : Int) : Meets Tryd.prog 14 [p, .int .i64 i, .int .i64 m] [] fun v A => v = .tuple #[.slice none 0 0, .int .i64 E] ∧ A = [] := by
  refine spec_intro Tryd.func14 rfl (by kernel_rfl) (by rw [Tryd.ntmps14]; simp) fun F => ?_; rw [Tryd.ntmps14, Tryd.results14]
  (repeat (first | (with_reducible refine then_n ?_) | (with_reducible refine then_r ?_) | (with_reducible refine then_e ?_) | (with_reducible refine block_n ?_) | (with_reducible refine block_r ?_) | (with_reducible refine block_e ?_) | refine block_o ?_ | (with_reducible refine scope_n ?_) | (with_reducible refine scope_r ?_) | (with_reducible refine scope_e ?_) | (with_reducible refine code_seq ?_) | (with_reducible refine code_skip ?_) | (with_reducible refine code_label ?_) | (with_reducible refine code_block ?_) | (with_reducible refine code_scope ?_) | (with_reducible refine code_exit ?_) | (with_reducible refine code_ret ?_) | refine regq_to ?_ | (with_reducible refine run_nil ?_) | ((with_reducible refine run_probe ?_); refine runq_more ?_) | (with_reducible refine draw_nil ?_) | ((with_reducible refine draw_probe ?_); (first | refine drawq_more ?_ | refine drawq_as ?_)) | refine code_then ?_ | refine code_else ?_))
  refine run_op fun K hK => ?_; refine calls_to (h.2) ?_; rintro v A ⟨rfl, rfl⟩; (try simp only [List.nil_append, List.cons_append]); refine hK _ _ ?_; clear hK K; (repeat (first | (with_reducible refine then_n ?_) | (with_reducible refine then_r ?_) | (with_reducible refine then_e ?_) | (with_reducible refine block_n ?_) | (with_reducible refine block_r ?_) | (with_reducible refine block_e ?_) | refine block_o ?_ | (with_reducible refine scope_n ?_) | (with_reducible refine scope_r ?_) | (with_reducible refine scope_e ?_) | (with_reducible refine code_seq ?_) | (with_reducible refine code_skip ?_) | (with_reducible refine code_label ?_) | (with_reducible refine code_block ?_) | (with_reducible refine code_scope ?_) | (with_reducible refine code_exit ?_) | (with_reducible refine code_ret ?_) | refine regq_to ?_ | (with_reducible refine run_nil ?_) | ((with_reducible refine run_probe ?_); refine runq_more ?_) | (with_reducible refine draw_nil ?_) | ((with_reducible refine draw_probe ?_); (first | refine drawq_more ?_ | refine drawq_as ?_)) | refine code_then ?_ | refine code_else ?_))
  rw [h.ne]
  (repeat (first | (with_reducible refine then_n ?_) | (with_reducible refine then_r ?_) | (with_reducible refine then_e ?_) | (with_reducible refine block_n ?_) | (with_reducible refine block_r ?_) | (with_reducible refine block_e ?_) | refine block_o ?_ | (with_reducible refine scope_n ?_) | (with_reducible refine scope_r ?_) | (with_reducible refine scope_e ?_) | (with_reducible refine code_seq ?_) | (with_reducible refine code_skip ?_) | (with_reducible refine code_label ?_) | (with_reducible refine code_block ?_) | (with_reducible refine code_scope ?_) | (with_reducible refine code_exit ?_) | (with_reducible refine code_ret ?_) | refine regq_to ?_ | (with_reducible refine run_nil ?_) | ((with_reducible refine run_probe ?_); refine runq_more ?_) | (with_reducible refine draw_nil ?_) | ((with_reducible refine draw_probe ?_); (first | refine drawq_more ?_ | refine drawq_as ?_)) | refine code_then ?_ | refine code_else ?_))
  exact back_cells (vs := [.slice none 0 0, .int .i64 E]) [] ⟨rfl, rfl⟩
theorem write_no {p : Value} {i E : Int} (h : NoWay p i E) (s : Value) : Meets Tryd.prog 9 [p, .int .i64 i, s] [] fun v A => v = .tuple #[.int .i64 0, .int .i64 E] ∧ A = [] := by
  refine spec_intro Tryd.func9 rfl (by kernel_rfl) (by rw [Tryd.ntmps9]; simp) fun F => ?_; rw [Tryd.ntmps9, Tryd.results9]
  (repeat (first | (with_reducible refine then_n ?_) | (with_reducible refine then_r ?_) | (with_reducible refine then_e ?_) | (with_reducible refine block_n ?_) | (with_reducible refine block_r ?_) | (with_reducible refine block_e ?_) | refine block_o ?_ | (with_reducible refine scope_n ?_) | (with_reducible refine scope_r ?_) | (with_reducible refine scope_e ?_) | (with_reducible refine code_seq ?_) | (with_reducible refine code_skip ?_) | (with_reducible refine code_label ?_) | (with_reducible refine code_block ?_) | (with_reducible refine code_scope ?_) | (with_reducible refine code_exit ?_) | (with_reducible refine code_ret ?_) | refine regq_to ?_ | (with_reducible refine run_nil ?_) | ((with_reducible refine run_probe ?_); refine runq_more ?_) | (with_reducible refine draw_nil ?_) | ((with_reducible refine draw_probe ?_); (first | refine drawq_more ?_ | refine drawq_as ?_)) | refine code_then ?_ | refine code_else ?_))
  refine run_op fun K hK => ?_; refine calls_to (h.2) ?_; rintro v A ⟨rfl, rfl⟩; (try simp only [List.nil_append, List.cons_append]); refine hK _ _ ?_; clear hK K; (repeat (first | (with_reducible refine then_n ?_) | (with_reducible refine then_r ?_) | (with_reducible refine then_e ?_) | (with_reducible refine block_n ?_) | (with_reducible refine block_r ?_) | (with_reducible refine block_e ?_) | refine block_o ?_ | (with_reducible refine scope_n ?_) | (with_reducible refine scope_r ?_) | (with_reducible refine scope_e ?_) | (with_reducible refine code_seq ?_) | (with_reducible refine code_skip ?_) | (with_reducible refine code_label ?_) | (with_reducible refine code_block ?_) | (with_reducible refine code_scope ?_) | (with_reducible refine code_exit ?_) | (with_reducible refine code_ret ?_) | refine regq_to ?_ | (with_reducible refine run_nil ?_) | ((with_reducible refine run_probe ?_); refine runq_more ?_) | (with_reducible refine draw_nil ?_) | ((with_reducible refine draw_probe ?_); (first | refine drawq_more ?_ | refine drawq_as ?_)) | refine code_then ?_ | refine code_else ?_))
  rw [h.ne]
  (repeat (first | (with_reducible refine then_n ?_) | (with_reducible refine then_r ?_) | (with_reducible refine then_e ?_) | (with_reducible refine block_n ?_) | (with_reducible refine block_r ?_) | (with_reducible refine block_e ?_) | refine block_o ?_ | (with_reducible refine scope_n ?_) | (with_reducible refine scope_r ?_) | (with_reducible refine scope_e ?_) | (with_reducible refine code_seq ?_) | (with_reducible refine code_skip ?_) | (with_reducible refine code_label ?_) | (with_reducible refine code_block ?_) | (with_reducible refine code_scope ?_) | (with_reducible refine code_exit ?_) | (with_reducible refine code_ret ?_) | refine regq_to ?_ | (with_reducible refine run_nil ?_) | ((with_reducible refine run_probe ?_); refine runq_more ?_) | (with_reducible refine draw_nil ?_) | ((with_reducible refine draw_probe ?_); (first | refine drawq_more ?_ | refine drawq_as ?_)) | refine code_then ?_ | refine code_else ?_))
  exact back_cells (vs := [.int .i64 0, .int .i64 E]) [] ⟨rfl, rfl⟩
theorem over_nil : Meets Tryd.prog 11 [.pointer none] [] fun v A => v = .bool true ∧ A = [] := by
  refine spec_intro Tryd.func11 rfl (by kernel_rfl) (by rw [Tryd.ntmps11]; simp) fun F => ?_; rw [Tryd.ntmps11, Tryd.results11]
  (repeat (first | (with_reducible refine then_n ?_) | (with_reducible refine then_r ?_) | (with_reducible refine then_e ?_) | (with_reducible refine block_n ?_) | (with_reducible refine block_r ?_) | (with_reducible refine block_e ?_) | refine block_o ?_ | (with_reducible refine scope_n ?_) | (with_reducible refine scope_r ?_) | (with_reducible refine scope_e ?_) | (with_reducible refine code_seq ?_) | (with_reducible refine code_skip ?_) | (with_reducible refine code_label ?_) | (with_reducible refine code_block ?_) | (with_reducible refine code_scope ?_) | (with_reducible refine code_exit ?_) | (with_reducible refine code_ret ?_) | refine regq_to ?_ | (with_reducible refine run_nil ?_) | ((with_reducible refine run_probe ?_); refine runq_more ?_) | (with_reducible refine draw_nil ?_) | ((with_reducible refine draw_probe ?_); (first | refine drawq_more ?_ | refine drawq_as ?_)) | refine code_then ?_ | refine code_else ?_))
  refine back_tmp [] ?_; exact ⟨rfl, rfl⟩

end Go.Proofs.YtlcbaijjjphmjaaDoor

/- A slice of bytes as it came; the variables. Conditions: as each says. -/
set_option linter.unusedSimpArgs false
set_option linter.unusedVariables false
namespace Go.Proofs.YtlcbaijjjphmjaaDoor
open Go Go.Ost Go.Sha

/-- The variables that the code reads. -/
structure Globs (C : Chunk) : Prop where
  g0 : ∃ t m, (0, Obj.cells (rowW first.list) t m) ∈ C
  g1 : ∃ t m, (1, Obj.cells (rowW odd) t m) ∈ C

/-- A slice of bytes as it came. -/
theorem row_bytes {C : Chunk} {v : Value} {zs : List Int} (h : Ost.Row C .u8 v zs) : ∃ a cap, ∃ bs : List UInt8, v = .slice a bs.length cap ∧ bs.length ≤ cap ∧ cap ≤ maxLen ∧ Rd 1 [C] a bs.length (bs.map b8) := by
  obtain ⟨hwf, a, len, cap, rfl, hle, hmax, hl, hc⟩ := h
  refine ⟨a, cap, zs.map fun z => UInt8.ofNat z.toNat, by simp [hl], by simp [hl]; omega, hmax, by simp, fun hne => ?_⟩
  have hpos : 0 < len := by
    rw [← hl]; cases zs with
    | nil => simp at hne
    | cons z l => simp
  obtain ⟨b, o, cs, e, m, rfl, hm, hcs⟩ := hc hpos
  refine ⟨b, o, cs, e, m, rfl, .here hm, fun i hi => ?_⟩
  simp only [List.length_map] at hi
  rw [hcs i (by omega)]
  have hz := hwf (zs.getD i 0) (by
    rw [List.getD, List.getElem?_eq_getElem hi]; exact List.getElem_mem _)
  have hz2 : 0 ≤ zs.getD i 0 ∧ zs.getD i 0 ≤ 255 := by
    simp only [Lit.wf, Bool.and_eq_true, decide_eq_true_eq] at hz
    exact ⟨hz.1, hz.2⟩
  simp only [List.getElem?_map, List.getElem?_eq_getElem hi, Option.map_some]
  rw [List.getD, List.getElem?_eq_getElem hi] at hz2 ⊢
  simp only [Option.getD_some] at hz2 ⊢
  simp only [b8, UInt8.toNat_ofNat']
  congr 2; omega

end Go.Proofs.YtlcbaijjjphmjaaDoor

/- A Hash: its block, how many bytes it has had. Conditions: as each says. -/
set_option linter.unusedSimpArgs false
set_option linter.unusedVariables false
namespace Go.Proofs.YtlcbaijjjphmjaaDoor
open Go Go.Ost Go.Sha

instance : TPlaces Tryd.prog 92 [(0, 8), (8, 1), (9, 1)] := ⟨by kernel_rfl⟩

/-- A Hash's block. -/
abbrev hashO (l : List W) (v : Value) (n : Nat) : Obj := .cells (rowX l [v, .int .u64 n]) 92 (0, 0)

end Go.Proofs.YtlcbaijjjphmjaaDoor

/- The words of SHA-256: turning, loading. Conditions: as each says. -/
set_option linter.unusedSimpArgs false
set_option linter.unusedVariables false
namespace Go.Proofs.YtlcbaijjjphmjaaDoor
open Go Go.Ost Go.Sha

theorem turn_spec (x : W) (n : Nat) (h : n ≤ 32) : Meets Tryd.prog 52 [b32 x, .int .u64 n] [] fun v A => v = b32 (rot n x) ∧ A = [] := by
  refine spec_intro Tryd.func52 rfl (by kernel_rfl) (by rw [Tryd.ntmps52]; simp) fun F => ?_; rw [Tryd.ntmps52, Tryd.results52]
  refine code_seq_k fun N1 hN1 => ?_
  refine reg_to ?_; (try refine run_end ?_)
  refine hN1 _ _ _ ?_; clear hN1
  refine code_seq_k fun N2 hN2 => ?_
  refine reg_to ?_; (try refine run_end ?_)
  refine hN2 _ _ _ ?_; clear hN2
  refine code_back ?_
  refine back_tmp [] ?_; exact ⟨by rw [show ((32 : Int) - n).toNat = 32 - n from by omega]; rfl, rfl⟩

theorem and31 {P : Program} {t : TypeId} {x y : Operand} {κ : Value → Prop} (n : Nat) (h0 : 1 ≤ n) (h1 : n ≤ 31) :
    PureW P (do eqGuard .and t x y (.int .u64 (IntKind.u64.wrap (-(n : Int)))) (.int .u64 31); binOp .and t (.int .u64 (IntKind.u64.wrap (-(n : Int)))) (.int .u64 31)) κ = κ (.int .u64 (32 - n)) :=
  pureW_eq (fun w => by
    have key : ∀ n : Fin 32, 1 ≤ n.val → IntKind.u64.wrap ((BitVec.ofInt 64 (IntKind.u64.wrap (-(n.val : Int))) &&& BitVec.ofInt 64 31).toNat : Int) = 32 - n.val := by decide
    show Result.ok (Value.int .u64 (IntKind.u64.wrap ((BitVec.ofInt 64 (IntKind.u64.wrap (-(n : Int))) &&& BitVec.ofInt 64 31).toNat : Int))) w = _
    rw [key ⟨n, by omega⟩ h0]) κ

theorem rotl_spec (x : W) (n : Nat) (h0 : 1 ≤ n) (h1 : n ≤ 31) : Meets Tryd.prog 50 [b32 x, .int .i64 (-(n : Int))] [] fun v A => v = b32 (rot n x) ∧ A = [] := by
  refine spec_intro Tryd.func50 rfl (by kernel_rfl) (by rw [Tryd.ntmps50]; simp) fun F => ?_; rw [Tryd.ntmps50, Tryd.results50]
  refine code_seq_k fun N1 hN1 => ?_
  refine reg_to ?_; (try refine run_end ?_)
  refine hN1 _ _ _ ?_; clear hN1
  refine code_seq_k fun N2 hN2 => ?_
  refine reg_to ?_; (try refine run_end ?_)
  refine run_op fun K hK => ?_
  rw [and31 n h0 h1]
  refine hK _ _ ?_; clear hK K
  (try refine run_to ?_); (try refine run_end ?_)
  refine hN2 _ _ _ ?_; clear hN2
  refine code_seq_k fun N3 hN3 => ?_
  refine reg_to ?_; (try refine run_end ?_)
  refine hN3 _ _ _ ?_; clear hN3
  refine code_back ?_
  refine back_tmp [] ?_; exact ⟨by rw [show ((32 : Int) - n).toNat = 32 - n from by omega, show ((32 : Int) - (32 - n)).toNat = n from by omega, BitVec.or_comm]; rfl, rfl⟩

theorem word_spec (H : Chunk) (a : Option Addr) (len cap : Nat) (x0 x1 x2 x3 : UInt8) (l : List UInt8) (h : Rd 1 [H] a len ((x0 :: x1 :: x2 :: x3 :: l).map b8)) :
    Meets Tryd.prog 53 [.slice a len cap] [H] fun v A => v = b32 (word x0 x1 x2 x3) ∧ A = [H] := by
  refine spec_intro Tryd.func53 rfl (by kernel_rfl) (by rw [Tryd.ntmps53]; simp) fun F => ?_; rw [Tryd.ntmps53, Tryd.results53]
  have hr := h.next F
  have hlen : 4 ≤ len := by have := h.1; simp at this; omega
  refine code_seq_k fun N1 hN1 => ?_
  refine reg_to ?_; (try refine run_end ?_)
  refine hN1 _ _ _ ?_; clear hN1
  refine code_seq_k fun N2 hN2 => ?_
  refine code_draw [[], [0], [0, 1], [0, 1, 2], [0, 1, 2, 3], [], [5], [5, 6], [5, 6, 7], [5, 6, 7, 8], [0, 1, 2, 3, 4, 5, 6, 7, 8, 9], [], [11], [11, 12], [11, 12, 13], [11, 12, 13, 14], [0, 1, 2, 3, 4, 5, 6, 7, 8, 9, 10, 11, 12, 13, 14, 15], [], [17], [17, 18], [17, 18, 19], [0, 1, 2, 3, 4, 5, 6, 7, 8, 9, 10, 11, 12, 13, 14, 15, 16, 17, 18, 19, 20], [0, 1, 2, 3, 4, 5, 6, 7, 8, 9, 10, 11, 12, 13, 14, 15, 16, 17, 18, 19, 20, 21]] [(0, false, []), (1, false, []), (2, false, []), (3, false, []), (4, false, []), (5, false, []), (6, false, []), (7, false, []), (8, false, []), (9, false, []), (10, false, []), (11, false, []), (12, false, []), (13, false, []), (14, false, []), (15, false, []), (16, false, []), (17, false, []), (18, false, []), (19, false, []), (20, false, []), (21, false, []), (22, true, [])] (by kernel_rfl) (by kernel_rfl) ?_
  (repeat (refine draw_quiet (by simp only [List.getElem?_toArray, List.getElem?_cons_succ, List.getElem?_cons_zero]; rfl) fun K hK => ?_; (try simp only [gos, gob, Nat.reduceBEq, if_true, reduceIte, reduceCtorEq, Nat.reduceLT, Nat.reduceEqDiff, Nat.reduceAdd, Nat.reduceSub, Int.reduceLT, Int.reduceLE, Int.reduceBEq, Int.reduceBNe, Int.reduceToNat, Int.reduceAdd, Int.reduceSub, Int.reduceMul, Int.reduceDiv, Int.reduceMod, Int.reducePow, Int.toNat_natCast, Nat.sub_zero, goq]); (try (simp (disch := omega) only [gow, gobw, index_rd hr]; try simp only [gos, gob, Nat.reduceBEq, if_true, reduceIte, reduceCtorEq, Nat.reduceLT, Nat.reduceEqDiff, Nat.reduceAdd, Nat.reduceSub, Int.reduceLT, Int.reduceLE, Int.reduceBEq, Int.reduceBNe, Int.reduceToNat, Int.reduceAdd, Int.reduceSub, Int.reduceMul, Int.reduceDiv, Int.reduceMod, Int.reducePow, Int.toNat_natCast, Nat.sub_zero, goq])); (first | (with_reducible refine hK _ _ ?_) | (refine rd_load hr rfl ?_; (with_reducible refine hK _ _ ?_)) | ((with_reducible apply load_box); (· (repeat (first | with_reducible exact Lies.one | with_reducible apply Lies.next))); (with_reducible refine hK _ _ ?_)) | ((with_reducible apply load_one); (· (repeat (first | with_reducible exact Lies.one | with_reducible apply Lies.next))); (· exact rfl); (with_reducible refine hK _ _ ?_))); clear hK K)); try ((with_reducible refine draw_nil ?_); try simp only [Cont.then, Cont.block, Cont.noGoto, reduceIte, Nat.reduceEqDiff])
  refine draw_op fun K hK => ?_; (repeat refine pend ?_); refine hK _ _ ?_; clear hK K
  (try refine draw_to ?_); (try refine draw_end ?_)
  refine hN2 _ _ _ ?_; clear hN2
  refine code_back ?_
  refine back_tmp [H] ?_; exact ⟨by rw [word_eq], rfl⟩

end Go.Proofs.YtlcbaijjjphmjaaDoor

/- The words of a block, spread. Conditions: as each says. -/
set_option linter.unusedSimpArgs false
set_option linter.unusedVariables false
namespace Go.Proofs.YtlcbaijjjphmjaaDoor
open Go Go.Ost Go.Sha

theorem word_at (H : Chunk) (a : Option Addr) (len cap : Nat) (bs : List UInt8) (hb : 4 ≤ bs.length) (h : Rd 1 [H] a len (bs.map b8)) :
    Meets Tryd.prog 53 [.slice a len cap] [H] fun v A => v = b32 (wordAt bs 0) ∧ A = [H] := by
  match bs, hb, h with
  | x0 :: x1 :: x2 :: x3 :: l, _, h => exact word_spec H a len cap x0 x1 x2 x3 l h

theorem spread_spec (H : Chunk) (a : Option Addr) (cap : Nat) (hcap : 64 ≤ cap) (bs : List UInt8) (hb : bs.length = 64) (h : Rd 1 [H] a 64 (bs.map b8)) :
    Meets Tryd.prog 49 [.slice a 64 cap] [H] fun v A => v = .agg (rowW (spr bs 64)) ∧ A = [H] := by
  refine spec_intro Tryd.func49 rfl (by kernel_rfl) (by rw [Tryd.ntmps49]; simp) fun F => ?_; rw [Tryd.ntmps49, Tryd.results49]
  refine code_seq_k fun N1 hN1 => ?_
  refine reg_to ?_; (try refine run_end ?_)
  refine run_op fun K hK => ?_; refine alloc_new fun b2 => ?_; (try simp only [Value.cells]); refine hK _ _ ?_; clear hK K
  (try refine run_to ?_); (try refine run_end ?_)
  refine hN1 _ _ _ ?_; clear hN1
  refine code_seq_k fun N2 hN2 => ?_
  refine reg_to ?_; (try refine run_end ?_)
  refine run_op fun K hK => ?_; refine alloc_new fun b3 => ?_; (try simp only [Value.cells]); refine hK _ _ ?_; clear hK K
  (try refine run_to ?_); (try refine run_end ?_)
  refine hN2 _ _ _ ?_; clear hN2
  refine code_seq_k fun N3 hN3 => ?_
  refine code_seq_k fun N4 hN4 => ?_
  refine reg_to ?_; (try refine run_end ?_)
  refine hN4 _ _ _ ?_; clear hN4
  refine code_block ?_
  refine code_loop (fun q D L S => ∃ i : Nat, i ≤ 16 ∧ q = 16 - i ∧ D = [] ∧ L = [(10, .int .i64 i), (0, .slice a 64 cap), (2, .pointer (some ⟨b2, 0, none⟩)), (3, .pointer (some ⟨b3, 0, none⟩))] ∧
    S = [[(b3, .cells (rowW (spr bs i)) 100 (0, 0))], [(b2, .cells (rowW (spr bs 0)) 100 (0, 0))], F, H]) ?_ ?_
  · exact ⟨_, _, _, ⟨0, by omega, rfl, rfl, rfl, rfl⟩, by (repeat (first | exact True.intro | (refine And.intro ?_ ?_; (· (try simp only [evT, lookT_hit, lookT_miss, Nat.reduceBEq]); (first | done | exact rfl))))), by first | ((repeat (first | with_reducible exact Among.nil _ | with_reducible exact Pick.head _ _ | with_reducible apply Pick.tail | with_reducible apply Among.cons)); done) | ((repeat (first | exact Among.nil _ | exact Pick.head _ _ | apply Pick.tail | apply Among.cons)); done)⟩
  · rintro q D L S ⟨i, hi, rfl, rfl, rfl, rfl⟩
    refine code_seq_k fun N5 hN5 => ?_
    refine reg_to ?_; (try refine run_end ?_)
    refine hN5 _ _ _ ?_; clear hN5
    refine code_seq_k fun N6 hN6 => ?_
    refine code_if (fun hc => ?_) (fun hc => ?_)
    · have hc := of_decide_eq_true hc
      refine code_skip ?_
      refine hN6 _ _ _ ?_; clear hN6
      refine code_seq_k fun N7 hN7 => ?_
      refine code_block ?_
      refine code_seq_k fun N8 hN8 => ?_
      refine reg_to ?_; (try refine run_end ?_)
      refine hN8 _ _ _ ?_; clear hN8
      refine reg_to ?_; (try refine run_end ?_)
      refine run_op fun K hK => ?_; refine calls_to (word_at H _ _ _ _ (by simp; omega) (rd_cut1 h (l := (4 * (i : Int)).toNat) (h' := 64) (m := cap) (by omega) (by omega) (by omega))) ?_; rintro v A ⟨rfl, rfl⟩; refine hK _ _ ?_; clear hK K
      (try refine runv_to ?_); (try refine run_end ?_)
      have e : (spr bs i).set (0 + i * 1) (wordAt ((bs.drop (4 * (i : Int)).toNat).take (64 - (4 * (i : Int)).toNat)) 0) = spr bs (i + 1) := by
        rw [wordAt_cut _ _ _ (by omega), show (4 * (i : Int)).toNat = 4 * i from by omega]; rw [show 0 + i * 1 = i from by omega]
        simp only [spr]; rw [if_pos (by omega)]
      rw [e]
      refine hN7 _ _ _ ?_; clear hN7
      refine reg_to ?_; (try refine run_end ?_)
      exact again ⟨i + 1, by omega, rfl, rfl, rfl, rfl⟩
    · have hc := of_decide_eq_false hc
      refine code_exit ?_; try simp only [Cont.then, Cont.block, Cont.noGoto, reduceIte, Nat.reduceEqDiff]
      refine hN3 _ _ _ ?_; clear hN3
      obtain rfl : i = 16 := by omega
      refine code_seq_k fun N9 hN9 => ?_
      refine code_seq_k fun N10 hN10 => ?_
      refine reg_to ?_; (try refine run_end ?_)
      refine hN10 _ _ _ ?_; clear hN10
      refine code_block ?_
      refine code_loop (fun q D L S => ∃ i : Nat, 16 ≤ i ∧ i ≤ 64 ∧ q = 64 - i ∧ D = [] ∧ L = [(5, .int .i64 i), (2, .pointer (some ⟨b2, 0, none⟩)), (3, .pointer (some ⟨b3, 0, none⟩))] ∧
        S = [[(b3, .cells (rowW (spr bs i)) 100 (0, 0))], [(b2, .cells (rowW (spr bs 0)) 100 (0, 0))], F, H]) ?_ ?_
      · exact ⟨_, _, _, ⟨16, by omega, by omega, rfl, rfl, rfl, rfl⟩, by (repeat (first | exact True.intro | (refine And.intro ?_ ?_; (· (try simp only [evT, lookT_hit, lookT_miss, Nat.reduceBEq]); (first | done | exact rfl))))), by first | ((repeat (first | with_reducible exact Among.nil _ | with_reducible exact Pick.head _ _ | with_reducible apply Pick.tail | with_reducible apply Among.cons)); done) | ((repeat (first | exact Among.nil _ | exact Pick.head _ _ | apply Pick.tail | apply Among.cons)); done)⟩
      · rintro q D L S ⟨i, h16, hi, rfl, rfl, rfl, rfl⟩
        refine code_seq_k fun N11 hN11 => ?_
        refine code_seq_k fun N12 hN12 => ?_
        refine reg_to ?_; (try refine run_end ?_)
        refine hN12 _ _ _ ?_; clear hN12
        refine code_if (fun hc => ?_) (fun hc => ?_)
        · have hc := of_decide_eq_true hc
          refine code_skip ?_
          refine hN11 _ _ _ ?_; clear hN11
          refine code_seq_k fun N13 hN13 => ?_
          refine code_block ?_
          refine code_seq_k fun N14 hN14 => ?_
          refine code_draw [[], [0], [0, 1], [0, 1, 2], [], [4], [4, 5], [4, 5, 6], [0, 1, 2, 3], [0, 1, 2, 3, 4, 5, 6, 7, 8]] [(0, false, []), (1, false, []), (2, false, []), (3, false, []), (4, false, []), (5, false, []), (6, false, []), (7, false, []), (8, true, [7]), (9, true, [])] (by kernel_rfl) (by kernel_rfl) ?_
          (try refine drawv_to ?_); (try refine draw_end ?_)
          refine draw_op fun K hK => ?_; (repeat refine pendv ?_); refine hK _ _ ?_; clear hK K
          (try refine draw_to ?_); (try refine draw_end ?_)
          refine draw_op fun K hK => ?_; (repeat refine pendv ?_); refine hK _ _ ?_; clear hK K
          (try refine draw_to ?_); (try refine draw_end ?_)
          refine hN14 _ _ _ ?_; clear hN14
          refine code_seq_k fun N15 hN15 => ?_
          refine reg_to ?_; (try refine run_end ?_)
          refine run_op fun K hK => ?_; refine calls_to (rotl_spec _ 7 (by decide) (by decide)) ?_; rintro v A ⟨rfl, rfl⟩; refine hK _ _ ?_; clear hK K
          (try refine run_to ?_); (try refine run_end ?_)
          refine run_op fun K hK => ?_; refine calls_to (rotl_spec _ 18 (by decide) (by decide)) ?_; rintro v A ⟨rfl, rfl⟩; refine hK _ _ ?_; clear hK K
          (try refine run_to ?_); (try refine run_end ?_)
          refine hN15 _ _ _ ?_; clear hN15
          refine code_seq_k fun N16 hN16 => ?_
          refine reg_to ?_; (try refine run_end ?_)
          refine run_op fun K hK => ?_; refine calls_to (rotl_spec _ 17 (by decide) (by decide)) ?_; rintro v A ⟨rfl, rfl⟩; refine hK _ _ ?_; clear hK K
          (try refine run_to ?_); (try refine run_end ?_)
          refine run_op fun K hK => ?_; refine calls_to (rotl_spec _ 19 (by decide) (by decide)) ?_; rintro v A ⟨rfl, rfl⟩; refine hK _ _ ?_; clear hK K
          (try refine run_to ?_); (try refine run_end ?_)
          refine hN16 _ _ _ ?_; clear hN16
          refine code_draw [[], [], [1], [1, 2], [1, 2, 3], [], [1, 2, 3, 4, 5], [], [7], [7, 8], [7, 8, 9], [1, 2, 3, 4, 5, 6, 7, 8, 9, 10], [], [1, 2, 3, 4, 5, 6, 7, 8, 9, 10, 11, 12], [0, 1, 2, 3, 4, 5, 6, 7, 8, 9, 10, 11, 12, 13], [0, 1, 2, 3, 4, 5, 6, 7, 8, 9, 10, 11, 12, 13, 14]] [(0, false, []), (1, false, []), (2, false, []), (3, false, []), (4, false, []), (5, false, []), (6, false, []), (7, false, []), (8, false, []), (9, false, []), (10, false, []), (11, false, []), (12, false, []), (13, false, []), (14, false, []), (15, true, [])] (by kernel_rfl) (by kernel_rfl) ?_
          (try refine drawv_to ?_); (try refine draw_end ?_)
          refine draw_op fun K hK => ?_; (first | ((with_reducible apply store_x); (· (repeat (first | with_reducible exact Upd.one | with_reducible apply Upd.next))); (· (first | (rw [ld_len]; omega) | (rw [List.length_replicate]; omega) | (rw [St.list_len]; omega) | (rw [odd_len]; omega) | (rw [spr_len]; omega) | (rw [mix_len _ _ _ (by omega)]; omega)))) | ((with_reducible apply store_w); (· (repeat (first | with_reducible exact Upd.one | with_reducible apply Upd.next))); (· (first | (rw [ld_len]; omega) | (rw [List.length_replicate]; omega) | (rw [St.list_len]; omega) | (rw [odd_len]; omega) | (rw [spr_len]; omega) | (rw [mix_len _ _ _ (by omega)]; omega))))); (repeat refine pendv ?_); refine hK _ _ ?_; clear hK K
          (try refine draw_to ?_); (try refine draw_end ?_)
          refine hN13 _ _ _ ?_; clear hN13
          rw [show 0 + i * 1 = i from by omega, show 0 + ((i : Int) - 16).toNat * 1 = i - 16 from by omega, show 0 + ((i : Int) - 15).toNat * 1 = i - 15 from by omega, show 0 + ((i : Int) - 7).toNat * 1 = i - 7 from by omega, show 0 + ((i : Int) - 2).toNat * 1 = i - 2 from by omega]
          have e : (spr bs i).set i (nxt (spr bs i) i) = spr bs (i + 1) := by simp only [spr]; rw [if_neg (by omega)]
          refine code_less (L' := [(5, .int .i64 i), (2, .pointer (some ⟨b2, 0, none⟩)), (3, .pointer (some ⟨b3, 0, none⟩))])
            (S' := [[(b3, .cells (rowW ((spr bs i).set i (nxt (spr bs i) i))) 100 (0, 0))], [(b2, .cells (rowW (spr bs 0)) 100 (0, 0))], F, H]) (by (repeat (first | exact True.intro | (refine And.intro ?_ ?_; (· (try simp only [evT, lookT_hit, lookT_miss, Nat.reduceBEq]); (first | done | exact rfl)))))) (by first | ((repeat (first | with_reducible exact Among.nil _ | with_reducible exact Pick.head _ _ | with_reducible apply Pick.tail | with_reducible apply Among.cons)); done) | ((repeat (first | exact Among.nil _ | exact Pick.head _ _ | apply Pick.tail | apply Among.cons)); done)) ?_
          rw [e]
          refine reg_to ?_; (try refine run_end ?_)
          exact again ⟨i + 1, by omega, by omega, rfl, rfl, rfl, rfl⟩
        · have hc := of_decide_eq_false hc
          refine code_exit ?_; try simp only [Cont.then, Cont.block, Cont.noGoto, reduceIte, Nat.reduceEqDiff]
          refine hN9 _ _ _ ?_; clear hN9
          obtain rfl : i = 64 := by omega
          refine code_seq_k fun N17 hN17 => ?_
          refine code_reg ?_
          refine run_op fun K hK => ?_
          refine load_rw (by (repeat (first | with_reducible exact Lies.one | with_reducible apply Lies.next))) (spr_len _ _) ?_
          refine hK _ _ ?_; clear hK K
          refine run_op fun K hK => ?_
          refine store_rw (by (repeat (first | with_reducible exact Upd.one | with_reducible apply Upd.next))) (spr_len _ _) (spr_len _ _) ?_
          refine hK _ _ ?_; clear hK K
          (try refine run_to ?_); (try refine run_end ?_)
          refine hN17 _ _ _ ?_; clear hN17
          refine code_back ?_
          refine ⟨_, by simp only [marksOf, List.map_cons, List.map_nil]; (repeat (first | with_reducible exact Take.nil _ | with_reducible exact Pick.head _ _ | with_reducible apply Pick.tail | with_reducible apply Take.cons)), ?_⟩; simp only [resW, withV, lookT_hit, lookT_miss, Nat.reduceBEq]; refine load_rw (by (repeat (first | with_reducible exact Lies.one | with_reducible apply Lies.next))) (spr_len _ _) ?_; exact ⟨[H], ⟨rfl, rfl⟩, by first | ((repeat (first | with_reducible exact Among.nil _ | with_reducible exact Pick.head _ _ | with_reducible apply Pick.tail | with_reducible apply Among.cons)); done) | ((repeat (first | exact Among.nil _ | exact Pick.head _ _ | apply Pick.tail | apply Among.cons)); done)⟩

end Go.Proofs.YtlcbaijjjphmjaaDoor

/- The state behind a block. Conditions: as each says. -/
set_option linter.unusedSimpArgs false
set_option linter.unusedVariables false
namespace Go.Proofs.YtlcbaijjjphmjaaDoor
open Go Go.Ost Go.Sha

set_option maxHeartbeats 4000000 in
theorem step_spec {tg : TypeId} (G H : Chunk) (m : Nat × Nat) (hG : (1, Obj.cells (rowW odd) tg m) ∈ G) (b e : Nat) (s : St) (r : List Value) (a : Option Addr) (cap : Nat) (hcap : 64 ≤ cap) (bs : List UInt8) (hb : bs.length = 64) (h : Rd 1 [H] a 64 (bs.map b8)) :
    Meets Tryd.prog 43 [.pointer (some ⟨b, 0, none⟩), .slice a 64 cap] [G, H, [(b, .cells (rowX s.list r) e (0, 0))]]
      fun v A => v = .tuple #[] ∧ A = [G, H, [(b, .cells (rowX (Go.Sha.step odd s bs).list r) e (0, 0))]] := by
  refine spec_intro Tryd.func43 rfl (by kernel_rfl) (by rw [Tryd.ntmps43]; simp) fun F => ?_; rw [Tryd.ntmps43, Tryd.results43]
  refine code_seq_k fun N1 hN1 => ?_
  refine reg_to ?_; (try refine run_end ?_)
  refine run_op fun K hK => ?_; refine calls_to (spread_spec H a cap hcap bs hb h) ?_; rintro v A ⟨rfl, rfl⟩; refine hK _ _ ?_; clear hK K
  (try refine run_to ?_); (try refine run_end ?_)
  refine run_op fun K hK => ?_; refine alloc_new fun b4 => ?_; (try simp only [Value.cells]); refine hK _ _ ?_; clear hK K
  refine run_op fun K hK => ?_
  refine store_rw (l := spr bs 0) (l' := spr bs 64) (by (repeat (first | exact Upd.one | apply Upd.next))) (spr_len _ _) (spr_len _ _) ?_
  refine hK _ _ ?_; clear hK K
  (try refine run_to ?_); (try refine run_end ?_)
  refine hN1 _ _ _ ?_; clear hN1
  refine code_seq_k fun N2 hN2 => ?_
  refine code_draw [[], [0], [0, 1], [0, 1, 2], [], [4], [4, 5], [4, 5, 6], [], [8], [8, 9], [8, 9, 10], [], [12], [12, 13], [12, 13, 14], [], [16], [16, 17], [16, 17, 18], [], [20], [20, 21], [20, 21, 22], [], [24], [24, 25], [24, 25, 26], [], [28], [28, 29], [28, 29, 30], [0, 1, 2, 3], [0, 1, 2, 3, 4, 5, 6, 7, 32], [0, 1, 2, 3, 4, 5, 6, 7, 8, 9, 10, 11, 32, 33], [0, 1, 2, 3, 4, 5, 6, 7, 8, 9, 10, 11, 12, 13, 14, 15, 32, 33, 34], [0, 1, 2, 3, 4, 5, 6, 7, 8, 9, 10, 11, 12, 13, 14, 15, 16, 17, 18, 19, 32, 33, 34, 35], [0, 1, 2, 3, 4, 5, 6, 7, 8, 9, 10, 11, 12, 13, 14, 15, 16, 17, 18, 19, 20, 21, 22, 23, 32, 33, 34, 35, 36], [0, 1, 2, 3, 4, 5, 6, 7, 8, 9, 10, 11, 12, 13, 14, 15, 16, 17, 18, 19, 20, 21, 22, 23, 24, 25, 26, 27, 32, 33, 34, 35, 36, 37], [0, 1, 2, 3, 4, 5, 6, 7, 8, 9, 10, 11, 12, 13, 14, 15, 16, 17, 18, 19, 20, 21, 22, 23, 24, 25, 26, 27, 28, 29, 30, 31, 32, 33, 34, 35, 36, 37, 38]] [(0, false, []), (1, false, []), (2, false, []), (3, false, []), (4, false, []), (5, false, []), (6, false, []), (7, false, []), (8, false, []), (9, false, []), (10, false, []), (11, false, []), (12, false, []), (13, false, []), (14, false, []), (15, false, []), (16, false, []), (17, false, []), (18, false, []), (19, false, []), (20, false, []), (21, false, []), (22, false, []), (23, false, []), (24, false, []), (25, false, []), (26, false, []), (27, false, []), (28, false, []), (29, false, []), (30, false, []), (31, false, []), (32, true, [7, 11, 15, 19, 23, 27, 31]), (33, true, [11, 15, 19, 23, 27, 31]), (34, true, [15, 19, 23, 27, 31]), (35, true, [19, 23, 27, 31]), (36, true, [23, 27, 31]), (37, true, [27, 31]), (38, true, [31]), (39, true, [])] (by kernel_rfl) (by kernel_rfl) ?_
  (try refine drawv_to ?_); (try refine draw_end ?_)
  refine draw_op fun K hK => ?_; (repeat refine pendv ?_); refine hK _ _ ?_; clear hK K
  (try refine drawv_to ?_); (try refine draw_end ?_)
  refine draw_op fun K hK => ?_; (repeat refine pendv ?_); refine hK _ _ ?_; clear hK K
  (try refine drawv_to ?_); (try refine draw_end ?_)
  refine draw_op fun K hK => ?_; (repeat refine pendv ?_); refine hK _ _ ?_; clear hK K
  (try refine drawv_to ?_); (try refine draw_end ?_)
  refine draw_op fun K hK => ?_; (repeat refine pendv ?_); refine hK _ _ ?_; clear hK K
  (try refine drawv_to ?_); (try refine draw_end ?_)
  refine draw_op fun K hK => ?_; (repeat refine pendv ?_); refine hK _ _ ?_; clear hK K
  (try refine drawv_to ?_); (try refine draw_end ?_)
  refine draw_op fun K hK => ?_; (repeat refine pendv ?_); refine hK _ _ ?_; clear hK K
  (try refine drawv_to ?_); (try refine draw_end ?_)
  refine draw_op fun K hK => ?_; (repeat refine pendv ?_); refine hK _ _ ?_; clear hK K
  (try refine drawv_to ?_); (try refine draw_end ?_)
  refine draw_op fun K hK => ?_; (repeat refine pendv ?_); refine hK _ _ ?_; clear hK K
  (try refine drawv_to ?_); (try refine draw_end ?_)
  refine hN2 _ _ _ ?_; clear hN2
  refine code_seq_k fun N3 hN3 => ?_
  refine code_seq_k fun N4 hN4 => ?_
  refine reg_to ?_; (try refine run_end ?_)
  refine hN4 _ _ _ ?_; clear hN4
  refine code_block ?_
  refine code_loop (fun q D L S => ∃ i : Nat, i ≤ 64 ∧ q = 64 - i ∧ D = [] ∧ L = [(55, .int .i64 i), (5, b32 (turns odd (spr bs 64) i s).a), (6, b32 (turns odd (spr bs 64) i s).b), (7, b32 (turns odd (spr bs 64) i s).c), (8, b32 (turns odd (spr bs 64) i s).d), (9, b32 (turns odd (spr bs 64) i s).e), (10, b32 (turns odd (spr bs 64) i s).f), (11, b32 (turns odd (spr bs 64) i s).g), (12, b32 (turns odd (spr bs 64) i s).h), (0, .pointer (some ⟨b, 0, none⟩)), (4, .pointer (some ⟨b4, 0, none⟩))] ∧
    S = [F, [(b4, .cells (rowW (spr bs 64)) 100 (0, 0))], G, H, [(b, .cells (rowX s.list r) e (0, 0))]]) ?_ ?_
  · exact ⟨_, _, _, ⟨0, by omega, rfl, rfl, rfl, rfl⟩, by (repeat (first | exact True.intro | (refine And.intro ?_ ?_; (· (try simp only [evT, lookT_hit, lookT_miss, Nat.reduceBEq]); (first | done | exact rfl))))), by first | ((repeat (first | with_reducible exact Among.nil _ | with_reducible exact Pick.head _ _ | with_reducible apply Pick.tail | with_reducible apply Among.cons)); done) | ((repeat (first | exact Among.nil _ | exact Pick.head _ _ | apply Pick.tail | apply Among.cons)); done)⟩
  · rintro q D L S ⟨i, hi, rfl, rfl, rfl, rfl⟩
    refine code_seq_k fun N5 hN5 => ?_
    refine reg_to ?_; (try refine run_end ?_)
    refine hN5 _ _ _ ?_; clear hN5
    refine code_seq_k fun N6 hN6 => ?_
    refine code_if (fun hc => ?_) (fun hc => ?_)
    · have hc := of_decide_eq_true hc
      refine code_skip ?_
      refine hN6 _ _ _ ?_; clear hN6
      generalize hst : turns odd (spr bs 64) i s = st
      refine code_seq_k fun N7 hN7 => ?_
      refine code_block ?_
      refine code_seq_k fun N8 hN8 => ?_
      refine reg_to ?_; (try refine run_end ?_)
      refine hN8 _ _ _ ?_; clear hN8
      refine code_seq_k fun N9 hN9 => ?_
      refine reg_to ?_; (try refine run_end ?_)
      refine run_op fun K hK => ?_; refine calls_to (rotl_spec _ 6 (by decide) (by decide)) ?_; rintro v A ⟨rfl, rfl⟩; refine hK _ _ ?_; clear hK K
      (try refine run_to ?_); (try refine run_end ?_)
      refine run_op fun K hK => ?_; refine calls_to (rotl_spec _ 11 (by decide) (by decide)) ?_; rintro v A ⟨rfl, rfl⟩; refine hK _ _ ?_; clear hK K
      (try refine run_to ?_); (try refine run_end ?_)
      refine run_op fun K hK => ?_; refine calls_to (rotl_spec _ 25 (by decide) (by decide)) ?_; rintro v A ⟨rfl, rfl⟩; refine hK _ _ ?_; clear hK K
      (try refine run_to ?_); (try refine run_end ?_)
      refine hN9 _ _ _ ?_; clear hN9
      refine code_seq_k fun N10 hN10 => ?_
      refine reg_to ?_; (try refine run_end ?_)
      refine hN10 _ _ _ ?_; clear hN10
      refine code_seq_k fun N11 hN11 => ?_
      refine code_draw [[], [], [0, 1], [], [0, 1, 2, 3], [], [5], [5, 6], [0, 1, 2, 3, 4, 5, 6, 7], [], [9], [9, 10], [0, 1, 2, 3, 4, 5, 6, 7, 8, 9, 10, 11], [0, 1, 2, 3, 4, 5, 6, 7, 8, 9, 10, 11, 12]] [(0, false, []), (1, false, []), (2, false, []), (3, false, []), (4, false, []), (5, false, []), (6, false, []), (7, false, []), (8, false, []), (9, false, []), (10, false, []), (11, false, []), (12, false, []), (13, true, [])] (by kernel_rfl) (by kernel_rfl) ?_
      (try refine drawv_to ?_); (try refine draw_end ?_)
      refine draw_op fun K hK => ?_; (repeat refine pendv ?_); refine hK _ _ ?_; clear hK K
      (try refine drawv_to ?_); (try refine draw_end ?_)
      refine hN11 _ _ _ ?_; clear hN11
      refine code_seq_k fun N12 hN12 => ?_
      refine reg_to ?_; (try refine run_end ?_)
      refine run_op fun K hK => ?_; refine calls_to (rotl_spec _ 2 (by decide) (by decide)) ?_; rintro v A ⟨rfl, rfl⟩; refine hK _ _ ?_; clear hK K
      (try refine run_to ?_); (try refine run_end ?_)
      refine run_op fun K hK => ?_; refine calls_to (rotl_spec _ 13 (by decide) (by decide)) ?_; rintro v A ⟨rfl, rfl⟩; refine hK _ _ ?_; clear hK K
      (try refine run_to ?_); (try refine run_end ?_)
      refine run_op fun K hK => ?_; refine calls_to (rotl_spec _ 22 (by decide) (by decide)) ?_; rintro v A ⟨rfl, rfl⟩; refine hK _ _ ?_; clear hK K
      (try refine run_to ?_); (try refine run_end ?_)
      refine hN12 _ _ _ ?_; clear hN12
      refine code_seq_k fun N13 hN13 => ?_
      refine reg_to ?_; (try refine run_end ?_)
      refine hN13 _ _ _ ?_; clear hN13
      refine reg_to ?_; (try refine run_end ?_)
      rw [show 0 + i * 1 = i from by omega, BitVec.add_assoc _ (rot 2 st.a ^^^ rot 13 st.a ^^^ rot 22 st.a) _]
      subst hst
      refine hN7 _ _ _ ?_; clear hN7
      refine reg_to ?_; (try refine run_end ?_)
      exact again ⟨i + 1, by omega, rfl, rfl, rfl, rfl⟩
    · have hc := of_decide_eq_false hc
      refine code_exit ?_; try simp only [Cont.then, Cont.block, Cont.noGoto, reduceIte, Nat.reduceEqDiff]
      refine hN3 _ _ _ ?_; clear hN3
      obtain rfl : i = 64 := by omega
      generalize hv : turns odd (spr bs 64) 64 s = v
      refine code_seq_k fun N14 hN14 => ?_
      refine reg_to ?_; (try refine run_end ?_)
      refine run_op fun K hK => ?_
      rw [build_w8 rfl]
      refine hK _ _ ?_; clear hK K
      (try refine run_to ?_); (try refine run_end ?_)
      refine hN14 _ _ _ ?_; clear hN14
      refine code_block ?_
      refine code_loop (fun q D L S => ∃ i : Nat, i ≤ 8 ∧ q = 8 - i ∧ D = [] ∧ L = [(130, .int .i64 i), (129, .agg (rowW v.list)), (0, .pointer (some ⟨b, 0, none⟩))] ∧
        S = [F, G, H, [(b, .cells (rowX (mix s v i) r) e (0, 0))]]) ?_ ?_
      · exact ⟨_, _, _, ⟨0, by omega, rfl, rfl, rfl, rfl⟩, by (repeat (first | exact True.intro | (refine And.intro ?_ ?_; (· (try simp only [evT, lookT_hit, lookT_miss, Nat.reduceBEq]); (first | done | exact rfl))))), by first | ((repeat (first | with_reducible exact Among.nil _ | with_reducible exact Pick.head _ _ | with_reducible apply Pick.tail | with_reducible apply Among.cons)); done) | ((repeat (first | exact Among.nil _ | exact Pick.head _ _ | apply Pick.tail | apply Among.cons)); done)⟩
      · rintro q D L S ⟨i, hi, rfl, rfl, rfl, rfl⟩
        refine code_seq_k fun N15 hN15 => ?_
        refine reg_to ?_; (try refine run_end ?_)
        refine hN15 _ _ _ ?_; clear hN15
        refine code_seq_k fun N16 hN16 => ?_
        refine code_if (fun hc => ?_) (fun hc => ?_)
        · have hc := of_decide_eq_true hc
          refine code_skip ?_
          refine hN16 _ _ _ ?_; clear hN16
          refine code_seq_k fun N17 hN17 => ?_
          refine code_block ?_
          refine code_seq_k fun N18 hN18 => ?_
          refine reg_to ?_; (try refine run_end ?_)
          refine run_op fun K hK => ?_
          rw [index_w (by omega) (by omega) (St.list_len v)]
          refine hK _ _ ?_; clear hK K
          (try refine run_to ?_); (try refine run_end ?_)
          refine hN18 _ _ _ ?_; clear hN18
          refine code_draw [[], [], [0], [0, 1, 2], [0, 1, 2, 3], [], [0, 1, 2, 3, 4, 5], [0], [0, 1, 2, 3, 4, 5, 6, 7], [0, 1, 2, 3, 4, 5, 6, 7, 8]] [(0, false, []), (1, false, []), (2, false, []), (3, false, []), (4, false, []), (5, false, []), (6, false, []), (7, false, []), (8, false, []), (9, true, [])] (by kernel_rfl) (by kernel_rfl) ?_
          (try refine drawv_to ?_); (try refine draw_end ?_)
          refine draw_op fun K hK => ?_; (first | ((with_reducible apply store_x); (· (repeat (first | with_reducible exact Upd.one | with_reducible apply Upd.next))); (· (first | (rw [ld_len]; omega) | (rw [List.length_replicate]; omega) | (rw [St.list_len]; omega) | (rw [odd_len]; omega) | (rw [spr_len]; omega) | (rw [mix_len _ _ _ (by omega)]; omega)))) | ((with_reducible apply store_w); (· (repeat (first | with_reducible exact Upd.one | with_reducible apply Upd.next))); (· (first | (rw [ld_len]; omega) | (rw [List.length_replicate]; omega) | (rw [St.list_len]; omega) | (rw [odd_len]; omega) | (rw [spr_len]; omega) | (rw [mix_len _ _ _ (by omega)]; omega))))); (repeat refine pendv ?_); refine hK _ _ ?_; clear hK K
          (try refine drawv_to ?_); (try refine draw_end ?_)
          rw [show 0 + i * 1 = i from by omega, mix_next s v i (by omega)]
          refine hN17 _ _ _ ?_; clear hN17
          refine reg_to ?_; (try refine run_end ?_)
          exact again ⟨i + 1, by omega, rfl, rfl, rfl, rfl⟩
        · have hc := of_decide_eq_false hc
          refine code_exit ?_; try simp only [Cont.then, Cont.block, Cont.noGoto, reduceIte, Nat.reduceEqDiff]
          obtain rfl : i = 8 := by omega
          subst hv
          exact ret_none_n [G, H, [(b, .cells (rowX (mix s (turns odd (spr bs 64) 64 s) 8) r) e (0, 0))]] ⟨rfl, rfl⟩ (by first | ((repeat (first | with_reducible exact Among.nil _ | with_reducible exact Pick.head _ _ | with_reducible apply Pick.tail | with_reducible apply Among.cons)); done) | ((repeat (first | exact Among.nil _ | exact Pick.head _ _ | apply Pick.tail | apply Among.cons)); done))

end Go.Proofs.YtlcbaijjjphmjaaDoor

/- Bytes of words and of numbers. Conditions: as each says. -/
set_option linter.unusedSimpArgs false
set_option linter.unusedVariables false
namespace Go.Proofs.YtlcbaijjjphmjaaDoor
open Go Go.Ost Go.Sha

theorem bytes_spec (b e : Nat) (m : Nat × Nat) (s : St) (r : List Value) :
    Meets Tryd.prog 44 [.pointer (some ⟨b, 0, none⟩)] [[(b, .cells (rowX s.list r) e m)]] (New8 5 s.bytes [[(b, .cells (rowX s.list r) e m)]]) := by
  refine spec_intro Tryd.func44 rfl (by kernel_rfl) (by rw [Tryd.ntmps44]; simp) fun F => ?_; rw [Tryd.ntmps44, Tryd.results44]
  refine code_seq_k fun N1 hN1 => ?_
  refine reg_to ?_; (try refine run_end ?_)
  refine hN1 _ _ _ ?_; clear hN1
  refine code_seq_k fun N2 hN2 => ?_
  refine reg_to ?_; (try refine run_end ?_)
  refine hN2 _ _ _ ?_; clear hN2
  refine code_seq_k fun N3 hN3 => ?_
  refine code_seq_k fun N4 hN4 => ?_
  refine reg_to ?_; (try refine run_end ?_)
  refine hN4 _ _ _ ?_; clear hN4
  refine code_block ?_
  refine code_nil ?_
  refine code_loop (fun q D L S => ∃ (i : Nat) (C : Chunk) (a : Option Addr) (cap : Nat), i ≤ 8 ∧ Own8 5 C a (4 * i) cap ((s.list.take i).flatMap bytes4) ∧ q = 8 - i ∧ D = [] ∧ L = [(7, .int .i64 i), (6, .pointer (some ⟨b, 0, none⟩)), (3, .slice a (4 * i) cap)] ∧ S = [C, F, [(b, .cells (rowX s.list r) e m)]]) ?_ ?_
  · exact ⟨_, _, _, ⟨0, [], none, 0, by omega, own_nil, rfl, rfl, rfl, rfl⟩, by (repeat (first | exact True.intro | (refine And.intro ?_ ?_; (· (try simp only [evT, lookT_hit, lookT_miss, Nat.reduceBEq]); (first | done | exact rfl))))), by first | ((repeat (first | with_reducible exact Among.nil _ | with_reducible exact Pick.head _ _ | with_reducible apply Pick.tail | with_reducible apply Among.cons)); done) | ((repeat (first | exact Among.nil _ | exact Pick.head _ _ | apply Pick.tail | apply Among.cons)); done)⟩
  · rintro q D L S ⟨i, C, a, cap, hi, ho, rfl, rfl, rfl, rfl⟩
    refine code_seq_k fun N5 hN5 => ?_
    refine reg_to ?_; (try refine run_end ?_)
    refine hN5 _ _ _ ?_; clear hN5
    refine code_seq_k fun N6 hN6 => ?_
    refine code_if (fun hc => ?_) (fun hc => ?_)
    · have hc := of_decide_eq_true hc
      refine code_skip ?_
      refine hN6 _ _ _ ?_; clear hN6
      refine code_seq_k fun N7 hN7 => ?_
      refine code_block ?_
      refine code_seq_k fun N8 hN8 => ?_
      refine regv_to ?_; (try refine run_end ?_)
      refine hN8 _ _ _ ?_; clear hN8
      refine reg_to ?_; (try refine run_end ?_)
      refine run_op fun K hK => ?_; refine build8 ([_, _, _, _]) (by decide) rfl (rfl) (fun b1 C1 ho1 => ?_); refine hK _ _ ?_; clear hK K
      refine run_op fun K hK => ?_; refine app8 (ho) (by (repeat (first | with_reducible exact Pick.head _ _ | with_reducible apply Pick.tail))) (ho1.rd (by (repeat (first | with_reducible assumption | with_reducible exact List.mem_cons_self .. | with_reducible apply List.mem_cons_of_mem)))) (by omega) (fun C2 a2 cap2 ho2 => ?_); refine hK _ _ ?_; clear hK K
      rw [bytes4_eq, show 0 + i * 1 = i from by omega, ← bytes_next s i (by omega)] at ho2
      (try refine run_to ?_); (try refine run_end ?_)
      refine hN7 _ _ _ ?_; clear hN7
      refine reg_to ?_; (try refine run_end ?_)
      exact again ⟨i + 1, C2, a2, cap2, by omega, ho2, rfl, rfl, rfl, rfl⟩
    · have hc := of_decide_eq_false hc
      refine code_exit ?_; try simp only [Cont.then, Cont.block, Cont.noGoto, reduceIte, Nat.reduceEqDiff]
      refine hN3 _ _ _ ?_; clear hN3
      obtain rfl : i = 8 := by omega
      refine code_seq_k fun N9 hN9 => ?_
      refine reg_to ?_; (try refine run_end ?_)
      refine hN9 _ _ _ ?_; clear hN9
      refine code_back ?_
      refine back_tmp ([C, [(b, .cells (rowX s.list r) e m)]]) ?_; exact ⟨_, _, _, rfl, ho, rfl⟩

theorem long_spec (n : Nat) : Meets Tryd.prog 48 [.int .u64 n] [] (New8 5 (be 8 n) []) := by
  refine spec_intro Tryd.func48 rfl (by kernel_rfl) (by rw [Tryd.ntmps48]; simp) fun F => ?_; rw [Tryd.ntmps48, Tryd.results48]
  refine code_seq_k fun N1 hN1 => ?_
  refine reg_to ?_; (try refine run_end ?_)
  refine hN1 _ _ _ ?_; clear hN1
  refine code_seq_k fun N2 hN2 => ?_
  refine reg_to ?_; (try refine run_end ?_)
  refine hN2 _ _ _ ?_; clear hN2
  refine code_seq_k fun N3 hN3 => ?_
  refine code_seq_k fun N4 hN4 => ?_
  refine reg_to ?_; (try refine run_end ?_)
  refine hN4 _ _ _ ?_; clear hN4
  refine code_block ?_
  refine code_nil ?_
  refine code_loop (fun q D L S => ∃ (i : Nat) (C : Chunk) (a : Option Addr) (cap : Nat), i ≤ 8 ∧ Own8 5 C a i cap ((be 8 n).take i) ∧ q = 8 - i ∧ D = [] ∧ L = [(5, .int .i64 i), (0, .int .u64 n), (3, .slice a i cap)] ∧ S = [C, F]) ?_ ?_
  · exact ⟨_, _, _, ⟨0, [], none, 0, by omega, own_nil, rfl, rfl, rfl, rfl⟩, by (repeat (first | exact True.intro | (refine And.intro ?_ ?_; (· (try simp only [evT, lookT_hit, lookT_miss, Nat.reduceBEq]); (first | done | exact rfl))))), by first | ((repeat (first | with_reducible exact Among.nil _ | with_reducible exact Pick.head _ _ | with_reducible apply Pick.tail | with_reducible apply Among.cons)); done) | ((repeat (first | exact Among.nil _ | exact Pick.head _ _ | apply Pick.tail | apply Among.cons)); done)⟩
  · rintro q D L S ⟨i, C, a, cap, hi, ho, rfl, rfl, rfl, rfl⟩
    refine code_seq_k fun N5 hN5 => ?_
    refine reg_to ?_; (try refine run_end ?_)
    refine hN5 _ _ _ ?_; clear hN5
    refine code_seq_k fun N6 hN6 => ?_
    refine code_if (fun hc => ?_) (fun hc => ?_)
    · have hc := of_decide_eq_true hc
      refine code_skip ?_
      refine hN6 _ _ _ ?_; clear hN6
      refine code_seq_k fun N7 hN7 => ?_
      refine code_block ?_
      refine code_seq_k fun N8 hN8 => ?_
      refine reg_to ?_; (try refine run_end ?_)
      refine hN8 _ _ _ ?_; clear hN8
      refine reg_to ?_; (try refine run_end ?_)
      have e : Value.int .u8 (IntKind.u8.wrap ((n : Int) / 2 ^ (8 * (7 - (i : Int))).toNat)) = b8 (UInt8.ofNat (n / 256 ^ (8 - 1 - i))) := by
        rw [show (8 * (7 - (i : Int))).toNat = 8 * (8 - 1 - i) from by omega, shift8, wrap8_mod]; rfl
      rw [e]
      refine run_op fun K hK => ?_; refine build8 ([_]) (by decide) rfl (rfl) (fun b1 C1 ho1 => ?_); refine hK _ _ ?_; clear hK K
      refine run_op fun K hK => ?_; refine app8 (ho) (by (repeat (first | with_reducible exact Pick.head _ _ | with_reducible apply Pick.tail))) (ho1.rd (by (repeat (first | with_reducible assumption | with_reducible exact List.mem_cons_self .. | with_reducible apply List.mem_cons_of_mem)))) (by omega) (fun C2 a2 cap2 ho2 => ?_); refine hK _ _ ?_; clear hK K
      rw [← be_next 8 n i (by omega)] at ho2
      (try refine run_to ?_); (try refine run_end ?_)
      refine hN7 _ _ _ ?_; clear hN7
      refine reg_to ?_; (try refine run_end ?_)
      exact again ⟨i + 1, C2, a2, cap2, by omega, ho2, rfl, rfl, rfl, rfl⟩
    · have hc := of_decide_eq_false hc
      refine code_exit ?_; try simp only [Cont.then, Cont.block, Cont.noGoto, reduceIte, Nat.reduceEqDiff]
      refine hN3 _ _ _ ?_; clear hN3
      obtain rfl : i = 8 := by omega
      refine code_seq_k fun N9 hN9 => ?_
      refine reg_to ?_; (try refine run_end ?_)
      refine hN9 _ _ _ ?_; clear hN9
      refine code_back ?_
      refine back_tmp ([C]) ?_; exact ⟨_, _, _, rfl, ho, rfl⟩

theorem ends_spec (n : Nat) (hn : n < 2305843009213693952) : Meets Tryd.prog 42 [.int .u64 n] [] (New8 5 (pad n) []) := by
  refine spec_intro Tryd.func42 rfl (by kernel_rfl) (by rw [Tryd.ntmps42]; simp) fun F => ?_; rw [Tryd.ntmps42, Tryd.results42]
  refine code_seq_k fun N1 hN1 => ?_
  refine reg_to ?_; (try refine run_end ?_)
  refine hN1 _ _ _ ?_; clear hN1
  refine code_seq_k fun N2 hN2 => ?_
  refine reg_to ?_; (try refine run_end ?_)
  refine run_op fun K hK => ?_; refine build8 ([128]) (by decide) rfl (rfl) (fun b1 C1 ho1 => ?_); refine hK _ _ ?_; clear hK K
  (try refine run_to ?_); (try refine run_end ?_)
  refine hN2 _ _ _ ?_; clear hN2
  refine code_seq_k fun N3 hN3 => ?_
  refine code_block ?_
  refine code_loop (fun q D L S => ∃ (i : Nat) (C : Chunk) (a : Option Addr) (cap : Nat), i ≤ zeros n ∧ Own8 5 C a (1 + i) cap (128 :: List.replicate i 0) ∧ q = zeros n - i ∧ D = [] ∧ L = [(0, .int .u64 n), (3, .slice a (1 + i) cap)] ∧ S = [C, F]) ?_ ?_
  · exact ⟨_, _, _, ⟨0, C1, _, _, by omega, ho1, rfl, rfl, rfl, rfl⟩, by (repeat (first | exact True.intro | (refine And.intro ?_ ?_; (· (try simp only [evT, lookT_hit, lookT_miss, Nat.reduceBEq]); (first | done | exact rfl))))), by first | ((repeat (first | with_reducible exact Among.nil _ | with_reducible exact Pick.head _ _ | with_reducible apply Pick.tail | with_reducible apply Among.cons)); done) | ((repeat (first | exact Among.nil _ | exact Pick.head _ _ | apply Pick.tail | apply Among.cons)); done)⟩
  · rintro q D L S ⟨i, C, a, cap, hi, ho, rfl, rfl, rfl, rfl⟩
    have hz : zeros n ≤ 63 := by unfold zeros; omega
    refine code_seq_k fun N4 hN4 => ?_
    refine code_seq_k fun N5 hN5 => ?_
    refine reg_to ?_; (try refine run_end ?_)
    refine hN5 _ _ _ ?_; clear hN5
    refine code_if (fun hc => ?_) (fun hc => ?_)
    · have hc := bne_iff_ne.1 hc
      have hlt : i < zeros n := by simp only [zeros] at hi ⊢; omega
      refine code_skip ?_
      refine hN4 _ _ _ ?_; clear hN4
      refine code_block ?_
      refine reg_to ?_; (try refine run_end ?_)
      refine run_op fun K hK => ?_; refine build8 ([0]) (by decide) rfl (rfl) (fun b1 C1 ho1 => ?_); refine hK _ _ ?_; clear hK K
      refine run_op fun K hK => ?_; refine app8 (ho) (by (repeat (first | with_reducible exact Pick.head _ _ | with_reducible apply Pick.tail))) (ho1.rd (by (repeat (first | with_reducible assumption | with_reducible exact List.mem_cons_self .. | with_reducible apply List.mem_cons_of_mem)))) (by omega) (fun C2 a2 cap2 ho2 => ?_); refine hK _ _ ?_; clear hK K
      rw [← rep_next] at ho2
      (try refine run_to ?_); (try refine run_end ?_)
      exact again ⟨i + 1, C2, a2, cap2, by omega, ho2, rfl, rfl, rfl, rfl⟩
    · have hc := bne_eq_false_iff_eq.1 hc
      refine code_exit ?_; try simp only [Cont.then, Cont.block, Cont.noGoto, reduceIte, Nat.reduceEqDiff]
      refine hN3 _ _ _ ?_; clear hN3
      obtain rfl : i = zeros n := by unfold zeros at *; omega
      refine code_seq_k fun N6 hN6 => ?_
      refine reg_to ?_; (try refine run_end ?_)
      rw [show (8 * (n : Int)) = ((8 * n : Nat) : Int) from by omega]
      refine run_op fun K hK => ?_; refine calls_to (long_spec (8 * n)) ?_; rintro v A ⟨C2, a2, cap2, rfl, ho2, rfl⟩; (try simp only [List.nil_append, List.cons_append]); refine hK _ _ ?_; clear hK K
      (try refine run_to ?_); (try refine run_end ?_)
      refine run_op fun K hK => ?_; refine app8 (ho) (by (repeat (first | with_reducible exact Pick.head _ _ | with_reducible apply Pick.tail))) (ho2.rd (by (repeat (first | with_reducible assumption | with_reducible exact List.mem_cons_self .. | with_reducible apply List.mem_cons_of_mem)))) (by rw [be_len]; omega) (fun C3 a3 cap3 ho3 => ?_); refine hK _ _ ?_; clear hK K
      (try refine run_to ?_); (try refine run_end ?_)
      refine hN6 _ _ _ ?_; clear hN6
      refine code_back ?_
      have e : 1 + zeros n + (be 8 (8 * n)).length = (pad n).length := by rw [pad_len, be_len]; omega
      rw [e] at ho3 ⊢
      refine back_tmp ([C3]) ?_; exact ⟨_, _, _, rfl, ho3, rfl⟩

theorem clone_spec (H : Chunk) (a : Option Addr) (cap : Nat) (bs : List UInt8) (hb : bs.length ≤ 70368744177664) (h : Rd 1 [H] a bs.length (bs.map b8)) :
    Meets Tryd.prog 32 [.slice a bs.length cap] [H] (New8 5 bs [H]) := by
  refine spec_intro Tryd.func32 rfl (by kernel_rfl) (by rw [Tryd.ntmps32]; simp) fun F => ?_; rw [Tryd.ntmps32, Tryd.results32]
  refine code_seq_k fun N1 hN1 => ?_
  refine reg_to ?_; (try refine run_end ?_)
  refine hN1 _ _ _ ?_; clear hN1
  refine code_seq_k fun N2 hN2 => ?_
  refine code_seq_k fun N3 hN3 => ?_
  refine reg_to ?_; (try refine run_end ?_)
  refine hN3 _ _ _ ?_; clear hN3
  refine code_if (fun hc => ?_) (fun hc => ?_)
  · have hbs : bs = [] := by
      cases bs with
      | nil => rfl
      | cons x l =>
        obtain ⟨_, _, _, _, _, h3, _⟩ := h.2 (by simp)
        subst h3; cases hc
    subst hbs
    refine code_seq_k fun N4 hN4 => ?_
    refine reg_to ?_; (try refine run_end ?_)
    refine hN4 _ _ _ ?_; clear hN4
    refine code_nil ?_
    refine code_back ?_
    refine back_tmp ([[], H]) ?_; exact ⟨_, _, _, rfl, own_nil, rfl⟩
  · refine code_skip ?_
    refine hN2 _ _ _ ?_; clear hN2
    refine code_seq_k fun N5 hN5 => ?_
    refine reg_to ?_; (try refine run_end ?_)
    refine run_op fun K hK => ?_; refine build8 ([]) (by decide) rfl (rfl) (fun b1 C1 ho1 => ?_); refine hK _ _ ?_; clear hK K
    (try refine run_to ?_); (try refine run_end ?_)
    refine run_op fun K hK => ?_; refine app8 (ho1) (by (repeat (first | with_reducible exact Pick.head _ _ | with_reducible apply Pick.tail))) (h.mem (by (repeat (first | with_reducible assumption | with_reducible exact List.mem_cons_self .. | with_reducible apply List.mem_cons_of_mem)))) (by omega) (fun C2 a2 cap2 ho2 => ?_); refine hK _ _ ?_; clear hK K
    rw [Nat.zero_add] at ho2 ⊢
    (try refine run_to ?_); (try refine run_end ?_)
    refine hN5 _ _ _ ?_; clear hN5
    refine code_back ?_
    refine back_tmp ([C2, H]) ?_; exact ⟨_, _, _, rfl, ho2, rfl⟩

theorem copy_spec (H : Chunk) (a : Option Addr) (cap : Nat) (bs : List UInt8) (hb : bs.length ≤ 70368744177664) (h : Rd 1 [H] a bs.length (bs.map b8)) :
    Meets Tryd.prog 24 [.slice a bs.length cap] [H] (New8 5 bs [H]) := by
  refine spec_intro Tryd.func24 rfl (by kernel_rfl) (by rw [Tryd.ntmps24]; simp) fun F => ?_; rw [Tryd.ntmps24, Tryd.results24]
  refine code_seq_k fun N1 hN1 => ?_
  refine reg_to ?_; (try refine run_end ?_)
  refine hN1 _ _ _ ?_; clear hN1
  refine code_seq_k fun N2 hN2 => ?_
  refine reg_to ?_; (try refine run_end ?_)
  refine run_op fun K hK => ?_; refine build8 ([]) (by decide) rfl (rfl) (fun b1 C1 ho1 => ?_); refine hK _ _ ?_; clear hK K
  (try refine run_to ?_); (try refine run_end ?_)
  refine run_op fun K hK => ?_; refine app8 (ho1) (by (repeat (first | with_reducible exact Pick.head _ _ | with_reducible apply Pick.tail))) (h.mem (by (repeat (first | with_reducible assumption | with_reducible exact List.mem_cons_self .. | with_reducible apply List.mem_cons_of_mem)))) (by omega) (fun C2 a2 cap2 ho2 => ?_); refine hK _ _ ?_; clear hK K
  rw [Nat.zero_add] at ho2 ⊢
  (try refine run_to ?_); (try refine run_end ?_)
  refine hN2 _ _ _ ?_; clear hN2
  refine code_back ?_
  refine back_tmp ([C2, H]) ?_; exact ⟨_, _, _, rfl, ho2, rfl⟩

theorem cut_spec (H : Chunk) (a : Option Addr) (cap n : Nat) (bs : List UInt8) (hcap : bs.length ≤ cap) (hn : n ≤ 70368744177664) (h : Rd 1 [H] a bs.length (bs.map b8)) :
    Meets Tryd.prog 7 [.slice a bs.length cap, .int .i64 n] [H] (New8 5 (bs.take n) [H]) := by
  refine spec_intro Tryd.func7 rfl (by kernel_rfl) (by rw [Tryd.ntmps7]; simp) fun F => ?_; rw [Tryd.ntmps7, Tryd.results7]
  refine code_seq_k fun N1 hN1 => ?_
  refine reg_to ?_; (try refine run_end ?_)
  refine hN1 _ _ _ ?_; clear hN1
  refine code_seq_k fun N2 hN2 => ?_
  refine reg_to ?_; (try refine run_end ?_)
  refine run_op fun K hK => ?_; refine build8 ([]) (by decide) rfl (rfl) (fun b1 C1 ho1 => ?_); refine hK _ _ ?_; clear hK K
  (try refine run_to ?_); (try refine run_end ?_)
  have hX : (if ((n : Int) < (bs.length : Int)) then (n : Int) else bs.length).toNat = (bs.take n).length := by rw [List.length_take]; split <;> omega
  rw [hX]
  have hr := rd_cut1 h (l := 0) (h' := (bs.take n).length) (m := cap) (by omega) (by rw [List.length_take]; omega) (by rw [List.length_take]; omega)
  rw [List.drop_zero, Nat.sub_zero, take_min] at hr
  refine run_op fun K hK => ?_; refine app8 (ho1) (by (repeat (first | with_reducible exact Pick.head _ _ | with_reducible apply Pick.tail))) (hr.mem (by (repeat (first | with_reducible assumption | with_reducible exact List.mem_cons_self .. | with_reducible apply List.mem_cons_of_mem)))) (by rw [List.length_take]; omega) (fun C2 a2 cap2 ho2 => ?_); refine hK _ _ ?_; clear hK K
  rw [Nat.zero_add] at ho2 ⊢
  (try refine run_to ?_); (try refine run_end ?_)
  refine hN2 _ _ _ ?_; clear hN2
  refine code_back ?_
  refine back_tmp ([C2, H]) ?_; exact ⟨_, _, _, rfl, ho2, rfl⟩

theorem same_spec (A : State) (a b : Option Addr) (n m c d : Nat) (xs ys : List UInt8) (h1 : Rd 1 A a n (xs.map b8)) (h2 : Rd 1 A b m (ys.map b8)) :
    Meets Tryd.prog 15 [.slice a n c, .slice b m d] A fun v A' => v = .bool (xs == ys) ∧ A' = A := by
  refine spec_intro Tryd.func15 rfl (by kernel_rfl) (by rw [Tryd.ntmps15]; simp) fun F => ?_; rw [Tryd.ntmps15, Tryd.results15]
  refine code_seq_k fun N1 hN1 => ?_
  refine reg_to ?_; (try refine run_end ?_)
  refine hN1 _ _ _ ?_; clear hN1
  refine code_seq_k fun N2 hN2 => ?_
  refine reg_to ?_; (try refine run_end ?_)
  refine run_op fun K hK => ?_
  refine conv_bytes_string (h1.next F) ?_
  refine hK _ _ ?_; clear hK K
  (try refine run_to ?_); (try refine run_end ?_)
  refine run_op fun K hK => ?_
  refine conv_bytes_string (h2.next F) ?_
  refine hK _ _ ?_; clear hK K
  (try refine run_to ?_); (try refine run_end ?_)
  refine hN2 _ _ _ ?_; clear hN2
  refine code_back ?_
  exact ret_tmp A (by (try simp only [evT, lookT_hit, lookT_miss, Nat.reduceBEq]); (first | done | exact rfl)) ⟨rfl, rfl⟩ (Among.refl _)

end Go.Proofs.YtlcbaijjjphmjaaDoor
