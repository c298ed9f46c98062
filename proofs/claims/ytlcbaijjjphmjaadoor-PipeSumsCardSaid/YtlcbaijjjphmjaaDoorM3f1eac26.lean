/- Texts in a row: the walk's rules and contracts, as each says. Conditions: as each says. -/
import Derived.Test.YtlcbaijjjphmjaaDoorM9470cb16
import Derived.Test.YtlcbaijjjphmjaaDoorM701a72d6
import Derived.Test.YtlcbaijjjphmjaaDoorMe4f3fe6f
/- Numbers of bytes; the document's step. Conditions: as each says. -/
set_option linter.unusedSimpArgs false
set_option linter.unusedVariables false
namespace Go.Proofs.YtlcbaijjjphmjaaDoor
open Go Go.Ost Go.Sha

theorem num_spec (H : Chunk) (a : Option Addr) (len cap : Nat) (bs : List UInt8) (hm : len ≤ 4611686018427387904) (h : Rd 1 [H] a len (bs.map b8)) :
    Meets Tryd.prog 51 [.slice a len cap] [H] fun v A => v = .int .u64 (num bs) ∧ A = [H] := by
  have hl : bs.length = len := by have := h.1; simpa using this
  have hr := h.next
  refine spec_intro Tryd.func51 rfl (by kernel_rfl) (by rw [Tryd.ntmps51]; simp) fun F => ?_; rw [Tryd.ntmps51, Tryd.results51]
  have hr := hr F
  refine code_seq_k fun N1 hN1 => ?_
  refine reg_to ?_; (try refine run_end ?_)
  refine hN1 _ _ _ ?_; clear hN1
  refine code_seq_k fun N2 hN2 => ?_
  refine reg_to ?_; (try refine run_end ?_)
  refine hN2 _ _ _ ?_; clear hN2
  refine code_seq_k fun N3 hN3 => ?_
  refine code_seq_k fun N4 hN4 => ?_
  refine reg_to ?_; (try refine run_end ?_)
  refine hN4 _ _ _ ?_; clear hN4
  refine code_block ?_
  refine code_loop (fun q D L S => ∃ i : Nat, i ≤ len ∧ q = len - i ∧ D = [] ∧ L = [(8, .int .i64 i), (7, .int .i64 len), (6, .slice a len cap), (3, .int .u64 (num (bs.take i)))] ∧ S = [F, H]) ?_ ?_
  · exact ⟨_, _, _, ⟨0, by omega, rfl, rfl, rfl, rfl⟩, by (repeat (first | exact True.intro | (refine And.intro ?_ ?_; (· (try simp only [evT, lookT_hit, lookT_miss, Nat.reduceBEq]); (first | done | exact rfl))))), by first | ((repeat (first | with_reducible exact Among.nil _ | with_reducible exact Pick.head _ _ | with_reducible apply Pick.tail | with_reducible apply Among.cons)); done) | ((repeat (first | exact Among.nil _ | exact Pick.head _ _ | apply Pick.tail | apply Among.cons)); done)⟩
  · rintro q D L S ⟨i, hi, rfl, rfl, rfl, rfl⟩
    refine code_seq_k fun N5 hN5 => ?_
    refine reg_to ?_; (try refine run_end ?_)
    refine hN5 _ _ _ ?_; clear hN5
    refine code_seq_k fun N6 hN6 => ?_
    refine code_if (fun hc => ?_) (fun hc => ?_)
    · have hc := of_decide_eq_true hc
      refine code_skip ?_
      refine hN6 _ _ _ ?_; clear hN6
      refine code_seq_k fun N7 hN7 => ?_
      refine code_block ?_
      refine code_seq_k fun N8 hN8 => ?_
      refine code_reg ?_; (repeat ((with_reducible refine run_cons fun K hK => ?_); (try simp only [gos, gob, Nat.reduceBEq, if_true, reduceIte, reduceCtorEq, Nat.reduceLT, Nat.reduceEqDiff, Nat.reduceAdd, Nat.reduceSub, Int.reduceLT, Int.reduceLE, Int.reduceBEq, Int.reduceBNe, Int.reduceToNat, Int.reduceAdd, Int.reduceSub, Int.reduceMul, Int.reduceDiv, Int.reduceMod, Int.reducePow, Int.toNat_natCast, Nat.sub_zero]); (try (simp (disch := omega) only [gow, gobw, index_rd hr]; try simp only [gos, gob, Nat.reduceBEq, if_true, reduceIte, reduceCtorEq, Nat.reduceLT, Nat.reduceEqDiff, Nat.reduceAdd, Nat.reduceSub, Int.reduceLT, Int.reduceLE, Int.reduceBEq, Int.reduceBNe, Int.reduceToNat, Int.reduceAdd, Int.reduceSub, Int.reduceMul, Int.reduceDiv, Int.reduceMod, Int.reducePow, Int.toNat_natCast, Nat.sub_zero])); (first | (with_reducible refine hK _ _ ?_) | (refine rd_load8 hr (by omega) ?_; (with_reducible refine hK _ _ ?_)) | ((with_reducible apply load_box); (· (repeat (first | with_reducible exact Lies.one | with_reducible apply Lies.next))); (with_reducible refine hK _ _ ?_)) | ((with_reducible apply load_one); (· (repeat (first | with_reducible exact Lies.one | with_reducible apply Lies.next))); (· exact rfl); (with_reducible refine hK _ _ ?_))); clear hK K)); try ((with_reducible refine run_nil ?_); try simp only [Cont.then, Cont.block, Cont.noGoto, reduceIte, Nat.reduceEqDiff])
      refine hN8 _ _ _ ?_; clear hN8
      refine reg_to ?_; (try refine run_end ?_)
      have e : IntKind.u64.wrap (IntKind.u64.wrap (((num (bs.take i) : Nat) : Int) * 256) + ((bs.getD i 0).toNat : Int)) = (num (bs.take (i + 1)) : Int) := by
        rw [take_next bs i (by omega), num_snoc, show ((num (bs.take i) : Nat) : Int) * 256 = ((num (bs.take i) * 256 : Nat) : Int) from by omega, wrap64_mod, ← Int.natCast_add, wrap64_mod]
        congr 1
        omega
      rw [e]
      refine hN7 _ _ _ ?_; clear hN7
      refine reg_to ?_; (try refine run_end ?_)
      exact again ⟨i + 1, by omega, rfl, rfl, rfl, rfl⟩
    · have hc := of_decide_eq_false hc
      refine code_exit ?_; try simp only [Cont.then, Cont.block, Cont.noGoto, reduceIte, Nat.reduceEqDiff]
      refine hN3 _ _ _ ?_; clear hN3
      obtain rfl : i = len := by omega
      rw [← hl, List.take_length]
      refine code_seq_k fun N9 hN9 => ?_
      refine reg_to ?_; (try refine run_end ?_)
      refine hN9 _ _ _ ?_; clear hN9
      refine code_back ?_
      refine back_tmp [H] ?_; exact ⟨rfl, rfl⟩

set_option maxHeartbeats 4000000 in
theorem refstep_spec {tg : TypeId} (G H : Chunk) (m : Nat × Nat) (hG : (2, Obj.cells (rowW odd) tg m) ∈ G) (s : St) (a : Option Addr) (cap : Nat) (hcap : 64 ≤ cap) (bs : List UInt8) (hb : bs.length = 64) (h : Rd 1 [H] a 64 (bs.map b8)) :
    Meets Tryd.prog 45 [.agg (rowW s.list), .slice a 64 cap] [G, H]
      fun v A => v = .agg (rowW (Go.Sha.step odd s bs).list) ∧ A = [G, H] := by
  refine spec_intro Tryd.func45 rfl (by kernel_rfl) (by rw [Tryd.ntmps45]; simp) fun F => ?_; rw [Tryd.ntmps45, Tryd.results45]
  refine code_seq_k fun N1 hN1 => ?_
  refine reg_to ?_; (try refine run_end ?_)
  refine run_op fun K hK => ?_
  refine box_new fun b2 => ?_; rw [show (Value.agg (rowW s.list)).cells = rowW s.list from rfl]; refine hK _ _ ?_; clear hK K
  (try refine run_to ?_); (try refine run_end ?_)
  refine run_op fun K hK => ?_; refine alloc_new fun b4 => ?_; (try simp only [Value.cells]); refine hK _ _ ?_; clear hK K
  (try refine run_to ?_); (try refine run_end ?_)
  refine hN1 _ _ _ ?_; clear hN1
  refine code_seq_k fun N2 hN2 => ?_
  refine reg_to ?_; (try refine run_end ?_)
  refine run_op fun K hK => ?_; refine alloc_new fun b5 => ?_; (try simp only [Value.cells]); refine hK _ _ ?_; clear hK K
  (try refine run_to ?_); (try refine run_end ?_)
  refine hN2 _ _ _ ?_; clear hN2
  refine code_seq_k fun N3 hN3 => ?_
  refine code_seq_k fun N4 hN4 => ?_
  refine reg_to ?_; (try refine run_end ?_)
  refine hN4 _ _ _ ?_; clear hN4
  refine code_block ?_
  refine code_loop (fun q D L S => ∃ i : Nat, i ≤ 64 ∧ q = 64 - i ∧ D = [] ∧ L = [(6, .int .i64 i), (1, .slice a 64 cap), (5, .pointer (some ⟨b5, 0, none⟩)), (2, .pointer (some ⟨b2, 0, none⟩)), (4, .pointer (some ⟨b4, 0, none⟩))] ∧
    S = [[(b5, .cells (rowW (spr bs i)) 100 (0, 0))], F, G, H, [(b2, .cells (rowW s.list) 82 (0, 0))], [(b4, .cells (rowW (List.replicate 8 0)) 82 (0, 0))]]) ?_ ?_
  · exact ⟨_, _, _, ⟨0, by omega, rfl, rfl, rfl, rfl⟩, by (repeat (first | exact True.intro | (refine And.intro ?_ ?_; (· (try simp only [evT, lookT_hit, lookT_miss, Nat.reduceBEq]); (first | done | exact rfl))))), by first | ((repeat (first | with_reducible exact Among.nil _ | with_reducible exact Pick.head _ _ | with_reducible apply Pick.tail | with_reducible apply Among.cons)); done) | ((repeat (first | exact Among.nil _ | exact Pick.head _ _ | apply Pick.tail | apply Among.cons)); done)⟩
  · rintro q D L S ⟨i, hi, rfl, rfl, rfl, rfl⟩
    refine code_seq_k fun N5 hN5 => ?_
    refine code_seq_k fun N6 hN6 => ?_
    refine reg_to ?_; (try refine run_end ?_)
    refine hN6 _ _ _ ?_; clear hN6
    refine code_if (fun hc => ?_) (fun hc => ?_)
    · have hc := of_decide_eq_true hc
      refine code_skip ?_
      refine hN5 _ _ _ ?_; clear hN5
      refine code_seq_k fun N7 hN7 => ?_
      refine code_block ?_
      refine code_seq_k fun N8 hN8 => ?_
      refine code_seq_k fun N9 hN9 => ?_
      refine reg_to ?_; (try refine run_end ?_)
      refine hN9 _ _ _ ?_; clear hN9
      refine code_if (fun hc => ?_) (fun hc => ?_)
      · have hc := of_decide_eq_true hc
        refine code_seq_k fun N10 hN10 => ?_
        refine reg_to ?_; (try refine run_end ?_)
        refine run_op fun K hK => ?_; refine calls_to (num_spec H _ _ _ _ (by omega) (rd_cut1 h (l := (4 * (i : Int)).toNat) (h' := (4 * (i : Int) + 4).toNat) (m := cap) (by omega) (by omega) (by omega))) ?_; rintro v A ⟨rfl, rfl⟩; refine hK _ _ ?_; clear hK K
        refine run_op fun K hK => ?_
        have e : IntKind.u32.wrap ((num ((bs.drop (4 * (i : Int)).toNat).take ((4 * (i : Int) + 4).toNat - (4 * (i : Int)).toNat)) : Nat) : Int) = (wordAt bs (4 * i)).toNat := by
          rw [show (4 * (i : Int) + 4).toNat - (4 * (i : Int)).toNat = 4 from by omega, show (4 * (i : Int)).toNat = 4 * i from by omega, wrap32_mod, ← num4 bs (4 * i) (by omega)]
          rfl
        rw [e, show Value.int .u32 ((wordAt bs (4 * i)).toNat : Int) = b32 (wordAt bs (4 * i)) from rfl]
        refine hK _ _ ?_; clear hK K
        (try refine runv_to ?_); (try refine run_end ?_)
        have e : (spr bs i).set (0 + i * 1) (wordAt bs (4 * i)) = spr bs (i + 1) := by
          rw [show 0 + i * 1 = i from by omega]
          simp only [spr]; rw [if_pos (by omega)]
        rw [e]
        refine hN10 _ _ _ ?_; clear hN10
        refine code_exit ?_; try simp only [Cont.then, Cont.block, Cont.noGoto, reduceIte, Nat.reduceEqDiff]
        refine hN7 _ _ _ ?_; clear hN7
        refine reg_to ?_; (try refine run_end ?_)
        exact again ⟨i + 1, by omega, rfl, rfl, rfl, rfl⟩
      · have hc := of_decide_eq_false hc
        refine code_skip ?_
        refine hN8 _ _ _ ?_; clear hN8
        refine code_seq_k fun N11 hN11 => ?_
        refine code_draw [[], [0], [0, 1], [0, 1, 2], [0, 1, 2, 3], [], [5], [5, 6], [5, 6, 7], [0, 1, 2, 3, 4, 5, 6, 7, 8], [0, 1, 2, 3, 4, 5, 6, 7, 8, 9], [], [11], [11, 12], [11, 12, 13], [11, 12, 13, 14], [0, 1, 2, 3, 4, 5, 6, 7, 8, 9, 10, 11, 12, 13, 14, 15], [0, 1, 2, 3, 4, 5, 6, 7, 8, 9, 10, 11, 12, 13, 14, 15, 16]] [(0, false, []), (1, false, []), (2, false, []), (3, false, []), (5, false, []), (6, false, []), (7, false, []), (8, false, []), (11, false, []), (12, false, []), (13, false, []), (14, false, []), (15, false, []), (4, true, [8, 14]), (9, true, [14]), (10, false, []), (16, false, []), (17, true, [])] (by kernel_rfl) (by kernel_rfl) ?_
        (try refine drawv_to ?_); (try refine draw_end ?_)
        refine draw_op fun K hK => ?_; refine calls_to (turn_spec _ 7 (by decide)) ?_; rintro v A ⟨rfl, rfl⟩; (try simp only [List.nil_append, List.cons_append]); (repeat refine pendv ?_); refine hK _ _ ?_; clear hK K
        (try refine drawv_to ?_); (try refine draw_end ?_)
        refine draw_op fun K hK => ?_; refine calls_to (turn_spec _ 18 (by decide)) ?_; rintro v A ⟨rfl, rfl⟩; (try simp only [List.nil_append, List.cons_append]); (repeat refine pendv ?_); refine hK _ _ ?_; clear hK K
        (try refine drawv_to ?_); (try refine draw_end ?_)
        refine draw_op fun K hK => ?_; (repeat refine pendv ?_); refine hK _ _ ?_; clear hK K
        (try refine draw_to ?_); (try refine draw_end ?_)
        refine hN11 _ _ _ ?_; clear hN11
        refine code_seq_k fun N12 hN12 => ?_
        refine code_draw [[], [0], [0, 1], [0, 1, 2], [0, 1, 2, 3], [], [5], [5, 6], [5, 6, 7], [0, 1, 2, 3, 4, 5, 6, 7, 8], [0, 1, 2, 3, 4, 5, 6, 7, 8, 9], [], [11], [11, 12], [11, 12, 13], [11, 12, 13, 14], [0, 1, 2, 3, 4, 5, 6, 7, 8, 9, 10, 11, 12, 13, 14, 15], [0, 1, 2, 3, 4, 5, 6, 7, 8, 9, 10, 11, 12, 13, 14, 15, 16]] [(0, false, []), (1, false, []), (2, false, []), (3, false, []), (5, false, []), (6, false, []), (7, false, []), (8, false, []), (11, false, []), (12, false, []), (13, false, []), (14, false, []), (15, false, []), (4, true, [8, 14]), (9, true, [14]), (10, false, []), (16, false, []), (17, true, [])] (by kernel_rfl) (by kernel_rfl) ?_
        (try refine drawv_to ?_); (try refine draw_end ?_)
        refine draw_op fun K hK => ?_; refine calls_to (turn_spec _ 17 (by decide)) ?_; rintro v A ⟨rfl, rfl⟩; (try simp only [List.nil_append, List.cons_append]); (repeat refine pendv ?_); refine hK _ _ ?_; clear hK K
        (try refine drawv_to ?_); (try refine draw_end ?_)
        refine draw_op fun K hK => ?_; refine calls_to (turn_spec _ 19 (by decide)) ?_; rintro v A ⟨rfl, rfl⟩; (try simp only [List.nil_append, List.cons_append]); (repeat refine pendv ?_); refine hK _ _ ?_; clear hK K
        (try refine drawv_to ?_); (try refine draw_end ?_)
        refine draw_op fun K hK => ?_; (repeat refine pendv ?_); refine hK _ _ ?_; clear hK K
        (try refine draw_to ?_); (try refine draw_end ?_)
        refine hN12 _ _ _ ?_; clear hN12
        refine code_draw [[], [], [], [2], [2, 3], [2, 3, 4], [1, 2, 3, 4, 5], [], [1, 2, 3, 4, 5, 6, 7], [], [9], [9, 10], [9, 10, 11], [1, 2, 3, 4, 5, 6, 7, 8, 9, 10, 11, 12], [0, 1, 2, 3, 4, 5, 6, 7, 8, 9, 10, 11, 12, 13], [0, 1, 2, 3, 4, 5, 6, 7, 8, 9, 10, 11, 12, 13, 14]] [(0, false, []), (1, false, []), (2, false, []), (3, false, []), (4, false, []), (5, false, []), (6, false, []), (7, false, []), (8, false, []), (9, false, []), (10, false, []), (11, false, []), (12, false, []), (13, false, []), (14, false, []), (15, true, [])] (by kernel_rfl) (by kernel_rfl) ?_
        (try refine drawv_to ?_); (try refine draw_end ?_)
        refine draw_op fun K hK => ?_; (first | ((with_reducible apply store_x); (· (repeat (first | with_reducible exact Upd.one | with_reducible apply Upd.next))); (· (first | (rw [ld_len]; omega) | (rw [List.length_replicate]; omega) | (rw [St.list_len]; omega) | (rw [odd_len]; omega) | (rw [spr_len]; omega) | (rw [mix_len _ _ _ (by omega)]; omega)))) | ((with_reducible apply store_w); (· (repeat (first | with_reducible exact Upd.one | with_reducible apply Upd.next))); (· (first | (rw [ld_len]; omega) | (rw [List.length_replicate]; omega) | (rw [St.list_len]; omega) | (rw [odd_len]; omega) | (rw [spr_len]; omega) | (rw [mix_len _ _ _ (by omega)]; omega))))); (repeat refine pendv ?_); refine hK _ _ ?_; clear hK K
        (try refine draw_to ?_); (try refine draw_end ?_)
        rw [show 0 + i * 1 = i from by omega, show 0 + ((i : Int) - 16).toNat * 1 = i - 16 from by omega, show 0 + ((i : Int) - 15).toNat * 1 = i - 15 from by omega, show 0 + ((i : Int) - 7).toNat * 1 = i - 7 from by omega, show 0 + ((i : Int) - 2).toNat * 1 = i - 2 from by omega]
        refine hN7 _ _ _ ?_; clear hN7
        have e : (spr bs i).set i (s1 ((spr bs i).getD (i - 2) 0) + (spr bs i).getD (i - 7) 0 + s0 ((spr bs i).getD (i - 15) 0) + (spr bs i).getD (i - 16) 0) = spr bs (i + 1) := by
          simp only [spr]; rw [if_neg (by omega)]
          congr 1
          simp only [nxt]; ac_rfl
        refine code_less (L' := [(6, .int .i64 i), (1, .slice a 64 cap), (5, .pointer (some ⟨b5, 0, none⟩)), (2, .pointer (some ⟨b2, 0, none⟩)), (4, .pointer (some ⟨b4, 0, none⟩))])
          (S' := [[(b5, .cells (rowW ((spr bs i).set i (s1 ((spr bs i).getD (i - 2) 0) + (spr bs i).getD (i - 7) 0 + s0 ((spr bs i).getD (i - 15) 0) + (spr bs i).getD (i - 16) 0))) 100 (0, 0))], F, G, H, [(b2, .cells (rowW s.list) 82 (0, 0))], [(b4, .cells (rowW (List.replicate 8 0)) 82 (0, 0))]]) (by (repeat (first | exact True.intro | (refine And.intro ?_ ?_; (· (try simp only [evT, lookT_hit, lookT_miss, Nat.reduceBEq]); (first | done | exact rfl)))))) (by first | ((repeat (first | with_reducible exact Among.nil _ | with_reducible exact Pick.head _ _ | with_reducible apply Pick.tail | with_reducible apply Among.cons)); done) | ((repeat (first | exact Among.nil _ | exact Pick.head _ _ | apply Pick.tail | apply Among.cons)); done)) ?_
        rw [e]
        refine reg_to ?_; (try refine run_end ?_)
        exact again ⟨i + 1, by omega, rfl, rfl, rfl, rfl⟩
    · have hc := of_decide_eq_false hc
      refine code_exit ?_; try simp only [Cont.then, Cont.block, Cont.noGoto, reduceIte, Nat.reduceEqDiff]
      refine hN3 _ _ _ ?_; clear hN3
      obtain rfl : i = 64 := by omega
      refine code_seq_k fun N13 hN13 => ?_
      refine code_reg ?_
      refine run_op fun K hK => ?_
      refine load_rw (by (repeat (first | with_reducible exact Lies.one | with_reducible apply Lies.next))) (St.list_len _) ?_
      refine hK _ _ ?_; clear hK K
      refine run_op fun K hK => ?_; refine alloc_new fun b9 => ?_; (try simp only [Value.cells]); refine hK _ _ ?_; clear hK K
      refine run_op fun K hK => ?_
      refine store_rw (l := List.replicate 8 0) (l' := s.list) (by (repeat (first | exact Upd.one | apply Upd.next))) rfl rfl ?_
      refine hK _ _ ?_; clear hK K
      (try refine run_to ?_); (try refine run_end ?_)
      refine hN13 _ _ _ ?_; clear hN13
      refine code_seq_k fun N14 hN14 => ?_
      refine code_seq_k fun N15 hN15 => ?_
      refine reg_to ?_; (try refine run_end ?_)
      refine hN15 _ _ _ ?_; clear hN15
      refine code_block ?_
      refine code_loop (fun q D L S => ∃ i : Nat, i ≤ 64 ∧ q = 64 - i ∧ D = [] ∧ L = [(10, .int .i64 i), (5, .pointer (some ⟨b5, 0, none⟩)), (2, .pointer (some ⟨b2, 0, none⟩)), (4, .pointer (some ⟨b4, 0, none⟩)), (9, .pointer (some ⟨b9, 0, none⟩))] ∧
        S = [[(b9, .cells (rowW (turns odd (spr bs 64) i s).list) 82 (0, 0))], [(b5, .cells (rowW (spr bs 64)) 100 (0, 0))], F, G, H, [(b2, .cells (rowW s.list) 82 (0, 0))], [(b4, .cells (rowW (List.replicate 8 0)) 82 (0, 0))]]) ?_ ?_
      · exact ⟨_, _, _, ⟨0, by omega, rfl, rfl, rfl, rfl⟩, by (repeat (first | exact True.intro | (refine And.intro ?_ ?_; (· (try simp only [evT, lookT_hit, lookT_miss, Nat.reduceBEq]); (first | done | exact rfl))))), by first | ((repeat (first | with_reducible exact Among.nil _ | with_reducible exact Pick.head _ _ | with_reducible apply Pick.tail | with_reducible apply Among.cons)); done) | ((repeat (first | exact Among.nil _ | exact Pick.head _ _ | apply Pick.tail | apply Among.cons)); done)⟩
      · rintro q D L S ⟨i, hi, rfl, rfl, rfl, rfl⟩
        refine code_seq_k fun N16 hN16 => ?_
        refine code_seq_k fun N17 hN17 => ?_
        refine reg_to ?_; (try refine run_end ?_)
        refine hN17 _ _ _ ?_; clear hN17
        refine code_if (fun hc => ?_) (fun hc => ?_)
        · have hc := of_decide_eq_true hc
          refine code_skip ?_
          refine hN16 _ _ _ ?_; clear hN16
          have hnext : turns odd (spr bs 64) (i + 1) s = turn (odd.getD i 0) ((spr bs 64).getD i 0) (turns odd (spr bs 64) i s) := rfl
          generalize turns odd (spr bs 64) i s = st at hnext ⊢
          refine code_seq_k fun N18 hN18 => ?_
          refine code_block ?_
          refine code_seq_k fun N19 hN19 => ?_
          refine regv_to ?_; (try refine run_end ?_)
          refine hN19 _ _ _ ?_; clear hN19
          refine code_seq_k fun N20 hN20 => ?_
          refine code_draw [[], [0], [], [2], [], [2, 3, 4], [2, 3, 4, 5], [], [2, 3, 4, 5, 7], [2, 3, 4, 5, 6, 7, 8], [0, 1, 2, 3, 4, 5, 6, 7, 8, 9], [], [], [12], [11, 12, 13], [], [15], [], [17], [15, 16, 17, 18], [11, 12, 13, 14, 15, 16, 17, 18, 19], [0, 1, 2, 3, 4, 5, 6, 7, 8, 9, 10, 11, 12, 13, 14, 15, 16, 17, 18, 19, 20], [], [22], [22, 23], [0, 1, 2, 3, 4, 5, 6, 7, 8, 9, 10, 11, 12, 13, 14, 15, 16, 17, 18, 19, 20, 21, 22, 23, 24], [], [26], [26, 27], [0, 1, 2, 3, 4, 5, 6, 7, 8, 9, 10, 11, 12, 13, 14, 15, 16, 17, 18, 19, 20, 21, 22, 23, 24, 25, 26, 27, 28], [0, 1, 2, 3, 4, 5, 6, 7, 8, 9, 10, 11, 12, 13, 14, 15, 16, 17, 18, 19, 20, 21, 22, 23, 24, 25, 26, 27, 28, 29]] [(0, false, []), (1, false, []), (2, false, []), (4, false, []), (7, false, []), (11, false, []), (12, false, []), (13, false, []), (14, false, []), (15, false, []), (16, false, []), (17, false, []), (18, false, []), (19, false, []), (20, false, []), (22, false, []), (23, false, []), (24, false, []), (26, false, []), (27, false, []), (28, false, []), (3, true, [1, 13, 18, 24, 28]), (5, true, [1, 13, 18, 24, 28]), (6, false, []), (8, true, [1, 13, 18, 24, 28]), (9, false, []), (10, false, []), (21, false, []), (25, false, []), (29, false, []), (30, true, [])] (by kernel_rfl) (by kernel_rfl) ?_
          (try refine drawv_to ?_); (try refine draw_end ?_)
          refine draw_op fun K hK => ?_; refine calls_to (turn_spec _ 6 (by decide)) ?_; rintro v A ⟨rfl, rfl⟩; (try simp only [List.nil_append, List.cons_append]); (repeat refine pendv ?_); refine hK _ _ ?_; clear hK K
          (try refine drawv_to ?_); (try refine draw_end ?_)
          refine draw_op fun K hK => ?_; refine calls_to (turn_spec _ 11 (by decide)) ?_; rintro v A ⟨rfl, rfl⟩; (try simp only [List.nil_append, List.cons_append]); (repeat refine pendv ?_); refine hK _ _ ?_; clear hK K
          (try refine drawv_to ?_); (try refine draw_end ?_)
          refine draw_op fun K hK => ?_; refine calls_to (turn_spec _ 25 (by decide)) ?_; rintro v A ⟨rfl, rfl⟩; (try simp only [List.nil_append, List.cons_append]); (repeat refine pendv ?_); refine hK _ _ ?_; clear hK K
          (try refine drawv_to ?_); (try refine draw_end ?_)
          refine draw_op fun K hK => ?_; (repeat refine pendv ?_); refine hK _ _ ?_; clear hK K
          (try refine draw_to ?_); (try refine draw_end ?_)
          refine hN20 _ _ _ ?_; clear hN20
          refine code_seq_k fun N21 hN21 => ?_
          refine regv_to ?_; (try refine run_end ?_)
          refine hN21 _ _ _ ?_; clear hN21
          refine code_seq_k fun N22 hN22 => ?_
          refine code_draw [[], [0], [], [0, 1, 2], [0, 1, 2, 3], [], [0, 1, 2, 3, 5], [0, 1, 2, 3, 4, 5, 6], [], [], [9], [8, 9, 10], [], [], [13], [12, 13, 14], [8, 9, 10, 11, 12, 13, 14, 15], [], [17], [], [19], [17, 18, 19, 20], [8, 9, 10, 11, 12, 13, 14, 15, 16, 17, 18, 19, 20, 21], [0, 1, 2, 3, 4, 5, 6, 7, 8, 9, 10, 11, 12, 13, 14, 15, 16, 17, 18, 19, 20, 21, 22], [0, 1, 2, 3, 4, 5, 6, 7, 8, 9, 10, 11, 12, 13, 14, 15, 16, 17, 18, 19, 20, 21, 22, 23]] [(0, false, []), (2, false, []), (5, false, []), (8, false, []), (9, false, []), (10, false, []), (11, false, []), (12, false, []), (13, false, []), (14, false, []), (15, false, []), (16, false, []), (17, false, []), (18, false, []), (19, false, []), (20, false, []), (21, false, []), (22, false, []), (1, true, [10, 14, 18, 20]), (3, true, [10, 14, 18, 20]), (4, false, []), (6, true, [10, 14, 18, 20]), (7, false, []), (23, false, []), (24, true, [])] (by kernel_rfl) (by kernel_rfl) ?_
          (try refine drawv_to ?_); (try refine draw_end ?_)
          refine draw_op fun K hK => ?_; refine calls_to (turn_spec _ 2 (by decide)) ?_; rintro v A ⟨rfl, rfl⟩; (try simp only [List.nil_append, List.cons_append]); (repeat refine pendv ?_); refine hK _ _ ?_; clear hK K
          (try refine drawv_to ?_); (try refine draw_end ?_)
          refine draw_op fun K hK => ?_; refine calls_to (turn_spec _ 13 (by decide)) ?_; rintro v A ⟨rfl, rfl⟩; (try simp only [List.nil_append, List.cons_append]); (repeat refine pendv ?_); refine hK _ _ ?_; clear hK K
          (try refine drawv_to ?_); (try refine draw_end ?_)
          refine draw_op fun K hK => ?_; refine calls_to (turn_spec _ 22 (by decide)) ?_; rintro v A ⟨rfl, rfl⟩; (try simp only [List.nil_append, List.cons_append]); (repeat refine pendv ?_); refine hK _ _ ?_; clear hK K
          (try refine drawv_to ?_); (try refine draw_end ?_)
          refine draw_op fun K hK => ?_; (repeat refine pendv ?_); refine hK _ _ ?_; clear hK K
          (try refine draw_to ?_); (try refine draw_end ?_)
          refine hN22 _ _ _ ?_; clear hN22
          refine regv_to ?_; (try refine run_end ?_)
          refine run_op fun K hK => ?_
          rw [build_w8 rfl]
          refine hK _ _ ?_; clear hK K
          refine run_op fun K hK => ?_
          rw [show 0 + i * 1 = i from by omega]
          simp only [St.get0, St.get1, St.get2, St.get3, St.get4, St.get5, St.get6, St.get7]
          rw [turn_list]
          refine store_rw (l := st.list) (l' := (turn (odd.getD i 0) ((spr bs 64).getD i 0) st).list) (by (repeat (first | with_reducible exact Upd.one | with_reducible apply Upd.next))) (St.list_len _) (St.list_len _) ?_
          refine hK _ _ ?_; clear hK K
          (try refine run_to ?_); (try refine run_end ?_)
          rw [← hnext]
          refine hN18 _ _ _ ?_; clear hN18
          refine code_less (L' := [(10, .int .i64 i), (5, .pointer (some ⟨b5, 0, none⟩)), (2, .pointer (some ⟨b2, 0, none⟩)), (4, .pointer (some ⟨b4, 0, none⟩)), (9, .pointer (some ⟨b9, 0, none⟩))]) (S' := [[(b9, .cells (rowW (turns odd (spr bs 64) (i + 1) s).list) 82 (0, 0))], [(b5, .cells (rowW (spr bs 64)) 100 (0, 0))], F, G, H, [(b2, .cells (rowW s.list) 82 (0, 0))], [(b4, .cells (rowW (List.replicate 8 0)) 82 (0, 0))]]) (by (repeat (first | exact True.intro | (refine And.intro ?_ ?_; (· (try simp only [evT, lookT_hit, lookT_miss, Nat.reduceBEq]); (first | done | exact rfl)))))) (by (repeat (first | with_reducible exact Among.nil _ | with_reducible exact Pick.head _ _ | with_reducible apply Pick.tail | with_reducible apply Among.cons))) ?_
          refine reg_to ?_; (try refine run_end ?_)
          exact again ⟨i + 1, by omega, rfl, rfl, rfl, rfl⟩
        · have hc := of_decide_eq_false hc
          refine code_exit ?_; try simp only [Cont.then, Cont.block, Cont.noGoto, reduceIte, Nat.reduceEqDiff]
          refine hN14 _ _ _ ?_; clear hN14
          obtain rfl : i = 64 := by omega
          generalize hv : turns odd (spr bs 64) 64 s = v
          refine code_seq_k fun N23 hN23 => ?_
          refine code_seq_k fun N24 hN24 => ?_
          refine reg_to ?_; (try refine run_end ?_)
          refine hN24 _ _ _ ?_; clear hN24
          refine code_block ?_
          refine code_loop (fun q D L S => ∃ i : Nat, i ≤ 8 ∧ q = 8 - i ∧ D = [] ∧ L = [(165, .int .i64 i), (2, .pointer (some ⟨b2, 0, none⟩)), (4, .pointer (some ⟨b4, 0, none⟩)), (9, .pointer (some ⟨b9, 0, none⟩))] ∧
            S = [[(b2, .cells (rowW (mix s v i)) 82 (0, 0))], [(b9, .cells (rowW v.list) 82 (0, 0))], F, G, H, [(b4, .cells (rowW (List.replicate 8 0)) 82 (0, 0))]]) ?_ ?_
          · exact ⟨_, _, _, ⟨0, by omega, rfl, rfl, rfl, rfl⟩, by (repeat (first | exact True.intro | (refine And.intro ?_ ?_; (· (try simp only [evT, lookT_hit, lookT_miss, Nat.reduceBEq]); (first | done | exact rfl))))), by first | ((repeat (first | with_reducible exact Among.nil _ | with_reducible exact Pick.head _ _ | with_reducible apply Pick.tail | with_reducible apply Among.cons)); done) | ((repeat (first | exact Among.nil _ | exact Pick.head _ _ | apply Pick.tail | apply Among.cons)); done)⟩
          · rintro q D L S ⟨i, hi, rfl, rfl, rfl, rfl⟩
            refine code_seq_k fun N25 hN25 => ?_
            refine reg_to ?_; (try refine run_end ?_)
            refine hN25 _ _ _ ?_; clear hN25
            refine code_seq_k fun N26 hN26 => ?_
            refine code_if (fun hc => ?_) (fun hc => ?_)
            · have hc := of_decide_eq_true hc
              refine code_skip ?_
              refine hN26 _ _ _ ?_; clear hN26
              refine code_seq_k fun N27 hN27 => ?_
              refine code_block ?_
              refine code_seq_k fun N28 hN28 => ?_
              refine reg_to ?_; (try refine run_end ?_)
              refine hN28 _ _ _ ?_; clear hN28
              refine code_draw [[], [0], [0, 1], [], [3], [3, 4], [0, 1, 2, 3, 4, 5], [0, 1, 2, 3, 4, 5, 6], [0, 1, 2, 3, 4, 5, 6, 7]] [(0, false, []), (1, false, []), (2, false, []), (3, false, []), (4, false, []), (5, false, []), (6, false, []), (7, false, []), (8, true, [])] (by kernel_rfl) (by kernel_rfl) ?_
              (try refine drawv_to ?_); (try refine draw_end ?_)
              refine draw_op fun K hK => ?_; (first | ((with_reducible apply store_x); (· (repeat (first | with_reducible exact Upd.one | with_reducible apply Upd.next))); (· (first | (rw [ld_len]; omega) | (rw [List.length_replicate]; omega) | (rw [St.list_len]; omega) | (rw [odd_len]; omega) | (rw [spr_len]; omega) | (rw [mix_len _ _ _ (by omega)]; omega)))) | ((with_reducible apply store_w); (· (repeat (first | with_reducible exact Upd.one | with_reducible apply Upd.next))); (· (first | (rw [ld_len]; omega) | (rw [List.length_replicate]; omega) | (rw [St.list_len]; omega) | (rw [odd_len]; omega) | (rw [spr_len]; omega) | (rw [mix_len _ _ _ (by omega)]; omega))))); (repeat refine pendv ?_); refine hK _ _ ?_; clear hK K
              (try refine draw_to ?_); (try refine draw_end ?_)
              rw [show 0 + i * 1 = i from by omega, mix_next s v i (by omega)]
              refine hN27 _ _ _ ?_; clear hN27
              refine reg_to ?_; (try refine run_end ?_)
              exact again ⟨i + 1, by omega, rfl, rfl, rfl, rfl⟩
            · have hc := of_decide_eq_false hc
              refine code_exit ?_; try simp only [Cont.then, Cont.block, Cont.noGoto, reduceIte, Nat.reduceEqDiff]
              refine hN23 _ _ _ ?_; clear hN23
              obtain rfl : i = 8 := by omega
              subst hv
              refine code_seq_k fun N29 hN29 => ?_
              refine code_reg ?_
              refine run_op fun K hK => ?_
              refine load_rw (by (repeat (first | with_reducible exact Lies.one | with_reducible apply Lies.next))) (mix_len _ _ _ (by omega)) ?_
              refine hK _ _ ?_; clear hK K
              refine run_op fun K hK => ?_
              refine store_rw (l := List.replicate 8 0) (l' := mix s (turns odd (spr bs 64) 64 s) 8) (by (repeat (first | with_reducible exact Upd.one | with_reducible apply Upd.next))) List.length_replicate (mix_len _ _ _ (by omega)) ?_
              refine hK _ _ ?_; clear hK K
              (try refine run_to ?_); (try refine run_end ?_)
              refine hN29 _ _ _ ?_; clear hN29
              refine code_back ?_
              refine ⟨_, by simp only [marksOf, List.map_cons, List.map_nil]; (repeat (first | with_reducible exact Take.nil _ | with_reducible exact Pick.head _ _ | with_reducible apply Pick.tail | with_reducible apply Take.cons)), ?_⟩; simp only [resW, withV, lookT_hit, lookT_miss, Nat.reduceBEq]; refine load_rw (by (repeat (first | with_reducible exact Lies.one | with_reducible apply Lies.next))) (mix_len _ _ _ (by omega)) ?_; exact ⟨[G, H], ⟨rfl, rfl⟩, by first | ((repeat (first | with_reducible exact Among.nil _ | with_reducible exact Pick.head _ _ | with_reducible apply Pick.tail | with_reducible apply Among.cons)); done) | ((repeat (first | exact Among.nil _ | exact Pick.head _ _ | apply Pick.tail | apply Among.cons)); done)⟩

end Go.Proofs.YtlcbaijjjphmjaaDoor

/- The document's bytes, its state behind all blocks, its sum. Conditions: as each says. -/
set_option linter.unusedSimpArgs false
set_option linter.unusedVariables false
namespace Go.Proofs.YtlcbaijjjphmjaaDoor
open Go Go.Ost Go.Sha

theorem refbytes_spec (n k : Nat) (hn : n < 18446744073709551616) (hk : k ≤ 1000) : Meets Tryd.prog 46 [.int .u64 n, .int .i64 k] [] (New8 5 (be k n) []) := by
  refine spec_intro Tryd.func46 rfl (by kernel_rfl) (by rw [Tryd.ntmps46]; simp) fun F => ?_; rw [Tryd.ntmps46, Tryd.results46]
  refine code_seq_k fun N1 hN1 => ?_
  refine reg_to ?_; (try refine run_end ?_)
  refine hN1 _ _ _ ?_; clear hN1
  refine code_seq_k fun N2 hN2 => ?_
  refine reg_to ?_; (try refine run_end ?_)
  refine run_op fun K hK => ?_
  refine make8 (by omega) (fun b1 C1 ho1 => ?_)
  refine hK _ _ ?_; clear hK K
  (try refine run_to ?_); (try refine run_end ?_)
  refine hN2 _ _ _ ?_; clear hN2
  refine code_seq_k fun N3 hN3 => ?_
  refine code_seq_k fun N4 hN4 => ?_
  refine reg_to ?_; (try refine run_end ?_)
  refine hN4 _ _ _ ?_; clear hN4
  refine code_block ?_
  refine code_loop (fun q D L S => ∃ (i : Nat) (C : Chunk) (j : Int) (v : Nat), i ≤ k ∧ j = (k : Int) - 1 - i ∧ v = n / 256 ^ i ∧ Own8 5 C (some ⟨b1, 0, none⟩) k k (List.replicate (k - i) 0 ++ (be k n).drop (k - i)) ∧ q = k - i ∧ D = [] ∧ L = [(6, .int .i64 j), (0, .int .u64 (v : Int)), (5, .slice (some ⟨b1, 0, none⟩) k k)] ∧ S = [C, F]) ?_ ?_
  · refine ⟨_, _, _, ⟨0, C1, (k : Int) - 1, n, by omega, by omega, by simp, ?_, rfl, rfl, rfl, rfl⟩, by (repeat (first | exact True.intro | (refine And.intro ?_ ?_; (· (try simp only [evT, lookT_hit, lookT_miss, Nat.reduceBEq]); (first | done | exact rfl))))), by first | ((repeat (first | with_reducible exact Among.nil _ | with_reducible exact Pick.head _ _ | with_reducible apply Pick.tail | with_reducible apply Among.cons)); done) | ((repeat (first | exact Among.nil _ | exact Pick.head _ _ | apply Pick.tail | apply Among.cons)); done)⟩
    rw [Nat.sub_zero, List.drop_of_length_le (by rw [be_len]; omega), List.append_nil]
    exact ho1
  · rintro q D L S ⟨i, C, j, v, hi, hj, hv, ho, rfl, rfl, rfl, rfl⟩
    have hvn : v ≤ n := by rw [hv]; exact Nat.div_le_self _ _
    refine code_seq_k fun N5 hN5 => ?_
    refine code_seq_k fun N6 hN6 => ?_
    refine reg_to ?_; (try refine run_end ?_)
    refine hN6 _ _ _ ?_; clear hN6
    refine code_if (fun hc => ?_) (fun hc => ?_)
    · have hc := of_decide_eq_true hc
      refine code_skip ?_
      refine hN5 _ _ _ ?_; clear hN5
      refine code_seq_k fun N7 hN7 => ?_
      refine code_block ?_
      refine code_seq_k fun N8 hN8 => ?_
      refine reg_to ?_; (try refine run_end ?_)
      have e1 : Value.int .u8 ((v : Int) % 256) = b8 (UInt8.ofNat (n / 256 ^ i % 256)) := by
        simp only [b8, ← hv, UInt8.toNat_ofNat']; congr 1; omega
      have e2 : (⟨b1, 0 + j.toNat * 1, none⟩ : Addr) = elA (some ⟨b1, 0, none⟩) (k - 1 - i) := by
        simp only [elA, Option.getD_some, add_mk]; congr 1; omega
      refine run_op fun K hK => ?_
      rw [e1, e2]
      refine own_store8 ho (by (repeat (first | with_reducible exact Pick.head _ _ | with_reducible apply Pick.tail))) (by simp [be_len]; omega) (fun C2 ho2 => ?_)
      rw [be_back k n i (by omega)] at ho2
      refine hK _ _ ?_; clear hK K
      (try refine run_to ?_); (try refine run_end ?_)
      refine hN8 _ _ _ ?_; clear hN8
      refine reg_to ?_; (try refine run_end ?_)
      refine hN7 _ _ _ ?_; clear hN7
      refine reg_to ?_; (try refine run_end ?_)
      have hv2 : v / 256 = n / 256 ^ (i + 1) := by rw [hv, Nat.div_div_eq_div_mul, Nat.pow_succ]
      rw [show ((v : Int) / 256) = ((v / 256 : Nat) : Int) from by omega]
      exact again ⟨i + 1, C2, j - 1, v / 256, by omega, by omega, hv2, ho2, rfl, rfl, rfl, rfl⟩
    · have hc := of_decide_eq_false hc
      refine code_exit ?_; try simp only [Cont.then, Cont.block, Cont.noGoto, reduceIte, Nat.reduceEqDiff]
      refine hN3 _ _ _ ?_; clear hN3
      have e : List.replicate (k - i) 0 ++ (be k n).drop (k - i) = be k n := by rw [show k - i = 0 from by omega]; rfl
      rw [e] at ho
      refine code_seq_k fun N9 hN9 => ?_
      refine reg_to ?_; (try refine run_end ?_)
      refine hN9 _ _ _ ?_; clear hN9
      refine code_back ?_
      have e2 := be_len k n
      refine ret_tmp [C] (by (try simp only [evT, lookT_hit, lookT_miss, Nat.reduceBEq]); (first | done | exact rfl)) ⟨C, some ⟨b1, 0, none⟩, k, ?_, ?_, rfl⟩ (by first | ((repeat (first | with_reducible exact Among.nil _ | with_reducible exact Pick.head _ _ | with_reducible apply Pick.tail | with_reducible apply Among.cons)); done) | ((repeat (first | exact Among.nil _ | exact Pick.head _ _ | apply Pick.tail | apply Among.cons)); done))
      · rw [e2]
      · rw [e2]; exact ho

theorem first_spec : Meets Tryd.prog 35 [] [] fun v A => v = .agg (rowW first.list) ∧ A = [] := by
  refine spec_intro Tryd.func35 rfl (by kernel_rfl) (by rw [Tryd.ntmps35]; simp) fun F => ?_; rw [Tryd.ntmps35, Tryd.results35]
  refine code_seq_k fun N1 hN1 => ?_
  refine reg_to ?_; (try refine run_end ?_)
  refine run_op fun K hK => ?_; refine alloc_new fun b0 => ?_; (try simp only [Value.cells]); refine hK _ _ ?_; clear hK K
  (try refine run_to ?_); (try refine run_end ?_)
  refine hN1 _ _ _ ?_; clear hN1
  refine code_seq_k fun N2 hN2 => ?_
  refine reg_to ?_; (try refine run_end ?_)
  refine run_op fun K hK => ?_
  refine (build_w8 (κ := _) (a := 1779033703) (b := 3144134277) (c := 1013904242) (d := 2773480762) (e' := 1359893119) (f := 2600822924) (g := 528734635) (h' := 1541459225) rfl).mpr ?_
  refine hK _ _ ?_; clear hK K
  refine run_op fun K hK => ?_
  refine store_rw (l := List.replicate 8 0) (l' := first.list) (by (repeat (first | exact Upd.one | apply Upd.next))) List.length_replicate (St.list_len _) ?_
  refine hK _ _ ?_; clear hK K
  (try refine run_to ?_); (try refine run_end ?_)
  refine hN2 _ _ _ ?_; clear hN2
  refine code_back ?_
  refine ⟨_, by simp only [marksOf, List.map_cons, List.map_nil]; (repeat (first | with_reducible exact Take.nil _ | with_reducible exact Pick.head _ _ | with_reducible apply Pick.tail | with_reducible apply Take.cons)), ?_⟩; simp only [resW, withV, lookT_hit, lookT_miss, Nat.reduceBEq]; refine load_rw (by (repeat (first | with_reducible exact Lies.one | with_reducible apply Lies.next))) (St.list_len _) ?_; exact ⟨[], ⟨rfl, rfl⟩, by first | ((repeat (first | with_reducible exact Among.nil _ | with_reducible exact Pick.head _ _ | with_reducible apply Pick.tail | with_reducible apply Among.cons)); done) | ((repeat (first | exact Among.nil _ | exact Pick.head _ _ | apply Pick.tail | apply Among.cons)); done)⟩

theorem go_spec {tg : TypeId} (G H : Chunk) (m : Nat × Nat) (hG : (2, Obj.cells (rowW odd) tg m) ∈ G) (s : St) (a : Option Addr) (cap : Nat) (bs : List UInt8) (hb : bs.length ≤ 70368744177664) (hcap : bs.length ≤ cap) (h : Rd 1 [H] a bs.length (bs.map b8)) :
    Meets Tryd.prog 34 [.agg (rowW s.list), .slice a bs.length cap] [G, H]
      fun v A => ∃ a' c', v = .tuple #[.agg (rowW (whole s bs).list), .slice a' (bs.drop (64 * (bs.length / 64))).length c'] ∧ Rd 1 [H] a' (bs.drop (64 * (bs.length / 64))).length ((bs.drop (64 * (bs.length / 64))).map b8) ∧ A = [G, H] := by
  refine spec_intro Tryd.func34 rfl (by kernel_rfl) (by rw [Tryd.ntmps34]; simp) fun F => ?_; rw [Tryd.ntmps34, Tryd.results34]
  refine code_seq_k fun N1 hN1 => ?_
  refine reg_to ?_; (try refine run_end ?_)
  refine run_op fun K hK => ?_
  refine box_new fun b2 => ?_; rw [show (Value.agg (rowW s.list)).cells = rowW s.list from rfl]; refine hK _ _ ?_; clear hK K
  (try refine run_to ?_); (try refine run_end ?_)
  refine run_op fun K hK => ?_; refine alloc_new fun b4 => ?_; (try simp only [Value.cells]); refine hK _ _ ?_; clear hK K
  (try refine run_to ?_); (try refine run_end ?_)
  refine hN1 _ _ _ ?_; clear hN1
  refine code_seq_k fun N2 hN2 => ?_
  refine code_block ?_
  refine code_loop (fun q D L S => ∃ (i : Nat) (a' : Option Addr) (c' : Nat), 64 * i ≤ bs.length ∧ (bs.drop (64 * i)).length ≤ c' ∧ Rd 1 [H] a' (bs.drop (64 * i)).length ((bs.drop (64 * i)).map b8) ∧ q = bs.length - 64 * i ∧ D = [] ∧ L = [(1, .slice a' (bs.drop (64 * i)).length c'), (2, .pointer (some ⟨b2, 0, none⟩)), (4, .pointer (some ⟨b4, 0, none⟩))] ∧
    S = [F, G, H, [(b2, .cells (rowW (run i s bs).list) 82 (0, 0))], [(b4, .cells (rowW (List.replicate 8 0)) 82 (0, 0))]]) ?_ ?_
  · exact ⟨_, _, _, ⟨0, a, cap, by omega, hcap, h, rfl, rfl, rfl, rfl⟩, by (repeat (first | exact True.intro | (refine And.intro ?_ ?_; (· (try simp only [evT, lookT_hit, lookT_miss, Nat.reduceBEq]); (first | done | exact rfl))))), by first | ((repeat (first | with_reducible exact Among.nil _ | with_reducible exact Pick.head _ _ | with_reducible apply Pick.tail | with_reducible apply Among.cons)); done) | ((repeat (first | exact Among.nil _ | exact Pick.head _ _ | apply Pick.tail | apply Among.cons)); done)⟩
  · rintro q D L S ⟨i, a', c', hi, hc', hr, rfl, rfl, rfl, rfl⟩
    have hdl : (bs.drop (64 * i)).length = bs.length - 64 * i := List.length_drop
    refine code_seq_k fun N3 hN3 => ?_
    refine code_seq_k fun N4 hN4 => ?_
    refine reg_to ?_; (try refine run_end ?_)
    refine hN4 _ _ _ ?_; clear hN4
    refine code_if (fun hc => ?_) (fun hc => ?_)
    · have hc := of_decide_eq_true hc
      refine code_skip ?_
      refine hN3 _ _ _ ?_; clear hN3
      refine code_block ?_
      have hcut : Rd 1 [H] (cutA 1 a' 0 c') 64 (((bs.drop (64 * i)).take 64).map b8) := rd_cut1 hr (l := 0) (h' := 64) (m := c') (by omega) (by omega) (by omega)
      have e64 : (bs.drop (64 * i)).length - 64 = (bs.drop (64 * (i + 1))).length := by
        rw [List.length_drop, List.length_drop]; show bs.length - 64 * i - 64 = _; omega
      have hr2 : Rd 1 [H] (cutA 1 a' 64 c') (bs.drop (64 * (i + 1))).length ((bs.drop (64 * (i + 1))).map b8) := by
        have q := rd_cut1 hr (l := 64) (h' := (bs.drop (64 * i)).length) (m := c') (by omega) (Nat.le_refl _) hc'
        rw [List.drop_drop, show 64 * i + 64 = 64 * (i + 1) from by omega, List.take_of_length_le (by rw [List.length_drop]; omega)] at q
        rw [← e64]; exact q
      have hc2 : (bs.drop (64 * (i + 1))).length ≤ c' - 64 := by
        rw [List.length_drop]; show _ ≤ c' - 64; omega
      refine code_draw [[], [], [1], [0, 1, 2], [], [4], [0, 1, 2, 3], [0, 1, 2, 3, 4, 5, 6]] [(0, false, []), (1, false, []), (2, false, []), (4, false, []), (5, false, []), (3, true, []), (6, true, []), (7, true, [])] (by kernel_rfl) (by kernel_rfl) ?_
      refine draw_quiet (by simp only [List.getElem?_toArray, List.getElem?_cons_succ, List.getElem?_cons_zero]; rfl) fun K hK => ?_; (try simp only [gos, gob, Nat.reduceBEq, if_true, reduceIte, reduceCtorEq, Nat.reduceLT, Nat.reduceEqDiff, Nat.reduceAdd, Nat.reduceSub, Int.reduceLT, Int.reduceLE, Int.reduceBEq, Int.reduceBNe, Int.reduceToNat, Int.reduceAdd, Int.reduceSub, Int.reduceMul, Int.reduceDiv, Int.reduceMod, Int.reducePow, Int.toNat_natCast, Nat.sub_zero, goq]); (try (simp (disch := omega) only [gow, gobw]; try simp only [gos, gob, Nat.reduceBEq, if_true, reduceIte, reduceCtorEq, Nat.reduceLT, Nat.reduceEqDiff, Nat.reduceAdd, Nat.reduceSub, Int.reduceLT, Int.reduceLE, Int.reduceBEq, Int.reduceBNe, Int.reduceToNat, Int.reduceAdd, Int.reduceSub, Int.reduceMul, Int.reduceDiv, Int.reduceMod, Int.reducePow, Int.toNat_natCast, Nat.sub_zero, goq])); refine load_rw (by (repeat (first | with_reducible exact Lies.one | with_reducible apply Lies.next))) (St.list_len _) ?_; (with_reducible refine hK _ _ ?_); clear hK K
      (try refine draw_to ?_); (try refine draw_end ?_)
      refine draw_effect (by simp only [List.getElem?_toArray, List.getElem?_cons_succ, List.getElem?_cons_zero]; rfl) fun K hK => ?_; (try simp only [gos, gob, Nat.reduceBEq, if_true, reduceIte, reduceCtorEq, Nat.reduceLT, Nat.reduceEqDiff, Nat.reduceAdd, Nat.reduceSub, Int.reduceLT, Int.reduceLE, Int.reduceBEq, Int.reduceBNe, Int.reduceToNat, Int.reduceAdd, Int.reduceSub, Int.reduceMul, Int.reduceDiv, Int.reduceMod, Int.reducePow, Int.toNat_natCast, Nat.sub_zero, goq]); (try (simp (disch := omega) only [gow, gobw]; try simp only [gos, gob, Nat.reduceBEq, if_true, reduceIte, reduceCtorEq, Nat.reduceLT, Nat.reduceEqDiff, Nat.reduceAdd, Nat.reduceSub, Int.reduceLT, Int.reduceLE, Int.reduceBEq, Int.reduceBNe, Int.reduceToNat, Int.reduceAdd, Int.reduceSub, Int.reduceMul, Int.reduceDiv, Int.reduceMod, Int.reducePow, Int.toNat_natCast, Nat.sub_zero, goq])); refine calls_spec (refstep_spec G H m hG (run i s bs) (cutA 1 a' 0 c') (c' - 0) (by omega) ((bs.drop (64 * i)).take 64) (by rw [List.length_take]; omega) hcut) (by (repeat (first | with_reducible exact Take.nil _ | with_reducible exact Pick.head _ _ | with_reducible apply Pick.tail | with_reducible apply Take.cons))) ?_; rintro v A ⟨rfl, rfl⟩; (try simp only [List.nil_append, List.cons_append]); refine hK _ _ ?_; clear hK K
      rw [← run_next]
      (try refine draw_to ?_); (try refine draw_end ?_)
      refine draw_effect (by simp only [List.getElem?_toArray, List.getElem?_cons_succ, List.getElem?_cons_zero]; rfl) fun K hK => ?_; (try simp only [gos, gob, Nat.reduceBEq, if_true, reduceIte, reduceCtorEq, Nat.reduceLT, Nat.reduceEqDiff, Nat.reduceAdd, Nat.reduceSub, Int.reduceLT, Int.reduceLE, Int.reduceBEq, Int.reduceBNe, Int.reduceToNat, Int.reduceAdd, Int.reduceSub, Int.reduceMul, Int.reduceDiv, Int.reduceMod, Int.reducePow, Int.toNat_natCast, Nat.sub_zero, goq]); (try (simp (disch := omega) only [gow, gobw]; try simp only [gos, gob, Nat.reduceBEq, if_true, reduceIte, reduceCtorEq, Nat.reduceLT, Nat.reduceEqDiff, Nat.reduceAdd, Nat.reduceSub, Int.reduceLT, Int.reduceLE, Int.reduceBEq, Int.reduceBNe, Int.reduceToNat, Int.reduceAdd, Int.reduceSub, Int.reduceMul, Int.reduceDiv, Int.reduceMod, Int.reducePow, Int.toNat_natCast, Nat.sub_zero, goq])); refine store_rw (l := (run i s bs).list) (l' := (run (i + 1) s bs).list) (by (repeat (first | with_reducible exact Upd.one | with_reducible apply Upd.next))) (St.list_len _) (St.list_len _) ?_; refine hK _ _ ?_; clear hK K
      (try refine draw_to ?_); (try refine draw_end ?_)
      refine draw_op fun K hK => ?_; (repeat refine pend ?_); refine hK _ _ ?_; clear hK K
      (try refine draw_to ?_); (try refine draw_end ?_)
      rw [e64]
      exact again ⟨i + 1, _, _, by omega, hc2, hr2, rfl, rfl, rfl, rfl⟩
    · have hc := of_decide_eq_false hc
      refine code_exit ?_; try simp only [Cont.then, Cont.block, Cont.noGoto, reduceIte, Nat.reduceEqDiff]
      refine hN2 _ _ _ ?_; clear hN2
      have hi2 : i = bs.length / 64 := by omega
      subst hi2
      refine code_seq_k fun N5 hN5 => ?_
      refine code_reg ?_
      refine run_op fun K hK => ?_
      refine load_rw (by (repeat (first | with_reducible exact Lies.one | with_reducible apply Lies.next))) (St.list_len _) ?_
      refine hK _ _ ?_; clear hK K
      (try refine run_to ?_); (try refine run_end ?_)
      refine run_op fun K hK => ?_
      refine store_rw (l := List.replicate 8 0) (l' := (run (bs.length / 64) s bs).list) (by (repeat (first | with_reducible exact Upd.one | with_reducible apply Upd.next))) List.length_replicate (St.list_len _) ?_
      refine hK _ _ ?_; clear hK K
      (try refine run_to ?_); (try refine run_end ?_)
      refine hN5 _ _ _ ?_; clear hN5
      refine code_back ?_
      refine ⟨_, by simp only [marksOf, List.map_cons, List.map_nil]; (repeat (first | with_reducible exact Take.nil _ | with_reducible exact Pick.head _ _ | with_reducible apply Pick.tail | with_reducible apply Take.cons)), ?_⟩; simp only [resW, withV, lookT_hit, lookT_miss, Nat.reduceBEq]; refine load_rw (by (repeat (first | with_reducible exact Lies.one | with_reducible apply Lies.next))) (St.list_len _) ?_; exact ⟨[G, H], ⟨a', c', rfl, hr, rfl⟩, by first | ((repeat (first | with_reducible exact Among.nil _ | with_reducible exact Pick.head _ _ | with_reducible apply Pick.tail | with_reducible apply Among.cons)); done) | ((repeat (first | exact Among.nil _ | exact Pick.head _ _ | apply Pick.tail | apply Among.cons)); done)⟩

end Go.Proofs.YtlcbaijjjphmjaaDoor

/- The document's tail, a state's bytes, the sum. Conditions: as each says. -/
set_option linter.unusedSimpArgs false
set_option linter.unusedVariables false
namespace Go.Proofs.YtlcbaijjjphmjaaDoor
open Go Go.Ost Go.Sha

theorem tail_spec (n : Nat) (hn : n < 2305843009213693952) : Meets Tryd.prog 36 [.int .u64 n] [] (New8 5 (pad n) []) := by
  refine spec_intro Tryd.func36 rfl (by kernel_rfl) (by rw [Tryd.ntmps36]; simp) fun F => ?_; rw [Tryd.ntmps36, Tryd.results36]
  refine code_seq_k fun N1 hN1 => ?_
  refine reg_to ?_; (try refine run_end ?_)
  refine hN1 _ _ _ ?_; clear hN1
  refine code_seq_k fun N2 hN2 => ?_
  refine reg_to ?_; (try refine run_end ?_)
  refine run_op fun K hK => ?_; refine build8 ([128]) (by decide) rfl (rfl) (fun b1 C1 ho1 => ?_); refine hK _ _ ?_; clear hK K
  (try refine run_to ?_); (try refine run_end ?_)
  refine hN2 _ _ _ ?_; clear hN2
  refine code_seq_k fun N3 hN3 => ?_
  refine code_seq_k fun N4 hN4 => ?_
  refine reg_to ?_; (try refine run_end ?_)
  refine hN4 _ _ _ ?_; clear hN4
  refine code_block ?_
  refine code_loop (fun q D L S => ∃ (i : Nat) (C : Chunk) (a : Option Addr) (cap : Nat) (j : Int), i ≤ zeros n ∧ j = (n : Int) % 64 + 1 + i ∧ Own8 5 C a (1 + i) cap (128 :: List.replicate i 0) ∧ q = zeros n - i ∧ D = [] ∧ L = [(4, .int .u64 j), (0, .int .u64 n), (3, .slice a (1 + i) cap)] ∧ S = [C, F]) ?_ ?_
  · exact ⟨_, _, _, ⟨0, C1, _, _, (n : Int) % 64 + 1, by omega, by simp, ho1, rfl, rfl, rfl, rfl⟩, by (repeat (first | exact True.intro | (refine And.intro ?_ ?_; (· (try simp only [evT, lookT_hit, lookT_miss, Nat.reduceBEq]); (first | done | exact rfl))))), by first | ((repeat (first | with_reducible exact Among.nil _ | with_reducible exact Pick.head _ _ | with_reducible apply Pick.tail | with_reducible apply Among.cons)); done) | ((repeat (first | exact Among.nil _ | exact Pick.head _ _ | apply Pick.tail | apply Among.cons)); done)⟩
  · rintro q D L S ⟨i, C, a, cap, j, hi, hj, ho, rfl, rfl, rfl, rfl⟩
    have hz : zeros n ≤ 63 := by unfold zeros; omega
    refine code_seq_k fun N5 hN5 => ?_
    refine code_seq_k fun N6 hN6 => ?_
    refine reg_to ?_; (try refine run_end ?_)
    refine hN6 _ _ _ ?_; clear hN6
    refine code_if (fun hc => ?_) (fun hc => ?_)
    · have hc := bne_iff_ne.1 hc
      have hlt : i < zeros n := by simp only [zeros] at hi ⊢; omega
      refine code_skip ?_
      refine hN5 _ _ _ ?_; clear hN5
      refine code_seq_k fun N7 hN7 => ?_
      refine code_block ?_
      refine reg_to ?_; (try refine run_end ?_)
      refine run_op fun K hK => ?_; refine build8 ([0]) (by decide) rfl (rfl) (fun b1 C1 ho1 => ?_); refine hK _ _ ?_; clear hK K
      refine run_op fun K hK => ?_; refine app8 (ho) (by (repeat (first | with_reducible exact Pick.head _ _ | with_reducible apply Pick.tail))) (ho1.rd (by (repeat (first | with_reducible assumption | with_reducible exact List.mem_cons_self .. | with_reducible apply List.mem_cons_of_mem)))) (by omega) (fun C2 a2 cap2 ho2 => ?_); refine hK _ _ ?_; clear hK K
      rw [← rep_next] at ho2
      (try refine run_to ?_); (try refine run_end ?_)
      refine hN7 _ _ _ ?_; clear hN7
      refine reg_to ?_; (try refine run_end ?_)
      exact again ⟨i + 1, C2, a2, cap2, j + 1, by omega, by omega, ho2, rfl, rfl, rfl, rfl⟩
    · have hc := bne_eq_false_iff_eq.1 hc
      refine code_exit ?_; try simp only [Cont.then, Cont.block, Cont.noGoto, reduceIte, Nat.reduceEqDiff]
      refine hN3 _ _ _ ?_; clear hN3
      obtain rfl : i = zeros n := by unfold zeros at *; omega
      refine code_seq_k fun N8 hN8 => ?_
      refine reg_to ?_; (try refine run_end ?_)
      rw [show ((n : Int) * 8) = ((8 * n : Nat) : Int) from by omega]
      refine run_op fun K hK => ?_; refine calls_to (refbytes_spec (8 * n) 8 (by omega) (by omega)) ?_; rintro v A ⟨C2, a2, cap2, rfl, ho2, rfl⟩; (try simp only [List.nil_append, List.cons_append]); refine hK _ _ ?_; clear hK K
      (try refine run_to ?_); (try refine run_end ?_)
      refine run_op fun K hK => ?_; refine app8 (ho) (by (repeat (first | with_reducible exact Pick.head _ _ | with_reducible apply Pick.tail))) (ho2.rd (by (repeat (first | with_reducible assumption | with_reducible exact List.mem_cons_self .. | with_reducible apply List.mem_cons_of_mem)))) (by rw [be_len]; omega) (fun C3 a3 cap3 ho3 => ?_); refine hK _ _ ?_; clear hK K
      (try refine run_to ?_); (try refine run_end ?_)
      refine hN8 _ _ _ ?_; clear hN8
      refine code_back ?_
      have e : 1 + zeros n + (be 8 (8 * n)).length = (pad n).length := by rw [pad_len, be_len]; omega
      rw [e] at ho3 ⊢
      refine back_tmp ([C3]) ?_; exact ⟨_, _, _, rfl, ho3, rfl⟩

theorem out_spec (s : St) : Meets Tryd.prog 37 [.agg (rowW s.list)] [] (New8 5 s.bytes []) := by
  refine spec_intro Tryd.func37 rfl (by kernel_rfl) (by rw [Tryd.ntmps37]; simp) fun F => ?_; rw [Tryd.ntmps37, Tryd.results37]
  refine code_seq_k fun N1 hN1 => ?_
  refine reg_to ?_; (try refine run_end ?_)
  refine run_op fun K hK => ?_
  refine box_new fun b1 => ?_; rw [show (Value.agg (rowW s.list)).cells = rowW s.list from rfl]; refine hK _ _ ?_; clear hK K
  (try refine run_to ?_); (try refine run_end ?_)
  refine hN1 _ _ _ ?_; clear hN1
  refine code_seq_k fun N2 hN2 => ?_
  refine reg_to ?_; (try refine run_end ?_)
  refine hN2 _ _ _ ?_; clear hN2
  refine code_seq_k fun N3 hN3 => ?_
  refine code_seq_k fun N4 hN4 => ?_
  refine code_reg ?_
  refine run_op fun K hK => ?_
  refine load_rw (by (repeat (first | with_reducible exact Lies.one | with_reducible apply Lies.next))) (St.list_len _) ?_
  refine hK _ _ ?_; clear hK K
  (try refine run_to ?_); (try refine run_end ?_)
  refine hN4 _ _ _ ?_; clear hN4
  refine code_block ?_
  refine code_nil ?_
  refine code_loop (fun q D L S => ∃ (i : Nat) (C : Chunk) (a : Option Addr) (cap : Nat), i ≤ 8 ∧ Own8 5 C a (4 * i) cap ((s.list.take i).flatMap bytes4) ∧ q = 8 - i ∧ D = [] ∧ L = [(7, .int .i64 i), (6, .agg (rowW s.list)), (3, .slice a (4 * i) cap)] ∧ S = [C, F]) ?_ ?_
  · exact ⟨_, _, _, ⟨0, [], none, 0, by omega, own_nil, rfl, rfl, rfl, rfl⟩, by (repeat (first | exact True.intro | (refine And.intro ?_ ?_; (· (try simp only [evT, lookT_hit, lookT_miss, Nat.reduceBEq]); (first | done | exact rfl))))), by first | ((repeat (first | with_reducible exact Among.nil _ | with_reducible exact Pick.head _ _ | with_reducible apply Pick.tail | with_reducible apply Among.cons)); done) | ((repeat (first | exact Among.nil _ | exact Pick.head _ _ | apply Pick.tail | apply Among.cons)); done)⟩
  · rintro q D L S ⟨i, C, a, cap, hi, ho, rfl, rfl, rfl, rfl⟩
    refine code_seq_k fun N5 hN5 => ?_
    refine reg_to ?_; (try refine run_end ?_)
    refine hN5 _ _ _ ?_; clear hN5
    refine code_seq_k fun N6 hN6 => ?_
    refine code_if (fun hc => ?_) (fun hc => ?_)
    · have hc := of_decide_eq_true hc
      refine code_skip ?_
      refine hN6 _ _ _ ?_; clear hN6
      refine code_seq_k fun N7 hN7 => ?_
      refine code_block ?_
      refine code_seq_k fun N8 hN8 => ?_
      refine code_reg ?_
      refine run_op fun K hK => ?_
      rw [index_w (by omega) (by omega) (St.list_len s)]
      refine hK _ _ ?_; clear hK K
      (try refine run_to ?_); (try refine run_end ?_)
      refine hN8 _ _ _ ?_; clear hN8
      refine reg_to ?_; (try refine run_end ?_)
      have hx := (s.list.getD i 0).isLt
      refine run_op fun K hK => ?_; refine calls_to (refbytes_spec (s.list.getD i 0).toNat 4 (by omega) (by omega)) ?_; rintro v A ⟨C1, a1, cap1, rfl, ho1, rfl⟩; (try simp only [List.nil_append, List.cons_append]); refine hK _ _ ?_; clear hK K
      (try refine run_to ?_); (try refine run_end ?_)
      rw [bytes4_be] at ho1
      rw [bytes4_be]
      refine run_op fun K hK => ?_; refine app8 (ho) (by (repeat (first | with_reducible exact Pick.head _ _ | with_reducible apply Pick.tail))) (ho1.rd (by (repeat (first | with_reducible assumption | with_reducible exact List.mem_cons_self .. | with_reducible apply List.mem_cons_of_mem)))) (by show 4 * i + 4 ≤ _; omega) (fun C2 a2 cap2 ho2 => ?_); refine hK _ _ ?_; clear hK K
      rw [← bytes_next s i (by omega)] at ho2
      (try refine run_to ?_); (try refine run_end ?_)
      refine hN7 _ _ _ ?_; clear hN7
      refine reg_to ?_; (try refine run_end ?_)
      exact again ⟨i + 1, C2, a2, cap2, by omega, ho2, rfl, rfl, rfl, rfl⟩
    · have hc := of_decide_eq_false hc
      refine code_exit ?_; try simp only [Cont.then, Cont.block, Cont.noGoto, reduceIte, Nat.reduceEqDiff]
      refine hN3 _ _ _ ?_; clear hN3
      obtain rfl : i = 8 := by omega
      refine code_seq_k fun N9 hN9 => ?_
      refine reg_to ?_; (try refine run_end ?_)
      refine hN9 _ _ _ ?_; clear hN9
      refine code_back ?_
      refine back_tmp ([C]) ?_; exact ⟨_, _, _, rfl, ho, rfl⟩

theorem refsum_spec {tg : TypeId} (G H : Chunk) (m : Nat × Nat) (hG : (2, Obj.cells (rowW odd) tg m) ∈ G) (a : Option Addr) (cap : Nat) (bs : List UInt8) (hb : bs.length ≤ 1000000) (h : Rd 1 [H] a bs.length (bs.map b8)) :
    Meets Tryd.prog 18 [.slice a bs.length cap] [G, H] (New8 5 (digest bs) [G, H]) := by
  refine spec_intro Tryd.func18 rfl (by kernel_rfl) (by rw [Tryd.ntmps18]; simp) fun F => ?_; rw [Tryd.ntmps18, Tryd.results18]
  refine code_seq_k fun N1 hN1 => ?_
  refine reg_to ?_; (try refine run_end ?_)
  refine hN1 _ _ _ ?_; clear hN1
  refine code_seq_k fun N2 hN2 => ?_
  refine reg_to ?_; (try refine run_end ?_)
  refine run_op fun K hK => ?_; refine calls_to (first_spec) ?_; rintro v A ⟨rfl, rfl⟩; refine hK _ _ ?_; clear hK K
  (try refine run_to ?_); (try refine run_end ?_)
  refine run_op fun K hK => ?_; refine build8 ([]) (by decide) rfl (rfl) (fun b1 C1 ho1 => ?_); refine hK _ _ ?_; clear hK K
  (try refine run_to ?_); (try refine run_end ?_)
  refine run_op fun K hK => ?_; refine app8 (ho1) (by (repeat (first | with_reducible exact Pick.head _ _ | with_reducible apply Pick.tail))) (h.mem (by (repeat (first | with_reducible assumption | with_reducible exact List.mem_cons_self .. | with_reducible apply List.mem_cons_of_mem)))) (by omega) (fun C2 a2 cap2 ho2 => ?_); refine hK _ _ ?_; clear hK K
  (try refine run_to ?_); (try refine run_end ?_)
  refine run_op fun K hK => ?_; refine calls_to (tail_spec bs.length (by omega)) ?_; rintro v A ⟨C3, a3, cap3, rfl, ho3, rfl⟩; (try simp only [List.nil_append, List.cons_append]); refine hK _ _ ?_; clear hK K
  (try refine run_to ?_); (try refine run_end ?_)
  have hpl : (pad bs.length).length ≤ 72 := by rw [pad_len, zeros]; omega
  refine run_op fun K hK => ?_; refine app8 (ho2) (by (repeat (first | with_reducible exact Pick.head _ _ | with_reducible apply Pick.tail))) (ho3.rd (by (repeat (first | with_reducible assumption | with_reducible exact List.mem_cons_self .. | with_reducible apply List.mem_cons_of_mem)))) (by omega) (fun C4 a4 cap4 ho4 => ?_); refine hK _ _ ?_; clear hK K
  (try refine run_to ?_); (try refine run_end ?_)
  rw [show 0 + bs.length + (pad bs.length).length = (bs ++ pad bs.length).length from by rw [List.length_append]; omega, List.nil_append] at ho4
  rw [show 0 + bs.length + (pad bs.length).length = (bs ++ pad bs.length).length from by rw [List.length_append]; omega]
  refine run_op fun K hK => ?_
  refine calls_spec (go_spec G C4 m hG first a4 cap4 (bs ++ pad bs.length) (by rw [List.length_append]; omega) ho4.1 (ho4.rd (by (repeat (first | with_reducible assumption | with_reducible exact List.mem_cons_self .. | with_reducible apply List.mem_cons_of_mem))))) (by (repeat (first | with_reducible exact Take.nil _ | with_reducible exact Pick.head _ _ | with_reducible apply Pick.tail | with_reducible apply Take.cons))) ?_; rintro v A ⟨a5, c5, rfl, hr5, rfl⟩; (try simp only [List.nil_append, List.cons_append]); refine hK _ _ ?_; clear hK K
  (try refine run_to ?_); (try refine run_end ?_)
  refine run_op fun K hK => ?_; refine alloc_new fun b3 => ?_; (try simp only [Value.cells]); refine hK _ _ ?_; clear hK K
  refine run_op fun K hK => ?_
  refine store_rw (l := List.replicate 8 0) (l' := (whole first (bs ++ pad bs.length)).list) (by (repeat (first | exact Upd.one | apply Upd.next))) List.length_replicate (St.list_len _) ?_
  refine hK _ _ ?_; clear hK K
  (try refine run_to ?_); (try refine run_end ?_)
  refine hN2 _ _ _ ?_; clear hN2
  refine code_seq_k fun N3 hN3 => ?_
  refine code_reg ?_
  refine run_op fun K hK => ?_
  refine load_rw (by (repeat (first | with_reducible exact Lies.one | with_reducible apply Lies.next))) (St.list_len _) ?_
  refine hK _ _ ?_; clear hK K
  refine run_op fun K hK => ?_; refine calls_to (out_spec _) ?_; rintro v A ⟨C6, a6, cap6, rfl, ho6, rfl⟩; (try simp only [List.nil_append, List.cons_append]); refine hK _ _ ?_; clear hK K
  (try refine run_to ?_); (try refine run_end ?_)
  refine hN3 _ _ _ ?_; clear hN3
  refine code_back ?_
  refine back_tmp ([C6, G, H]) ?_; exact ⟨_, _, _, rfl, ho6, rfl⟩

end Go.Proofs.YtlcbaijjjphmjaaDoor

/- The statement PipeSums. Conditions: the listed variables hold what the program's text lays. -/
set_option linter.unusedSimpArgs false
set_option linter.unusedVariables false
namespace Go.Proofs.YtlcbaijjjphmjaaDoor
open Go Go.Ost Go.Pip

theorem take_r (w : Wy) : w.all.take w.r.length = w.r := by unfold Wy.all; simp

set_option maxHeartbeats 4000000 in
theorem PipeSums_law (C : Chunk) (hG : Globs3 C) (room : Int) (hroom : (Lit.int .u16 room).wf = true) (v : Value) (rows : List (List Value)) (hv : RowsK C [.int .u8, .int .i64, .bytes, .int .i64, .int .u8] v rows) :
    Meets Tryd.prog 4 [.int .u16 room, v] [C] fun v A => v = .bool true ∧ A = [C] := by
  have haw := pawake_spec hG.toGlobs
  obtain ⟨ops, ⟨a, cap, rfl, hcap, hmax, hrd⟩, hops⟩ := script22_of hv
  have hr0 : 0 ≤ room ∧ room ≤ 65535 := by
    simp only [Lit.wf, Bool.and_eq_true, decide_eq_true_eq] at hroom; exact ⟨hroom.1, hroom.2⟩
  have hbig : (ops.length : Int) ≤ 9223372036854775807 := by simp only [maxLen] at hmax; omega
  have hs := encO_len
  obtain ⟨⟨⟨t0, m0, hG0⟩, ⟨t1, m1, hG1⟩⟩, ⟨t2, m2, hG2⟩⟩ := id hG
  obtain ⟨k, hk, hk1, hk2⟩ : ∃ k : Nat, 1 + room % 600 = k ∧ 1 ≤ k ∧ k ≤ 4096 := ⟨(1 + room % 600).toNat, by omega, by omega, by omega⟩
  refine spec_intro Tryd.func4 rfl (by kernel_rfl) (by rw [Tryd.ntmps4]; simp) fun F => ?_; rw [Tryd.ntmps4, Tryd.results4]
  (repeat (first | (with_reducible refine then_n ?_) | (with_reducible refine then_r ?_) | (with_reducible refine then_e ?_) | (with_reducible refine block_n ?_) | (with_reducible refine block_r ?_) | (with_reducible refine block_e ?_) | refine block_o ?_ | (with_reducible refine scope_n ?_) | (with_reducible refine scope_r ?_) | (with_reducible refine scope_e ?_) | (with_reducible refine code_seq ?_) | (with_reducible refine code_skip ?_) | (with_reducible refine code_label ?_) | (with_reducible refine code_block ?_) | (with_reducible refine code_scope ?_) | (with_reducible refine code_exit ?_) | (with_reducible refine code_ret ?_) | refine regq_to ?_ | (with_reducible refine run_nil ?_) | ((with_reducible refine run_probe ?_); refine runq_more ?_) | (with_reducible refine draw_nil ?_) | ((with_reducible refine draw_probe ?_); (first | refine drawq_more ?_ | refine drawq_as ?_)) | refine code_then ?_ | refine code_else ?_))
  refine run_op fun K hK => ?_; refine calls_to (haw) ?_; rintro v A ⟨rfl, rfl⟩; (try simp only [List.nil_append, List.cons_append]); refine hK _ _ ?_; clear hK K; (repeat (first | (with_reducible refine then_n ?_) | (with_reducible refine then_r ?_) | (with_reducible refine then_e ?_) | (with_reducible refine block_n ?_) | (with_reducible refine block_r ?_) | (with_reducible refine block_e ?_) | refine block_o ?_ | (with_reducible refine scope_n ?_) | (with_reducible refine scope_r ?_) | (with_reducible refine scope_e ?_) | (with_reducible refine code_seq ?_) | (with_reducible refine code_skip ?_) | (with_reducible refine code_label ?_) | (with_reducible refine code_block ?_) | (with_reducible refine code_scope ?_) | (with_reducible refine code_exit ?_) | (with_reducible refine code_ret ?_) | refine regq_to ?_ | (with_reducible refine run_nil ?_) | ((with_reducible refine run_probe ?_); refine runq_more ?_) | (with_reducible refine draw_nil ?_) | ((with_reducible refine draw_probe ?_); (first | refine drawq_more ?_ | refine drawq_as ?_)) | refine code_then ?_ | refine code_else ?_))
  rw [hk]
  refine run_op fun K hK => ?_; refine calls_to (pnew_spec C m0 hG0 k hk1 hk2) ?_; rintro v A ⟨b, T, rfl, hT, rfl⟩; (try simp only [List.nil_append, List.cons_append]); refine hK _ _ ?_; clear hK K; (repeat (first | (with_reducible refine then_n ?_) | (with_reducible refine then_r ?_) | (with_reducible refine then_e ?_) | (with_reducible refine block_n ?_) | (with_reducible refine block_r ?_) | (with_reducible refine block_e ?_) | refine block_o ?_ | (with_reducible refine scope_n ?_) | (with_reducible refine scope_r ?_) | (with_reducible refine scope_e ?_) | (with_reducible refine code_seq ?_) | (with_reducible refine code_skip ?_) | (with_reducible refine code_label ?_) | (with_reducible refine code_block ?_) | (with_reducible refine code_scope ?_) | (with_reducible refine code_exit ?_) | (with_reducible refine code_ret ?_) | refine regq_to ?_ | (with_reducible refine run_nil ?_) | ((with_reducible refine run_probe ?_); refine runq_more ?_) | (with_reducible refine draw_nil ?_) | ((with_reducible refine draw_probe ?_); (first | refine drawq_more ?_ | refine drawq_as ?_)) | refine code_then ?_ | refine code_else ?_))
  refine run_op fun K hK => ?_; rw [build_struct (ps := [(0, .int .i64 k)]) (cs := #[.int .i64 k, .slice none 0 0, .int .i64 0, .bool false, .int .i64 0, .slice none 0 0, .int .i64 0, .bool false, .int .i64 0]) rfl]; refine hK _ _ ?_; clear hK K
  (repeat (first | (with_reducible refine then_n ?_) | (with_reducible refine then_r ?_) | (with_reducible refine then_e ?_) | (with_reducible refine block_n ?_) | (with_reducible refine block_r ?_) | (with_reducible refine block_e ?_) | refine block_o ?_ | (with_reducible refine scope_n ?_) | (with_reducible refine scope_r ?_) | (with_reducible refine scope_e ?_) | (with_reducible refine code_seq ?_) | (with_reducible refine code_skip ?_) | (with_reducible refine code_label ?_) | (with_reducible refine code_block ?_) | (with_reducible refine code_scope ?_) | (with_reducible refine code_exit ?_) | (with_reducible refine code_ret ?_) | refine regq_to ?_ | (with_reducible refine run_nil ?_) | ((with_reducible refine run_probe ?_); refine runq_more ?_) | (with_reducible refine draw_nil ?_) | ((with_reducible refine draw_probe ?_); (first | refine drawq_more ?_ | refine drawq_as ?_)) | refine code_then ?_ | refine code_else ?_))
  refine run_op fun K hK => ?_; refine box_new fun x => ?_; (try simp only [Value.cells]); refine hK _ _ ?_; clear hK K
  (repeat (first | (with_reducible refine then_n ?_) | (with_reducible refine then_r ?_) | (with_reducible refine then_e ?_) | (with_reducible refine block_n ?_) | (with_reducible refine block_r ?_) | (with_reducible refine block_e ?_) | refine block_o ?_ | (with_reducible refine scope_n ?_) | (with_reducible refine scope_r ?_) | (with_reducible refine scope_e ?_) | (with_reducible refine code_seq ?_) | (with_reducible refine code_skip ?_) | (with_reducible refine code_label ?_) | (with_reducible refine code_block ?_) | (with_reducible refine code_scope ?_) | (with_reducible refine code_exit ?_) | (with_reducible refine code_ret ?_) | refine regq_to ?_ | (with_reducible refine run_nil ?_) | ((with_reducible refine run_probe ?_); refine runq_more ?_) | (with_reducible refine draw_nil ?_) | ((with_reducible refine draw_probe ?_); (first | refine drawq_more ?_ | refine drawq_as ?_)) | refine code_then ?_ | refine code_else ?_))
  refine loop_i (fun q D L S => ∃ (i n : Nat) (T U : Chunk) (kk : Nat) (w0 w1 : Wy), i ≤ ops.length ∧ n ≤ i ∧ n ≤ 40 ∧ (n < i → n = 40) ∧ PSmall (300 * n) (some (kk, w0, w1)) ∧ IsPipe T b kk w0 w1 ∧ IsRef U x kk w0 w1 ∧ q = ops.length - i ∧ D = [] ∧
    L = [(32, .int .i64 i), (31, .int .i64 ops.length), (30, .slice a ops.length cap), (6, .pointer (some ⟨b, 0, none⟩)), (8, .pointer (some ⟨x, 0, none⟩))] ∧ S = [T, U, F, C])
    ⟨0, 0, T, _, k, wy0, wy0, by omega, by omega, by omega, by omega, small_new hk1 hk2, hT, ref_new x k, rfl, rfl, rfl, rfl⟩ ?_
  rintro q D L S ⟨i, n, T, U, kk, w0, w1, hi, hn, hn40, hni, hsm, hT, hU, rfl, rfl, rfl, rfl⟩
  (repeat (first | (with_reducible refine then_n ?_) | (with_reducible refine then_r ?_) | (with_reducible refine then_e ?_) | (with_reducible refine block_n ?_) | (with_reducible refine block_r ?_) | (with_reducible refine block_e ?_) | refine block_o ?_ | (with_reducible refine scope_n ?_) | (with_reducible refine scope_r ?_) | (with_reducible refine scope_e ?_) | (with_reducible refine code_seq ?_) | (with_reducible refine code_skip ?_) | (with_reducible refine code_label ?_) | (with_reducible refine code_block ?_) | (with_reducible refine code_scope ?_) | (with_reducible refine code_exit ?_) | (with_reducible refine code_ret ?_) | refine regq_to ?_ | (with_reducible refine run_nil ?_) | ((with_reducible refine run_probe ?_); refine runq_more ?_) | (with_reducible refine draw_nil ?_) | ((with_reducible refine draw_probe ?_); (first | refine drawq_more ?_ | refine drawq_as ?_)) | refine code_then ?_ | refine code_else ?_))
  refine if_d (fun hc => ?_) (fun hc => ?_)
  · have hil : i < ops.length := by omega
    have hx : ops[i]? = some ops[i] := List.getElem?_eq_getElem hil
    have hok := hops _ (List.getElem_mem hil)
    generalize ops[i] = o at *
    (repeat (first | (with_reducible refine then_n ?_) | (with_reducible refine then_r ?_) | (with_reducible refine then_e ?_) | (with_reducible refine block_n ?_) | (with_reducible refine block_r ?_) | (with_reducible refine block_e ?_) | refine block_o ?_ | (with_reducible refine scope_n ?_) | (with_reducible refine scope_r ?_) | (with_reducible refine scope_e ?_) | (with_reducible refine code_seq ?_) | (with_reducible refine code_skip ?_) | (with_reducible refine code_label ?_) | (with_reducible refine code_block ?_) | (with_reducible refine code_scope ?_) | (with_reducible refine code_exit ?_) | (with_reducible refine code_ret ?_) | refine regq_to ?_ | (with_reducible refine run_nil ?_) | ((with_reducible refine run_probe ?_); refine runq_more ?_) | (with_reducible refine draw_nil ?_) | ((with_reducible refine draw_probe ?_); (first | refine drawq_more ?_ | refine drawq_as ?_)) | refine code_then ?_ | refine code_else ?_))
    refine run_op fun K hK => ?_; rw [el_at hrd (by omega) (by omega) (by decide), Int.toNat_natCast]; refine hK _ _ ?_; clear hK K
    refine run_op fun K hK => ?_; refine load_rd_agg hrd hs hx (by decide) (by (repeat (first | with_reducible assumption | with_reducible exact List.mem_cons_self .. | with_reducible apply List.mem_cons_of_mem))) ?_; refine hK _ _ ?_; clear hK K
    refine run_op fun K hK => ?_; refine alloc_new fun b12 => ?_; (try simp only [Value.cells]); refine hK _ _ ?_; clear hK K
    (repeat (first | (with_reducible refine then_n ?_) | (with_reducible refine then_r ?_) | (with_reducible refine then_e ?_) | (with_reducible refine block_n ?_) | (with_reducible refine block_r ?_) | (with_reducible refine block_e ?_) | refine block_o ?_ | (with_reducible refine scope_n ?_) | (with_reducible refine scope_r ?_) | (with_reducible refine scope_e ?_) | (with_reducible refine code_seq ?_) | (with_reducible refine code_skip ?_) | (with_reducible refine code_label ?_) | (with_reducible refine code_block ?_) | (with_reducible refine code_scope ?_) | (with_reducible refine code_exit ?_) | (with_reducible refine code_ret ?_) | refine regq_to ?_ | (with_reducible refine run_nil ?_) | ((with_reducible refine run_probe ?_); refine runq_more ?_) | (with_reducible refine draw_nil ?_) | ((with_reducible refine draw_probe ?_); (first | refine drawq_more ?_ | refine drawq_as ?_)) | refine code_then ?_ | refine code_else ?_))
    refine run_op fun K hK => ?_; refine store_all rfl (cell_O o) (by (repeat (first | with_reducible exact Upd.one | with_reducible apply Upd.next))) (by rfl) ?_; refine hK _ _ ?_; clear hK K
    (repeat (first | (with_reducible refine then_n ?_) | (with_reducible refine then_r ?_) | (with_reducible refine then_e ?_) | (with_reducible refine block_n ?_) | (with_reducible refine block_r ?_) | (with_reducible refine block_e ?_) | refine block_o ?_ | (with_reducible refine scope_n ?_) | (with_reducible refine scope_r ?_) | (with_reducible refine scope_e ?_) | (with_reducible refine code_seq ?_) | (with_reducible refine code_skip ?_) | (with_reducible refine code_label ?_) | (with_reducible refine code_block ?_) | (with_reducible refine code_scope ?_) | (with_reducible refine code_exit ?_) | (with_reducible refine code_ret ?_) | refine regq_to ?_ | (with_reducible refine run_nil ?_) | ((with_reducible refine run_probe ?_); refine runq_more ?_) | (with_reducible refine draw_nil ?_) | ((with_reducible refine draw_probe ?_); (first | refine drawq_more ?_ | refine drawq_as ?_)) | refine code_then ?_ | refine code_else ?_))
    by_cases h40 : (i : Int) < 40
    · rw [decide_eq_true h40]
      have hne : n = i := by omega
      subst hne
      (repeat (first | (with_reducible refine then_n ?_) | (with_reducible refine then_r ?_) | (with_reducible refine then_e ?_) | (with_reducible refine block_n ?_) | (with_reducible refine block_r ?_) | (with_reducible refine block_e ?_) | refine block_o ?_ | (with_reducible refine scope_n ?_) | (with_reducible refine scope_r ?_) | (with_reducible refine scope_e ?_) | (with_reducible refine code_seq ?_) | (with_reducible refine code_skip ?_) | (with_reducible refine code_label ?_) | (with_reducible refine code_block ?_) | (with_reducible refine code_scope ?_) | (with_reducible refine code_exit ?_) | (with_reducible refine code_ret ?_) | refine regq_to ?_ | (with_reducible refine run_nil ?_) | ((with_reducible refine run_probe ?_); refine runq_more ?_) | (with_reducible refine draw_nil ?_) | ((with_reducible refine draw_probe ?_); (first | refine drawq_more ?_ | refine drawq_as ?_)) | refine code_then ?_ | refine code_else ?_))
      refine run_op fun K hK => ?_; refine load_all (vs := encO o) (by (repeat (first | with_reducible exact Lies.one | with_reducible apply Lies.next))) rfl ?_; refine hK _ _ ?_; clear hK K
      refine run_op fun K hK => ?_; refine calls_to (do_spec hG.toGlobs (by omega) hsm ⟨b, rfl, hT⟩ ⟨x, rfl, hU⟩ o hok) ?_; rintro v A ⟨rfl, T', U', s', hsm', hT', hU', rfl⟩; (try simp only [List.nil_append, List.cons_append]); refine hK _ _ ?_; clear hK K
      (repeat (first | (with_reducible refine then_n ?_) | (with_reducible refine then_r ?_) | (with_reducible refine then_e ?_) | (with_reducible refine block_n ?_) | (with_reducible refine block_r ?_) | (with_reducible refine block_e ?_) | refine block_o ?_ | (with_reducible refine scope_n ?_) | (with_reducible refine scope_r ?_) | (with_reducible refine scope_e ?_) | (with_reducible refine code_seq ?_) | (with_reducible refine code_skip ?_) | (with_reducible refine code_label ?_) | (with_reducible refine code_block ?_) | (with_reducible refine code_scope ?_) | (with_reducible refine code_exit ?_) | (with_reducible refine code_ret ?_) | refine regq_to ?_ | (with_reducible refine run_nil ?_) | ((with_reducible refine run_probe ?_); refine runq_more ?_) | (with_reducible refine draw_nil ?_) | ((with_reducible refine draw_probe ?_); (first | refine drawq_more ?_ | refine drawq_as ?_)) | refine code_then ?_ | refine code_else ?_))
      rcases s' with _ | ⟨k', w0', w1'⟩
      · obtain ⟨h1, _⟩ := hT'; cases h1
      · obtain ⟨b', hb', hT'⟩ := hT'
        obtain ⟨x', hx', hU'⟩ := hU'
        cases hb'; cases hx'
        exact again ⟨n + 1, n + 1, T', U', k', w0', w1', by omega, by omega, by omega, by omega, by rw [show 300 * (n + 1) = 300 * n + 300 from by omega]; exact hsm', hT', hU', rfl, rfl, rfl, rfl⟩
    · rw [decide_eq_false h40]
      (repeat (first | (with_reducible refine then_n ?_) | (with_reducible refine then_r ?_) | (with_reducible refine then_e ?_) | (with_reducible refine block_n ?_) | (with_reducible refine block_r ?_) | (with_reducible refine block_e ?_) | refine block_o ?_ | (with_reducible refine scope_n ?_) | (with_reducible refine scope_r ?_) | (with_reducible refine scope_e ?_) | (with_reducible refine code_seq ?_) | (with_reducible refine code_skip ?_) | (with_reducible refine code_label ?_) | (with_reducible refine code_block ?_) | (with_reducible refine code_scope ?_) | (with_reducible refine code_exit ?_) | (with_reducible refine code_ret ?_) | refine regq_to ?_ | (with_reducible refine run_nil ?_) | ((with_reducible refine run_probe ?_); refine runq_more ?_) | (with_reducible refine draw_nil ?_) | ((with_reducible refine draw_probe ?_); (first | refine drawq_more ?_ | refine drawq_as ?_)) | refine code_then ?_ | refine code_else ?_))
      exact again ⟨i + 1, n, T, U, kk, w0, w1, by omega, by omega, by omega, by omega, hsm, hT, hU, rfl, rfl, rfl, rfl⟩
  · (repeat (first | (with_reducible refine then_n ?_) | (with_reducible refine then_r ?_) | (with_reducible refine then_e ?_) | (with_reducible refine block_n ?_) | (with_reducible refine block_r ?_) | (with_reducible refine block_e ?_) | refine block_o ?_ | (with_reducible refine scope_n ?_) | (with_reducible refine scope_r ?_) | (with_reducible refine scope_e ?_) | (with_reducible refine code_seq ?_) | (with_reducible refine code_skip ?_) | (with_reducible refine code_label ?_) | (with_reducible refine code_block ?_) | (with_reducible refine code_scope ?_) | (with_reducible refine code_exit ?_) | (with_reducible refine code_ret ?_) | refine regq_to ?_ | (with_reducible refine run_nil ?_) | ((with_reducible refine run_probe ?_); refine runq_more ?_) | (with_reducible refine draw_nil ?_) | ((with_reducible refine draw_probe ?_); (first | refine drawq_more ?_ | refine drawq_as ?_)) | refine code_then ?_ | refine code_else ?_))
    obtain ⟨_, _, _, _, h5, h6⟩ := hsm
    have hl0 : w0.all.length ≤ 20000 := by omega
    have hl1 : w1.all.length ≤ 20000 := by omega
    have hr0 := rl_le w0
    have hr1 := rl_le w1
    obtain ⟨a0, c0, C0, a1, c1, C1, hC0, hC1, rfl⟩ := hU
    have hd0 := hC0.1
    have hd1 := hC1.1
    have hc0 : Rd 1 [C0] (cutA 1 a0 0 c0) w0.r.length (w0.r.map b8) := by
      have q := rd_cut1 (hC0.rd (S := [C0]) (by simp)) (l := 0) (h' := w0.r.length) (m := c0) (by omega) (by omega) (by omega)
      rw [List.drop_zero, Nat.sub_zero, take_r] at q
      exact q
    have hc1 : Rd 1 [C1] (cutA 1 a1 0 c1) w1.r.length (w1.r.map b8) := by
      have q := rd_cut1 (hC1.rd (S := [C1]) (by simp)) (l := 0) (h' := w1.r.length) (m := c1) (by omega) (by omega) (by omega)
      rw [List.drop_zero, Nat.sub_zero, take_r] at q
      exact q
    refine code_perm (S' := [T, xB x kk (.slice a0 w0.all.length c0) w0.r.length w0.f w0.l.length (.slice a1 w1.all.length c1) w1.r.length w1.f w1.l.length, C0, C1, F, C]) (by simp only [List.flatten_cons, List.flatten_nil, List.append_assoc, List.append_nil]; exact List.Perm.refl _) ?_
    (repeat (first | (with_reducible refine then_n ?_) | (with_reducible refine then_r ?_) | (with_reducible refine then_e ?_) | (with_reducible refine block_n ?_) | (with_reducible refine block_r ?_) | (with_reducible refine block_e ?_) | refine block_o ?_ | (with_reducible refine scope_n ?_) | (with_reducible refine scope_r ?_) | (with_reducible refine scope_e ?_) | (with_reducible refine code_seq ?_) | (with_reducible refine code_skip ?_) | (with_reducible refine code_label ?_) | (with_reducible refine code_block ?_) | (with_reducible refine code_scope ?_) | (with_reducible refine code_exit ?_) | (with_reducible refine code_ret ?_) | refine regq_to ?_ | (with_reducible refine run_nil ?_) | ((with_reducible refine run_probe ?_); refine runq_more ?_) | (with_reducible refine draw_nil ?_) | ((with_reducible refine draw_probe ?_); (first | refine drawq_more ?_ | refine drawq_as ?_)) | refine code_then ?_ | refine code_else ?_))
    refine loop_i (fun q D L S => ∃ i : Nat, (i = 0 ∨ i = 1 ∨ i = 2) ∧ q = 2 - i ∧ D = [] ∧ L = [(47, .int .i64 i), (6, .pointer (some ⟨b, 0, none⟩)), (8, .pointer (some ⟨x, 0, none⟩))] ∧
      S = [T, xB x kk (.slice a0 w0.all.length c0) w0.r.length w0.f w0.l.length (.slice a1 w1.all.length c1) w1.r.length w1.f w1.l.length, C0, C1, F, C])
      ⟨0, .inl rfl, rfl, rfl, rfl, rfl⟩ ?_
    rintro q D L S ⟨i, rfl | rfl | rfl, rfl, rfl, rfl, rfl⟩

    · (repeat (first | (with_reducible refine then_n ?_) | (with_reducible refine then_r ?_) | (with_reducible refine then_e ?_) | (with_reducible refine block_n ?_) | (with_reducible refine block_r ?_) | (with_reducible refine block_e ?_) | refine block_o ?_ | (with_reducible refine scope_n ?_) | (with_reducible refine scope_r ?_) | (with_reducible refine scope_e ?_) | (with_reducible refine code_seq ?_) | (with_reducible refine code_skip ?_) | (with_reducible refine code_label ?_) | (with_reducible refine code_block ?_) | (with_reducible refine code_scope ?_) | (with_reducible refine code_exit ?_) | (with_reducible refine code_ret ?_) | refine regq_to ?_ | (with_reducible refine run_nil ?_) | ((with_reducible refine run_probe ?_); refine runq_more ?_) | (with_reducible refine draw_nil ?_) | ((with_reducible refine draw_probe ?_); (first | refine drawq_more ?_ | refine drawq_as ?_)) | refine code_then ?_ | refine code_else ?_))
      refine run_op fun K hK => ?_; refine calls_to (plook_0 C m1 hG1 hT (by omega)) ?_; rintro v A ⟨E, da, dc, rfl, hE, rfl⟩; (try simp only [List.nil_append, List.cons_append]); refine hK _ _ ?_; clear hK K; (repeat (first | (with_reducible refine then_n ?_) | (with_reducible refine then_r ?_) | (with_reducible refine then_e ?_) | (with_reducible refine block_n ?_) | (with_reducible refine block_r ?_) | (with_reducible refine block_e ?_) | refine block_o ?_ | (with_reducible refine scope_n ?_) | (with_reducible refine scope_r ?_) | (with_reducible refine scope_e ?_) | (with_reducible refine code_seq ?_) | (with_reducible refine code_skip ?_) | (with_reducible refine code_label ?_) | (with_reducible refine code_block ?_) | (with_reducible refine code_scope ?_) | (with_reducible refine code_exit ?_) | (with_reducible refine code_ret ?_) | refine regq_to ?_ | (with_reducible refine run_nil ?_) | ((with_reducible refine run_probe ?_); refine runq_more ?_) | (with_reducible refine draw_nil ?_) | ((with_reducible refine draw_probe ?_); (first | refine drawq_more ?_ | refine drawq_as ?_)) | refine code_then ?_ | refine code_else ?_))
      refine run_op fun K hK => ?_; refine alloc_as #[.int .i64 0, .bool false, .int .u64 0, .int .u64 0, .slice none 0 0] rfl fun b6 => ?_; refine hK _ _ ?_; clear hK K
      refine run_op fun K hK => ?_; refine store_all (vs := [.int .i64 w0.q.length, .bool w0.f, .int .u64 w0.all.length, .int .u64 w0.r.length, .slice da (Go.Sha.digest w0.r).length dc]) rfl (by simp [Value.cell1]) (by (repeat (first | with_reducible exact Upd.one | with_reducible apply Upd.next))) (by rfl) ?_; refine hK _ _ ?_; clear hK K
      (repeat (first | (with_reducible refine then_n ?_) | (with_reducible refine then_r ?_) | (with_reducible refine then_e ?_) | (with_reducible refine block_n ?_) | (with_reducible refine block_r ?_) | (with_reducible refine block_e ?_) | refine block_o ?_ | (with_reducible refine scope_n ?_) | (with_reducible refine scope_r ?_) | (with_reducible refine scope_e ?_) | (with_reducible refine code_seq ?_) | (with_reducible refine code_skip ?_) | (with_reducible refine code_label ?_) | (with_reducible refine code_block ?_) | (with_reducible refine code_scope ?_) | (with_reducible refine code_exit ?_) | (with_reducible refine code_ret ?_) | refine regq_to ?_ | (with_reducible refine run_nil ?_) | ((with_reducible refine run_probe ?_); refine runq_more ?_) | (with_reducible refine draw_nil ?_) | ((with_reducible refine draw_probe ?_); (first | refine drawq_more ?_ | refine drawq_as ?_)) | refine code_then ?_ | refine code_else ?_))
      refine code_dr [[], [0], [0, 1], [0, 1, 2], [0, 1, 2, 3], [0, 1, 2], [0, 1, 2], [0, 1, 2, 5], [0, 1, 2, 5, 7], [0, 1, 2, 5, 6, 7, 8], [0, 1, 2, 5, 6, 7, 8, 9], [0, 1, 2, 5, 6, 7, 8, 9, 10], [0, 1, 2], [0, 1, 2], [0, 1, 2, 12], [0, 1, 2, 12, 14], [0, 1, 2, 12, 13, 14, 15], [0, 1, 2, 12, 13, 14, 15, 16], [0, 1, 2, 12, 13, 14, 15, 16, 17], [0, 1, 2, 5, 6, 7, 8, 9, 10, 11, 12, 13, 14, 15, 16, 17, 18], [0, 1, 2, 5, 6, 7, 8, 9, 10, 11, 12, 13, 14, 15, 16, 17, 18, 19], [0, 1, 2, 3, 4, 5, 6, 7, 8, 9, 10, 11, 12, 13, 14, 15, 16, 17, 18, 19, 20], [0, 1, 2, 3, 4, 5, 6, 7, 8, 9, 10, 11, 12, 13, 14, 15, 16, 17, 18, 19, 20, 21], [0, 1, 2, 3, 4, 5, 6, 7, 8, 9, 10, 11, 12, 13, 14, 15, 16, 17, 18, 19, 20, 21, 22]] [(0, false, []), (1, false, []), (2, false, []), (3, false, []), (4, false, []), (5, false, []), (6, false, []), (7, false, []), (8, false, []), (9, false, []), (10, false, []), (11, false, []), (12, false, []), (13, false, []), (14, false, []), (15, false, []), (16, false, []), (17, false, []), (18, false, []), (19, false, []), (20, true, [4]), (21, true, []), (22, false, []), (23, false, [])] ?_
      (repeat (first | (with_reducible refine then_n ?_) | (with_reducible refine then_r ?_) | (with_reducible refine then_e ?_) | (with_reducible refine block_n ?_) | (with_reducible refine block_r ?_) | (with_reducible refine block_e ?_) | refine block_o ?_ | (with_reducible refine scope_n ?_) | (with_reducible refine scope_r ?_) | (with_reducible refine scope_e ?_) | (with_reducible refine code_seq ?_) | (with_reducible refine code_skip ?_) | (with_reducible refine code_label ?_) | (with_reducible refine code_block ?_) | (with_reducible refine code_scope ?_) | (with_reducible refine code_exit ?_) | (with_reducible refine code_ret ?_) | refine regq_to ?_ | (with_reducible refine run_nil ?_) | ((with_reducible refine run_probe ?_); refine runq_more ?_) | (with_reducible refine draw_nil ?_) | ((with_reducible refine draw_probe ?_); (first | refine drawq_more ?_ | refine drawq_as ?_)) | refine code_then ?_ | refine code_else ?_))
      refine draw_op fun K hK => ?_; refine calls_to (refsum_spec C C0 m2 hG2 (cutA 1 a0 0 c0) c0 w0.r (by omega) hc0) ?_; rintro v A ⟨O, oa, oc, rfl, hO, rfl⟩; (try simp only [List.nil_append, List.cons_append]); (repeat refine pend ?_); refine hK _ _ ?_; clear hK K
      (repeat (first | (with_reducible refine then_n ?_) | (with_reducible refine then_r ?_) | (with_reducible refine then_e ?_) | (with_reducible refine block_n ?_) | (with_reducible refine block_r ?_) | (with_reducible refine block_e ?_) | refine block_o ?_ | (with_reducible refine scope_n ?_) | (with_reducible refine scope_r ?_) | (with_reducible refine scope_e ?_) | (with_reducible refine code_seq ?_) | (with_reducible refine code_skip ?_) | (with_reducible refine code_label ?_) | (with_reducible refine code_block ?_) | (with_reducible refine code_scope ?_) | (with_reducible refine code_exit ?_) | (with_reducible refine code_ret ?_) | refine regq_to ?_ | (with_reducible refine run_nil ?_) | ((with_reducible refine run_probe ?_); refine runq_more ?_) | (with_reducible refine draw_nil ?_) | ((with_reducible refine draw_probe ?_); (first | refine drawq_more ?_ | refine drawq_as ?_)) | refine code_then ?_ | refine code_else ?_))
      refine draw_op fun K hK => ?_; refine calls_to (same_spec [E, O] da oa _ _ dc oc (Go.Sha.digest w0.r) (Go.Sha.digest w0.r) (hE.rd (by simp)) (hO.rd (by simp))) ?_; rintro v A ⟨rfl, rfl⟩; (try simp only [List.nil_append, List.cons_append]); (repeat refine pend ?_); refine hK _ _ ?_; clear hK K
      rw [beq_self_eq_true]
      (repeat (first | (with_reducible refine then_n ?_) | (with_reducible refine then_r ?_) | (with_reducible refine then_e ?_) | (with_reducible refine block_n ?_) | (with_reducible refine block_r ?_) | (with_reducible refine block_e ?_) | refine block_o ?_ | (with_reducible refine scope_n ?_) | (with_reducible refine scope_r ?_) | (with_reducible refine scope_e ?_) | (with_reducible refine code_seq ?_) | (with_reducible refine code_skip ?_) | (with_reducible refine code_label ?_) | (with_reducible refine code_block ?_) | (with_reducible refine code_scope ?_) | (with_reducible refine code_exit ?_) | (with_reducible refine code_ret ?_) | refine regq_to ?_ | (with_reducible refine run_nil ?_) | ((with_reducible refine run_probe ?_); refine runq_more ?_) | (with_reducible refine draw_nil ?_) | ((with_reducible refine draw_probe ?_); (first | refine drawq_more ?_ | refine drawq_as ?_)) | refine code_then ?_ | refine code_else ?_))
      exact again ⟨1, .inr (.inl rfl), rfl, rfl, rfl, rfl⟩

    · (repeat (first | (with_reducible refine then_n ?_) | (with_reducible refine then_r ?_) | (with_reducible refine then_e ?_) | (with_reducible refine block_n ?_) | (with_reducible refine block_r ?_) | (with_reducible refine block_e ?_) | refine block_o ?_ | (with_reducible refine scope_n ?_) | (with_reducible refine scope_r ?_) | (with_reducible refine scope_e ?_) | (with_reducible refine code_seq ?_) | (with_reducible refine code_skip ?_) | (with_reducible refine code_label ?_) | (with_reducible refine code_block ?_) | (with_reducible refine code_scope ?_) | (with_reducible refine code_exit ?_) | (with_reducible refine code_ret ?_) | refine regq_to ?_ | (with_reducible refine run_nil ?_) | ((with_reducible refine run_probe ?_); refine runq_more ?_) | (with_reducible refine draw_nil ?_) | ((with_reducible refine draw_probe ?_); (first | refine drawq_more ?_ | refine drawq_as ?_)) | refine code_then ?_ | refine code_else ?_))
      refine run_op fun K hK => ?_; refine calls_to (plook_1 C m1 hG1 hT (by omega)) ?_; rintro v A ⟨E, da, dc, rfl, hE, rfl⟩; (try simp only [List.nil_append, List.cons_append]); refine hK _ _ ?_; clear hK K; (repeat (first | (with_reducible refine then_n ?_) | (with_reducible refine then_r ?_) | (with_reducible refine then_e ?_) | (with_reducible refine block_n ?_) | (with_reducible refine block_r ?_) | (with_reducible refine block_e ?_) | refine block_o ?_ | (with_reducible refine scope_n ?_) | (with_reducible refine scope_r ?_) | (with_reducible refine scope_e ?_) | (with_reducible refine code_seq ?_) | (with_reducible refine code_skip ?_) | (with_reducible refine code_label ?_) | (with_reducible refine code_block ?_) | (with_reducible refine code_scope ?_) | (with_reducible refine code_exit ?_) | (with_reducible refine code_ret ?_) | refine regq_to ?_ | (with_reducible refine run_nil ?_) | ((with_reducible refine run_probe ?_); refine runq_more ?_) | (with_reducible refine draw_nil ?_) | ((with_reducible refine draw_probe ?_); (first | refine drawq_more ?_ | refine drawq_as ?_)) | refine code_then ?_ | refine code_else ?_))
      refine run_op fun K hK => ?_; refine alloc_as #[.int .i64 0, .bool false, .int .u64 0, .int .u64 0, .slice none 0 0] rfl fun b6 => ?_; refine hK _ _ ?_; clear hK K
      refine run_op fun K hK => ?_; refine store_all (vs := [.int .i64 w1.q.length, .bool w1.f, .int .u64 w1.all.length, .int .u64 w1.r.length, .slice da (Go.Sha.digest w1.r).length dc]) rfl (by simp [Value.cell1]) (by (repeat (first | with_reducible exact Upd.one | with_reducible apply Upd.next))) (by rfl) ?_; refine hK _ _ ?_; clear hK K
      (repeat (first | (with_reducible refine then_n ?_) | (with_reducible refine then_r ?_) | (with_reducible refine then_e ?_) | (with_reducible refine block_n ?_) | (with_reducible refine block_r ?_) | (with_reducible refine block_e ?_) | refine block_o ?_ | (with_reducible refine scope_n ?_) | (with_reducible refine scope_r ?_) | (with_reducible refine scope_e ?_) | (with_reducible refine code_seq ?_) | (with_reducible refine code_skip ?_) | (with_reducible refine code_label ?_) | (with_reducible refine code_block ?_) | (with_reducible refine code_scope ?_) | (with_reducible refine code_exit ?_) | (with_reducible refine code_ret ?_) | refine regq_to ?_ | (with_reducible refine run_nil ?_) | ((with_reducible refine run_probe ?_); refine runq_more ?_) | (with_reducible refine draw_nil ?_) | ((with_reducible refine draw_probe ?_); (first | refine drawq_more ?_ | refine drawq_as ?_)) | refine code_then ?_ | refine code_else ?_))
      refine code_dr [[], [0], [0, 1], [0, 1, 2], [0, 1, 2, 3], [0, 1, 2], [0, 1, 2], [0, 1, 2, 5], [0, 1, 2, 5, 7], [0, 1, 2, 5, 6, 7, 8], [0, 1, 2, 5, 6, 7, 8, 9], [0, 1, 2, 5, 6, 7, 8, 9, 10], [0, 1, 2], [0, 1, 2], [0, 1, 2, 12], [0, 1, 2, 12, 14], [0, 1, 2, 12, 13, 14, 15], [0, 1, 2, 12, 13, 14, 15, 16], [0, 1, 2, 12, 13, 14, 15, 16, 17], [0, 1, 2, 5, 6, 7, 8, 9, 10, 11, 12, 13, 14, 15, 16, 17, 18], [0, 1, 2, 5, 6, 7, 8, 9, 10, 11, 12, 13, 14, 15, 16, 17, 18, 19], [0, 1, 2, 3, 4, 5, 6, 7, 8, 9, 10, 11, 12, 13, 14, 15, 16, 17, 18, 19, 20], [0, 1, 2, 3, 4, 5, 6, 7, 8, 9, 10, 11, 12, 13, 14, 15, 16, 17, 18, 19, 20, 21], [0, 1, 2, 3, 4, 5, 6, 7, 8, 9, 10, 11, 12, 13, 14, 15, 16, 17, 18, 19, 20, 21, 22]] [(0, false, []), (1, false, []), (2, false, []), (3, false, []), (4, false, []), (5, false, []), (6, false, []), (7, false, []), (8, false, []), (9, false, []), (10, false, []), (11, false, []), (12, false, []), (13, false, []), (14, false, []), (15, false, []), (16, false, []), (17, false, []), (18, false, []), (19, false, []), (20, true, [4]), (21, true, []), (22, false, []), (23, false, [])] ?_
      (repeat (first | (with_reducible refine then_n ?_) | (with_reducible refine then_r ?_) | (with_reducible refine then_e ?_) | (with_reducible refine block_n ?_) | (with_reducible refine block_r ?_) | (with_reducible refine block_e ?_) | refine block_o ?_ | (with_reducible refine scope_n ?_) | (with_reducible refine scope_r ?_) | (with_reducible refine scope_e ?_) | (with_reducible refine code_seq ?_) | (with_reducible refine code_skip ?_) | (with_reducible refine code_label ?_) | (with_reducible refine code_block ?_) | (with_reducible refine code_scope ?_) | (with_reducible refine code_exit ?_) | (with_reducible refine code_ret ?_) | refine regq_to ?_ | (with_reducible refine run_nil ?_) | ((with_reducible refine run_probe ?_); refine runq_more ?_) | (with_reducible refine draw_nil ?_) | ((with_reducible refine draw_probe ?_); (first | refine drawq_more ?_ | refine drawq_as ?_)) | refine code_then ?_ | refine code_else ?_))
      refine draw_op fun K hK => ?_; refine calls_to (refsum_spec C C1 m2 hG2 (cutA 1 a1 0 c1) c1 w1.r (by omega) hc1) ?_; rintro v A ⟨O, oa, oc, rfl, hO, rfl⟩; (try simp only [List.nil_append, List.cons_append]); (repeat refine pend ?_); refine hK _ _ ?_; clear hK K
      (repeat (first | (with_reducible refine then_n ?_) | (with_reducible refine then_r ?_) | (with_reducible refine then_e ?_) | (with_reducible refine block_n ?_) | (with_reducible refine block_r ?_) | (with_reducible refine block_e ?_) | refine block_o ?_ | (with_reducible refine scope_n ?_) | (with_reducible refine scope_r ?_) | (with_reducible refine scope_e ?_) | (with_reducible refine code_seq ?_) | (with_reducible refine code_skip ?_) | (with_reducible refine code_label ?_) | (with_reducible refine code_block ?_) | (with_reducible refine code_scope ?_) | (with_reducible refine code_exit ?_) | (with_reducible refine code_ret ?_) | refine regq_to ?_ | (with_reducible refine run_nil ?_) | ((with_reducible refine run_probe ?_); refine runq_more ?_) | (with_reducible refine draw_nil ?_) | ((with_reducible refine draw_probe ?_); (first | refine drawq_more ?_ | refine drawq_as ?_)) | refine code_then ?_ | refine code_else ?_))
      refine draw_op fun K hK => ?_; refine calls_to (same_spec [E, O] da oa _ _ dc oc (Go.Sha.digest w1.r) (Go.Sha.digest w1.r) (hE.rd (by simp)) (hO.rd (by simp))) ?_; rintro v A ⟨rfl, rfl⟩; (try simp only [List.nil_append, List.cons_append]); (repeat refine pend ?_); refine hK _ _ ?_; clear hK K
      rw [beq_self_eq_true]
      (repeat (first | (with_reducible refine then_n ?_) | (with_reducible refine then_r ?_) | (with_reducible refine then_e ?_) | (with_reducible refine block_n ?_) | (with_reducible refine block_r ?_) | (with_reducible refine block_e ?_) | refine block_o ?_ | (with_reducible refine scope_n ?_) | (with_reducible refine scope_r ?_) | (with_reducible refine scope_e ?_) | (with_reducible refine code_seq ?_) | (with_reducible refine code_skip ?_) | (with_reducible refine code_label ?_) | (with_reducible refine code_block ?_) | (with_reducible refine code_scope ?_) | (with_reducible refine code_exit ?_) | (with_reducible refine code_ret ?_) | refine regq_to ?_ | (with_reducible refine run_nil ?_) | ((with_reducible refine run_probe ?_); refine runq_more ?_) | (with_reducible refine draw_nil ?_) | ((with_reducible refine draw_probe ?_); (first | refine drawq_more ?_ | refine drawq_as ?_)) | refine code_then ?_ | refine code_else ?_))
      exact again ⟨2, .inr (.inr rfl), rfl, rfl, rfl, rfl⟩

    · (repeat (first | (with_reducible refine then_n ?_) | (with_reducible refine then_r ?_) | (with_reducible refine then_e ?_) | (with_reducible refine block_n ?_) | (with_reducible refine block_r ?_) | (with_reducible refine block_e ?_) | refine block_o ?_ | (with_reducible refine scope_n ?_) | (with_reducible refine scope_r ?_) | (with_reducible refine scope_e ?_) | (with_reducible refine code_seq ?_) | (with_reducible refine code_skip ?_) | (with_reducible refine code_label ?_) | (with_reducible refine code_block ?_) | (with_reducible refine code_scope ?_) | (with_reducible refine code_exit ?_) | (with_reducible refine code_ret ?_) | refine regq_to ?_ | (with_reducible refine run_nil ?_) | ((with_reducible refine run_probe ?_); refine runq_more ?_) | (with_reducible refine draw_nil ?_) | ((with_reducible refine draw_probe ?_); (first | refine drawq_more ?_ | refine drawq_as ?_)) | refine code_then ?_ | refine code_else ?_))
      refine back_tmp [C] ?_; exact ⟨rfl, rfl⟩

end Go.Proofs.YtlcbaijjjphmjaaDoor
