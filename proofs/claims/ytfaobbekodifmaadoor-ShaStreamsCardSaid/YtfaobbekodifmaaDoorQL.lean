/- The statements' example: it is as it should be. Conditions: as each says. -/
import Derived.Test.YtfaobbekodifmaaDoorQK
import Derived.Test.YtfaobbekodifmaaDoorQG
import Derived.Test.YtfaobbekodifmaaDoorQT
set_option linter.unusedSimpArgs false
set_option linter.unusedVariables false
namespace Go.Proofs.YtfaobbekodifmaaDoor
open Go Go.Ost Go.Sha

theorem sum3_spec {t0 t1 : TypeId} (G A B D : Chunk) (m0 m1 : Nat × Nat) (hG0 : (0, Obj.cells (rowW first.list) t0 m0) ∈ G) (hG1 : (1, Obj.cells (rowW odd) t1 m1) ∈ G) (a : Option Addr) (n c : Nat) (ls : List (List UInt8)) (hp : Parts [A ++ B ++ D] a n ls) (hnc : n ≤ c) (hn : n ≤ 1000000) (hlen : ls.flatten.length ≤ 1000000) :
    Meets Tryd.prog 11 [.slice a n c] [G, A, B, D] (New8 5 (digest ls.flatten) [G, A, B, D]) :=
  (sum_spec G (A ++ B ++ D) m0 m1 hG0 hG1 a n c ls hp hnc hn hlen).perm (by simp) (fun v A' ⟨C, a', cap', hv, ho, hA⟩ => ⟨[C, G, A, B, D], by rw [hA]; simp, C, a', cap', hv, ho, rfl⟩)

theorem awake_spec {t0 t1 : TypeId} (G : Chunk) (m0 m1 : Nat × Nat) (hG0 : (0, Obj.cells (rowW first.list) t0 m0) ∈ G) (hG1 : (1, Obj.cells (rowW odd) t1 m1) ∈ G) :
    Meets Tryd.prog 9 [] [G] fun v A => v = .bool true ∧ A = [G] := by
  refine spec_intro Tryd.func9 rfl (by kernel_rfl) (by rw [Tryd.ntmps9]; simp) fun F => ?_; rw [Tryd.ntmps9, Tryd.results9]
  refine code_seq_k fun N1 hN1 => ?_
  refine code_reg ?_; (repeat (with_reducible refine run_cons fun K hK => ?_; (try simp only [gos, gob, Nat.reduceBEq, if_true, reduceIte, reduceCtorEq, Nat.reduceLT, Nat.reduceEqDiff, Nat.reduceAdd]); (try (simp (disch := omega) only [gow, gobw]; try simp only [gos, gob, Nat.reduceBEq, if_true, reduceIte, reduceCtorEq, Nat.reduceLT, Nat.reduceEqDiff, Nat.reduceAdd])); (first | with_reducible refine hK _ _ ?_ | (with_reducible apply load_box; (· (repeat (first | with_reducible exact Lies.one | with_reducible apply Lies.next))); with_reducible refine hK _ _ ?_) | (with_reducible apply load_one; (· (repeat (first | with_reducible exact Lies.one | with_reducible apply Lies.next))); (· exact rfl); with_reducible refine hK _ _ ?_) | (with_reducible apply store_box; (· exact trivial); (· (repeat (first | with_reducible exact Upd.one | with_reducible apply Upd.next))); with_reducible refine hK _ _ ?_) | (with_reducible apply store_one; (· exact trivial); (· (repeat (first | with_reducible exact Upd.one | with_reducible apply Upd.next))); (· simp); with_reducible refine hK _ _ ?_)); clear hK K)); try (with_reducible refine run_nil ?_; try simp only [Cont.then, Cont.block, Cont.noGoto, reduceIte, Nat.reduceEqDiff])
  refine hN1 _ _ _ ?_; clear hN1
  refine code_seq_k fun N2 hN2 => ?_
  refine code_reg ?_; (repeat (with_reducible refine run_cons fun K hK => ?_; (try simp only [gos, gob, Nat.reduceBEq, if_true, reduceIte, reduceCtorEq, Nat.reduceLT, Nat.reduceEqDiff, Nat.reduceAdd]); (try (simp (disch := omega) only [gow, gobw]; try simp only [gos, gob, Nat.reduceBEq, if_true, reduceIte, reduceCtorEq, Nat.reduceLT, Nat.reduceEqDiff, Nat.reduceAdd])); (first | with_reducible refine hK _ _ ?_ | (with_reducible apply load_box; (· (repeat (first | with_reducible exact Lies.one | with_reducible apply Lies.next))); with_reducible refine hK _ _ ?_) | (with_reducible apply load_one; (· (repeat (first | with_reducible exact Lies.one | with_reducible apply Lies.next))); (· exact rfl); with_reducible refine hK _ _ ?_) | (with_reducible apply store_box; (· exact trivial); (· (repeat (first | with_reducible exact Upd.one | with_reducible apply Upd.next))); with_reducible refine hK _ _ ?_) | (with_reducible apply store_one; (· exact trivial); (· (repeat (first | with_reducible exact Upd.one | with_reducible apply Upd.next))); (· simp); with_reducible refine hK _ _ ?_)); clear hK K)); try (with_reducible refine run_nil ?_; try simp only [Cont.then, Cont.block, Cont.noGoto, reduceIte, Nat.reduceEqDiff])
  refine run_cons fun K hK => ?_; (try simp only [gos, gob, Nat.reduceBEq, if_true, reduceIte, reduceCtorEq, Nat.reduceLT, Nat.reduceEqDiff, Nat.reduceAdd]); (try (simp (disch := omega) only [gow, gobw]; try simp only [gos, gob, Nat.reduceBEq, if_true, reduceIte, reduceCtorEq, Nat.reduceLT, Nat.reduceEqDiff, Nat.reduceAdd])); refine build8 ([97]) (by decide) rfl (rfl) (fun b1 C1 ho1 => ?_); refine hK _ _ ?_; clear hK K
  refine run_cons fun K hK => ?_; (try simp only [gos, gob, Nat.reduceBEq, if_true, reduceIte, reduceCtorEq, Nat.reduceLT, Nat.reduceEqDiff, Nat.reduceAdd]); (try (simp (disch := omega) only [gow, gobw]; try simp only [gos, gob, Nat.reduceBEq, if_true, reduceIte, reduceCtorEq, Nat.reduceLT, Nat.reduceEqDiff, Nat.reduceAdd]))
  refine conv_same ho1 (by (repeat (first | with_reducible exact Pick.head _ _ | with_reducible apply Pick.tail))) (by decide) (fun C2 ho2 => ?_)
  refine hK _ _ ?_; clear hK K
  refine run_cons fun K hK => ?_; (try simp only [gos, gob, Nat.reduceBEq, if_true, reduceIte, reduceCtorEq, Nat.reduceLT, Nat.reduceEqDiff, Nat.reduceAdd]); (try (simp (disch := omega) only [gow, gobw]; try simp only [gos, gob, Nat.reduceBEq, if_true, reduceIte, reduceCtorEq, Nat.reduceLT, Nat.reduceEqDiff, Nat.reduceAdd])); refine build8 ([98, 99]) (by decide) rfl (rfl) (fun b3 C3 ho3 => ?_); refine hK _ _ ?_; clear hK K
  refine run_cons fun K hK => ?_; (try simp only [gos, gob, Nat.reduceBEq, if_true, reduceIte, reduceCtorEq, Nat.reduceLT, Nat.reduceEqDiff, Nat.reduceAdd]); (try (simp (disch := omega) only [gow, gobw]; try simp only [gos, gob, Nat.reduceBEq, if_true, reduceIte, reduceCtorEq, Nat.reduceLT, Nat.reduceEqDiff, Nat.reduceAdd]))
  refine conv_same ho3 (by (repeat (first | with_reducible exact Pick.head _ _ | with_reducible apply Pick.tail))) (by decide) (fun C4 ho4 => ?_)
  refine hK _ _ ?_; clear hK K
  refine run_cons fun K hK => ?_; (try simp only [gos, gob, Nat.reduceBEq, if_true, reduceIte, reduceCtorEq, Nat.reduceLT, Nat.reduceEqDiff, Nat.reduceAdd]); (try (simp (disch := omega) only [gow, gobw]; try simp only [gos, gob, Nat.reduceBEq, if_true, reduceIte, reduceCtorEq, Nat.reduceLT, Nat.reduceEqDiff, Nat.reduceAdd]))
  refine build1 rfl [.slice (some ⟨b1, 0, none⟩) 1 1, .slice (some ⟨b3, 0, none⟩) 2 2] (by decide) rfl rfl (by simp [Value.cell1]) (fun b5 C5 ho5 => ?_)
  refine hK _ _ ?_; clear hK K
  have hp : Parts [C5 ++ C4 ++ C2] (some ⟨b5, 0, none⟩) 2 [[97], [98, 99]] := by
    refine ⟨rfl, _, (ho5.rd (List.mem_cons_self ..) (S := [C5])).wide (fun x hx => by simp [hx]), fun i v l hv hl => ?_⟩
    match i, hv, hl with
    | 0, hv, hl =>
      cases hv; cases hl
      exact ⟨_, _, rfl, by decide, (ho2.rd (List.mem_cons_self ..) (S := [C2])).wide (fun x hx => by simp [hx])⟩
    | 1, hv, hl =>
      cases hv; cases hl
      exact ⟨_, _, rfl, by decide, (ho4.rd (List.mem_cons_self ..) (S := [C4])).wide (fun x hx => by simp [hx])⟩
    | i + 2, hv, hl => simp at hv
  refine run_cons fun K hK => ?_; (try simp only [gos, gob, Nat.reduceBEq, if_true, reduceIte, reduceCtorEq, Nat.reduceLT, Nat.reduceEqDiff, Nat.reduceAdd]); (try (simp (disch := omega) only [gow, gobw]; try simp only [gos, gob, Nat.reduceBEq, if_true, reduceIte, reduceCtorEq, Nat.reduceLT, Nat.reduceEqDiff, Nat.reduceAdd]))
  refine calls_spec (sum3_spec G C5 C4 C2 m0 m1 hG0 hG1 _ _ _ [[97], [98, 99]] hp (by decide) (by decide) (by decide)) (by (repeat (first | with_reducible exact Take.nil _ | with_reducible exact Pick.head _ _ | with_reducible apply Pick.tail | with_reducible apply Take.cons))) ?_; rintro v A ⟨C6, a6, cap6, rfl, ho6, rfl⟩; (try simp only [List.nil_append, List.cons_append]); refine hK _ _ ?_; clear hK K
  refine run_cons fun K hK => ?_; (try simp only [gos, gob, Nat.reduceBEq, if_true, reduceIte, reduceCtorEq, Nat.reduceLT, Nat.reduceEqDiff, Nat.reduceAdd]); (try (simp (disch := omega) only [gow, gobw]; try simp only [gos, gob, Nat.reduceBEq, if_true, reduceIte, reduceCtorEq, Nat.reduceLT, Nat.reduceEqDiff, Nat.reduceAdd]))
  refine calls_spec (hex_spec C6 a6 cap6 _ (by rw [digest_len]; decide) (ho6.rd (List.mem_cons_self ..))) (by (repeat (first | with_reducible exact Take.nil _ | with_reducible exact Pick.head _ _ | with_reducible apply Pick.tail | with_reducible apply Take.cons))) ?_; rintro v A ⟨rfl, rfl⟩; (try simp only [List.nil_append, List.cons_append]); refine hK _ _ ?_; clear hK K
  refine run_cons fun K hK => ?_; (try simp only [gos, gob, Nat.reduceBEq, if_true, reduceIte, reduceCtorEq, Nat.reduceLT, Nat.reduceEqDiff, Nat.reduceAdd]); (try (simp (disch := omega) only [gow, gobw]; try simp only [gos, gob, Nat.reduceBEq, if_true, reduceIte, reduceCtorEq, Nat.reduceLT, Nat.reduceEqDiff, Nat.reduceAdd]))
  refine hK _ _ ?_; clear hK K
  (repeat (with_reducible refine run_cons fun K hK => ?_; (try simp only [gos, gob, Nat.reduceBEq, if_true, reduceIte, reduceCtorEq, Nat.reduceLT, Nat.reduceEqDiff, Nat.reduceAdd]); (try (simp (disch := omega) only [gow, gobw]; try simp only [gos, gob, Nat.reduceBEq, if_true, reduceIte, reduceCtorEq, Nat.reduceLT, Nat.reduceEqDiff, Nat.reduceAdd])); (first | with_reducible refine hK _ _ ?_ | (with_reducible apply load_box; (· (repeat (first | with_reducible exact Lies.one | with_reducible apply Lies.next))); with_reducible refine hK _ _ ?_) | (with_reducible apply load_one; (· (repeat (first | with_reducible exact Lies.one | with_reducible apply Lies.next))); (· exact rfl); with_reducible refine hK _ _ ?_) | (with_reducible apply store_box; (· exact trivial); (· (repeat (first | with_reducible exact Upd.one | with_reducible apply Upd.next))); with_reducible refine hK _ _ ?_) | (with_reducible apply store_one; (· exact trivial); (· (repeat (first | with_reducible exact Upd.one | with_reducible apply Upd.next))); (· simp); with_reducible refine hK _ _ ?_)); clear hK K)); try (with_reducible refine run_nil ?_; try simp only [Cont.then, Cont.block, Cont.noGoto, reduceIte, Nat.reduceEqDiff])
  refine hN2 _ _ _ ?_; clear hN2
  refine code_ret ?_; try simp -implicitDefEqProofs only [Cont.then, Cont.block, Cont.noGoto, reduceIte]
  exact ret_tmp [G] (by (try simp only [evT, lookT_hit, lookT_miss, Nat.reduceBEq]); (try exact rfl)) ⟨congrArg Value.bool abc_hex, rfl⟩ (by first | ((repeat (first | with_reducible exact Among.nil _ | with_reducible exact Pick.head _ _ | with_reducible apply Pick.tail | with_reducible apply Among.cons)); done) | ((repeat (first | exact Among.nil _ | exact Pick.head _ _ | apply Pick.tail | apply Among.cons)); done))

end Go.Proofs.YtfaobbekodifmaaDoor
