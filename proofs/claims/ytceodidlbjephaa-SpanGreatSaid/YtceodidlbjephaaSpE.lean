/- The laws SpanGreat and SpanBounds. Conditions: numbers are those of their kinds. -/
import Derived.Test.YtceodidlbjephaaSpD
set_option linter.unusedSimpArgs false
set_option linter.unusedVariables false
namespace Go.Proofs.Ytceodidlbjephaa
open Go.Ost Go.Span

theorem great_facts {T T2 B M u u2 : Int} {t b m x : Int} (hT0 : ¬ T = 0) (hB : 1 ≤ mx (tk b)) (hM : 1 ≤ M) (hM2 : M ≤ 1099511627776) (eT : T = tk t) (eM : M = mx (tk m)) (ht : 0 ≤ t) (hx : 0 ≤ x)
    (h : IsBound t b m u) (h2 : IsBound (add t x) b m u2) : u ≤ u2 ∧ 1 + (T - 1) / M ≤ u ∧ u ≤ 41 + (T - 1) / M := by
  have ht1 := tk_bd t ht
  have hx1 := tk_bd x hx
  have e2 : tk (add t x) = add t x := tk_self (tk_bd _ (by omega)).2
  have hle : tk t ≤ add t x := by unfold add; generalize tk t = y at *; generalize tk x = z at *; unfold tk top; split <;> omega
  subst eT eM
  obtain ⟨n, rfl, hn⟩ := h.2 (by omega)
  obtain ⟨n2, rfl, hn2⟩ := h2.2 (by omega)
  rw [e2] at hn2
  have h1 := Is.mono (by omega) (by omega) hn hn2 hle
  have h3 := Is.ge (by omega) hM hM2 hn
  have h4 := Is.le hB hM hM2 hn
  omega

theorem SpanGreat_meets (t b m x : Int) (ht : 0 ≤ t) (hb : 0 ≤ b) (hm : 0 ≤ m) (hx : 0 ≤ x) :
    Meets Try.prog 5 [.int .u64 t, .int .u64 b, .int .u64 m, .int .u64 x] [] fun v A => v = .bool true ∧ A = [] := by
  have hax : 0 ≤ add t x := (tk_bd _ (by have := tk_bd t ht; have := tk_bd x hx; omega)).1
  have ht1 := tk_bd t ht
  have hm1 := tk_bd m hm
  have hB := mx_pos (tk b)
  have hf := fun u u2 h0 h1 h2 => great_facts (T := tk t) (M := mx (tk m)) (T2 := 0) (B := 0) (t := t) (b := b) (m := m) (x := x) (u := u) (u2 := u2) h0 hB (mx_pos _) (mx_le _ hm1.2) rfl rfl ht hx h1 h2
  refine spec_intro Try.func5 rfl (by kernel_rfl) (by rw [Try.ntmps5]; simp) fun F => ?_; rw [Try.ntmps5, Try.results5]
  refine code_seq_k fun N1 hN1 => ?_
  refine code_reg ?_; (repeat (refine run_cons fun K hK => ?_; (try simp only [gos, Nat.reduceBEq, if_true, reduceIte, reduceCtorEq, Nat.reduceLT, Nat.reduceEqDiff, Nat.reduceAdd]); (try (simp (disch := omega) only [gow]; try simp only [gos, Nat.reduceBEq, if_true, reduceIte, reduceCtorEq, Nat.reduceLT, Nat.reduceEqDiff, Nat.reduceAdd])); (first | refine hK _ _ ?_ | (refine load_box (by (repeat (first | exact Lies.one | apply Lies.next))) ?_; refine hK _ _ ?_) | (refine load_one (by (repeat (first | exact Lies.one | apply Lies.next))) rfl ?_; refine hK _ _ ?_) | (refine store_box trivial (by (repeat (first | exact Upd.one | apply Upd.next))) ?_; refine hK _ _ ?_) | (refine store_one trivial (by (repeat (first | exact Upd.one | apply Upd.next))) (by simp) ?_; refine hK _ _ ?_)); clear hK K)); try (refine run_nil ?_; try simp only [Cont.then, Cont.block, Cont.noGoto, reduceIte, Nat.reduceEqDiff])
  refine hN1 _ _ _ ?_; clear hN1
  refine code_seq_k fun N2 hN2 => ?_
  refine code_seq_k fun N3 hN3 => ?_
  refine code_reg ?_; (repeat (refine run_cons fun K hK => ?_; (try simp only [gos, Nat.reduceBEq, if_true, reduceIte, reduceCtorEq, Nat.reduceLT, Nat.reduceEqDiff, Nat.reduceAdd]); (try (simp (disch := omega) only [gow]; try simp only [gos, Nat.reduceBEq, if_true, reduceIte, reduceCtorEq, Nat.reduceLT, Nat.reduceEqDiff, Nat.reduceAdd])); (first | refine hK _ _ ?_ | (refine load_box (by (repeat (first | exact Lies.one | apply Lies.next))) ?_; refine hK _ _ ?_) | (refine load_one (by (repeat (first | exact Lies.one | apply Lies.next))) rfl ?_; refine hK _ _ ?_) | (refine store_box trivial (by (repeat (first | exact Upd.one | apply Upd.next))) ?_; refine hK _ _ ?_) | (refine store_one trivial (by (repeat (first | exact Upd.one | apply Upd.next))) (by simp) ?_; refine hK _ _ ?_)); clear hK K)); try (refine run_nil ?_; try simp only [Cont.then, Cont.block, Cont.noGoto, reduceIte, Nat.reduceEqDiff])
  refine run_cons fun K hK => ?_; (try simp only [gos, Nat.reduceBEq, if_true, reduceIte, reduceCtorEq, Nat.reduceLT, Nat.reduceEqDiff, Nat.reduceAdd]); (try (simp (disch := omega) only [gow]; try simp only [gos, Nat.reduceBEq, if_true, reduceIte, reduceCtorEq, Nat.reduceLT, Nat.reduceEqDiff, Nat.reduceAdd])); refine calls_spec (awake_spec) (by (repeat (first | exact Take.nil _ | exact Pick.head _ _ | apply Pick.tail | apply Take.cons))) ?_; rintro v A ⟨rfl, rfl⟩; refine hK _ _ ?_; clear hK K
  (repeat (refine run_cons fun K hK => ?_; (try simp only [gos, Nat.reduceBEq, if_true, reduceIte, reduceCtorEq, Nat.reduceLT, Nat.reduceEqDiff, Nat.reduceAdd]); (try (simp (disch := omega) only [gow]; try simp only [gos, Nat.reduceBEq, if_true, reduceIte, reduceCtorEq, Nat.reduceLT, Nat.reduceEqDiff, Nat.reduceAdd])); (first | refine hK _ _ ?_ | (refine load_box (by (repeat (first | exact Lies.one | apply Lies.next))) ?_; refine hK _ _ ?_) | (refine load_one (by (repeat (first | exact Lies.one | apply Lies.next))) rfl ?_; refine hK _ _ ?_) | (refine store_box trivial (by (repeat (first | exact Upd.one | apply Upd.next))) ?_; refine hK _ _ ?_) | (refine store_one trivial (by (repeat (first | exact Upd.one | apply Upd.next))) (by simp) ?_; refine hK _ _ ?_)); clear hK K)); try (refine run_nil ?_; try simp only [Cont.then, Cont.block, Cont.noGoto, reduceIte, Nat.reduceEqDiff])
  refine hN3 _ _ _ ?_; clear hN3
  refine code_false rfl (code_skip ?_)
  refine hN2 _ _ _ ?_; clear hN2
  refine code_seq_k fun N5 hN5 => ?_
  refine code_reg ?_; (repeat (refine run_cons fun K hK => ?_; (try simp only [gos, Nat.reduceBEq, if_true, reduceIte, reduceCtorEq, Nat.reduceLT, Nat.reduceEqDiff, Nat.reduceAdd]); (try (simp (disch := omega) only [gow]; try simp only [gos, Nat.reduceBEq, if_true, reduceIte, reduceCtorEq, Nat.reduceLT, Nat.reduceEqDiff, Nat.reduceAdd])); (first | refine hK _ _ ?_ | (refine load_box (by (repeat (first | exact Lies.one | apply Lies.next))) ?_; refine hK _ _ ?_) | (refine load_one (by (repeat (first | exact Lies.one | apply Lies.next))) rfl ?_; refine hK _ _ ?_) | (refine store_box trivial (by (repeat (first | exact Upd.one | apply Upd.next))) ?_; refine hK _ _ ?_) | (refine store_one trivial (by (repeat (first | exact Upd.one | apply Upd.next))) (by simp) ?_; refine hK _ _ ?_)); clear hK K)); try (refine run_nil ?_; try simp only [Cont.then, Cont.block, Cont.noGoto, reduceIte, Nat.reduceEqDiff])
  refine run_cons fun K hK => ?_; (try simp only [gos, Nat.reduceBEq, if_true, reduceIte, reduceCtorEq, Nat.reduceLT, Nat.reduceEqDiff, Nat.reduceAdd]); (try (simp (disch := omega) only [gow]; try simp only [gos, Nat.reduceBEq, if_true, reduceIte, reduceCtorEq, Nat.reduceLT, Nat.reduceEqDiff, Nat.reduceAdd])); refine calls_spec (rtick_spec _) (by (repeat (first | exact Take.nil _ | exact Pick.head _ _ | apply Pick.tail | apply Take.cons))) ?_; rintro v A ⟨rfl, rfl⟩; refine hK _ _ ?_; clear hK K
  (repeat (refine run_cons fun K hK => ?_; (try simp only [gos, Nat.reduceBEq, if_true, reduceIte, reduceCtorEq, Nat.reduceLT, Nat.reduceEqDiff, Nat.reduceAdd]); (try (simp (disch := omega) only [gow]; try simp only [gos, Nat.reduceBEq, if_true, reduceIte, reduceCtorEq, Nat.reduceLT, Nat.reduceEqDiff, Nat.reduceAdd])); (first | refine hK _ _ ?_ | (refine load_box (by (repeat (first | exact Lies.one | apply Lies.next))) ?_; refine hK _ _ ?_) | (refine load_one (by (repeat (first | exact Lies.one | apply Lies.next))) rfl ?_; refine hK _ _ ?_) | (refine store_box trivial (by (repeat (first | exact Upd.one | apply Upd.next))) ?_; refine hK _ _ ?_) | (refine store_one trivial (by (repeat (first | exact Upd.one | apply Upd.next))) (by simp) ?_; refine hK _ _ ?_)); clear hK K)); try (refine run_nil ?_; try simp only [Cont.then, Cont.block, Cont.noGoto, reduceIte, Nat.reduceEqDiff])
  refine run_cons fun K hK => ?_; (try simp only [gos, Nat.reduceBEq, if_true, reduceIte, reduceCtorEq, Nat.reduceLT, Nat.reduceEqDiff, Nat.reduceAdd]); (try (simp (disch := omega) only [gow]; try simp only [gos, Nat.reduceBEq, if_true, reduceIte, reduceCtorEq, Nat.reduceLT, Nat.reduceEqDiff, Nat.reduceAdd])); refine calls_spec (rtick_spec _) (by (repeat (first | exact Take.nil _ | exact Pick.head _ _ | apply Pick.tail | apply Take.cons))) ?_; rintro v A ⟨rfl, rfl⟩; refine hK _ _ ?_; clear hK K
  (repeat (refine run_cons fun K hK => ?_; (try simp only [gos, Nat.reduceBEq, if_true, reduceIte, reduceCtorEq, Nat.reduceLT, Nat.reduceEqDiff, Nat.reduceAdd]); (try (simp (disch := omega) only [gow]; try simp only [gos, Nat.reduceBEq, if_true, reduceIte, reduceCtorEq, Nat.reduceLT, Nat.reduceEqDiff, Nat.reduceAdd])); (first | refine hK _ _ ?_ | (refine load_box (by (repeat (first | exact Lies.one | apply Lies.next))) ?_; refine hK _ _ ?_) | (refine load_one (by (repeat (first | exact Lies.one | apply Lies.next))) rfl ?_; refine hK _ _ ?_) | (refine store_box trivial (by (repeat (first | exact Upd.one | apply Upd.next))) ?_; refine hK _ _ ?_) | (refine store_one trivial (by (repeat (first | exact Upd.one | apply Upd.next))) (by simp) ?_; refine hK _ _ ?_)); clear hK K)); try (refine run_nil ?_; try simp only [Cont.then, Cont.block, Cont.noGoto, reduceIte, Nat.reduceEqDiff])
  rw [show (if tk m < 1 then 1 else tk m) = mx (tk m) from rfl]
  have hM1 := mx_pos (tk m)
  have hM2 := mx_le _ hm1.2
  have hz : tk t = 0 → ∀ u, IsBound t b m u → u = 0 := fun h u hu => hu.1 h
  obtain ⟨T, hT⟩ : ∃ T : Int, T = tk t := ⟨_, rfl⟩
  obtain ⟨M, hM⟩ : ∃ M : Int, M = mx (tk m) := ⟨_, rfl⟩
  rw [← hT, ← hM]
  rw [← hT, ← hM] at hf
  rw [← hT] at ht1 hz
  rw [← hM] at hM1 hM2
  clear hT hM hB
  refine hN5 _ _ _ ?_; clear hN5
  refine code_seq_k fun N6 hN6 => ?_
  refine code_reg ?_; (repeat (refine run_cons fun K hK => ?_; (try simp only [gos, Nat.reduceBEq, if_true, reduceIte, reduceCtorEq, Nat.reduceLT, Nat.reduceEqDiff, Nat.reduceAdd]); (try (simp (disch := omega) only [gow]; try simp only [gos, Nat.reduceBEq, if_true, reduceIte, reduceCtorEq, Nat.reduceLT, Nat.reduceEqDiff, Nat.reduceAdd])); (first | refine hK _ _ ?_ | (refine load_box (by (repeat (first | exact Lies.one | apply Lies.next))) ?_; refine hK _ _ ?_) | (refine load_one (by (repeat (first | exact Lies.one | apply Lies.next))) rfl ?_; refine hK _ _ ?_) | (refine store_box trivial (by (repeat (first | exact Upd.one | apply Upd.next))) ?_; refine hK _ _ ?_) | (refine store_one trivial (by (repeat (first | exact Upd.one | apply Upd.next))) (by simp) ?_; refine hK _ _ ?_)); clear hK K)); try (refine run_nil ?_; try simp only [Cont.then, Cont.block, Cont.noGoto, reduceIte, Nat.reduceEqDiff])
  refine run_cons fun K hK => ?_; (try simp only [gos, Nat.reduceBEq, if_true, reduceIte, reduceCtorEq, Nat.reduceLT, Nat.reduceEqDiff, Nat.reduceAdd]); (try (simp (disch := omega) only [gow]; try simp only [gos, Nat.reduceBEq, if_true, reduceIte, reduceCtorEq, Nat.reduceLT, Nat.reduceEqDiff, Nat.reduceAdd]))
  refine calls_spec (bound_spec _ _ _ ht hb hm) (by (repeat (first | exact Take.nil _ | exact Pick.head _ _ | apply Pick.tail | apply Take.cons))) ?_
  rintro v A ⟨⟨u, rfl, hu⟩, rfl⟩
  refine hK _ _ ?_; clear hK K
  (repeat (refine run_cons fun K hK => ?_; (try simp only [gos, Nat.reduceBEq, if_true, reduceIte, reduceCtorEq, Nat.reduceLT, Nat.reduceEqDiff, Nat.reduceAdd]); (try (simp (disch := omega) only [gow]; try simp only [gos, Nat.reduceBEq, if_true, reduceIte, reduceCtorEq, Nat.reduceLT, Nat.reduceEqDiff, Nat.reduceAdd])); (first | refine hK _ _ ?_ | (refine load_box (by (repeat (first | exact Lies.one | apply Lies.next))) ?_; refine hK _ _ ?_) | (refine load_one (by (repeat (first | exact Lies.one | apply Lies.next))) rfl ?_; refine hK _ _ ?_) | (refine store_box trivial (by (repeat (first | exact Upd.one | apply Upd.next))) ?_; refine hK _ _ ?_) | (refine store_one trivial (by (repeat (first | exact Upd.one | apply Upd.next))) (by simp) ?_; refine hK _ _ ?_)); clear hK K)); try (refine run_nil ?_; try simp only [Cont.then, Cont.block, Cont.noGoto, reduceIte, Nat.reduceEqDiff])
  refine hN6 _ _ _ ?_; clear hN6
  refine code_seq_k fun N7 hN7 => ?_
  refine code_seq_k fun N8 hN8 => ?_
  refine code_reg ?_; (repeat (refine run_cons fun K hK => ?_; (try simp only [gos, Nat.reduceBEq, if_true, reduceIte, reduceCtorEq, Nat.reduceLT, Nat.reduceEqDiff, Nat.reduceAdd]); (try (simp (disch := omega) only [gow]; try simp only [gos, Nat.reduceBEq, if_true, reduceIte, reduceCtorEq, Nat.reduceLT, Nat.reduceEqDiff, Nat.reduceAdd])); (first | refine hK _ _ ?_ | (refine load_box (by (repeat (first | exact Lies.one | apply Lies.next))) ?_; refine hK _ _ ?_) | (refine load_one (by (repeat (first | exact Lies.one | apply Lies.next))) rfl ?_; refine hK _ _ ?_) | (refine store_box trivial (by (repeat (first | exact Upd.one | apply Upd.next))) ?_; refine hK _ _ ?_) | (refine store_one trivial (by (repeat (first | exact Upd.one | apply Upd.next))) (by simp) ?_; refine hK _ _ ?_)); clear hK K)); try (refine run_nil ?_; try simp only [Cont.then, Cont.block, Cont.noGoto, reduceIte, Nat.reduceEqDiff])
  refine hN8 _ _ _ ?_; clear hN8
  refine code_cond rfl (fun hc => ?_) (fun hc => ?_)
  · have hc : T = 0 := by simpa using hc
    obtain rfl := hz hc u hu
    refine code_seq_k fun N9 hN9 => ?_
    refine code_reg ?_; (repeat (refine run_cons fun K hK => ?_; (try simp only [gos, Nat.reduceBEq, if_true, reduceIte, reduceCtorEq, Nat.reduceLT, Nat.reduceEqDiff, Nat.reduceAdd]); (try (simp (disch := omega) only [gow]; try simp only [gos, Nat.reduceBEq, if_true, reduceIte, reduceCtorEq, Nat.reduceLT, Nat.reduceEqDiff, Nat.reduceAdd])); (first | refine hK _ _ ?_ | (refine load_box (by (repeat (first | exact Lies.one | apply Lies.next))) ?_; refine hK _ _ ?_) | (refine load_one (by (repeat (first | exact Lies.one | apply Lies.next))) rfl ?_; refine hK _ _ ?_) | (refine store_box trivial (by (repeat (first | exact Upd.one | apply Upd.next))) ?_; refine hK _ _ ?_) | (refine store_one trivial (by (repeat (first | exact Upd.one | apply Upd.next))) (by simp) ?_; refine hK _ _ ?_)); clear hK K)); try (refine run_nil ?_; try simp only [Cont.then, Cont.block, Cont.noGoto, reduceIte, Nat.reduceEqDiff])
    refine hN9 _ _ _ ?_; clear hN9
    refine code_ret ?_; try simp -implicitDefEqProofs only [Cont.then, Cont.block, Cont.noGoto, reduceIte]
    exact ret_tmp [] rfl ⟨rfl, rfl⟩ (by (repeat (first | exact Among.nil _ | exact Pick.head _ _ | apply Pick.tail | apply Among.cons)))
  · have hc : ¬ T = 0 := by simpa using hc
    refine code_skip ?_
    refine hN7 _ _ _ ?_; clear hN7
    refine code_seq_k fun N10 hN10 => ?_
    refine code_reg ?_; (repeat (refine run_cons fun K hK => ?_; (try simp only [gos, Nat.reduceBEq, if_true, reduceIte, reduceCtorEq, Nat.reduceLT, Nat.reduceEqDiff, Nat.reduceAdd]); (try (simp (disch := omega) only [gow]; try simp only [gos, Nat.reduceBEq, if_true, reduceIte, reduceCtorEq, Nat.reduceLT, Nat.reduceEqDiff, Nat.reduceAdd])); (first | refine hK _ _ ?_ | (refine load_box (by (repeat (first | exact Lies.one | apply Lies.next))) ?_; refine hK _ _ ?_) | (refine load_one (by (repeat (first | exact Lies.one | apply Lies.next))) rfl ?_; refine hK _ _ ?_) | (refine store_box trivial (by (repeat (first | exact Upd.one | apply Upd.next))) ?_; refine hK _ _ ?_) | (refine store_one trivial (by (repeat (first | exact Upd.one | apply Upd.next))) (by simp) ?_; refine hK _ _ ?_)); clear hK K)); try (refine run_nil ?_; try simp only [Cont.then, Cont.block, Cont.noGoto, reduceIte, Nat.reduceEqDiff])
    refine run_cons fun K hK => ?_; (try simp only [gos, Nat.reduceBEq, if_true, reduceIte, reduceCtorEq, Nat.reduceLT, Nat.reduceEqDiff, Nat.reduceAdd]); (try (simp (disch := omega) only [gow]; try simp only [gos, Nat.reduceBEq, if_true, reduceIte, reduceCtorEq, Nat.reduceLT, Nat.reduceEqDiff, Nat.reduceAdd])); refine calls_spec (add_spec _ _ ht hx) (by (repeat (first | exact Take.nil _ | exact Pick.head _ _ | apply Pick.tail | apply Take.cons))) ?_; rintro v A ⟨rfl, rfl⟩; refine hK _ _ ?_; clear hK K
    (repeat (refine run_cons fun K hK => ?_; (try simp only [gos, Nat.reduceBEq, if_true, reduceIte, reduceCtorEq, Nat.reduceLT, Nat.reduceEqDiff, Nat.reduceAdd]); (try (simp (disch := omega) only [gow]; try simp only [gos, Nat.reduceBEq, if_true, reduceIte, reduceCtorEq, Nat.reduceLT, Nat.reduceEqDiff, Nat.reduceAdd])); (first | refine hK _ _ ?_ | (refine load_box (by (repeat (first | exact Lies.one | apply Lies.next))) ?_; refine hK _ _ ?_) | (refine load_one (by (repeat (first | exact Lies.one | apply Lies.next))) rfl ?_; refine hK _ _ ?_) | (refine store_box trivial (by (repeat (first | exact Upd.one | apply Upd.next))) ?_; refine hK _ _ ?_) | (refine store_one trivial (by (repeat (first | exact Upd.one | apply Upd.next))) (by simp) ?_; refine hK _ _ ?_)); clear hK K)); try (refine run_nil ?_; try simp only [Cont.then, Cont.block, Cont.noGoto, reduceIte, Nat.reduceEqDiff])
    refine run_cons fun K hK => ?_; (try simp only [gos, Nat.reduceBEq, if_true, reduceIte, reduceCtorEq, Nat.reduceLT, Nat.reduceEqDiff, Nat.reduceAdd]); (try (simp (disch := omega) only [gow]; try simp only [gos, Nat.reduceBEq, if_true, reduceIte, reduceCtorEq, Nat.reduceLT, Nat.reduceEqDiff, Nat.reduceAdd]))
    refine calls_spec (bound_spec _ _ _ hax hb hm) (by (repeat (first | exact Take.nil _ | exact Pick.head _ _ | apply Pick.tail | apply Take.cons))) ?_
    rintro v A ⟨⟨u2, rfl, hu2⟩, rfl⟩
    have h := hf u u2 hc hu hu2
    obtain ⟨h1, h2, h3⟩ := h
    have hQ0 : 0 ≤ (T - 1) / M := Int.ediv_nonneg (by omega) (by omega)
    have hQ1 : (T - 1) / M ≤ T - 1 := Int.ediv_le_self _ (by omega)
    refine hK _ _ ?_; clear hK K
    (repeat (refine run_cons fun K hK => ?_; (try simp only [gos, Nat.reduceBEq, if_true, reduceIte, reduceCtorEq, Nat.reduceLT, Nat.reduceEqDiff, Nat.reduceAdd, h1, h2, h3]); (try (simp (disch := omega) only [gow]; try simp only [gos, Nat.reduceBEq, if_true, reduceIte, reduceCtorEq, Nat.reduceLT, Nat.reduceEqDiff, Nat.reduceAdd, h1, h2, h3])); (first | refine hK _ _ ?_ | (refine load_box (by (repeat (first | exact Lies.one | apply Lies.next))) ?_; refine hK _ _ ?_) | (refine load_one (by (repeat (first | exact Lies.one | apply Lies.next))) rfl ?_; refine hK _ _ ?_) | (refine store_box trivial (by (repeat (first | exact Upd.one | apply Upd.next))) ?_; refine hK _ _ ?_) | (refine store_one trivial (by (repeat (first | exact Upd.one | apply Upd.next))) (by simp) ?_; refine hK _ _ ?_)); clear hK K)); try (refine run_nil ?_; try simp only [Cont.then, Cont.block, Cont.noGoto, reduceIte, Nat.reduceEqDiff])
    refine hN10 _ _ _ ?_; clear hN10
    refine code_ret ?_; try simp -implicitDefEqProofs only [Cont.then, Cont.block, Cont.noGoto, reduceIte]
    exact ret_tmp [] rfl ⟨rfl, rfl⟩ (by (repeat (first | exact Among.nil _ | exact Pick.head _ _ | apply Pick.tail | apply Among.cons)))

theorem SpanGreat_law (C : Chunk) (_h : True) (t : Int) (wt : (Lit.int .u64 t).wf = true) (b : Int) (wb : (Lit.int .u64 b).wf = true) (m : Int) (wm : (Lit.int .u64 m).wf = true) (x : Int) (wx : (Lit.int .u64 x).wf = true) :
    Meets Try.prog 5 [.int .u64 t, .int .u64 b, .int .u64 m, .int .u64 x] [C] fun v A => v = .bool true ∧ A = [C] :=
  (SpanGreat_meets t b m x (wf_u64 wt).1 (wf_u64 wb).1 (wf_u64 wm).1 (wf_u64 wx).1).keep C

end Go.Proofs.Ytceodidlbjephaa
