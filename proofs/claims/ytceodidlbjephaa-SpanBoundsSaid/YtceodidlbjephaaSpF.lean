/- The law SpanBounds. Conditions: numbers are those of their kinds. -/
import Derived.Test.YtceodidlbjephaaSpD
set_option linter.unusedSimpArgs false
set_option linter.unusedVariables false
namespace Go.Proofs.Ytceodidlbjephaa
open Go.Ost Go.Span

theorem bounds_facts {T B M u : Int} (hT : ¬ T = 0) (hT0 : 0 ≤ T) (hT2 : T ≤ 2999) (hB : 0 ≤ B) (hB2 : B ≤ 65535) (hM : 0 ≤ M) (hM2 : M ≤ 699) (h : IsBound T B M u) :
    1 ≤ u ∧ u ≤ T ∧ tg (mx B) (mx M) (u.toNat - 1) < T ∧ T ≤ tg (mx B) (mx M) ((u + 1).toNat - 1) := by
  have eT : tk T = T := tk_self (by omega)
  have eB : tk B = B := tk_self (by omega)
  have eM : tk M = M := tk_self (by omega)
  unfold IsBound at h
  rw [eT, eB, eM] at h
  obtain ⟨n, rfl, hn⟩ := h.2 (by omega)
  have b1 := mx_pos B
  have m1 := mx_pos M
  have m2 : mx M ≤ 700 := by unfold mx; split <;> omega
  have low := Is.low b1 m1 hn
  have w := wt_bd (mx B) (mx M) (by omega) (by omega) (n + 1)
  rw [tk_self (n := mx M) (by omega)] at w
  have s1 : sm (mx B) (mx M) (n + 1) = sm (mx B) (mx M) n + wt (mx B) (mx M) (n + 1) := rfl
  have h1 := hn.1
  have h2 := hn.2
  refine ⟨by omega, low, ?_, ?_⟩
  · rw [show ((n : Int) + 1).toNat - 1 = n from by omega, tg_sm _ _ (by omega) (by omega) n (by omega)]
    exact h1
  · rw [show ((n : Int) + 1 + 1).toNat - 1 = n + 1 from by omega, tg_sm _ _ (by omega) (by omega) (n + 1) (by omega)]
    exact h2

theorem SpanBounds_meets (t b m : Int) (ht : 0 ≤ t) (ht2 : t ≤ 4294967295) (hb : 0 ≤ b) (hb2 : b ≤ 65535) (hm : 0 ≤ m) (hm2 : m ≤ 65535) :
    Meets Try.prog 4 [.int .u32 t, .int .u16 b, .int .u16 m] [] fun v A => v = .bool true ∧ A = [] := by
  have hf := fun u h0 h1 => bounds_facts (T := t % 3000) (B := b) (M := m % 700) (u := u) h0 (by omega) (by omega) hb hb2 (by omega) (by omega) h1
  have hz : t % 3000 = 0 → ∀ u, IsBound (t % 3000) b (m % 700) u → u = 0 := fun h u hu => hu.1 (by rw [h]; rfl)
  refine spec_intro Try.func4 rfl (by kernel_rfl) (by rw [Try.ntmps4]; simp) fun F => ?_; rw [Try.ntmps4, Try.results4]
  refine code_seq_k fun N1 hN1 => ?_
  refine code_reg ?_; (repeat (refine run_cons fun K hK => ?_; (try simp only [gos, Nat.reduceBEq, if_true, reduceIte, reduceCtorEq, Nat.reduceLT, Nat.reduceEqDiff, Nat.reduceAdd]); (try (simp (disch := omega) only [gow]; try simp only [gos, Nat.reduceBEq, if_true, reduceIte, reduceCtorEq, Nat.reduceLT, Nat.reduceEqDiff, Nat.reduceAdd])); (first | refine hK _ _ ?_ | (refine load_box (by (repeat (first | exact Lies.one | apply Lies.next))) ?_; refine hK _ _ ?_) | (refine load_one (by (repeat (first | exact Lies.one | apply Lies.next))) rfl ?_; refine hK _ _ ?_) | (refine store_box trivial (by (repeat (first | exact Upd.one | apply Upd.next))) ?_; refine hK _ _ ?_) | (refine store_one trivial (by (repeat (first | exact Upd.one | apply Upd.next))) (by simp) ?_; refine hK _ _ ?_)); clear hK K)); try (refine run_nil ?_; try simp only [Cont.then, Cont.block, Cont.noGoto, reduceIte, Nat.reduceEqDiff])
  refine hN1 _ _ _ ?_; clear hN1
  refine code_seq_k fun N2 hN2 => ?_
  refine code_seq_k fun N3 hN3 => ?_
  refine code_reg ?_; (repeat (refine run_cons fun K hK => ?_; (try simp only [gos, Nat.reduceBEq, if_true, reduceIte, reduceCtorEq, Nat.reduceLT, Nat.reduceEqDiff, Nat.reduceAdd]); (try (simp (disch := omega) only [gow]; try simp only [gos, Nat.reduceBEq, if_true, reduceIte, reduceCtorEq, Nat.reduceLT, Nat.reduceEqDiff, Nat.reduceAdd])); (first | refine hK _ _ ?_ | (refine load_box (by (repeat (first | exact Lies.one | apply Lies.next))) ?_; refine hK _ _ ?_) | (refine load_one (by (repeat (first | exact Lies.one | apply Lies.next))) rfl ?_; refine hK _ _ ?_) | (refine store_box trivial (by (repeat (first | exact Upd.one | apply Upd.next))) ?_; refine hK _ _ ?_) | (refine store_one trivial (by (repeat (first | exact Upd.one | apply Upd.next))) (by simp) ?_; refine hK _ _ ?_)); clear hK K)); try (refine run_nil ?_; try simp only [Cont.then, Cont.block, Cont.noGoto, reduceIte, Nat.reduceEqDiff])
  refine run_cons fun K hK => ?_; (try simp only [gos, Nat.reduceBEq, if_true, reduceIte, reduceCtorEq, Nat.reduceLT, Nat.reduceEqDiff, Nat.reduceAdd]); (try (simp (disch := omega) only [gow]; try simp only [gos, Nat.reduceBEq, if_true, reduceIte, reduceCtorEq, Nat.reduceLT, Nat.reduceEqDiff, Nat.reduceAdd])); refine calls_spec (awake_spec) (by (repeat (first | exact Take.nil _ | exact Pick.head _ _ | apply Pick.tail | apply Take.cons))) ?_; rintro v A ⟨rfl, rfl⟩; refine hK _ _ ?_; clear hK K
  (repeat (refine run_cons fun K hK => ?_; (try simp only [gos, Nat.reduceBEq, if_true, reduceIte, reduceCtorEq, Nat.reduceLT, Nat.reduceEqDiff, Nat.reduceAdd]); (try (simp (disch := omega) only [gow]; try simp only [gos, Nat.reduceBEq, if_true, reduceIte, reduceCtorEq, Nat.reduceLT, Nat.reduceEqDiff, Nat.reduceAdd])); (first | refine hK _ _ ?_ | (refine load_box (by (repeat (first | exact Lies.one | apply Lies.next))) ?_; refine hK _ _ ?_) | (refine load_one (by (repeat (first | exact Lies.one | apply Lies.next))) rfl ?_; refine hK _ _ ?_) | (refine store_box trivial (by (repeat (first | exact Upd.one | apply Upd.next))) ?_; refine hK _ _ ?_) | (refine store_one trivial (by (repeat (first | exact Upd.one | apply Upd.next))) (by simp) ?_; refine hK _ _ ?_)); clear hK K)); try (refine run_nil ?_; try simp only [Cont.then, Cont.block, Cont.noGoto, reduceIte, Nat.reduceEqDiff])
  refine hN3 _ _ _ ?_; clear hN3
  refine code_false rfl (code_skip ?_)
  refine hN2 _ _ _ ?_; clear hN2
  refine code_seq_k fun N5 hN5 => ?_
  refine code_reg ?_; (repeat (refine run_cons fun K hK => ?_; (try simp only [gos, Nat.reduceBEq, if_true, reduceIte, reduceCtorEq, Nat.reduceLT, Nat.reduceEqDiff, Nat.reduceAdd]); (try (simp (disch := omega) only [gow]; try simp only [gos, Nat.reduceBEq, if_true, reduceIte, reduceCtorEq, Nat.reduceLT, Nat.reduceEqDiff, Nat.reduceAdd])); (first | refine hK _ _ ?_ | (refine load_box (by (repeat (first | exact Lies.one | apply Lies.next))) ?_; refine hK _ _ ?_) | (refine load_one (by (repeat (first | exact Lies.one | apply Lies.next))) rfl ?_; refine hK _ _ ?_) | (refine store_box trivial (by (repeat (first | exact Upd.one | apply Upd.next))) ?_; refine hK _ _ ?_) | (refine store_one trivial (by (repeat (first | exact Upd.one | apply Upd.next))) (by simp) ?_; refine hK _ _ ?_)); clear hK K)); try (refine run_nil ?_; try simp only [Cont.then, Cont.block, Cont.noGoto, reduceIte, Nat.reduceEqDiff])
  have hT0 : 0 ≤ t % 3000 := by omega
  have hT2 : t % 3000 ≤ 2999 := by omega
  have hM0 : 0 ≤ m % 700 := by omega
  have hM2 : m % 700 ≤ 699 := by omega
  generalize t % 3000 = T at *
  generalize m % 700 = M at *
  refine hN5 _ _ _ ?_; clear hN5
  refine code_seq_k fun N6 hN6 => ?_
  refine code_reg ?_; (repeat (refine run_cons fun K hK => ?_; (try simp only [gos, Nat.reduceBEq, if_true, reduceIte, reduceCtorEq, Nat.reduceLT, Nat.reduceEqDiff, Nat.reduceAdd]); (try (simp (disch := omega) only [gow]; try simp only [gos, Nat.reduceBEq, if_true, reduceIte, reduceCtorEq, Nat.reduceLT, Nat.reduceEqDiff, Nat.reduceAdd])); (first | refine hK _ _ ?_ | (refine load_box (by (repeat (first | exact Lies.one | apply Lies.next))) ?_; refine hK _ _ ?_) | (refine load_one (by (repeat (first | exact Lies.one | apply Lies.next))) rfl ?_; refine hK _ _ ?_) | (refine store_box trivial (by (repeat (first | exact Upd.one | apply Upd.next))) ?_; refine hK _ _ ?_) | (refine store_one trivial (by (repeat (first | exact Upd.one | apply Upd.next))) (by simp) ?_; refine hK _ _ ?_)); clear hK K)); try (refine run_nil ?_; try simp only [Cont.then, Cont.block, Cont.noGoto, reduceIte, Nat.reduceEqDiff])
  refine run_cons fun K hK => ?_; (try simp only [gos, Nat.reduceBEq, if_true, reduceIte, reduceCtorEq, Nat.reduceLT, Nat.reduceEqDiff, Nat.reduceAdd]); (try (simp (disch := omega) only [gow]; try simp only [gos, Nat.reduceBEq, if_true, reduceIte, reduceCtorEq, Nat.reduceLT, Nat.reduceEqDiff, Nat.reduceAdd]))
  refine calls_spec (bound_spec _ _ _ (by omega) (by omega) (by omega)) (by (repeat (first | exact Take.nil _ | exact Pick.head _ _ | apply Pick.tail | apply Take.cons))) ?_
  rintro v A ⟨⟨u, rfl, hu⟩, rfl⟩
  refine hK _ _ ?_; clear hK K
  (repeat (refine run_cons fun K hK => ?_; (try simp only [gos, Nat.reduceBEq, if_true, reduceIte, reduceCtorEq, Nat.reduceLT, Nat.reduceEqDiff, Nat.reduceAdd]); (try (simp (disch := omega) only [gow]; try simp only [gos, Nat.reduceBEq, if_true, reduceIte, reduceCtorEq, Nat.reduceLT, Nat.reduceEqDiff, Nat.reduceAdd])); (first | refine hK _ _ ?_ | (refine load_box (by (repeat (first | exact Lies.one | apply Lies.next))) ?_; refine hK _ _ ?_) | (refine load_one (by (repeat (first | exact Lies.one | apply Lies.next))) rfl ?_; refine hK _ _ ?_) | (refine store_box trivial (by (repeat (first | exact Upd.one | apply Upd.next))) ?_; refine hK _ _ ?_) | (refine store_one trivial (by (repeat (first | exact Upd.one | apply Upd.next))) (by simp) ?_; refine hK _ _ ?_)); clear hK K)); try (refine run_nil ?_; try simp only [Cont.then, Cont.block, Cont.noGoto, reduceIte, Nat.reduceEqDiff])
  refine hN6 _ _ _ ?_; clear hN6
  refine code_seq_k fun N7 hN7 => ?_
  refine code_reg ?_; (repeat (refine run_cons fun K hK => ?_; (try simp only [gos, Nat.reduceBEq, if_true, reduceIte, reduceCtorEq, Nat.reduceLT, Nat.reduceEqDiff, Nat.reduceAdd]); (try (simp (disch := omega) only [gow]; try simp only [gos, Nat.reduceBEq, if_true, reduceIte, reduceCtorEq, Nat.reduceLT, Nat.reduceEqDiff, Nat.reduceAdd])); (first | refine hK _ _ ?_ | (refine load_box (by (repeat (first | exact Lies.one | apply Lies.next))) ?_; refine hK _ _ ?_) | (refine load_one (by (repeat (first | exact Lies.one | apply Lies.next))) rfl ?_; refine hK _ _ ?_) | (refine store_box trivial (by (repeat (first | exact Upd.one | apply Upd.next))) ?_; refine hK _ _ ?_) | (refine store_one trivial (by (repeat (first | exact Upd.one | apply Upd.next))) (by simp) ?_; refine hK _ _ ?_)); clear hK K)); try (refine run_nil ?_; try simp only [Cont.then, Cont.block, Cont.noGoto, reduceIte, Nat.reduceEqDiff])
  refine hN7 _ _ _ ?_; clear hN7
  rw [show (if b < 1 then 1 else b) = mx b from rfl, show (if M < 1 then 1 else M) = mx M from rfl]
  have b1 := mx_pos b
  have m1 := mx_pos M
  refine code_seq_k fun N8 hN8 => ?_
  refine code_seq_k fun N9 hN9 => ?_
  refine code_reg ?_; (repeat (refine run_cons fun K hK => ?_; (try simp only [gos, Nat.reduceBEq, if_true, reduceIte, reduceCtorEq, Nat.reduceLT, Nat.reduceEqDiff, Nat.reduceAdd]); (try (simp (disch := omega) only [gow]; try simp only [gos, Nat.reduceBEq, if_true, reduceIte, reduceCtorEq, Nat.reduceLT, Nat.reduceEqDiff, Nat.reduceAdd])); (first | refine hK _ _ ?_ | (refine load_box (by (repeat (first | exact Lies.one | apply Lies.next))) ?_; refine hK _ _ ?_) | (refine load_one (by (repeat (first | exact Lies.one | apply Lies.next))) rfl ?_; refine hK _ _ ?_) | (refine store_box trivial (by (repeat (first | exact Upd.one | apply Upd.next))) ?_; refine hK _ _ ?_) | (refine store_one trivial (by (repeat (first | exact Upd.one | apply Upd.next))) (by simp) ?_; refine hK _ _ ?_)); clear hK K)); try (refine run_nil ?_; try simp only [Cont.then, Cont.block, Cont.noGoto, reduceIte, Nat.reduceEqDiff])
  refine hN9 _ _ _ ?_; clear hN9
  refine code_cond rfl (fun hc => ?_) (fun hc => ?_)
  · have hc : T = 0 := by simpa using hc
    obtain rfl := hz hc u hu
    refine code_seq_k fun N10 hN10 => ?_
    refine code_reg ?_; (repeat (refine run_cons fun K hK => ?_; (try simp only [gos, Nat.reduceBEq, if_true, reduceIte, reduceCtorEq, Nat.reduceLT, Nat.reduceEqDiff, Nat.reduceAdd]); (try (simp (disch := omega) only [gow]; try simp only [gos, Nat.reduceBEq, if_true, reduceIte, reduceCtorEq, Nat.reduceLT, Nat.reduceEqDiff, Nat.reduceAdd])); (first | refine hK _ _ ?_ | (refine load_box (by (repeat (first | exact Lies.one | apply Lies.next))) ?_; refine hK _ _ ?_) | (refine load_one (by (repeat (first | exact Lies.one | apply Lies.next))) rfl ?_; refine hK _ _ ?_) | (refine store_box trivial (by (repeat (first | exact Upd.one | apply Upd.next))) ?_; refine hK _ _ ?_) | (refine store_one trivial (by (repeat (first | exact Upd.one | apply Upd.next))) (by simp) ?_; refine hK _ _ ?_)); clear hK K)); try (refine run_nil ?_; try simp only [Cont.then, Cont.block, Cont.noGoto, reduceIte, Nat.reduceEqDiff])
    refine hN10 _ _ _ ?_; clear hN10
    refine code_ret ?_; try simp -implicitDefEqProofs only [Cont.then, Cont.block, Cont.noGoto, reduceIte]
    exact ret_tmp [] rfl ⟨rfl, rfl⟩ (by (repeat (first | exact Among.nil _ | exact Pick.head _ _ | apply Pick.tail | apply Among.cons)))
  · have hc : ¬ T = 0 := by simpa using hc
    obtain ⟨h1, h2, h3, h4⟩ := hf u hc hu
    refine code_skip ?_
    refine hN8 _ _ _ ?_; clear hN8
    refine code_seq_k fun N11 hN11 => ?_
    refine code_reg ?_; (repeat (refine run_cons fun K hK => ?_; (try simp only [gos, Nat.reduceBEq, if_true, reduceIte, reduceCtorEq, Nat.reduceLT, Nat.reduceEqDiff, Nat.reduceAdd, h1, h2]); (try (simp (disch := omega) only [gow]; try simp only [gos, Nat.reduceBEq, if_true, reduceIte, reduceCtorEq, Nat.reduceLT, Nat.reduceEqDiff, Nat.reduceAdd, h1, h2])); (first | refine hK _ _ ?_ | (refine load_box (by (repeat (first | exact Lies.one | apply Lies.next))) ?_; refine hK _ _ ?_) | (refine load_one (by (repeat (first | exact Lies.one | apply Lies.next))) rfl ?_; refine hK _ _ ?_) | (refine store_box trivial (by (repeat (first | exact Upd.one | apply Upd.next))) ?_; refine hK _ _ ?_) | (refine store_one trivial (by (repeat (first | exact Upd.one | apply Upd.next))) (by simp) ?_; refine hK _ _ ?_)); clear hK K)); try (refine run_nil ?_; try simp only [Cont.then, Cont.block, Cont.noGoto, reduceIte, Nat.reduceEqDiff])
    refine run_cons fun K hK => ?_; (try simp only [gos, Nat.reduceBEq, if_true, reduceIte, reduceCtorEq, Nat.reduceLT, Nat.reduceEqDiff, Nat.reduceAdd, h1, h2]); (try (simp (disch := omega) only [gow]; try simp only [gos, Nat.reduceBEq, if_true, reduceIte, reduceCtorEq, Nat.reduceLT, Nat.reduceEqDiff, Nat.reduceAdd, h1, h2]))
    refine calls_spec (together_spec (mx b) (mx M) u (by omega) (by omega) (by omega) (by omega)) (by (repeat (first | exact Take.nil _ | exact Pick.head _ _ | apply Pick.tail | apply Take.cons))) ?_
    rintro v A ⟨rfl, rfl⟩
    refine hK _ _ ?_; clear hK K
    (repeat (refine run_cons fun K hK => ?_; (try simp only [gos, Nat.reduceBEq, if_true, reduceIte, reduceCtorEq, Nat.reduceLT, Nat.reduceEqDiff, Nat.reduceAdd, h3]); (try (simp (disch := omega) only [gow]; try simp only [gos, Nat.reduceBEq, if_true, reduceIte, reduceCtorEq, Nat.reduceLT, Nat.reduceEqDiff, Nat.reduceAdd, h3])); (first | refine hK _ _ ?_ | (refine load_box (by (repeat (first | exact Lies.one | apply Lies.next))) ?_; refine hK _ _ ?_) | (refine load_one (by (repeat (first | exact Lies.one | apply Lies.next))) rfl ?_; refine hK _ _ ?_) | (refine store_box trivial (by (repeat (first | exact Upd.one | apply Upd.next))) ?_; refine hK _ _ ?_) | (refine store_one trivial (by (repeat (first | exact Upd.one | apply Upd.next))) (by simp) ?_; refine hK _ _ ?_)); clear hK K)); try (refine run_nil ?_; try simp only [Cont.then, Cont.block, Cont.noGoto, reduceIte, Nat.reduceEqDiff])
    refine run_cons fun K hK => ?_; (try simp only [gos, Nat.reduceBEq, if_true, reduceIte, reduceCtorEq, Nat.reduceLT, Nat.reduceEqDiff, Nat.reduceAdd, h3]); (try (simp (disch := omega) only [gow]; try simp only [gos, Nat.reduceBEq, if_true, reduceIte, reduceCtorEq, Nat.reduceLT, Nat.reduceEqDiff, Nat.reduceAdd, h3]))
    refine calls_spec (together_spec (mx b) (mx M) (u + 1) (by omega) (by omega) (by omega) (by omega)) (by (repeat (first | exact Take.nil _ | exact Pick.head _ _ | apply Pick.tail | apply Take.cons))) ?_
    rintro v A ⟨rfl, rfl⟩
    refine hK _ _ ?_; clear hK K
    (repeat (refine run_cons fun K hK => ?_; (try simp only [gos, Nat.reduceBEq, if_true, reduceIte, reduceCtorEq, Nat.reduceLT, Nat.reduceEqDiff, Nat.reduceAdd, h4]); (try (simp (disch := omega) only [gow]; try simp only [gos, Nat.reduceBEq, if_true, reduceIte, reduceCtorEq, Nat.reduceLT, Nat.reduceEqDiff, Nat.reduceAdd, h4])); (first | refine hK _ _ ?_ | (refine load_box (by (repeat (first | exact Lies.one | apply Lies.next))) ?_; refine hK _ _ ?_) | (refine load_one (by (repeat (first | exact Lies.one | apply Lies.next))) rfl ?_; refine hK _ _ ?_) | (refine store_box trivial (by (repeat (first | exact Upd.one | apply Upd.next))) ?_; refine hK _ _ ?_) | (refine store_one trivial (by (repeat (first | exact Upd.one | apply Upd.next))) (by simp) ?_; refine hK _ _ ?_)); clear hK K)); try (refine run_nil ?_; try simp only [Cont.then, Cont.block, Cont.noGoto, reduceIte, Nat.reduceEqDiff])
    refine hN11 _ _ _ ?_; clear hN11
    refine code_ret ?_; try simp -implicitDefEqProofs only [Cont.then, Cont.block, Cont.noGoto, reduceIte]
    exact ret_tmp [] rfl ⟨rfl, rfl⟩ (by (repeat (first | exact Among.nil _ | exact Pick.head _ _ | apply Pick.tail | apply Among.cons)))

theorem wf_u32 {a : Int} (h : (Lit.int .u32 a).wf = true) : 0 ≤ a ∧ a ≤ 4294967295 := by simpa [Lit.wf, IntKind.min, IntKind.max, IntKind.signed, IntKind.bits] using h
theorem wf_u16 {a : Int} (h : (Lit.int .u16 a).wf = true) : 0 ≤ a ∧ a ≤ 65535 := by simpa [Lit.wf, IntKind.min, IntKind.max, IntKind.signed, IntKind.bits] using h

theorem SpanBounds_law (C : Chunk) (_h : True) (t : Int) (wt : (Lit.int .u32 t).wf = true) (b : Int) (wb : (Lit.int .u16 b).wf = true) (m : Int) (wm : (Lit.int .u16 m).wf = true) :
    Meets Try.prog 4 [.int .u32 t, .int .u16 b, .int .u16 m] [C] fun v A => v = .bool true ∧ A = [C] :=
  (SpanBounds_meets t b m (wf_u32 wt).1 (wf_u32 wt).2 (wf_u16 wb).1 (wf_u16 wb).2 (wf_u16 wm).1 (wf_u16 wm).2).keep C

end Go.Proofs.Ytceodidlbjephaa
