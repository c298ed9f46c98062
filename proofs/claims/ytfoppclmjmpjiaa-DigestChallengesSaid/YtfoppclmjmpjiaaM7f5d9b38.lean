/- The statement DigestChallenges. Conditions: as each says. -/
import Derived.Test.YtfoppclmjmpjiaaMb999eb10
import Derived.Test.YtfoppclmjmpjiaaMa6d423ee
import Derived.Test.YtfoppclmjmpjiaaM8aea6926
set_option linter.unusedSimpArgs false
set_option linter.unusedVariables false
namespace Go.Proofs.Ytfoppclmjmpjiaa
open Go Go.Ost

theorem print_len {l : List Par} (h : (printE l).2 = 0) : (printE l).1.length ≤ 4096 := by
  unfold printE at h ⊢
  split
  · simp
  rename_i h1
  rw [if_neg h1] at h
  split
  · simp
  rename_i h2
  rw [if_neg h2] at h
  split
  · simp
  · show (hdr ++ joinP l).length ≤ 4096; omega
theorem pc_good (r n o : List UInt8) (st : Bool) (hs : sizB n = true) : pcL (chPar ⟨r, n, o, st⟩) = (⟨r, n, o, st⟩, 0) := by
  have hc : chPar ⟨r, n, o, st⟩ = [⟨nRealm, r, true⟩, ⟨nNonce, n, true⟩] ++ opqP o ++ [⟨nAlg, nSum, false⟩] ++ staP st ++ [⟨nQop, nAuth, true⟩] := rfl
  have key : ∀ l : List Par, hasB l nRealm = true → gotP l nRealm = ⟨nRealm, r, true⟩ → hasB l nNonce = true → gotP l nNonce = ⟨nNonce, n, true⟩ → hasB l nAlg = true → gotP l nAlg = ⟨nAlg, nSum, false⟩ → hasB l nQop = true → gotP l nQop = ⟨nQop, nAuth, true⟩ →
      (gotP l nOpaque).v = o → (hasB l nOpaque = true → (gotP l nOpaque).q = true) → (hasB l nStale = true → (gotP l nStale).q = false) → (staV l == nTrue) = st → (staV l == nTrue || staV l == nFalse) = true → pcL l = (⟨r, n, o, st⟩, 0) := by
    intro l a1 a2 b1 b2 c1 c2 d1 d2 e1 e2 f1 f2 f3
    have hf : pcF l = (false, false) := by
      unfold pcF comF
      have m1 : mayF l nOpaque true (fineF (sizB (gotP l nNonce).v) (getF l nNonce true (getF l nRealm true (false, false)))) = (false, false) := by
        have : fineF (sizB (gotP l nNonce).v) (getF l nNonce true (getF l nRealm true (false, false))) = (false, false) := by
          unfold fineF getF; rw [a1, a2, b1, b2]; simp only [hs]; rfl
        rw [this]
        unfold mayF
        split
        · rename_i h; unfold getF; rw [h, e2 h]; rfl
        · rfl
      rw [m1]
      have m2 : fineF (lowL (gotP l nAlg).v == lowL nSum) (getF l nAlg false (fineF ((gotP l nQop).v == nAuth) (getF l nQop true (false, false)))) = (false, false) := by
        unfold fineF getF; rw [c1, c2, d1, d2]; simp
      rw [m2]
      unfold mayF
      split
      · rename_i h; unfold getF fineF; rw [h, f1 h, f3]; rfl
      · unfold fineF; rw [f3]; rfl
    unfold pcL
    rw [hf, if_neg (by decide), a2, b2, e1, f2]
  rw [hc]
  cases o with
  | nil => cases st with
    | true => exact key _ (by kernel_rfl) (by kernel_rfl) (by kernel_rfl) (by kernel_rfl) (by kernel_rfl) (by kernel_rfl) (by kernel_rfl) (by kernel_rfl) (by kernel_rfl) (fun h => absurd h (show ¬ (false = true) by decide)) (fun _ => by kernel_rfl) (by kernel_rfl) (by kernel_rfl)
    | false => exact key _ (by kernel_rfl) (by kernel_rfl) (by kernel_rfl) (by kernel_rfl) (by kernel_rfl) (by kernel_rfl) (by kernel_rfl) (by kernel_rfl) (by kernel_rfl) (fun h => absurd h (show ¬ (false = true) by decide)) (fun h => absurd h (show ¬ (false = true) by decide)) (by kernel_rfl) (by kernel_rfl)
  | cons a o =>
    have ho : opqP (a :: o) = [⟨nOpaque, a :: o, true⟩] := if_neg (by simp)
    rw [ho]
    cases st with
    | true => exact key _ (by kernel_rfl) (by kernel_rfl) (by kernel_rfl) (by kernel_rfl) (by kernel_rfl) (by kernel_rfl) (by kernel_rfl) (by kernel_rfl) (by kernel_rfl) (fun _ => by kernel_rfl) (fun _ => by kernel_rfl) (by kernel_rfl) (by kernel_rfl)
    | false => exact key _ (by kernel_rfl) (by kernel_rfl) (by kernel_rfl) (by kernel_rfl) (by kernel_rfl) (by kernel_rfl) (by kernel_rfl) (by kernel_rfl) (by kernel_rfl) (fun _ => by kernel_rfl) (fun h => absurd h (show ¬ (false = true) by decide)) (by kernel_rfl) (by kernel_rfl)
theorem pc_back {c : Ch} (h : (chText c).2 = 0) : pcE (chText c).1 = (c, 0) ∧ (chText c).1.length ≤ 4096 := by
  obtain ⟨r, n, o, st⟩ := c
  unfold chText at h ⊢
  cases hs : sizB n with
  | false =>
    have hs' : sizB (Ch.mk r n o st).n = false := hs
    rw [if_pos hs'] at h; cases h
  | true =>
    have hs' : ¬ sizB (Ch.mk r n o st).n = false := by show ¬ sizB n = false; rw [hs]; simp
    rw [if_neg hs'] at h
    rw [if_neg (show ¬ (true = false) by decide)]
    refine ⟨?_, print_len h⟩
    unfold pcE
    rw [parse_print h, if_neg (by simp)]
    exact pc_good r n o st hs
instance teqRCh : TEq Try.prog 57 [.s, .s, .s, .b] := ⟨by kernel_rfl⟩
theorem eqC (c : Ch) : eqL [.s, .s, .s, .b] (encC c) (encC c) = some true := by
  obtain ⟨r, n, o, st⟩ := c
  simp only [encC, eqL, if_true, Option.map_some, beq_self_eq_true, Bool.and_self, reduceIte]
theorem ch_of {C : Chunk} {us : List Value} (h : RowW C [.str, .str, .str, .bool] us) : ∃ c : Ch, us = encC c := by
  match us, h with
  | [a, b, c, d], ⟨⟨la, ha, _⟩, ⟨lb, hb, _⟩, ⟨lc, hc, _⟩, ⟨bd, hd⟩, _⟩ => exact ⟨⟨la, lb, lc, bd⟩, by rw [ha, hb, hc, hd]⟩

set_option maxHeartbeats 2000000 in
theorem DigestChallenges_law (C : Chunk) (_ : True) (us : List Value) (hus : RowW C [.str, .str, .str, .bool] us) :
    Meets Try.prog 7 [.agg us.toArray] [C] fun v A => v = .bool true ∧ A = [C] := by
  obtain ⟨⟨r0, n0, o0, st⟩, rfl⟩ := ch_of hus
  refine spec_intro Try.func7 rfl (by kernel_rfl) (by rw [Try.ntmps7]; simp) fun F => ?_; rw [Try.ntmps7, Try.results7]
  refine going ?_
  refine run_op fun K hK => ?_; refine box_new fun b1 => ?_; (try simp only [Value.cells]); refine hK _ _ ?_; clear hK K
  refine going ?_
  refine run_op fun K hK => ?_; refine calls_to (awake_spec) ?_; rintro v A ⟨rfl, rfl⟩; (try simp only [List.nil_append, List.cons_append]); refine hK _ _ ?_; clear hK K; refine going ?_
  refine code_dr [[], [0], [0, 1], [], [3], [0, 1, 2, 3, 4], [], [6], [0, 1, 2, 3, 4, 5, 6, 7], [0, 1, 2, 3, 4, 6, 7], [0, 1, 2, 3, 4, 5, 6, 7, 8, 9], [0, 1, 2, 3, 4, 5, 6, 7, 8, 9, 10], [0, 1, 2, 3, 4, 5, 6, 7, 8, 9, 10, 11], [0, 1, 2, 3, 4, 5, 6, 7, 8, 9, 10, 11, 12], [0, 1, 2, 3, 4, 5, 6, 7, 8, 9, 10, 11, 12, 13]] [(0, false, []), (1, false, []), (3, false, []), (4, false, []), (6, false, []), (7, false, []), (2, true, [4, 7]), (9, false, []), (5, true, [7]), (8, true, []), (10, true, []), (11, false, []), (12, true, []), (13, false, []), (14, true, [])] ?_
  refine going ?_
  refine draw_op fun K hK => ?_; refine calls_to (cuttext_spec r0 2500) ?_; rintro v A ⟨rfl, rfl⟩; (try simp only [List.nil_append, List.cons_append]); (repeat refine pend ?_); refine hK _ _ ?_; clear hK K
  refine going ?_
  refine draw_op fun K hK => ?_; refine calls_to (cuttext_spec n0 70) ?_; rintro v A ⟨rfl, rfl⟩; (try simp only [List.nil_append, List.cons_append]); (repeat refine pend ?_); refine hK _ _ ?_; clear hK K
  refine going ?_
  refine draw_op fun K hK => ?_; refine calls_to (cuttext_spec o0 2500) ?_; rintro v A ⟨rfl, rfl⟩; (try simp only [List.nil_append, List.cons_append]); (repeat refine pend ?_); refine hK _ _ ?_; clear hK K
  refine going ?_
  (try (refine draw_op fun K hK => ?_; (first | refine store_box trivial (by (repeat (first | with_reducible exact Upd.one | with_reducible apply Upd.next))) ?_ | refine store_one trivial (by (repeat (first | with_reducible exact Upd.one | with_reducible apply Upd.next))) (by simp) ?_); (repeat refine pend ?_); refine hK _ _ ?_; clear hK K; refine going ?_))
  (try (refine draw_op fun K hK => ?_; (first | refine store_box trivial (by (repeat (first | with_reducible exact Upd.one | with_reducible apply Upd.next))) ?_ | refine store_one trivial (by (repeat (first | with_reducible exact Upd.one | with_reducible apply Upd.next))) (by simp) ?_); (repeat refine pend ?_); refine hK _ _ ?_; clear hK K; refine going ?_))
  (try (refine draw_op fun K hK => ?_; (first | refine store_box trivial (by (repeat (first | with_reducible exact Upd.one | with_reducible apply Upd.next))) ?_ | refine store_one trivial (by (repeat (first | with_reducible exact Upd.one | with_reducible apply Upd.next))) (by simp) ?_); (repeat refine pend ?_); refine hK _ _ ?_; clear hK K; refine going ?_))
  (try simp only [List.setIfInBounds_toArray, List.set_cons_succ, List.set_cons_zero, List.getElem_toArray, List.getElem_cons_succ, List.getElem_cons_zero])
  have l1 : (r0.take 2500).length ≤ 2500 := by rw [List.length_take]; omega
  have l2 : (n0.take 70).length ≤ 70 := by rw [List.length_take]; omega
  have l3 : (o0.take 2500).length ≤ 2500 := by rw [List.length_take]; omega
  generalize r0.take 2500 = r at *
  generalize n0.take 70 = n at *
  generalize o0.take 2500 = o at *
  refine run_op fun K hK => ?_; refine load_all (vs := encC ⟨r, n, o, st⟩) (by (repeat (first | with_reducible exact Lies.one | with_reducible apply Lies.next))) rfl ?_; refine hK _ _ ?_; clear hK K
  refine going ?_
  refine run_op fun K hK => ?_; refine calls_to (chtext_spec ⟨r, n, o, st⟩ (by show r.length ≤ _; omega) (by show n.length ≤ _; omega) (by show o.length ≤ _; omega)) ?_; rintro v A ⟨rfl, rfl⟩; (try simp only [List.nil_append, List.cons_append]); refine hK _ _ ?_; clear hK K; refine going ?_
  refine run_op fun K hK => ?_; refine load_all (vs := encC ⟨r, n, o, st⟩) (by (repeat (first | with_reducible exact Lies.one | with_reducible apply Lies.next))) rfl ?_; refine hK _ _ ?_; clear hK K
  refine going ?_
  refine run_op fun K hK => ?_; refine calls_to (rchtext_spec ⟨r, n, o, st⟩ (by show r.length ≤ _; omega) (by show n.length ≤ _; omega) (by show o.length ≤ _; omega)) ?_; rintro v A ⟨rfl, rfl⟩; (try simp only [List.nil_append, List.cons_append]); refine hK _ _ ?_; clear hK K; refine going ?_
  by_cases h0 : (chText ⟨r, n, o, st⟩).2 = 0
  · obtain ⟨hpb, hpl⟩ := pc_back h0
    have hps := pchal_spec (chText ⟨r, n, o, st⟩).1 (by omega)
    rw [hpb] at hps
    rw [h0]
    refine going ?_
    refine run_op fun K hK => ?_; refine calls_to (hps) ?_; rintro v A ⟨rfl, rfl⟩; (try simp only [List.nil_append, List.cons_append]); refine hK _ _ ?_; clear hK K; refine going ?_
    refine run_op fun K hK => ?_; refine alloc_as (encC c0).toArray rfl fun b7 => ?_; refine hK _ _ ?_; clear hK K
    refine run_op fun K hK => ?_; refine store_all (vs := encC ⟨r, n, o, st⟩) rfl (cell_C _) (by (repeat (first | with_reducible exact Upd.one | with_reducible apply Upd.next))) (by rfl) ?_; refine hK _ _ ?_; clear hK K
    refine going ?_
    refine run_op fun K hK => ?_; refine load_all (vs := encC ⟨r, n, o, st⟩) (by (repeat (first | with_reducible exact Lies.one | with_reducible apply Lies.next))) rfl ?_; refine hK _ _ ?_; clear hK K
    refine going ?_
    refine run_op fun K hK => ?_; refine load_all (vs := encC ⟨r, n, o, st⟩) (by (repeat (first | with_reducible exact Lies.one | with_reducible apply Lies.next))) rfl ?_; refine hK _ _ ?_; clear hK K
    refine run_op fun K hK => ?_; rw [agg_eql (eqC ⟨r, n, o, st⟩)]; refine hK _ _ ?_; clear hK K
    refine going ?_
    refine back_tmp [C] ?_; exact ⟨rfl, rfl⟩
  · rw [bne_iff_ne.2 h0]
    refine going ?_
    refine back_tmp [C] ?_; exact ⟨rfl, rfl⟩

end Go.Proofs.Ytfoppclmjmpjiaa
