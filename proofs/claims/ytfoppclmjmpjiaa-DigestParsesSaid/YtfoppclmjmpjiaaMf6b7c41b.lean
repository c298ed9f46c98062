/- Texts in a row: the walk's rules and contracts, as each says. Conditions: as each says. -/
import Derived.Test.YtfoppclmjmpjiaaM98a3435e
import Derived.Test.YtfoppclmjmpjiaaM8f6a7144
import Derived.Test.YtfoppclmjmpjiaaM1bd2b66d
import Derived.Test.YtfoppclmjmpjiaaM07fc157c
import Derived.Test.YtfoppclmjmpjiaaM9d5662c1
/- The statement DigestChallenges. Conditions: as each says. -/
set_option linter.unusedSimpArgs false
set_option linter.unusedVariables false
namespace Go.Proofs.Ytfoppclmjmpjiaa
open Go Go.Ost

theorem print_len {l : List Par} (h : (printE l).2 = 0) : (printE l).1.length ≤ 4096 := by
  unfold printE at h ⊢
  split
  · simp
  rename_i h1
  rw [if_neg h1] at h
  split
  · simp
  rename_i h2
  rw [if_neg h2] at h
  split
  · simp
  · show (hdr ++ joinP l).length ≤ 4096; omega
theorem pc_good (r n o : List UInt8) (st : Bool) (hs : sizB n = true) : pcL (chPar ⟨r, n, o, st⟩) = (⟨r, n, o, st⟩, 0) := by
  have hc : chPar ⟨r, n, o, st⟩ = [⟨nRealm, r, true⟩, ⟨nNonce, n, true⟩] ++ opqP o ++ [⟨nAlg, nSum, false⟩] ++ staP st ++ [⟨nQop, nAuth, true⟩] := rfl
  have key : ∀ l : List Par, hasB l nRealm = true → gotP l nRealm = ⟨nRealm, r, true⟩ → hasB l nNonce = true → gotP l nNonce = ⟨nNonce, n, true⟩ → hasB l nAlg = true → gotP l nAlg = ⟨nAlg, nSum, false⟩ → hasB l nQop = true → gotP l nQop = ⟨nQop, nAuth, true⟩ →
      (gotP l nOpaque).v = o → (hasB l nOpaque = true → (gotP l nOpaque).q = true) → (hasB l nStale = true → (gotP l nStale).q = false) → (staV l == nTrue) = st → (staV l == nTrue || staV l == nFalse) = true → pcL l = (⟨r, n, o, st⟩, 0) := by
    intro l a1 a2 b1 b2 c1 c2 d1 d2 e1 e2 f1 f2 f3
    have hf : pcF l = (false, false) := by
      unfold pcF comF
      have m1 : mayF l nOpaque true (fineF (sizB (gotP l nNonce).v) (getF l nNonce true (getF l nRealm true (false, false)))) = (false, false) := by
        have : fineF (sizB (gotP l nNonce).v) (getF l nNonce true (getF l nRealm true (false, false))) = (false, false) := by
          unfold fineF getF; rw [a1, a2, b1, b2]; simp only [hs]; rfl
        rw [this]
        unfold mayF
        split
        · rename_i h; unfold getF; rw [h, e2 h]; rfl
        · rfl
      rw [m1]
      have m2 : fineF (lowL (gotP l nAlg).v == lowL nSum) (getF l nAlg false (fineF ((gotP l nQop).v == nAuth) (getF l nQop true (false, false)))) = (false, false) := by
        unfold fineF getF; rw [c1, c2, d1, d2]; simp
      rw [m2]
      unfold mayF
      split
      · rename_i h; unfold getF fineF; rw [h, f1 h, f3]; rfl
      · unfold fineF; rw [f3]; rfl
    unfold pcL
    rw [hf, if_neg (by decide), a2, b2, e1, f2]
  rw [hc]
  cases o with
  | nil => cases st with
    | true => exact key _ (by kernel_rfl) (by kernel_rfl) (by kernel_rfl) (by kernel_rfl) (by kernel_rfl) (by kernel_rfl) (by kernel_rfl) (by kernel_rfl) (by kernel_rfl) (fun h => absurd h (show ¬ (false = true) by decide)) (fun _ => by kernel_rfl) (by kernel_rfl) (by kernel_rfl)
    | false => exact key _ (by kernel_rfl) (by kernel_rfl) (by kernel_rfl) (by kernel_rfl) (by kernel_rfl) (by kernel_rfl) (by kernel_rfl) (by kernel_rfl) (by kernel_rfl) (fun h => absurd h (show ¬ (false = true) by decide)) (fun h => absurd h (show ¬ (false = true) by decide)) (by kernel_rfl) (by kernel_rfl)
  | cons a o =>
    have ho : opqP (a :: o) = [⟨nOpaque, a :: o, true⟩] := if_neg (by simp)
    rw [ho]
    cases st with
    | true => exact key _ (by kernel_rfl) (by kernel_rfl) (by kernel_rfl) (by kernel_rfl) (by kernel_rfl) (by kernel_rfl) (by kernel_rfl) (by kernel_rfl) (by kernel_rfl) (fun _ => by kernel_rfl) (fun _ => by kernel_rfl) (by kernel_rfl) (by kernel_rfl)
    | false => exact key _ (by kernel_rfl) (by kernel_rfl) (by kernel_rfl) (by kernel_rfl) (by kernel_rfl) (by kernel_rfl) (by kernel_rfl) (by kernel_rfl) (by kernel_rfl) (fun _ => by kernel_rfl) (fun h => absurd h (show ¬ (false = true) by decide)) (by kernel_rfl) (by kernel_rfl)
theorem pc_back {c : Ch} (h : (chText c).2 = 0) : pcE (chText c).1 = (c, 0) ∧ (chText c).1.length ≤ 4096 := by
  obtain ⟨r, n, o, st⟩ := c
  unfold chText at h ⊢
  cases hs : sizB n with
  | false =>
    have hs' : sizB (Ch.mk r n o st).n = false := hs
    rw [if_pos hs'] at h; cases h
  | true =>
    have hs' : ¬ sizB (Ch.mk r n o st).n = false := by show ¬ sizB n = false; rw [hs]; simp
    rw [if_neg hs'] at h
    rw [if_neg (show ¬ (true = false) by decide)]
    refine ⟨?_, print_len h⟩
    unfold pcE
    rw [parse_print h, if_neg (by simp)]
    exact pc_good r n o st hs
instance teqRCh : TEq Try.prog 57 [.s, .s, .s, .b] := ⟨by kernel_rfl⟩
theorem eqC (c : Ch) : eqL [.s, .s, .s, .b] (encC c) (encC c) = some true := by
  obtain ⟨r, n, o, st⟩ := c
  simp only [encC, eqL, if_true, Option.map_some, beq_self_eq_true, Bool.and_self, reduceIte]
theorem ch_of {C : Chunk} {us : List Value} (h : RowW C [.str, .str, .str, .bool] us) : ∃ c : Ch, us = encC c := by
  match us, h with
  | [a, b, c, d], ⟨⟨la, ha, _⟩, ⟨lb, hb, _⟩, ⟨lc, hc, _⟩, ⟨bd, hd⟩, _⟩ => exact ⟨⟨la, lb, lc, bd⟩, by rw [ha, hb, hc, hd]⟩

set_option maxHeartbeats 2000000 in
theorem DigestChallenges_law (C : Chunk) (_ : True) (us : List Value) (hus : RowW C [.str, .str, .str, .bool] us) :
    Meets Try.prog 7 [.agg us.toArray] [C] fun v A => v = .bool true ∧ A = [C] := by
  obtain ⟨⟨r0, n0, o0, st⟩, rfl⟩ := ch_of hus
  refine spec_intro Try.func7 rfl (by kernel_rfl) (by rw [Try.ntmps7]; simp) fun F => ?_; rw [Try.ntmps7, Try.results7]
  refine going ?_
  refine run_op fun K hK => ?_; refine box_new fun b1 => ?_; (try simp only [Value.cells]); refine hK _ _ ?_; clear hK K
  refine going ?_
  refine run_op fun K hK => ?_; refine calls_to (awake_spec) ?_; rintro v A ⟨rfl, rfl⟩; (try simp only [List.nil_append, List.cons_append]); refine hK _ _ ?_; clear hK K; refine going ?_
  refine code_dr [[], [0], [0, 1], [], [3], [0, 1, 2, 3, 4], [], [6], [0, 1, 2, 3, 4, 5, 6, 7], [0, 1, 2, 3, 4, 6, 7], [0, 1, 2, 3, 4, 5, 6, 7, 8, 9], [0, 1, 2, 3, 4, 5, 6, 7, 8, 9, 10], [0, 1, 2, 3, 4, 5, 6, 7, 8, 9, 10, 11], [0, 1, 2, 3, 4, 5, 6, 7, 8, 9, 10, 11, 12], [0, 1, 2, 3, 4, 5, 6, 7, 8, 9, 10, 11, 12, 13]] [(0, false, []), (1, false, []), (3, false, []), (4, false, []), (6, false, []), (7, false, []), (2, true, [4, 7]), (9, false, []), (5, true, [7]), (8, true, []), (10, true, []), (11, false, []), (12, true, []), (13, false, []), (14, true, [])] ?_
  refine going ?_
  refine draw_op fun K hK => ?_; refine calls_to (cuttext_spec r0 2500) ?_; rintro v A ⟨rfl, rfl⟩; (try simp only [List.nil_append, List.cons_append]); (repeat refine pend ?_); refine hK _ _ ?_; clear hK K
  refine going ?_
  refine draw_op fun K hK => ?_; refine calls_to (cuttext_spec n0 70) ?_; rintro v A ⟨rfl, rfl⟩; (try simp only [List.nil_append, List.cons_append]); (repeat refine pend ?_); refine hK _ _ ?_; clear hK K
  refine going ?_
  refine draw_op fun K hK => ?_; refine calls_to (cuttext_spec o0 2500) ?_; rintro v A ⟨rfl, rfl⟩; (try simp only [List.nil_append, List.cons_append]); (repeat refine pend ?_); refine hK _ _ ?_; clear hK K
  refine going ?_
  (try (refine draw_op fun K hK => ?_; (first | refine store_box trivial (by (repeat (first | with_reducible exact Upd.one | with_reducible apply Upd.next))) ?_ | refine store_one trivial (by (repeat (first | with_reducible exact Upd.one | with_reducible apply Upd.next))) (by simp) ?_); (repeat refine pend ?_); refine hK _ _ ?_; clear hK K; refine going ?_))
  (try (refine draw_op fun K hK => ?_; (first | refine store_box trivial (by (repeat (first | with_reducible exact Upd.one | with_reducible apply Upd.next))) ?_ | refine store_one trivial (by (repeat (first | with_reducible exact Upd.one | with_reducible apply Upd.next))) (by simp) ?_); (repeat refine pend ?_); refine hK _ _ ?_; clear hK K; refine going ?_))
  (try (refine draw_op fun K hK => ?_; (first | refine store_box trivial (by (repeat (first | with_reducible exact Upd.one | with_reducible apply Upd.next))) ?_ | refine store_one trivial (by (repeat (first | with_reducible exact Upd.one | with_reducible apply Upd.next))) (by simp) ?_); (repeat refine pend ?_); refine hK _ _ ?_; clear hK K; refine going ?_))
  (try simp only [List.setIfInBounds_toArray, List.set_cons_succ, List.set_cons_zero, List.getElem_toArray, List.getElem_cons_succ, List.getElem_cons_zero])
  have l1 : (r0.take 2500).length ≤ 2500 := by rw [List.length_take]; omega
  have l2 : (n0.take 70).length ≤ 70 := by rw [List.length_take]; omega
  have l3 : (o0.take 2500).length ≤ 2500 := by rw [List.length_take]; omega
  generalize r0.take 2500 = r at *
  generalize n0.take 70 = n at *
  generalize o0.take 2500 = o at *
  refine run_op fun K hK => ?_; refine load_all (vs := encC ⟨r, n, o, st⟩) (by (repeat (first | with_reducible exact Lies.one | with_reducible apply Lies.next))) rfl ?_; refine hK _ _ ?_; clear hK K
  refine going ?_
  refine run_op fun K hK => ?_; refine calls_to (chtext_spec ⟨r, n, o, st⟩ (by show r.length ≤ _; omega) (by show n.length ≤ _; omega) (by show o.length ≤ _; omega)) ?_; rintro v A ⟨rfl, rfl⟩; (try simp only [List.nil_append, List.cons_append]); refine hK _ _ ?_; clear hK K; refine going ?_
  refine run_op fun K hK => ?_; refine load_all (vs := encC ⟨r, n, o, st⟩) (by (repeat (first | with_reducible exact Lies.one | with_reducible apply Lies.next))) rfl ?_; refine hK _ _ ?_; clear hK K
  refine going ?_
  refine run_op fun K hK => ?_; refine calls_to (rchtext_spec ⟨r, n, o, st⟩ (by show r.length ≤ _; omega) (by show n.length ≤ _; omega) (by show o.length ≤ _; omega)) ?_; rintro v A ⟨rfl, rfl⟩; (try simp only [List.nil_append, List.cons_append]); refine hK _ _ ?_; clear hK K; refine going ?_
  by_cases h0 : (chText ⟨r, n, o, st⟩).2 = 0
  · obtain ⟨hpb, hpl⟩ := pc_back h0
    have hps := pchal_spec (chText ⟨r, n, o, st⟩).1 (by omega)
    rw [hpb] at hps
    rw [h0]
    refine going ?_
    refine run_op fun K hK => ?_; refine calls_to (hps) ?_; rintro v A ⟨rfl, rfl⟩; (try simp only [List.nil_append, List.cons_append]); refine hK _ _ ?_; clear hK K; refine going ?_
    refine run_op fun K hK => ?_; refine alloc_as (encC c0).toArray rfl fun b7 => ?_; refine hK _ _ ?_; clear hK K
    refine run_op fun K hK => ?_; refine store_all (vs := encC ⟨r, n, o, st⟩) rfl (cell_C _) (by (repeat (first | with_reducible exact Upd.one | with_reducible apply Upd.next))) (by rfl) ?_; refine hK _ _ ?_; clear hK K
    refine going ?_
    refine run_op fun K hK => ?_; refine load_all (vs := encC ⟨r, n, o, st⟩) (by (repeat (first | with_reducible exact Lies.one | with_reducible apply Lies.next))) rfl ?_; refine hK _ _ ?_; clear hK K
    refine going ?_
    refine run_op fun K hK => ?_; refine load_all (vs := encC ⟨r, n, o, st⟩) (by (repeat (first | with_reducible exact Lies.one | with_reducible apply Lies.next))) rfl ?_; refine hK _ _ ?_; clear hK K
    refine run_op fun K hK => ?_; rw [agg_eql (eqC ⟨r, n, o, st⟩)]; refine hK _ _ ?_; clear hK K
    refine going ?_
    refine back_tmp [C] ?_; exact ⟨rfl, rfl⟩
  · rw [bne_iff_ne.2 h0]
    refine going ?_
    refine back_tmp [C] ?_; exact ⟨rfl, rfl⟩

end Go.Proofs.Ytfoppclmjmpjiaa

/- Parameters' slices: compared; handed back. Conditions: as each says. -/
set_option linter.unusedSimpArgs false
set_option linter.unusedVariables false
namespace Go.Proofs.Ytfoppclmjmpjiaa
open Go Go.Ost

theorem equal_spec {X Y : Chunk} {xa ya : Option Addr} {xc yc : Nat} {l : List Par} (hX : OwnR X xa xc l) (hY : OwnR Y ya yc l) (hl : l.length ≤ 100000) :
    Meets Try.prog 21 [.slice xa l.length xc, .slice ya l.length yc] [X, Y] fun v A => v = .bool true ∧ A = [X, Y] := by
  have hs := encP_len
  refine spec_intro Try.func21 rfl (by kernel_rfl) (by rw [Try.ntmps21]; simp) fun F => ?_; rw [Try.ntmps21, Try.results21]
  refine going ?_
  refine loop_i (fun q D L S => ∃ i : Nat, i ≤ l.length ∧ q = l.length - i ∧ D = [] ∧
    L = [(13, .int .i64 i), (12, .int .i64 l.length), (0, .slice xa l.length xc), (1, .slice ya l.length yc)] ∧ S = [X, Y, F])
    ⟨0, by omega, rfl, rfl, rfl, rfl⟩ ?_
  rintro q D L S ⟨i, hi, rfl, rfl, rfl, rfl⟩
  refine going ?_
  refine if_d (fun hc => ?_) (fun hc => ?_)
  · have hil : i < l.length := by omega
    have hx : l[i]? = some l[i] := List.getElem?_eq_getElem hil
    generalize l[i] = x at *
    refine going ?_
    refine code_dr [[], [], [0, 1], [0, 1, 2], [], [], [4, 5], [4, 5, 6], [0, 1, 2, 3, 4, 5, 6, 7]] [(0, false, []), (1, false, []), (2, false, []), (3, false, []), (4, false, []), (5, false, []), (6, false, []), (7, false, []), (8, false, [])] ?_
    refine going ?_
    refine draw_quiet (by simp only [List.getElem?_toArray, List.getElem?_cons_succ, List.getElem?_cons_zero]; rfl) fun K hK => ?_; (try simp only [gos, gob, Nat.reduceBEq, if_true, reduceIte, reduceCtorEq, Nat.reduceLT, Nat.reduceEqDiff, Nat.reduceAdd, Nat.reduceSub, Int.reduceLT, Int.reduceLE, Int.reduceBEq, Int.reduceBNe, Int.reduceToNat, Int.reduceAdd, Int.reduceSub, Int.reduceMul, Int.reduceDiv, Int.reduceMod, Int.reducePow, Int.toNat_natCast, Nat.sub_zero, goq]); (try (simp (disch := omega) only [gow, gobw]; try simp only [gos, gob, Nat.reduceBEq, if_true, reduceIte, reduceCtorEq, Nat.reduceLT, Nat.reduceEqDiff, Nat.reduceAdd, Nat.reduceSub, Int.reduceLT, Int.reduceLE, Int.reduceBEq, Int.reduceBNe, Int.reduceToNat, Int.reduceAdd, Int.reduceSub, Int.reduceMul, Int.reduceDiv, Int.reduceMod, Int.reducePow, Int.toNat_natCast, Nat.sub_zero, goq])); refine load_el_agg hX hs hx (by decide) (by (repeat (first | with_reducible assumption | with_reducible exact List.mem_cons_self .. | with_reducible apply List.mem_cons_of_mem))) ?_; refine hK _ _ ?_; clear hK K
    refine going ?_
    refine draw_quiet (by simp only [List.getElem?_toArray, List.getElem?_cons_succ, List.getElem?_cons_zero]; rfl) fun K hK => ?_; (try simp only [gos, gob, Nat.reduceBEq, if_true, reduceIte, reduceCtorEq, Nat.reduceLT, Nat.reduceEqDiff, Nat.reduceAdd, Nat.reduceSub, Int.reduceLT, Int.reduceLE, Int.reduceBEq, Int.reduceBNe, Int.reduceToNat, Int.reduceAdd, Int.reduceSub, Int.reduceMul, Int.reduceDiv, Int.reduceMod, Int.reducePow, Int.toNat_natCast, Nat.sub_zero, goq]); (try (simp (disch := omega) only [gow, gobw]; try simp only [gos, gob, Nat.reduceBEq, if_true, reduceIte, reduceCtorEq, Nat.reduceLT, Nat.reduceEqDiff, Nat.reduceAdd, Nat.reduceSub, Int.reduceLT, Int.reduceLE, Int.reduceBEq, Int.reduceBNe, Int.reduceToNat, Int.reduceAdd, Int.reduceSub, Int.reduceMul, Int.reduceDiv, Int.reduceMod, Int.reducePow, Int.toNat_natCast, Nat.sub_zero, goq])); refine load_el_agg hY hs hx (by decide) (by (repeat (first | with_reducible assumption | with_reducible exact List.mem_cons_self .. | with_reducible apply List.mem_cons_of_mem))) ?_; refine hK _ _ ?_; clear hK K
    refine draw_quiet (by simp only [List.getElem?_toArray, List.getElem?_cons_succ, List.getElem?_cons_zero]; rfl) fun K hK => ?_; (try simp only [gos, gob, Nat.reduceBEq, if_true, reduceIte, reduceCtorEq, Nat.reduceLT, Nat.reduceEqDiff, Nat.reduceAdd, Nat.reduceSub, Int.reduceLT, Int.reduceLE, Int.reduceBEq, Int.reduceBNe, Int.reduceToNat, Int.reduceAdd, Int.reduceSub, Int.reduceMul, Int.reduceDiv, Int.reduceMod, Int.reducePow, Int.toNat_natCast, Nat.sub_zero, goq]); (try (simp (disch := omega) only [gow, gobw]; try simp only [gos, gob, Nat.reduceBEq, if_true, reduceIte, reduceCtorEq, Nat.reduceLT, Nat.reduceEqDiff, Nat.reduceAdd, Nat.reduceSub, Int.reduceLT, Int.reduceLE, Int.reduceBEq, Int.reduceBNe, Int.reduceToNat, Int.reduceAdd, Int.reduceSub, Int.reduceMul, Int.reduceDiv, Int.reduceMod, Int.reducePow, Int.toNat_natCast, Nat.sub_zero, goq])); rw [agg_neq (eqP x)]; refine hK _ _ ?_; clear hK K
    refine going ?_
    exact again ⟨i + 1, by omega, rfl, rfl, rfl, rfl⟩
  · refine going ?_
    refine back_tmp [X, Y] ⟨rfl, rfl⟩

set_option maxHeartbeats 1000000 in
theorem back_spec {X : Chunk} {xa : Option Addr} {xc : Nat} {l : List Par} (hX : OwnP X xa xc l) (hl : l.length ≤ 100000) :
    Meets Try.prog 24 [.slice xa l.length xc] [X] fun v A => ∃ Y a k, v = .slice a l.length k ∧ OwnR Y a k l ∧ A = [X, Y] := by
  have hs := encP_len
  refine spec_intro Try.func24 rfl (by kernel_rfl) (by rw [Try.ntmps24]; simp) fun F => ?_; rw [Try.ntmps24, Try.results24]
  refine going ?_
  refine code_nil ?_
  refine loop_i (fun q D L S => ∃ (i : Nat) (Y : Chunk) (ya : Option Addr) (yc : Nat), i ≤ l.length ∧ OwnR Y ya yc (l.take i) ∧ q = l.length - i ∧ D = [] ∧
    L = [(8, .int .i64 i), (7, .int .i64 l.length), (6, .slice xa l.length xc), (3, .slice ya (l.take i).length yc)] ∧ S = [Y, X, F])
    ⟨0, [], none, 0, by omega, own_nil, rfl, rfl, rfl, rfl⟩ ?_
  rintro q D L S ⟨i, Y, ya, yc, hi, hY, rfl, rfl, rfl, rfl⟩
  have htl : (l.take i).length ≤ l.length := by rw [List.length_take]; omega
  refine going ?_
  refine if_d (fun hc => ?_) (fun hc => ?_)
  · have hil : i < l.length := by omega
    have hx := get_par l i hil
    have htk : l.take (i + 1) = l.take i ++ [l.getD i p0] := by
      rw [List.take_add_one, hx]; rfl
    refine going ?_
    refine run_op fun K hK => ?_; refine load_el_agg hX hs hx (by decide) (by (repeat (first | with_reducible assumption | with_reducible exact List.mem_cons_self .. | with_reducible apply List.mem_cons_of_mem))) ?_; refine hK _ _ ?_; clear hK K
    refine run_op fun K hK => ?_; refine alloc_as (encP p0).toArray rfl fun b5 => ?_; refine hK _ _ ?_; clear hK K
    refine run_op fun K hK => ?_; refine store_all (vs := encP (l.getD i p0)) rfl (cell_P _) (by (repeat (first | with_reducible exact Upd.one | with_reducible apply Upd.next))) (by rfl) ?_; refine hK _ _ ?_; clear hK K
    refine going ?_
    refine run_op fun K hK => ?_; refine load_all (vs := encP (l.getD i p0)) (by (repeat (first | with_reducible exact Lies.one | with_reducible apply Lies.next))) rfl ?_; refine hK _ _ ?_; clear hK K
    refine run_op fun K hK => ?_; refine build_el1 (e := 37) (s := 3) (hs := inferInstance) (vs := encP (l.getD i p0)) (by rfl) (by decide) (by decide) rfl (fun b1 C1 ho1 => ?_); refine hK _ _ ?_; clear hK K
    refine run_op fun K hK => ?_; refine append_own (e := 37) (s := 3) (hs := inferInstance) (by rfl) (by decide) hY (.inr (by (repeat (first | with_reducible exact Pick.head _ _ | with_reducible apply Pick.tail)))) (ho1.rd (by (repeat (first | with_reducible assumption | with_reducible exact List.mem_cons_self .. | with_reducible apply List.mem_cons_of_mem)))) (cell_P _) (by simp only [maxLen]; omega) (by omega) (fun C3 a3 cap3 ho3 => ?_); refine hK _ _ ?_; clear hK K
    have e1 : (l.take i).length + 1 = (l.take (i + 1)).length := by rw [htk]; simp
    have e2 : (l.take i).flatMap encP ++ encP (l.getD i p0) = (l.take (i + 1)).flatMap encP := by rw [htk]; simp
    rw [e1, e2] at ho3
    rw [e1]
    refine going ?_
    exact again ⟨i + 1, C3, a3, cap3, by omega, ho3, rfl, rfl, rfl, rfl⟩
  · obtain rfl : i = l.length := by omega
    rw [List.take_length] at hY ⊢
    refine going ?_
    refine back_tmp [X, Y] ⟨Y, ya, yc, rfl, hY, rfl⟩

end Go.Proofs.Ytfoppclmjmpjiaa

/- The statement DigestPrints. Conditions: as each says. -/
set_option linter.unusedSimpArgs false
set_option linter.unusedVariables false
namespace Go.Proofs.Ytfoppclmjmpjiaa
open Go Go.Ost

theorem par_rows {C : Chunk} : ∀ rows : List (List Value), (∀ r ∈ rows, RowW C [.str, .str, .bool] r) → ∃ ops : List Par, rows = ops.map encP
  | [], _ => ⟨[], rfl⟩
  | r :: rows, h => by
    obtain ⟨ops, hops⟩ := par_rows rows fun x hx => h x (List.mem_cons_of_mem _ hx)
    have hr := h r (List.mem_cons_self ..)
    match r, hr with
    | [a, b, c], ⟨⟨la, ha, _⟩, ⟨lb, hb, _⟩, ⟨bd, hd⟩, _⟩ => exact ⟨⟨la, lb, bd⟩ :: ops, by rw [ha, hb, hd, hops]; rfl⟩
/-- Parameters that are handed over. -/
theorem pars_of {C : Chunk} {v : Value} {rows : List (List Value)} (h : RowsK C [.str, .str, .bool] v rows) :
    ∃ (ops : List Par) (a : Option Addr) (cap : Nat), v = .slice a ops.length cap ∧ ops.length ≤ cap ∧ cap ≤ maxLen ∧ Rd 3 [C] a ops.length (ops.flatMap encP) := by
  obtain ⟨a, cap, rfl, h1, h2, h3, h4⟩ := h
  obtain ⟨ops, rfl⟩ := par_rows rows h4
  refine ⟨ops, a, cap, by simp, by simpa using h1, h2, ?_⟩
  simpa [List.flatMap_def] using h3

set_option maxHeartbeats 8000000 in
theorem DigestPrints_law (C : Chunk) (_ : True) (v : Value) (rows : List (List Value)) (hv : RowsK C [.str, .str, .bool] v rows) :
    Meets Try.prog 5 [v] [C] fun v A => v = .bool true ∧ A = [C] := by
  have hs := encP_len
  obtain ⟨ops, a, cap, rfl, hcap, hmax, hrd⟩ := pars_of hv
  refine spec_intro Try.func5 rfl (by kernel_rfl) (by rw [Try.ntmps5]; simp) fun F => ?_; rw [Try.ntmps5, Try.results5]
  refine going ?_
  refine run_op fun K hK => ?_; refine calls_to (awake_spec) ?_; rintro v A ⟨rfl, rfl⟩; (try simp only [List.nil_append, List.cons_append]); refine hK _ _ ?_; clear hK K; refine going ?_
  refine code_nil ?_
  refine code_nil ?_
  refine block_mid (fun D L S => ∃ (l : List Par) (X : Chunk) (xa : Option Addr) (xk : Nat) (Y : Chunk) (ya : Option Addr) (yk : Nat), l.length ≤ 20 ∧ (∀ p ∈ l, p.n.length ≤ 12 ∧ p.v.length ≤ 400) ∧ OwnP X xa xk l ∧ OwnR Y ya yk l ∧ D = [] ∧
    L = [(3, .slice xa l.length xk), (4, .slice ya l.length yk)] ∧ S = [X, Y, F, C]) ?_ ?_
  · refine loop_i (fun q D L S => ∃ (i : Nat) (l : List Par) (X : Chunk) (xa : Option Addr) (xk : Nat) (Y : Chunk) (ya : Option Addr) (yk : Nat), i ≤ ops.length ∧ i ≤ 20 ∧ l.length = i ∧ (∀ p ∈ l, p.n.length ≤ 12 ∧ p.v.length ≤ 400) ∧ OwnP X xa xk l ∧ OwnR Y ya yk l ∧ q = ops.length - i ∧ D = [] ∧
      L = [(17, .int .i64 i), (16, .int .i64 ops.length), (15, .slice a ops.length cap), (3, .slice xa l.length xk), (4, .slice ya l.length yk)] ∧ S = [X, Y, F, C])
      ⟨0, [], [], none, 0, [], none, 0, by omega, by omega, rfl, (fun p hp => by cases hp), own_nil, own_nil, rfl, rfl, rfl, rfl⟩ ?_
    rintro q D L S ⟨i, l, X, xa, xk, Y, ya, yk, hi, hi20, hli, hlb, hX, hY, rfl, rfl, rfl, rfl⟩
    refine going ?_
    refine if_d (fun hc => ?_) (fun hc => ?_)
    · have hil : i < ops.length := by omega
      have hx : ops[i]? = some ops[i] := List.getElem?_eq_getElem hil
      generalize ops[i] = o at *
      obtain ⟨n0, v0, qq⟩ := o
      refine going ?_
      refine run_op fun K hK => ?_; rw [el_at hrd (by omega) (by omega) (by decide), Int.toNat_natCast]; refine hK _ _ ?_; clear hK K
      refine run_op fun K hK => ?_; refine load_rd_agg hrd hs hx (by decide) (by (repeat (first | with_reducible assumption | with_reducible exact List.mem_cons_self .. | with_reducible apply List.mem_cons_of_mem))) ?_; refine hK _ _ ?_; clear hK K
      refine run_op fun K hK => ?_; refine alloc_as (encP p0).toArray rfl fun b6 => ?_; refine hK _ _ ?_; clear hK K
      refine going ?_
      refine run_op fun K hK => ?_; refine store_all (vs := encP ⟨n0, v0, qq⟩) rfl (cell_P _) (by (repeat (first | with_reducible exact Upd.one | with_reducible apply Upd.next))) (by rfl) ?_; refine hK _ _ ?_; clear hK K
      refine going ?_
      by_cases h20 : (20 : Int) ≤ i
      · rw [decide_eq_true h20]
        refine going ?_
        exact mid ⟨l, X, xa, xk, Y, ya, yk, by omega, hlb, hX, hY, rfl, rfl, rfl⟩
      · rw [decide_eq_false h20]
        refine going ?_
        refine code_dr [[], [0], [0, 1], [], [3], [0, 1, 2, 3, 4], [0, 1, 2, 3, 4], [0, 1, 2, 3, 4, 5, 6], [0, 1, 2, 3, 4, 5, 6, 7], [0, 1, 2, 3, 4, 5, 6, 7, 8]] [(0, false, []), (1, false, []), (3, false, []), (4, false, []), (2, true, [4]), (6, false, []), (5, true, []), (7, true, []), (8, false, []), (9, true, [])] ?_
        refine going ?_
        refine draw_op fun K hK => ?_; refine calls_to (cuttext_spec n0 12) ?_; rintro v A ⟨rfl, rfl⟩; (try simp only [List.nil_append, List.cons_append]); (repeat refine pend ?_); refine hK _ _ ?_; clear hK K
        refine going ?_
        refine draw_op fun K hK => ?_; refine calls_to (cuttext_spec v0 400) ?_; rintro v A ⟨rfl, rfl⟩; (try simp only [List.nil_append, List.cons_append]); (repeat refine pend ?_); refine hK _ _ ?_; clear hK K
        refine going ?_
        (try (refine draw_op fun K hK => ?_; (first | refine store_box trivial (by (repeat (first | with_reducible exact Upd.one | with_reducible apply Upd.next))) ?_ | refine store_one trivial (by (repeat (first | with_reducible exact Upd.one | with_reducible apply Upd.next))) (by simp) ?_); (repeat refine pend ?_); refine hK _ _ ?_; clear hK K; refine going ?_))
        (try (refine draw_op fun K hK => ?_; (first | refine store_box trivial (by (repeat (first | with_reducible exact Upd.one | with_reducible apply Upd.next))) ?_ | refine store_one trivial (by (repeat (first | with_reducible exact Upd.one | with_reducible apply Upd.next))) (by simp) ?_); (repeat refine pend ?_); refine hK _ _ ?_; clear hK K; refine going ?_))
        (try simp only [List.setIfInBounds_toArray, List.set_cons_succ, List.set_cons_zero, List.getElem_toArray, List.getElem_cons_succ, List.getElem_cons_zero])
        have l1 : (n0.take 12).length ≤ 12 := by rw [List.length_take]; omega
        have l2 : (v0.take 400).length ≤ 400 := by rw [List.length_take]; omega
        generalize n0.take 12 = n at *
        generalize v0.take 400 = v at *
        obtain ⟨x, hxx⟩ : ∃ x : Par, x = ⟨n, v, qq⟩ := ⟨_, rfl⟩
        have hxl : ∀ p ∈ l ++ [x], p.n.length ≤ 12 ∧ p.v.length ≤ 400 := by
          intro p hp
          rcases List.mem_append.1 hp with hp | hp
          · exact hlb p hp
          · simp only [List.mem_cons, List.not_mem_nil, or_false] at hp
            subst hp; subst hxx; exact ⟨l1, l2⟩
        have e1 : l.length + 1 = (l ++ [x]).length := by simp
        have e2 : l.flatMap encP ++ encP x = (l ++ [x]).flatMap encP := by simp
        refine code_perm (S' := [[(b6, .cells (encP x).toArray 37 (0, 0))], X, Y, F, C]) (by subst hxx; exact List.Perm.refl _) ?_
        refine code_draw3 2 3 6 [[], [], [1], [0, 1, 2], [], [], [0, 1, 2, 3, 5], [0, 1, 2, 3, 4, 5, 6], [0, 1, 2, 3, 4, 5, 6, 7], [0, 1, 2, 3, 4, 5, 6, 7, 8]] [(0, false, []), (1, false, []), (4, false, []), (5, false, []), (2, true, [5]), (3, true, [5]), (6, true, []), (7, true, []), (8, true, []), (9, true, [])] [[], [], [1], [0, 1, 2, 5, 6], [], [], [1, 2, 5], [0, 1, 2, 3, 4, 5, 6], [0, 1, 2, 3, 4, 5, 6, 7], [0, 1, 2, 3, 4, 5, 6, 7, 8]] [(0, false, []), (1, false, []), (4, false, []), (5, false, []), (2, true, [5]), (6, true, []), (3, true, []), (7, true, []), (8, true, []), (9, true, [])] [[], [], [1, 5, 6], [0, 1, 2, 5, 6], [], [], [5], [0, 1, 2, 3, 4, 5, 6], [0, 1, 2, 3, 4, 5, 6, 7], [0, 1, 2, 3, 4, 5, 6, 7, 8]] [(0, false, []), (1, false, []), (4, false, []), (5, false, []), (6, true, [1]), (2, true, []), (3, true, []), (7, true, []), (8, true, []), (9, true, [])] ?_ ?_ ?_
        · refine going ?_
          refine draw_quiet (by simp only [List.getElem?_toArray, List.getElem?_cons_succ, List.getElem?_cons_zero]; rfl) fun K hK => ?_; (try simp only [gos, gob, Nat.reduceBEq, if_true, reduceIte, reduceCtorEq, Nat.reduceLT, Nat.reduceEqDiff, Nat.reduceAdd, Nat.reduceSub, Int.reduceLT, Int.reduceLE, Int.reduceBEq, Int.reduceBNe, Int.reduceToNat, Int.reduceAdd, Int.reduceSub, Int.reduceMul, Int.reduceDiv, Int.reduceMod, Int.reducePow, Int.toNat_natCast, Nat.sub_zero, goq]); (try (simp (disch := omega) only [gow, gobw]; try simp only [gos, gob, Nat.reduceBEq, if_true, reduceIte, reduceCtorEq, Nat.reduceLT, Nat.reduceEqDiff, Nat.reduceAdd, Nat.reduceSub, Int.reduceLT, Int.reduceLE, Int.reduceBEq, Int.reduceBNe, Int.reduceToNat, Int.reduceAdd, Int.reduceSub, Int.reduceMul, Int.reduceDiv, Int.reduceMod, Int.reducePow, Int.toNat_natCast, Nat.sub_zero, goq])); refine load_all (vs := encP x) (by (repeat (first | with_reducible exact Lies.one | with_reducible apply Lies.next))) rfl ?_; refine hK _ _ ?_; clear hK K
          refine going ?_
          refine draw_quiet (by simp only [List.getElem?_toArray, List.getElem?_cons_succ, List.getElem?_cons_zero]; rfl) fun K hK => ?_; (try simp only [gos, gob, Nat.reduceBEq, if_true, reduceIte, reduceCtorEq, Nat.reduceLT, Nat.reduceEqDiff, Nat.reduceAdd, Nat.reduceSub, Int.reduceLT, Int.reduceLE, Int.reduceBEq, Int.reduceBNe, Int.reduceToNat, Int.reduceAdd, Int.reduceSub, Int.reduceMul, Int.reduceDiv, Int.reduceMod, Int.reducePow, Int.toNat_natCast, Nat.sub_zero, goq]); (try (simp (disch := omega) only [gow, gobw]; try simp only [gos, gob, Nat.reduceBEq, if_true, reduceIte, reduceCtorEq, Nat.reduceLT, Nat.reduceEqDiff, Nat.reduceAdd, Nat.reduceSub, Int.reduceLT, Int.reduceLE, Int.reduceBEq, Int.reduceBNe, Int.reduceToNat, Int.reduceAdd, Int.reduceSub, Int.reduceMul, Int.reduceDiv, Int.reduceMod, Int.reducePow, Int.toNat_natCast, Nat.sub_zero, goq])); refine load_all (vs := encP x) (by (repeat (first | with_reducible exact Lies.one | with_reducible apply Lies.next))) rfl ?_; refine hK _ _ ?_; clear hK K
          refine going ?_
          refine draw_op fun K hK => ?_; refine build_el1 (e := 43) (s := 3) (hs := inferInstance) (vs := encP x) (by rfl) (by decide) (by decide) rfl (fun b1 C1 ho1 => ?_); refine pend ?_ (load_all (vs := encP x) (by (repeat (first | with_reducible exact Lies.one | with_reducible apply Lies.next))) rfl rfl); refine hK _ _ ?_; clear hK K
          refine draw_op fun K hK => ?_; refine append_own (e := 43) (s := 3) (hs := inferInstance) (by rfl) (by decide) hX (.inr (by (repeat (first | with_reducible exact Pick.head _ _ | with_reducible apply Pick.tail)))) (ho1.rd (by (repeat (first | with_reducible assumption | with_reducible exact List.mem_cons_self .. | with_reducible apply List.mem_cons_of_mem)))) (cell_P _) (by simp only [maxLen]; omega) (by omega) (fun C3 a3 k3 ho3 => ?_); refine pend ?_ (load_all (vs := encP x) (by (repeat (first | with_reducible exact Lies.one | with_reducible apply Lies.next))) rfl rfl); refine hK _ _ ?_; clear hK K
          refine draw_op fun K hK => ?_; refine build_el1 (e := 37) (s := 3) (hs := inferInstance) (vs := encP x) (by rfl) (by decide) (by decide) rfl (fun b2 C2 ho2 => ?_); refine hK _ _ ?_; clear hK K
          refine draw_op fun K hK => ?_; refine append_own (e := 37) (s := 3) (hs := inferInstance) (by rfl) (by decide) hY (.inr (by (repeat (first | with_reducible exact Pick.head _ _ | with_reducible apply Pick.tail)))) (ho2.rd (by (repeat (first | with_reducible assumption | with_reducible exact List.mem_cons_self .. | with_reducible apply List.mem_cons_of_mem)))) (cell_P _) (by simp only [maxLen]; omega) (by omega) (fun C4 a4 k4 ho4 => ?_); refine hK _ _ ?_; clear hK K
          rw [e1, e2] at ho3 ho4
          (try rw [e1])
          refine going ?_
          (try (try (refine draw_op fun K hK => ?_; refine hK _ _ ?_; clear hK K)))
          (try refine going ?_)
          (try (try (refine draw_op fun K hK => ?_; refine hK _ _ ?_; clear hK K)))
          (try refine going ?_)
          exact again ⟨i + 1, l ++ [x], C3, a3, k3, C4, a4, k4, by omega, by omega, by rw [← e1]; omega, hxl, ho3, ho4, rfl, rfl, rfl, rfl⟩
        · refine going ?_
          refine draw_quiet (by simp only [List.getElem?_toArray, List.getElem?_cons_succ, List.getElem?_cons_zero]; rfl) fun K hK => ?_; (try simp only [gos, gob, Nat.reduceBEq, if_true, reduceIte, reduceCtorEq, Nat.reduceLT, Nat.reduceEqDiff, Nat.reduceAdd, Nat.reduceSub, Int.reduceLT, Int.reduceLE, Int.reduceBEq, Int.reduceBNe, Int.reduceToNat, Int.reduceAdd, Int.reduceSub, Int.reduceMul, Int.reduceDiv, Int.reduceMod, Int.reducePow, Int.toNat_natCast, Nat.sub_zero, goq]); (try (simp (disch := omega) only [gow, gobw]; try simp only [gos, gob, Nat.reduceBEq, if_true, reduceIte, reduceCtorEq, Nat.reduceLT, Nat.reduceEqDiff, Nat.reduceAdd, Nat.reduceSub, Int.reduceLT, Int.reduceLE, Int.reduceBEq, Int.reduceBNe, Int.reduceToNat, Int.reduceAdd, Int.reduceSub, Int.reduceMul, Int.reduceDiv, Int.reduceMod, Int.reducePow, Int.toNat_natCast, Nat.sub_zero, goq])); refine load_all (vs := encP x) (by (repeat (first | with_reducible exact Lies.one | with_reducible apply Lies.next))) rfl ?_; refine hK _ _ ?_; clear hK K
          refine going ?_
          refine draw_quiet (by simp only [List.getElem?_toArray, List.getElem?_cons_succ, List.getElem?_cons_zero]; rfl) fun K hK => ?_; (try simp only [gos, gob, Nat.reduceBEq, if_true, reduceIte, reduceCtorEq, Nat.reduceLT, Nat.reduceEqDiff, Nat.reduceAdd, Nat.reduceSub, Int.reduceLT, Int.reduceLE, Int.reduceBEq, Int.reduceBNe, Int.reduceToNat, Int.reduceAdd, Int.reduceSub, Int.reduceMul, Int.reduceDiv, Int.reduceMod, Int.reducePow, Int.toNat_natCast, Nat.sub_zero, goq]); (try (simp (disch := omega) only [gow, gobw]; try simp only [gos, gob, Nat.reduceBEq, if_true, reduceIte, reduceCtorEq, Nat.reduceLT, Nat.reduceEqDiff, Nat.reduceAdd, Nat.reduceSub, Int.reduceLT, Int.reduceLE, Int.reduceBEq, Int.reduceBNe, Int.reduceToNat, Int.reduceAdd, Int.reduceSub, Int.reduceMul, Int.reduceDiv, Int.reduceMod, Int.reducePow, Int.toNat_natCast, Nat.sub_zero, goq])); refine load_all (vs := encP x) (by (repeat (first | with_reducible exact Lies.one | with_reducible apply Lies.next))) rfl ?_; refine hK _ _ ?_; clear hK K
          refine going ?_
          refine draw_op fun K hK => ?_; refine build_el1 (e := 43) (s := 3) (hs := inferInstance) (vs := encP x) (by rfl) (by decide) (by decide) rfl (fun b1 C1 ho1 => ?_); refine pend ?_ (load_all (vs := encP x) (by (repeat (first | with_reducible exact Lies.one | with_reducible apply Lies.next))) rfl rfl); refine hK _ _ ?_; clear hK K
          refine draw_op fun K hK => ?_; refine build_el1 (e := 37) (s := 3) (hs := inferInstance) (vs := encP x) (by rfl) (by decide) (by decide) rfl (fun b2 C2 ho2 => ?_); refine hK _ _ ?_; clear hK K
          refine draw_op fun K hK => ?_; refine append_own (e := 43) (s := 3) (hs := inferInstance) (by rfl) (by decide) hX (.inr (by (repeat (first | with_reducible exact Pick.head _ _ | with_reducible apply Pick.tail)))) (ho1.rd (by (repeat (first | with_reducible assumption | with_reducible exact List.mem_cons_self .. | with_reducible apply List.mem_cons_of_mem)))) (cell_P _) (by simp only [maxLen]; omega) (by omega) (fun C3 a3 k3 ho3 => ?_); refine hK _ _ ?_; clear hK K
          refine draw_op fun K hK => ?_; refine append_own (e := 37) (s := 3) (hs := inferInstance) (by rfl) (by decide) hY (.inr (by (repeat (first | with_reducible exact Pick.head _ _ | with_reducible apply Pick.tail)))) (ho2.rd (by (repeat (first | with_reducible assumption | with_reducible exact List.mem_cons_self .. | with_reducible apply List.mem_cons_of_mem)))) (cell_P _) (by simp only [maxLen]; omega) (by omega) (fun C4 a4 k4 ho4 => ?_); refine hK _ _ ?_; clear hK K
          rw [e1, e2] at ho3 ho4
          (try rw [e1])
          refine going ?_
          (try (try (refine draw_op fun K hK => ?_; refine hK _ _ ?_; clear hK K)))
          (try refine going ?_)
          (try (try (refine draw_op fun K hK => ?_; refine hK _ _ ?_; clear hK K)))
          (try refine going ?_)
          exact again ⟨i + 1, l ++ [x], C3, a3, k3, C4, a4, k4, by omega, by omega, by rw [← e1]; omega, hxl, ho3, ho4, rfl, rfl, rfl, rfl⟩
        · refine going ?_
          refine draw_quiet (by simp only [List.getElem?_toArray, List.getElem?_cons_succ, List.getElem?_cons_zero]; rfl) fun K hK => ?_; (try simp only [gos, gob, Nat.reduceBEq, if_true, reduceIte, reduceCtorEq, Nat.reduceLT, Nat.reduceEqDiff, Nat.reduceAdd, Nat.reduceSub, Int.reduceLT, Int.reduceLE, Int.reduceBEq, Int.reduceBNe, Int.reduceToNat, Int.reduceAdd, Int.reduceSub, Int.reduceMul, Int.reduceDiv, Int.reduceMod, Int.reducePow, Int.toNat_natCast, Nat.sub_zero, goq]); (try (simp (disch := omega) only [gow, gobw]; try simp only [gos, gob, Nat.reduceBEq, if_true, reduceIte, reduceCtorEq, Nat.reduceLT, Nat.reduceEqDiff, Nat.reduceAdd, Nat.reduceSub, Int.reduceLT, Int.reduceLE, Int.reduceBEq, Int.reduceBNe, Int.reduceToNat, Int.reduceAdd, Int.reduceSub, Int.reduceMul, Int.reduceDiv, Int.reduceMod, Int.reducePow, Int.toNat_natCast, Nat.sub_zero, goq])); refine load_all (vs := encP x) (by (repeat (first | with_reducible exact Lies.one | with_reducible apply Lies.next))) rfl ?_; refine hK _ _ ?_; clear hK K
          refine going ?_
          refine draw_quiet (by simp only [List.getElem?_toArray, List.getElem?_cons_succ, List.getElem?_cons_zero]; rfl) fun K hK => ?_; (try simp only [gos, gob, Nat.reduceBEq, if_true, reduceIte, reduceCtorEq, Nat.reduceLT, Nat.reduceEqDiff, Nat.reduceAdd, Nat.reduceSub, Int.reduceLT, Int.reduceLE, Int.reduceBEq, Int.reduceBNe, Int.reduceToNat, Int.reduceAdd, Int.reduceSub, Int.reduceMul, Int.reduceDiv, Int.reduceMod, Int.reducePow, Int.toNat_natCast, Nat.sub_zero, goq]); (try (simp (disch := omega) only [gow, gobw]; try simp only [gos, gob, Nat.reduceBEq, if_true, reduceIte, reduceCtorEq, Nat.reduceLT, Nat.reduceEqDiff, Nat.reduceAdd, Nat.reduceSub, Int.reduceLT, Int.reduceLE, Int.reduceBEq, Int.reduceBNe, Int.reduceToNat, Int.reduceAdd, Int.reduceSub, Int.reduceMul, Int.reduceDiv, Int.reduceMod, Int.reducePow, Int.toNat_natCast, Nat.sub_zero, goq])); refine load_all (vs := encP x) (by (repeat (first | with_reducible exact Lies.one | with_reducible apply Lies.next))) rfl ?_; refine hK _ _ ?_; clear hK K
          refine going ?_
          refine draw_op fun K hK => ?_; refine build_el1 (e := 37) (s := 3) (hs := inferInstance) (vs := encP x) (by rfl) (by decide) (by decide) rfl (fun b2 C2 ho2 => ?_); refine pend ?_ (load_all (vs := encP x) (by (repeat (first | with_reducible exact Lies.one | with_reducible apply Lies.next))) rfl rfl); refine hK _ _ ?_; clear hK K
          refine draw_op fun K hK => ?_; refine build_el1 (e := 43) (s := 3) (hs := inferInstance) (vs := encP x) (by rfl) (by decide) (by decide) rfl (fun b1 C1 ho1 => ?_); refine hK _ _ ?_; clear hK K
          refine draw_op fun K hK => ?_; refine append_own (e := 43) (s := 3) (hs := inferInstance) (by rfl) (by decide) hX (.inr (by (repeat (first | with_reducible exact Pick.head _ _ | with_reducible apply Pick.tail)))) (ho1.rd (by (repeat (first | with_reducible assumption | with_reducible exact List.mem_cons_self .. | with_reducible apply List.mem_cons_of_mem)))) (cell_P _) (by simp only [maxLen]; omega) (by omega) (fun C3 a3 k3 ho3 => ?_); refine hK _ _ ?_; clear hK K
          refine draw_op fun K hK => ?_; refine append_own (e := 37) (s := 3) (hs := inferInstance) (by rfl) (by decide) hY (.inr (by (repeat (first | with_reducible exact Pick.head _ _ | with_reducible apply Pick.tail)))) (ho2.rd (by (repeat (first | with_reducible assumption | with_reducible exact List.mem_cons_self .. | with_reducible apply List.mem_cons_of_mem)))) (cell_P _) (by simp only [maxLen]; omega) (by omega) (fun C4 a4 k4 ho4 => ?_); refine hK _ _ ?_; clear hK K
          rw [e1, e2] at ho3 ho4
          (try rw [e1])
          refine going ?_
          (try (try (refine draw_op fun K hK => ?_; refine hK _ _ ?_; clear hK K)))
          (try refine going ?_)
          (try (try (refine draw_op fun K hK => ?_; refine hK _ _ ?_; clear hK K)))
          (try refine going ?_)
          exact again ⟨i + 1, l ++ [x], C3, a3, k3, C4, a4, k4, by omega, by omega, by rw [← e1]; omega, hxl, ho3, ho4, rfl, rfl, rfl, rfl⟩
    · refine going ?_
      exact mid ⟨l, X, xa, xk, Y, ya, yk, by omega, hlb, hX, hY, rfl, rfl, rfl⟩
  rintro D L S ⟨l, X, xa, xk, Y, ya, yk, hl20, hlb, hX, hY, rfl, rfl, rfl⟩
  have hlb2 : ∀ p ∈ l, p.n.length + p.v.length ≤ 5000 := fun p hp => by have := hlb p hp; omega
  refine going ?_
  refine run_op fun K hK => ?_; refine calls_to (print_spec hX hl20 hlb2) ?_; rintro v A ⟨rfl, rfl⟩; (try simp only [List.nil_append, List.cons_append]); refine hK _ _ ?_; clear hK K; refine going ?_
  refine run_op fun K hK => ?_; refine calls_to (rprint_spec hY hl20 hlb2) ?_; rintro v A ⟨rfl, rfl⟩; (try simp only [List.nil_append, List.cons_append]); refine hK _ _ ?_; clear hK K; refine going ?_
  refine run_op fun K hK => ?_; refine calls_to (back_spec hX (by omega)) ?_; rintro v A ⟨Z, za, zk, rfl, hZ, rfl⟩; (try simp only [List.nil_append, List.cons_append]); refine hK _ _ ?_; clear hK K; refine going ?_
  refine run_op fun K hK => ?_; refine calls_to (equal_spec hZ hY (by omega)) ?_; rintro v A ⟨rfl, rfl⟩; (try simp only [List.nil_append, List.cons_append]); refine hK _ _ ?_; clear hK K; refine going ?_
  by_cases h0 : (printE l).2 = 0
  · have hpp := parse_print h0
    have hlen : (printE l).1.length ≤ 4096 := by
      unfold printE at h0 ⊢
      split
      · simp
      rename_i h1
      rw [if_neg h1] at h0
      split
      · simp
      rename_i h2
      rw [if_neg h2] at h0
      split
      · simp
      · show (hdr ++ joinP l).length ≤ 4096; omega
    have hps := parse_spec (printE l).1 (by omega)
    rw [hpp] at hps
    rw [h0]
    refine going ?_
    refine run_op fun K hK => ?_; refine calls_to (hps) ?_; rintro v A ⟨W, wa, wk, rfl, hW, rfl⟩; (try simp only [List.nil_append, List.cons_append]); refine hK _ _ ?_; clear hK K; refine going ?_
    refine run_op fun K hK => ?_; refine calls_to (back_spec hW (by show l.length ≤ _; omega)) ?_; rintro v A ⟨V, va, vk, rfl, hV, rfl⟩; (try simp only [List.nil_append, List.cons_append]); refine hK _ _ ?_; clear hK K; refine going ?_
    refine run_op fun K hK => ?_; refine calls_to (equal_spec hV hY (by omega)) ?_; rintro v A ⟨rfl, rfl⟩; (try simp only [List.nil_append, List.cons_append]); refine hK _ _ ?_; clear hK K; refine going ?_
    refine back_tmp [C] ?_; exact ⟨rfl, rfl⟩
  · rw [bne_iff_ne.2 h0]
    refine going ?_
    refine back_tmp [C] ?_; exact ⟨rfl, rfl⟩

end Go.Proofs.Ytfoppclmjmpjiaa

/- Answers in a header, plainly; digits read. Conditions: as each says. -/
set_option linter.unusedSimpArgs false
set_option linter.unusedVariables false
namespace Go.Proofs.Ytfoppclmjmpjiaa
open Go Go.Ost Go.Sha

/-! ### Digits -/

/-- A digit's value; -1: it is none. -/
def dv (c : UInt8) : Int := Lib.indexByte digits c
def uhF : List UInt8 → Option (List UInt8)
  | [] => some []
  | [_] => none
  | a :: b :: r => if dv a < 0 ∨ dv b < 0 then none else (uhF r).map fun l => UInt8.ofNat (16 * (dv a).toNat + (dv b).toNat) :: l
def uhE (s : List UInt8) : List UInt8 × Int := if s.length % 2 ≠ 0 then ([], 2) else match uhF s with
  | some l => (l, 0)
  | none => ([], 5)
theorem dv_range (c : UInt8) : -1 ≤ dv c ∧ dv c < 16 := by
  have key : ∀ l : List UInt8, -1 ≤ Lib.indexByte l c ∧ Lib.indexByte l c < l.length := by
    intro l
    induction l with
    | nil => exact ⟨by show (-1 : Int) ≤ -1; decide, by show (-1 : Int) < 0; decide⟩
    | cons b l ih =>
      have e : Lib.indexByte (b :: l) c = if (b == c) = true then (0 : Int) else if (Lib.indexByte l c == -1) = true then -1 else Lib.indexByte l c + 1 := rfl
      rw [e, List.length_cons]
      split
      · omega
      · split
        · omega
        · rename_i h; simp at h; omega
  exact key digits
theorem uhF_len : ∀ (k : Nat) (s : List UInt8), s.length ≤ k → ∀ l, uhF s = some l → 2 * l.length = s.length
  | _, [], _, l, h => by simp [uhF] at h; subst h; rfl
  | _, [a], _, l, h => by simp [uhF] at h
  | 0, a :: b :: r, hk, l, h => by simp at hk
  | k + 1, a :: b :: r, hk, l, h => by
    simp only [uhF] at h
    split at h
    · cases h
    · cases hr : uhF r with
      | none => rw [hr] at h; cases h
      | some x =>
        rw [hr] at h; cases h
        have := uhF_len k r (by simp only [List.length_cons] at hk; omega) x hr
        simp only [List.length_cons]; omega
theorem uh_len {s : List UInt8} (h : (uhE s).2 = 0) : 2 * (uhE s).1.length = s.length := by
  unfold uhE at h ⊢
  split at h
  · cases h
  · rename_i hm
    rw [if_neg hm]
    cases hu : uhF s with
    | none => rw [hu] at h; cases h
    | some l => exact uhF_len _ _ (Nat.le_refl _) l hu
theorem uh_le (s : List UInt8) : 2 * (uhE s).1.length ≤ s.length := by
  by_cases h : (uhE s).2 = 0
  · rw [uh_len h]; exact Nat.le_refl _
  · unfold uhE at h ⊢
    split
    · simp
    · rename_i hm
      rw [if_neg hm] at h
      cases hu : uhF s with
      | none => simp
      | some l => rw [hu] at h; exact (h rfl).elim
/-- Bytes as a number of 32 bits, the highest first. -/
def numW (l : List UInt8) : W := l.foldl (fun n b => (n <<< 8) ||| BitVec.ofNat 32 b.toNat) 0
/-- What is told of eight digits. -/
def numE (s : List UInt8) : W × Bool := (numW (uhE s).1, decide ((uhE s).2 = 0) && decide ((s.length : Int) = 8))

/-! ### Answers -/

/-- An answer. -/
structure An where
  u : List UInt8
  r : List UInt8
  n : List UInt8
  uri : List UInt8
  cn : List UInt8
  o : List UInt8
  nc : W
  pf : List UInt8
def a0 : An := ⟨[], [], [], [], [], [], 0, []⟩
abbrev encA (a : An) (pa : Option Addr) (pk : Nat) : List Value := [.string (str a.u), .string (str a.r), .string (str a.n), .string (str a.uri), .string (str a.cn), .string (str a.o), b32 a.nc, .slice pa a.pf.length pk]
def proofB (l : List Par) : Bool := decide ((uhE (gotP l nResp).v).2 = 0) && decide (((uhE (gotP l nResp).v).1.length : Int) = 32)
def paF (l : List Par) : Fl :=
  fineF (proofB l) (getF l nResp true (fineF (numE (gotP l nNc).v).2 (getF l nNc false (comF l false (mayF l nOpaque true (fineF (sizB (gotP l nCnonce).v) (getF l nCnonce true (getF l nUri true (fineF (sizB (gotP l nNonce).v) (getF l nNonce true (getF l nRealm true (getF l nUser true (false, false)))))))))))))
def anL (l : List Par) : An := ⟨(gotP l nUser).v, (gotP l nRealm).v, (gotP l nNonce).v, (gotP l nUri).v, (gotP l nCnonce).v, (gotP l nOpaque).v, (numE (gotP l nNc).v).1, (uhE (gotP l nResp).v).1⟩
def paL (l : List Par) : An × Int := if endF (paF l) ≠ 0 then (a0, endF (paF l)) else (anL l, 0)
def paE (s : List UInt8) : An × Int := if (parseE s).2 ≠ 0 then (a0, (parseE s).2) else paL (parseE s).1

def mustA : List (List UInt8) := [nUser, nRealm, nNonce, nUri, nQop, nNc, nCnonce, nResp, nAlg]
def quoA : List (List UInt8) := [nUser, nRealm, nNonce, nUri, nCnonce, nResp, nOpaque]
/-- Without what is stale. -/
def keepL (l : List Par) : List Par := l.filter fun p => p.n != nStale
def rpaB (l : List Par) : Bool :=
  !(lookE l mustA quoA).2 || ((gotP l nQop).v != nAuth || (lowL (gotP l nAlg).v != nSumL || ((uhE (gotP l nNc).v).2 != 0 || (((uhE (gotP l nNc).v).1.length : Int) != 4 || ((uhE (gotP l nResp).v).2 != 0 || (((uhE (gotP l nResp).v).1.length : Int) != 32 || (!sizB (gotP l nNonce).v || !sizB (gotP l nCnonce).v)))))))
def rpaL (l : List Par) : An × Int := if (lookE l mustA quoA).1 = false then (a0, 6) else if rpaB l = true then (a0, 4) else (anL l, 0)
def rpaE (s : List UInt8) : An × Int := if (parseE s).2 ≠ 0 then (a0, (parseE s).2) else rpaL (keepL (parseE s).1)

theorem keep_find (l : List Par) {n : List UInt8} (h : n ≠ nStale) : hasB (keepL l) n = hasB l n ∧ gotP (keepL l) n = gotP l n := by
  have e : (keepL l).find? (fun p => p.n == n) = l.find? (fun p => p.n == n) := by
    unfold keepL
    induction l with
    | nil => rfl
    | cons p l ih =>
      rw [List.filter_cons]
      split
      · rw [List.find?_cons, List.find?_cons, ih]
      · rename_i hp
        have hps : p.n = nStale := by simpa using hp
        rw [ih, List.find?_cons]
        have : (p.n == n) = false := beq_eq_false_iff_ne.2 (by rw [hps]; exact h.symm)
        rw [this]
  unfold hasB gotP
  rw [e]; exact ⟨rfl, rfl⟩
theorem keep_stale (l : List Par) : hasB (keepL l) nStale = false := by
  unfold hasB keepL
  rw [Option.isSome_eq_false_iff, Option.isNone_iff_eq_none, List.find?_eq_none]
  intro p hp
  have := (List.mem_filter.1 hp).2
  simpa using this
theorem pa_lost (l : List Par) : (paF l).1 = !(mustA.all (hasB l)) := by
  unfold paF comF mustA
  simp only [fine_fst, get_fst, may_fst, List.all_cons, List.all_nil]
  generalize hasB l nUser = a1
  generalize hasB l nRealm = a2
  generalize hasB l nNonce = a3
  generalize hasB l nUri = a4
  generalize hasB l nQop = a5
  generalize hasB l nNc = a6
  generalize hasB l nCnonce = a7
  generalize hasB l nResp = a8
  generalize hasB l nAlg = a9
  cases a1 <;> simp <;> cases a2 <;> simp <;> cases a3 <;> simp <;> cases a4 <;> simp <;> cases a5 <;> simp <;> cases a6 <;> simp <;> cases a7 <;> simp <;> cases a8 <;> simp <;> cases a9 <;> simp

theorem num_ok (v : List UInt8) : (numE v).2 = !((uhE v).2 != 0 || ((uhE v).1.length : Int) != 4) := by
  unfold numE
  by_cases h : (uhE v).2 = 0
  · have hl := uh_len h
    rw [h]
    by_cases h8 : (v.length : Int) = 8
    · have : ((uhE v).1.length : Int) = 4 := by omega
      rw [this, decide_eq_true h8]; rfl
    · have h4 : ((uhE v).1.length : Int) ≠ 4 := by omega
      rw [decide_eq_false h8, bne_iff_ne.2 h4]; rfl
  · rw [decide_eq_false h, bne_iff_ne.2 h]; rfl
theorem proof_ok (l : List Par) : proofB l = !((uhE (gotP l nResp).v).2 != 0 || ((uhE (gotP l nResp).v).1.length : Int) != 32) := by
  unfold proofB
  generalize (uhE (gotP l nResp).v).2 = a
  generalize ((uhE (gotP l nResp).v).1.length : Int) = b
  by_cases h1 : a = 0 <;> by_cases h2 : b = 32 <;> simp [h1, h2]
theorem pa_same (l : List Par) : paL l = rpaL (keepL l) := by
  have n1 : nUser ≠ nStale := by decide
  have n2 : nRealm ≠ nStale := by decide
  have n3 : nNonce ≠ nStale := by decide
  have n4 : nUri ≠ nStale := by decide
  have n5 : nQop ≠ nStale := by decide
  have n6 : nNc ≠ nStale := by decide
  have n7 : nCnonce ≠ nStale := by decide
  have n8 : nResp ≠ nStale := by decide
  have n9 : nAlg ≠ nStale := by decide
  have n10 : nOpaque ≠ nStale := by decide
  have hl := pa_lost l
  have hlk : (lookE (keepL l) mustA quoA).1 = mustA.all (hasB l) := by
    show mustA.all (hasB (keepL l)) = _
    unfold mustA
    simp only [List.all_cons, List.all_nil, (keep_find l n1).1, (keep_find l n2).1, (keep_find l n3).1, (keep_find l n4).1, (keep_find l n5).1, (keep_find l n6).1, (keep_find l n7).1, (keep_find l n8).1, (keep_find l n9).1]
  unfold paL rpaL
  cases hall : mustA.all (hasB l) with
  | false =>
    rw [hall] at hl hlk
    rw [if_pos hlk]
    have he : endF (paF l) = 6 := by unfold endF; rw [hl]; rfl
    rw [he, if_pos (by decide)]
  | true =>
    rw [hall] at hl hlk
    rw [hlk, if_neg (show ¬ (true = false) by decide)]
    have han : anL (keepL l) = anL l := by
      unfold anL
      rw [(keep_find l n1).2, (keep_find l n2).2, (keep_find l n3).2, (keep_find l n4).2, (keep_find l n6).2, (keep_find l n7).2, (keep_find l n8).2, (keep_find l n10).2]
    have hbad : (paF l).2 = rpaB (keepL l) := by
      unfold mustA at hall
      simp only [List.all_cons, List.all_nil, Bool.and_true, Bool.and_eq_true] at hall
      obtain ⟨h1, h2, h3, h4, h5, h6, h7, h8, h9⟩ := hall
      have hsum : lowL nSum = nSumL := by decide
      have c1 : quoA.contains nUser = true := by decide
      have c2 : quoA.contains nRealm = true := by decide
      have c3 : quoA.contains nNonce = true := by decide
      have c4 : quoA.contains nUri = true := by decide
      have c5 : quoA.contains nQop = false := by decide
      have c6 : quoA.contains nNc = false := by decide
      have c7 : quoA.contains nCnonce = true := by decide
      have c8 : quoA.contains nResp = true := by decide
      have c9 : quoA.contains nAlg = false := by decide
      have c10 : quoA.contains nOpaque = true := by decide
      have hn3 : ((gotP l nQop).v != nAuth) = !((gotP l nQop).v == nAuth) := rfl
      have hn4 : (lowL (gotP l nAlg).v != nSumL) = !(lowL (gotP l nAlg).v == nSumL) := rfl
      have hx1 := num_ok (gotP l nNc).v
      have hx2 := proof_ok l
      unfold rpaB lookE mustA paF comF mayF getF fineF
      simp only [List.cons_append, List.nil_append, List.all_cons, List.all_nil, c1, c2, c3, c4, c5, c6, c7, c8, c9, c10, keep_stale, (keep_find l n1).1, (keep_find l n2).1, (keep_find l n3).1, (keep_find l n4).1, (keep_find l n5).1, (keep_find l n6).1, (keep_find l n7).1, (keep_find l n8).1, (keep_find l n9).1, (keep_find l n10).1,
        (keep_find l n1).2, (keep_find l n2).2, (keep_find l n3).2, (keep_find l n4).2, (keep_find l n5).2, (keep_find l n6).2, (keep_find l n7).2, (keep_find l n8).2, (keep_find l n9).2, (keep_find l n10).2, h1, h2, h3, h4, h5, h6, h7, h8, h9, hsum, hx1, hx2, hn3, hn4]
      generalize ((uhE (gotP l nNc).v).2 != 0) = y1
      generalize (((uhE (gotP l nNc).v).1.length : Int) != 4) = y2
      generalize ((uhE (gotP l nResp).v).2 != 0) = y3
      generalize (((uhE (gotP l nResp).v).1.length : Int) != 32) = y4
      generalize sizB (gotP l nNonce).v = x1
      generalize sizB (gotP l nCnonce).v = x2
      generalize ((gotP l nQop).v == nAuth) = x3
      generalize (lowL (gotP l nAlg).v == nSumL) = x4
      generalize (gotP l nUser).q = q1
      generalize (gotP l nRealm).q = q2
      generalize (gotP l nNonce).q = q3
      generalize (gotP l nUri).q = q4
      generalize (gotP l nQop).q = q5
      generalize (gotP l nNc).q = q6
      generalize (gotP l nCnonce).q = q7
      generalize (gotP l nResp).q = q8
      generalize (gotP l nAlg).q = q9
      generalize (gotP l nOpaque).q = q10
      cases hasB l nOpaque <;> simp only [if_true, if_false, reduceIte, Bool.false_eq_true, beq_self_eq_true, Bool.false_or, Bool.true_or, Bool.or_true, Bool.or_false, Bool.true_and, Bool.false_and, Bool.not_true, Bool.not_false, Bool.and_true] <;>
        cases q1 <;> (try simp) <;> cases q2 <;> (try simp) <;> cases q3 <;> (try simp) <;> cases q4 <;> (try simp) <;> cases q5 <;> (try simp) <;> cases q6 <;> (try simp) <;> cases q7 <;> (try simp) <;> cases q8 <;> (try simp) <;> cases q9 <;> (try simp) <;> cases x1 <;> (try simp) <;> cases x2 <;> (try simp) <;> cases x3 <;> (try simp) <;> cases x4 <;> (try simp) <;> cases y1 <;> (try simp) <;> cases y2 <;> (try simp) <;> cases y3 <;> (try simp) <;> cases y4 <;> (try simp) <;> cases q10 <;> (try simp)
    unfold endF
    rw [hl, hbad, han]
    cases rpaB (keepL l) with
    | true => simp
    | false => simp

end Go.Proofs.Ytfoppclmjmpjiaa

/- Digits read, in b64. Conditions: as each says. -/
set_option linter.unusedSimpArgs false
set_option linter.unusedVariables false
namespace Go.Proofs.Ytfoppclmjmpjiaa
open Go Go.Ost Go.Shelf Go.RowKit Go.Sha

theorem ibyte_gen (d : List UInt8) (c : UInt8) : Meets Try.prog 73 [.string (str d), b8 c] [] fun v A => v = .int .i64 (Lib.indexByte d c) ∧ A = [] := by
  have h : Meets Try.prog 73 [.string (str d), b8 c] [] fun v A => v = .int .i64 (Lib.indexByte d c) ∧ A = [[]] := by
    refine meets_of_calls rfl rfl (by kernel_rfl) fun w hw => ?_
    refine (Any.strings_IndexByte laysI ⟨d.toArray⟩ c.toNat w).mono ?_
    rintro e w' ⟨rfl, rfl⟩
    refine ⟨_, rfl, Below.refl _ _, [], fun k o hm => (by cases hm), by simp, ?_, rfl⟩
    rw [show ((c.toNat : Int).toNat.toUInt8) = c from by simp]
  refine Meets.conv [] h rfl (.nil _) ?_
  rintro v A ⟨rfl, rfl⟩
  exact ⟨[], [[]], rfl, Among.refl _, rfl, rfl⟩

/-- The pairs of a text. -/
def prs : List UInt8 → List (List UInt8)
  | [] => []
  | [a] => [[a]]
  | a :: b :: r => [a, b] :: prs r
theorem prs_next : ∀ (s : List UInt8), s ≠ [] → prs s = s.take 2 :: prs (s.drop 2)
  | [], h => (h rfl).elim
  | [a], _ => rfl
  | a :: b :: r, _ => rfl
abbrev encG (x : List UInt8) : List Value := [.string (str x)]
abbrev sb (c : Nat) (s : List UInt8) : Chunk := bx c (.string (str s)) 9
abbrev ib (c : Nat) : Chunk := bx c (.int .i64 2) 3
abbrev NextG (q pre : List (List UInt8)) (x : List UInt8) : Prop := ∃ suf, q = pre ++ x :: suf

theorem groups_spec (s : List UInt8) : Meets Try.prog 79 [.string (str s), .int .i64 2] []
    fun u A => ∃ c1 c2, u = .func (.func 83) #[] #[.pointer (some ⟨c1, 0, none⟩), .pointer (some ⟨c2, 0, none⟩)] ∧ A = [sb c1 s, ib c2] := by
  refine spec_intro Try.func79 rfl (by kernel_rfl) (by rw [Try.ntmps79]; simp) fun F => ?_; rw [Try.ntmps79, Try.results79]
  refine going ?_
  refine run_op fun K hK => ?_; refine box_new fun c1 => ?_; (try simp only [Value.cells]); refine hK _ _ ?_; clear hK K
  refine run_op fun K hK => ?_; refine box_new fun c2 => ?_; (try simp only [Value.cells]); refine hK _ _ ?_; clear hK K
  refine going ?_
  refine back_tmp [sb c1 s, ib c2] ⟨c1, c2, rfl, rfl⟩

set_option maxHeartbeats 2000000 in
theorem groups_iter (c1 c2 : Nat) (s : List UInt8) (hs : s.length ≤ 100000) :
    IMeetsG Try.prog 83 [] [.pointer (some ⟨c1, 0, none⟩), .pointer (some ⟨c2, 0, none⟩)] encG [sb c1 s, ib c2]
      (fun T => T = []) noH noH noH (NextG (prs s)) (fun pre => pre = prs s)
      (fun _ A => ∃ r, A = [sb c1 r, ib c2]) (fun _ A => ∃ r, A = [sb c1 r, ib c2]) false := by
  refine iter_introG (by kernel_rfl) fun l0 J Jx hN hT hY C hC => ?_
  refine spec_intro Try.func83 rfl (by kernel_rfl) (by rw [Try.ntmps83]; simp) fun F => ?_; rw [Try.ntmps83, Try.results83]
  refine going ?_
  refine loop_i (fun q D L S => ∃ (pre : List (List UInt8)) (t : List UInt8) (C' : Chunk), J pre C' ∧ t.length ≤ s.length ∧ prs s = pre ++ prs t ∧ q = t.length ∧ D = [] ∧
    L = [(0, .func (.yield l0) #[] #[]), (1, .pointer (some ⟨c1, 0, none⟩)), (2, .pointer (some ⟨c2, 0, none⟩))] ∧ S = [C', sb c1 t, ib c2, F])
    ⟨[], s, C, hC, Nat.le_refl _, rfl, rfl, rfl, rfl, rfl⟩ ?_
  rintro q D L S ⟨pre, t, C', hJ, htl, hps, rfl, rfl, rfl, rfl⟩
  refine going ?_
  by_cases ht : t = []
  · subst ht
    (try rw [decide_eq_false (show ¬ (0 : Int) < (([] : List UInt8).length : Nat) by simp)])
    refine going ?_
    refine back_none_n [C', sb c1 [], ib c2] ⟨C', _, rfl, .inl ⟨pre, by rw [hps]; simp [prs], hJ, [], rfl⟩⟩
  · have hp : 0 < t.length := List.length_pos_iff.2 ht
    rw [decide_eq_true (show (0 : Int) < t.length by omega)]
    refine going ?_
    have em : (if (2 : Int) < t.length then (2 : Int) else t.length) = ((t.take 2).length : Nat) := by rw [List.length_take]; split <;> omega
    have hl2 : (t.take 2).length ≤ t.length := by rw [List.length_take]; omega
    have et : t.take (t.take 2).length = t.take 2 := by
      rw [List.length_take]
      rcases Nat.le_total 2 t.length with h | h
      · rw [Nat.min_eq_left h]
      · rw [Nat.min_eq_right h, List.take_length, List.take_of_length_le h]
    have ed : t.drop (t.take 2).length = t.drop 2 := by
      rw [List.length_take]
      rcases Nat.le_total 2 t.length with h | h
      · rw [Nat.min_eq_left h]
      · rw [Nat.min_eq_right h, List.drop_length, List.drop_eq_nil_of_le h]
    (try rw [em])
    (try refine going ?_)
    (try rw [show (((t.take 2).length : Nat) : Int).toNat = (t.take 2).length from by omega])
    rw [et]
    have hnx : NextG (prs s) pre (t.take 2) := ⟨prs (t.drop 2), by rw [hps, prs_next t ht]⟩
    refine run_op fun K hK => ?_
    refine yield_meetsG (hY pre (t.take 2) hnx) hJ rfl (by (repeat (first | with_reducible exact Take.nil _ | with_reducible exact Pick.head _ _ | with_reducible apply Pick.tail | with_reducible apply Take.cons))) (fun C4 H4 hJ4 hH4 => ?_) (fun C4 H4 hJ4 hH4 => ?_)
    · subst hH4
      (try simp only [List.nil_append])
      refine hK _ _ ?_; clear hK K
      refine going ?_
      rw [ed]
      refine going ?_
      exact again ⟨pre ++ [t.take 2], t.drop 2, C4, hJ4, by rw [List.length_drop]; omega, by rw [hps, prs_next t ht]; simp, rfl, rfl, rfl, rfl⟩ (by rw [List.length_drop]; omega)
    · subst hH4
      (try simp only [List.nil_append])
      refine hK _ _ ?_; clear hK K
      refine going ?_
      refine back_none [C4, sb c1 t, ib c2] ⟨C4, _, rfl, .inr ⟨pre, _, hnx, hJ4, t, rfl⟩⟩

/-! ### Unhex -/

theorem i64_shl4 {P : Program} {t : TypeId} {x y : Operand} {j : IntKind} {a : Int} {κ : Value → Prop} (a0 : 0 ≤ a) (a1 : a ≤ 1000000) : PureW P (do eqGuard .shl t x y (.int .i64 a) (.int j 4); binOp .shl t (.int .i64 a) (.int j 4)) κ = κ (.int .i64 (a * 16)) :=
  pureW_eq (fun w => by
    have e : min (4 : Int).toNat IntKind.i64.bits = 4 := rfl
    show (Op.shift .shl .i64 a j 4).run P w = _
    rw [Op.shift, if_neg (by decide), e]
    show Result.ok (Value.int .i64 (IntKind.i64.wrap (a * 2 ^ 4))) w = _
    rw [show (2 : Int) ^ 4 = 16 from rfl, wrap_i64 (by omega) (by omega)]) κ
theorem i64_or16 {P : Program} {t : TypeId} {x y : Operand} {a b : Int} {κ : Value → Prop} (a0 : 0 ≤ a) (a1 : a ≤ 1000000) (b0 : 0 ≤ b) (b1 : b < 16) : PureW P (do eqGuard .or t x y (.int .i64 (a * 16)) (.int .i64 b); binOp .or t (.int .i64 (a * 16)) (.int .i64 b)) κ = κ (.int .i64 (a * 16 + b)) :=
  pureW_eq (fun w => by
    obtain ⟨m, rfl⟩ : ∃ m : Nat, a = m := ⟨a.toNat, by omega⟩
    obtain ⟨k, rfl⟩ : ∃ k : Nat, b = k := ⟨b.toNat, by omega⟩
    show Result.ok (Value.int .i64 (IntKind.i64.wrap ((BitVec.ofInt 64 ((m : Int) * 16) ||| BitVec.ofInt 64 (k : Int)).toNat : Int))) w = _
    have e : (BitVec.ofInt 64 ((m : Int) * 16) ||| BitVec.ofInt 64 (k : Int)).toNat = m * 16 + k := by
      rw [show ((m : Int) * 16) = ((m * 16 : Nat) : Int) from by simp, BitVec.ofInt_natCast, BitVec.ofInt_natCast, BitVec.toNat_or, BitVec.toNat_ofNat, BitVec.toNat_ofNat, Nat.mod_eq_of_lt (by omega), Nat.mod_eq_of_lt (by omega)]
      have := Nat.shiftLeft_add_eq_or_of_lt (i := 4) (show k < 2 ^ 4 by omega) m
      rw [Nat.shiftLeft_eq] at this
      exact this.symm
    rw [e, wrap_i64 (by omega) (by omega)]
    simp) κ
def goodG (x : List UInt8) : Bool := match x with
  | [a, b] => decide (0 ≤ dv a) && decide (0 ≤ dv b)
  | _ => false
def byteG (x : List UInt8) : UInt8 := match x with
  | [a, b] => UInt8.ofNat (16 * (dv a).toNat + (dv b).toNat)
  | _ => 0
theorem prs_two : ∀ (k : Nat) (s : List UInt8), s.length ≤ k → s.length % 2 = 0 → ∀ x ∈ prs s, ∃ a b, x = [a, b]
  | _, [], _, _, x, hx => by cases hx
  | _, [a], _, h, x, hx => by simp at h
  | 0, a :: b :: r, hk, h, x, hx => by simp at hk
  | k + 1, a :: b :: r, hk, h, x, hx => by
    simp only [List.length_cons] at hk h
    rcases List.mem_cons.1 (show x ∈ [a, b] :: prs r from hx) with rfl | hx
    · exact ⟨a, b, rfl⟩
    · exact prs_two k r (by omega) (by omega) x hx
theorem uhF_prs : ∀ (k : Nat) (s : List UInt8), s.length ≤ k → s.length % 2 = 0 → uhF s = if (prs s).all goodG = true then some ((prs s).map byteG) else none
  | _, [], _, _ => rfl
  | _, [a], _, h => by simp at h
  | 0, a :: b :: r, hk, h => by simp at hk
  | k + 1, a :: b :: r, hk, h => by
    simp only [List.length_cons] at hk h
    have ih := uhF_prs k r (by omega) (by omega)
    have e : prs (a :: b :: r) = [a, b] :: prs r := rfl
    rw [e, List.all_cons, List.map_cons, uhF, ih]
    have hg : goodG [a, b] = (decide (0 ≤ dv a) && decide (0 ≤ dv b)) := rfl
    rw [hg]
    by_cases h1 : 0 ≤ dv a
    · by_cases h2 : 0 ≤ dv b
      · rw [if_neg (by omega), decide_eq_true h1, decide_eq_true h2]
        simp only [Bool.true_and]
        split <;> rfl
      · rw [if_pos (.inr (by omega)), decide_eq_false h2]
        simp
    · rw [if_pos (.inl (by omega)), decide_eq_false h1]
      simp
theorem uh_odd {s : List UInt8} (h : s.length % 2 ≠ 0) : uhE s = ([], 2) := by unfold uhE; rw [if_pos h]
theorem uh_good {s : List UInt8} (h : s.length % 2 = 0) (hg : (prs s).all goodG = true) : uhE s = ((prs s).map byteG, 0) := by
  unfold uhE; rw [if_neg (by omega), uhF_prs _ s (Nat.le_refl _) h, if_pos hg]
theorem uh_bad {s : List UInt8} (h : s.length % 2 = 0) (hg : (prs s).all goodG = false) : uhE s = ([], 5) := by
  unfold uhE; rw [if_neg (by omega), uhF_prs _ s (Nat.le_refl _) h, if_neg (by rw [hg]; simp)]
theorem prs_len : ∀ (k : Nat) (s : List UInt8), s.length ≤ k → (prs s).length ≤ s.length
  | _, [], _ => Nat.le_refl _
  | _, [a], _ => Nat.le_refl _
  | 0, a :: b :: r, hk => by simp at hk
  | k + 1, a :: b :: r, hk => by
    have := prs_len k r (by simp only [List.length_cons] at hk; omega)
    show (prs r).length + 1 ≤ r.length + 1 + 1; omega

set_option maxHeartbeats 4000000 in
theorem unhex_spec (s : List UInt8) (hs : s.length ≤ 100000) : Meets Try.prog 65 [.string (str s)] []
    fun v A => ∃ X a k, v = .tuple #[.slice a (uhE s).1.length k, .int .i64 (uhE s).2] ∧ Own8 5 X a (uhE s).1.length k (uhE s).1 ∧ A = [X] := by
  have hpl := prs_len _ s (Nat.le_refl _)
  refine spec_intro Try.func65 rfl (by kernel_rfl) (by rw [Try.ntmps65]; simp) fun F => ?_; rw [Try.ntmps65, Try.results65]
  refine code_nil ?_
  refine going ?_
  refine run_op fun K hK => ?_; refine alloc_new fun b2 => ?_; (try simp only [Value.cells]); refine hK _ _ ?_; clear hK K
  refine run_op fun K hK => ?_; refine alloc_new fun b3 => ?_; (try simp only [Value.cells]); refine hK _ _ ?_; clear hK K
  refine going ?_
  by_cases h2 : s.length % 2 = 0
  · rw [bne_eq_false_iff_eq.2 (show (s.length : Int) % 2 = 0 by omega)]
    refine going ?_
    refine run_op fun K hK => ?_; refine alloc_new fun b4 => ?_; (try simp only [Value.cells]); refine hK _ _ ?_; clear hK K
    refine going ?_
    refine run_op fun K hK => ?_; refine calls_to (groups_spec s) ?_; rintro v A ⟨c1, c2, rfl, rfl⟩; (try simp only [List.nil_append, List.cons_append]); refine hK _ _ ?_; clear hK K; refine going ?_
    refine code_nil ?_
    refine code_rangeG (by (try simp only [evT, lookT_hit, lookT_miss, Nat.reduceBEq]); (first | done | exact rfl)) (groups_iter c1 c2 s hs) (by (repeat (first | exact Take.nil _ | with_reducible exact Pick.head _ _ | with_reducible apply Pick.tail | with_reducible apply Take.cons))) (fun pre C => pre.all goodG = true ∧ ∃ (X : Chunk) (xa : Option Addr) (xc : Nat), Own8 5 X xa pre.length xc (pre.map byteG) ∧
        C = [X, bx b4 (.slice xa pre.length xc) 30, bx b3 (.int .i64 0) 44, bx b2 (.slice none 0 0) 30, [], F])
      (fun k pre C => k = .ret ∧ (prs s).all goodG = false ∧ C = [bx b3 (.int .i64 5) 44, bx b2 (.slice none 0 0) 30, [], F]) (fun h => by cases h) (fun C hC => ⟨[], C.flatten, rfl, by simp⟩) (fun _ => rfl)
      ⟨rfl, [], none, 0, own_nil, rfl⟩ ?_ ?_ ?_
    · rintro l F1 C H r' pre x ⟨suf, hx⟩ ⟨hg, X, xa, xc, hX, rfl⟩ rfl
      obtain ⟨a, b, rfl⟩ := prs_two _ s (Nat.le_refl _) h2 x (by rw [hx]; simp)
      have hprl : pre.length < (prs s).length := by rw [hx]; simp
      have ra := dv_range a
      have rb := dv_range b
      have hgx : goodG [a, b] = (decide (0 ≤ dv a) && decide (0 ≤ dv b)) := rfl
      have hbad : goodG [a, b] = false → (prs s).all goodG = false := fun h => by
        rw [hx, List.all_append, List.all_cons, h]; simp
      have eD : Value.string ⟨#[48, 49, 50, 51, 52, 53, 54, 55, 56, 57, 97, 98, 99, 100, 101, 102]⟩ = .string (str digits) := rfl
      have ia := ibyte_gen digits a
      have ib' := ibyte_gen digits b
      rw [show Lib.indexByte digits a = dv a from rfl] at ia
      rw [show Lib.indexByte digits b = dv b from rfl] at ib'
      have hby : byteG [a, b] = UInt8.ofNat (16 * (dv a).toNat + (dv b).toNat) := rfl
      generalize dv a = va at *
      generalize dv b = vb at *
      (try simp only [List.nil_append, List.cons_append, List.append_nil, encG])
      (try simp only [putAll, putT, Nat.reduceLT, if_true, reduceIte, Array.toList, List.toList_toArray])
      refine going ?_
      refine ⟨_, .cons (.head _ _) (Among.refl _), fun r'' _ => ?_⟩
      refine going ?_
      refine run_op fun K hK => ?_; refine conv_string_bytes (by simp [maxLen]) (fun Y ya yc hY => ?_); refine hK _ _ ?_; clear hK K
      refine going ?_
      rw [show ([a, b] : List UInt8).length = 2 from rfl] at *
      refine loop_i (fun q D L S => ∃ (k : Nat) (n : Int), ((k = 0 ∧ n = 0) ∨ (k = 1 ∧ 0 ≤ va ∧ n = va) ∨ (k = 2 ∧ 0 ≤ va ∧ 0 ≤ vb ∧ n = va * 16 + vb)) ∧ q = 2 - k ∧ D = [] ∧
        L = [(20, .int .i64 k), (19, .int .i64 2), (18, .slice (some ya) 2 yc), (6, .int .i64 n), (4, .pointer (some ⟨b4, 0, none⟩)), (3, .pointer (some ⟨b3, 0, none⟩)), (2, .pointer (some ⟨b2, 0, none⟩))] ∧
        S = [Y, [(l, .loop r'')], F1, X, bx b4 (.slice xa pre.length xc) 30, bx b3 (.int .i64 0) 44, bx b2 (.slice none 0 0) 30, [], F])
        ⟨0, 0, .inl ⟨rfl, rfl⟩, rfl, rfl, rfl, rfl⟩ ?_
      rintro q D L S ⟨k, n, hkn, rfl, rfl, rfl, rfl⟩
      rcases hkn with ⟨rfl, hn⟩ | ⟨rfl, ha, hn⟩ | ⟨rfl, ha, hb, hn⟩
      · refine going ?_
        (try rw [show ([a, b] : List UInt8).getD 0 0 = a from rfl])
        (try rw [eD])
        refine run_op fun K hK => ?_; refine calls_to (ia) ?_; rintro v A ⟨rfl, rfl⟩; (try simp only [List.nil_append, List.cons_append]); refine hK _ _ ?_; clear hK K; refine going ?_
        by_cases hv : 0 ≤ va
        · rw [decide_eq_false (show ¬ va < 0 by omega)]
          refine going ?_
          refine run_op fun K hK => ?_; rw [i64_shl4 (by omega) (by omega)]; refine hK _ _ ?_; clear hK K
          refine going ?_
          refine run_op fun K hK => ?_; rw [i64_or16 (by omega) (by omega) (by omega) (by omega)]; refine hK _ _ ?_; clear hK K
          refine going ?_
          exact again ⟨1, n * 16 + va, .inr (.inl ⟨rfl, hv, by omega⟩), rfl, rfl, rfl, rfl⟩
        · rw [decide_eq_true (show va < 0 by omega)]
          refine going ?_
          exact ⟨_, ⟨_, [], rfl, ⟨rfl, hbad (by rw [hgx, decide_eq_false hv]; rfl), rfl⟩, rfl⟩, by (try simp only [List.append_nil]); first | ((repeat (first | with_reducible exact Among.nil _ | with_reducible exact Pick.head _ _ | with_reducible apply Pick.tail | with_reducible apply Among.cons)); done) | ((repeat (first | exact Among.nil _ | exact Pick.head _ _ | apply Pick.tail | apply Among.cons)); done)⟩
      · refine going ?_
        (try rw [show ([a, b] : List UInt8).getD 1 0 = b from rfl])
        (try rw [eD])
        refine run_op fun K hK => ?_; refine calls_to (ib') ?_; rintro v A ⟨rfl, rfl⟩; (try simp only [List.nil_append, List.cons_append]); refine hK _ _ ?_; clear hK K; refine going ?_
        by_cases hv : 0 ≤ vb
        · rw [decide_eq_false (show ¬ vb < 0 by omega)]
          refine going ?_
          refine run_op fun K hK => ?_; rw [i64_shl4 (by omega) (by omega)]; refine hK _ _ ?_; clear hK K
          refine going ?_
          refine run_op fun K hK => ?_; rw [i64_or16 (by omega) (by omega) (by omega) (by omega)]; refine hK _ _ ?_; clear hK K
          refine going ?_
          exact again ⟨2, n * 16 + vb, .inr (.inr ⟨rfl, ha, hv, by omega⟩), rfl, rfl, rfl, rfl⟩
        · rw [decide_eq_true (show vb < 0 by omega)]
          refine going ?_
          exact ⟨_, ⟨_, [], rfl, ⟨rfl, hbad (by rw [hgx, decide_eq_false hv]; simp), rfl⟩, rfl⟩, by (try simp only [List.append_nil]); first | ((repeat (first | with_reducible exact Among.nil _ | with_reducible exact Pick.head _ _ | with_reducible apply Pick.tail | with_reducible apply Among.cons)); done) | ((repeat (first | exact Among.nil _ | exact Pick.head _ _ | apply Pick.tail | apply Among.cons)); done)⟩
      · refine going ?_
        have eb : Value.int .u8 n = b8 (byteG [a, b]) := by
          rw [hby]
          simp only [b8, UInt8.toNat_ofNat']
          congr 1; omega
        rw [eb]
        refine run_op fun K hK => ?_; refine build8 ([byteG [a, b]]) (by decide) rfl (rfl) (fun b7 C7 ho7 => ?_); refine hK _ _ ?_; clear hK K
        refine going ?_
        refine run_op fun K hK => ?_; refine app8 (hX) (by (repeat (first | with_reducible exact Pick.head _ _ | with_reducible apply Pick.tail))) ((ho7.rd (List.mem_cons_self ..)).mem (by (repeat (first | with_reducible assumption | with_reducible exact List.mem_cons_self .. | with_reducible apply List.mem_cons_of_mem)))) (by omega) (fun C9 a9 cap9 ho9 => ?_); refine hK _ _ ?_; clear hK K
        have e1 : pre.length + 1 = (pre ++ [[a, b]]).length := by simp
        have e2 : pre.map byteG ++ [byteG [a, b]] = (pre ++ [[a, b]]).map byteG := by simp
        rw [e1, e2] at ho9
        rw [e1]
        refine going ?_
        exact ⟨_, ⟨_, [], rfl, ⟨by rw [List.all_append, hg, List.all_cons, hgx, decide_eq_true ha, decide_eq_true hb]; rfl, C9, a9, cap9, ho9, rfl⟩, rfl⟩, by (try simp only [List.append_nil]); first | ((repeat (first | with_reducible exact Among.nil _ | with_reducible exact Pick.head _ _ | with_reducible apply Pick.tail | with_reducible apply Among.cons)); done) | ((repeat (first | exact Among.nil _ | exact Pick.head _ _ | apply Pick.tail | apply Among.cons)); done)⟩
    · rintro d pre C A rfl ⟨hg, X, xa, xc, hX, rfl⟩ ⟨r, rfl⟩
      rw [uh_good h2 hg]
      (try simp only [List.nil_append, List.cons_append])
      refine going ?_
      refine back_cells (vs := [.slice xa ((prs s).map byteG).length xc, .int .i64 0]) [X] ⟨X, xa, xc, rfl, by rw [List.length_map]; exact hX, rfl⟩ (hr := by (intro κ hκ; simp only [resW, withV, lookT_hit, lookT_miss, Nat.reduceBEq, List.length_map] at hκ ⊢; (repeat (first | refine load_box (by (repeat (first | with_reducible exact Lies.one | with_reducible apply Lies.next))) ?_ | refine load_one (by (repeat (first | with_reducible exact Lies.one | with_reducible apply Lies.next))) rfl ?_)); exact hκ))
    · rintro d k pre x C A hx ⟨rfl, hbad, rfl⟩ ⟨r, rfl⟩
      rw [uh_bad h2 hbad]
      (try simp only [List.nil_append, List.cons_append])
      refine going ?_
      refine back_cells (vs := [.slice none 0 0, .int .i64 5]) [[]] ⟨[], none, 0, rfl, own_nil, rfl⟩
  · rw [uh_odd h2, bne_iff_ne.2 (show (s.length : Int) % 2 ≠ 0 by omega)]
    refine going ?_
    refine back_cells (vs := [.slice none 0 0, .int .i64 2]) [[]] ⟨[], none, 0, rfl, own_nil, rfl⟩

end Go.Proofs.Ytfoppclmjmpjiaa

/- Digits and numbers read, by the document; a number of eight digits. Conditions: as each says. -/
set_option linter.unusedSimpArgs false
set_option linter.unusedVariables false
namespace Go.Proofs.Ytfoppclmjmpjiaa
open Go Go.Ost Go.Sha

theorem numW_next (l : List UInt8) (i : Nat) (h : i < l.length) : numW (l.take (i + 1)) = (numW (l.take i) <<< 8) ||| BitVec.ofNat 32 (l.getD i 0).toNat := by
  unfold numW
  rw [List.take_add_one, List.foldl_append, List.getD_eq_getElem?_getD, List.getElem?_eq_getElem h]; rfl

set_option maxHeartbeats 2000000 in
theorem number_spec (s : List UInt8) (hs : s.length ≤ 100000) : Meets Try.prog 64 [.string (str s)] []
    fun v A => v = .tuple #[b32 (numE s).1, .bool (numE s).2] ∧ A = [] := by
  have hle := uh_le s
  unfold numE
  refine spec_intro Try.func64 rfl (by kernel_rfl) (by rw [Try.ntmps64]; simp) fun F => ?_; rw [Try.ntmps64, Try.results64]
  refine going ?_
  refine run_op fun K hK => ?_; refine calls_to (unhex_spec s hs) ?_; rintro v A ⟨X, xa, xk, rfl, hX, rfl⟩; (try simp only [List.nil_append, List.cons_append]); refine hK _ _ ?_; clear hK K; refine going ?_
  rw [show Value.int .u32 0 = b32 (numW ((uhE s).1.take 0)) from rfl]
  generalize (uhE s).1 = p at *
  generalize (uhE s).2 = e at *
  refine loop_i (fun q D L S => ∃ i : Nat, i ≤ p.length ∧ q = p.length - i ∧ D = [] ∧
    L = [(16, .int .i64 i), (15, .int .i64 p.length), (14, .slice xa p.length xk), (6, b32 (numW (p.take i))), (5, .int .i64 e), (0, .string (str s))] ∧ S = [X, F])
    ⟨0, by omega, rfl, rfl, rfl, rfl⟩ ?_
  rintro q D L S ⟨i, hi, rfl, rfl, rfl, rfl⟩
  refine going ?_
  refine if_d (fun hc => ?_) (fun hc => ?_)
  · have hil : i < p.length := by omega
    have hnx := numW_next p i hil
    refine going ?_
    rw [← hnx]
    exact again ⟨i + 1, by omega, rfl, rfl, rfl, rfl⟩
  · obtain rfl : i = p.length := by omega
    rw [List.take_length]
    refine going ?_
    by_cases h0 : e = 0
    · subst h0
      refine going ?_
      refine back_cells (vs := [b32 (numW p), .bool (decide ((s.length : Int) = 8))]) [] ⟨by simp [tupled], rfl⟩
    · rw [beq_eq_false_iff_ne.2 h0]
      refine going ?_
      refine back_cells (vs := [b32 (numW p), .bool false]) [] ⟨by simp [tupled, h0], rfl⟩

end Go.Proofs.Ytfoppclmjmpjiaa

/- An answer of a header, in digest. Conditions: as each says. -/
set_option linter.unusedSimpArgs false
set_option linter.unusedVariables false
namespace Go.Proofs.Ytfoppclmjmpjiaa
open Go Go.Ost Go.Sha

instance tpAns : TPlaces Try.prog 67 [(0, 1), (1, 1), (2, 1), (3, 1), (4, 1), (5, 1), (6, 1), (7, 1)] := ⟨by kernel_rfl⟩
theorem cell_A (a : An) (pa : Option Addr) (pk : Nat) : ∀ v ∈ encA a pa pk, Value.cell1 v := by
  intro v hv
  simp only [encA, List.mem_cons, List.not_mem_nil, or_false] at hv
  rcases hv with rfl | rfl | rfl | rfl | rfl | rfl | rfl | rfl <;> simp [Value.cell1, b32]
abbrev daB (b : Nat) (a : An) (pa : Option Addr) (pk : Nat) : Chunk := [(b, .cells (encA a pa pk).toArray 67 (0, 0))]
theorem got_le {l : List Par} {B : Nat} (h : ∀ p ∈ l, p.v.length ≤ B) (n : List UInt8) : (gotP l n).v.length ≤ B := by
  unfold gotP
  cases hf : l.find? fun p => p.n == n with
  | none => show (0 : Nat) ≤ _; omega
  | some p => exact h p (List.mem_of_find?_eq_some hf)

set_option maxHeartbeats 8000000 in
theorem pans_spec (s : List UInt8) (hs : s.length ≤ 100000) : Meets Try.prog 33 [.string (str s)] []
    fun v A => ∃ P pa pk, v = .tuple #[.agg (encA (paE s).1 pa pk).toArray, .int .i64 (paE s).2] ∧ Own8 5 P pa (paE s).1.pf.length pk (paE s).1.pf ∧ A = [P] := by
  obtain ⟨hpl, hpb⟩ := parse_bound s
  unfold paE
  refine spec_intro Try.func33 rfl (by kernel_rfl) (by rw [Try.ntmps33]; simp) fun F => ?_; rw [Try.ntmps33, Try.results33]
  refine code_nil ?_
  refine going ?_
  refine run_op fun K hK => ?_; refine alloc_as (encA a0 none 0).toArray rfl fun b2 => ?_; refine hK _ _ ?_; clear hK K
  refine going ?_
  refine run_op fun K hK => ?_; refine calls_to (parse_spec s hs) ?_; rintro v A ⟨X, xa, xk, rfl, hX, rfl⟩; (try simp only [List.nil_append, List.cons_append]); refine hK _ _ ?_; clear hK K; refine going ?_
  by_cases h0 : (parseE s).2 = 0
  · rw [h0, if_neg (by decide)]
    generalize (parseE s).1 = l at *
    have hvb : ∀ p ∈ l, p.v.length ≤ 100000 := fun p hp => by have := hpb p hp; omega
    have hl : l.length ≤ 100000 := by omega
    clear hpl hpb
    refine going ?_
    refine run_op fun K hK => ?_; rw [build_struct (ps := [(0, .slice xa l.length xk)]) (cs := #[.slice xa l.length xk, .bool false, .bool false]) rfl]; refine hK _ _ ?_; clear hK K
    refine going ?_
    refine run_op fun K hK => ?_; refine box_new fun b6 => ?_; (try simp only [Value.cells]); refine hK _ _ ?_; clear hK K
    refine going ?_
    refine run_op fun K hK => ?_; refine calls_to (fget_spec hX hl (false, false) nUser true) ?_; rintro v A ⟨rfl, rfl⟩; (try simp only [List.nil_append, List.cons_append]); refine hK _ _ ?_; clear hK K; refine going ?_
    refine run_op fun K hK => ?_; refine calls_to (fget_spec hX hl _ nRealm true) ?_; rintro v A ⟨rfl, rfl⟩; (try simp only [List.nil_append, List.cons_append]); refine hK _ _ ?_; clear hK K; refine going ?_
    refine run_op fun K hK => ?_; refine calls_to (fget_spec hX hl _ nNonce true) ?_; rintro v A ⟨rfl, rfl⟩; (try simp only [List.nil_append, List.cons_append]); refine hK _ _ ?_; clear hK K; refine going ?_
    refine run_op fun K hK => ?_; refine calls_to (fsome_spec _ (gotP l nNonce).v) ?_; rintro v A ⟨rfl, rfl⟩; (try simp only [List.nil_append, List.cons_append]); refine hK _ _ ?_; clear hK K; refine going ?_
    refine run_op fun K hK => ?_; refine calls_to (fget_spec hX hl _ nUri true) ?_; rintro v A ⟨rfl, rfl⟩; (try simp only [List.nil_append, List.cons_append]); refine hK _ _ ?_; clear hK K; refine going ?_
    refine run_op fun K hK => ?_; refine calls_to (fget_spec hX hl _ nCnonce true) ?_; rintro v A ⟨rfl, rfl⟩; (try simp only [List.nil_append, List.cons_append]); refine hK _ _ ?_; clear hK K; refine going ?_
    refine run_op fun K hK => ?_; refine calls_to (fsome_spec _ (gotP l nCnonce).v) ?_; rintro v A ⟨rfl, rfl⟩; (try simp only [List.nil_append, List.cons_append]); refine hK _ _ ?_; clear hK K; refine going ?_
    refine run_op fun K hK => ?_; refine calls_to (fmay_spec hX hl _ nOpaque [] true) ?_; rintro v A ⟨rfl, rfl⟩; (try simp only [List.nil_append, List.cons_append]); refine hK _ _ ?_; clear hK K; refine going ?_
    have hop : (if hasB l nOpaque = true then (gotP l nOpaque).v else []) = (gotP l nOpaque).v := by
      split
      · rfl
      · rename_i h; rw [got_no (by simpa using h)]; rfl
    rw [hop]
    refine run_op fun K hK => ?_; rw [build_struct (ps := [(0, .string (str (gotP l nUser).v)), (1, .string (str (gotP l nRealm).v)), (2, .string (str (gotP l nNonce).v)), (3, .string (str (gotP l nUri).v)), (4, .string (str (gotP l nCnonce).v)), (5, .string (str (gotP l nOpaque).v))]) (cs := (encA ⟨(gotP l nUser).v, (gotP l nRealm).v, (gotP l nNonce).v, (gotP l nUri).v, (gotP l nCnonce).v, (gotP l nOpaque).v, 0, []⟩ none 0).toArray) rfl]; refine hK _ _ ?_; clear hK K
    refine going ?_
    refine run_op fun K hK => ?_; refine alloc_as (encA a0 none 0).toArray rfl fun b7 => ?_; refine hK _ _ ?_; clear hK K
    refine run_op fun K hK => ?_; refine store_all (vs := encA ⟨(gotP l nUser).v, (gotP l nRealm).v, (gotP l nNonce).v, (gotP l nUri).v, (gotP l nCnonce).v, (gotP l nOpaque).v, 0, []⟩ none 0) rfl (cell_A _ _ _) (by (repeat (first | with_reducible exact Upd.one | with_reducible apply Upd.next))) (by rfl) ?_; refine hK _ _ ?_; clear hK K
    refine going ?_
    refine run_op fun K hK => ?_; refine calls_to (common_spec hX hl hvb _ false) ?_; rintro v A ⟨rfl, rfl⟩; (try simp only [List.nil_append, List.cons_append]); refine hK _ _ ?_; clear hK K; refine going ?_
    refine run_op fun K hK => ?_; refine calls_to (fget_spec hX hl _ nNc false) ?_; rintro v A ⟨rfl, rfl⟩; (try simp only [List.nil_append, List.cons_append]); refine hK _ _ ?_; clear hK K; refine going ?_
    refine run_op fun K hK => ?_; refine calls_to (number_spec (gotP l nNc).v (got_le hvb nNc)) ?_; rintro v A ⟨rfl, rfl⟩; (try simp only [List.nil_append, List.cons_append]); refine hK _ _ ?_; clear hK K; refine going ?_
    (try simp only [List.setIfInBounds_toArray, List.set_cons_succ, List.set_cons_zero, List.getElem_toArray, List.getElem_cons_succ, List.getElem_cons_zero])
    refine run_op fun K hK => ?_; refine calls_to (fine_spec _ (numE (gotP l nNc).v).2) ?_; rintro v A ⟨rfl, rfl⟩; (try simp only [List.nil_append, List.cons_append]); refine hK _ _ ?_; clear hK K; refine going ?_
    refine run_op fun K hK => ?_; refine calls_to (fget_spec hX hl _ nResp true) ?_; rintro v A ⟨rfl, rfl⟩; (try simp only [List.nil_append, List.cons_append]); refine hK _ _ ?_; clear hK K; refine going ?_
    refine run_op fun K hK => ?_; refine calls_to (unhex_spec (gotP l nResp).v (got_le hvb nResp)) ?_; rintro v A ⟨P, pa, pk, rfl, hP, rfl⟩; (try simp only [List.nil_append, List.cons_append]); refine hK _ _ ?_; clear hK K; refine going ?_
    (try simp only [List.setIfInBounds_toArray, List.set_cons_succ, List.set_cons_zero, List.getElem_toArray, List.getElem_cons_succ, List.getElem_cons_zero])
    have hpa : paF l = fineF (proofB l) (getF l nResp true (fineF (numE (gotP l nNc).v).2 (getF l nNc false (comF l false (mayF l nOpaque true (fineF (sizB (gotP l nCnonce).v) (getF l nCnonce true (getF l nUri true (fineF (sizB (gotP l nNonce).v) (getF l nNonce true (getF l nRealm true (getF l nUser true (false, false))))))))))))) := rfl
    generalize (getF l nResp true (fineF (numE (gotP l nNc).v).2 (getF l nNc false (comF l false (mayF l nOpaque true (fineF (sizB (gotP l nCnonce).v) (getF l nCnonce true (getF l nUri true (fineF (sizB (gotP l nNonce).v) (getF l nNonce true (getF l nRealm true (getF l nUser true (false, false))))))))))))) = f9 at *
    unfold paL
    by_cases hu : (uhE (gotP l nResp).v).2 = 0
    · have hpb : proofB l = decide (((uhE (gotP l nResp).v).1.length : Int) = 32) := by unfold proofB; rw [decide_eq_true hu, Bool.true_and]
      rw [hu]
      refine going ?_
      refine run_op fun K hK => ?_; refine calls_to (fine_spec f9 (decide (((uhE (gotP l nResp).v).1.length : Int) = 32))) ?_; rintro v A ⟨rfl, rfl⟩; (try simp only [List.nil_append, List.cons_append]); refine hK _ _ ?_; clear hK K; refine going ?_
      rw [hpb] at hpa
      (try simp only [List.setIfInBounds_toArray, List.set_cons_succ, List.set_cons_zero, List.getElem_toArray, List.getElem_cons_succ, List.getElem_cons_zero])
      rw [← hpa]
      refine going ?_
      refine run_op fun K hK => ?_; refine calls_to (ended_spec (paF l)) ?_; rintro v A ⟨rfl, rfl⟩; (try simp only [List.nil_append, List.cons_append]); refine hK _ _ ?_; clear hK K; refine going ?_
      by_cases he : endF (paF l) = 0
      · rw [he, if_neg (by decide)]
        refine going ?_
        refine run_op fun K hK => ?_; refine load_all (vs := encA ⟨(gotP l nUser).v, (gotP l nRealm).v, (gotP l nNonce).v, (gotP l nUri).v, (gotP l nCnonce).v, (gotP l nOpaque).v, (numE (gotP l nNc).v).1, (uhE (gotP l nResp).v).1⟩ pa pk) (by (repeat (first | with_reducible exact Lies.one | with_reducible apply Lies.next))) rfl ?_; refine hK _ _ ?_; clear hK K
        refine run_op fun K hK => ?_; refine store_all (vs := encA ⟨(gotP l nUser).v, (gotP l nRealm).v, (gotP l nNonce).v, (gotP l nUri).v, (gotP l nCnonce).v, (gotP l nOpaque).v, (numE (gotP l nNc).v).1, (uhE (gotP l nResp).v).1⟩ pa pk) rfl (cell_A _ _ _) (by (repeat (first | with_reducible exact Upd.one | with_reducible apply Upd.next))) (by rfl) ?_; refine hK _ _ ?_; clear hK K
        refine going ?_
        refine back_cells (vs := [.agg (encA ⟨(gotP l nUser).v, (gotP l nRealm).v, (gotP l nNonce).v, (gotP l nUri).v, (gotP l nCnonce).v, (gotP l nOpaque).v, (numE (gotP l nNc).v).1, (uhE (gotP l nResp).v).1⟩ pa pk).toArray, .int .i64 0]) [P] ⟨P, pa, pk, rfl, hP, rfl⟩ (hr := by (intro κ hκ; simp only [resW, withV, lookT_hit, lookT_miss, Nat.reduceBEq]; exact load_all (vs := encA ⟨(gotP l nUser).v, (gotP l nRealm).v, (gotP l nNonce).v, (gotP l nUri).v, (gotP l nCnonce).v, (gotP l nOpaque).v, (numE (gotP l nNc).v).1, (uhE (gotP l nResp).v).1⟩ pa pk) (by (repeat (first | with_reducible exact Lies.one | with_reducible apply Lies.next))) rfl hκ))
      · rw [if_pos he, bne_iff_ne.2 he]
        refine going ?_
        refine run_op fun K hK => ?_; rw [build_struct (ps := []) (cs := (encA a0 none 0).toArray) rfl]; refine hK _ _ ?_; clear hK K
        refine going ?_
        refine run_op fun K hK => ?_; refine store_all (vs := encA a0 none 0) rfl (cell_A _ _ _) (by (repeat (first | with_reducible exact Upd.one | with_reducible apply Upd.next))) (by rfl) ?_; refine hK _ _ ?_; clear hK K
        refine going ?_
        refine back_cells (vs := [.agg (encA a0 none 0).toArray, .int .i64 (endF (paF l))]) [[]] ⟨[], none, 0, rfl, own_nil, rfl⟩ (hr := by (intro κ hκ; simp only [resW, withV, lookT_hit, lookT_miss, Nat.reduceBEq]; exact load_all (vs := encA a0 none 0) (by (repeat (first | with_reducible exact Lies.one | with_reducible apply Lies.next))) rfl hκ))
    · have hpb : proofB l = false := by unfold proofB; rw [decide_eq_false hu, Bool.false_and]
      rw [beq_eq_false_iff_ne.2 hu]
      refine going ?_
      refine run_op fun K hK => ?_; refine calls_to (fine_spec f9 false) ?_; rintro v A ⟨rfl, rfl⟩; (try simp only [List.nil_append, List.cons_append]); refine hK _ _ ?_; clear hK K; refine going ?_
      rw [hpb] at hpa
      (try simp only [List.setIfInBounds_toArray, List.set_cons_succ, List.set_cons_zero, List.getElem_toArray, List.getElem_cons_succ, List.getElem_cons_zero])
      rw [← hpa]
      refine going ?_
      refine run_op fun K hK => ?_; refine calls_to (ended_spec (paF l)) ?_; rintro v A ⟨rfl, rfl⟩; (try simp only [List.nil_append, List.cons_append]); refine hK _ _ ?_; clear hK K; refine going ?_
      by_cases he : endF (paF l) = 0
      · rw [he, if_neg (by decide)]
        refine going ?_
        refine run_op fun K hK => ?_; refine load_all (vs := encA ⟨(gotP l nUser).v, (gotP l nRealm).v, (gotP l nNonce).v, (gotP l nUri).v, (gotP l nCnonce).v, (gotP l nOpaque).v, (numE (gotP l nNc).v).1, (uhE (gotP l nResp).v).1⟩ pa pk) (by (repeat (first | with_reducible exact Lies.one | with_reducible apply Lies.next))) rfl ?_; refine hK _ _ ?_; clear hK K
        refine run_op fun K hK => ?_; refine store_all (vs := encA ⟨(gotP l nUser).v, (gotP l nRealm).v, (gotP l nNonce).v, (gotP l nUri).v, (gotP l nCnonce).v, (gotP l nOpaque).v, (numE (gotP l nNc).v).1, (uhE (gotP l nResp).v).1⟩ pa pk) rfl (cell_A _ _ _) (by (repeat (first | with_reducible exact Upd.one | with_reducible apply Upd.next))) (by rfl) ?_; refine hK _ _ ?_; clear hK K
        refine going ?_
        refine back_cells (vs := [.agg (encA ⟨(gotP l nUser).v, (gotP l nRealm).v, (gotP l nNonce).v, (gotP l nUri).v, (gotP l nCnonce).v, (gotP l nOpaque).v, (numE (gotP l nNc).v).1, (uhE (gotP l nResp).v).1⟩ pa pk).toArray, .int .i64 0]) [P] ⟨P, pa, pk, rfl, hP, rfl⟩ (hr := by (intro κ hκ; simp only [resW, withV, lookT_hit, lookT_miss, Nat.reduceBEq]; exact load_all (vs := encA ⟨(gotP l nUser).v, (gotP l nRealm).v, (gotP l nNonce).v, (gotP l nUri).v, (gotP l nCnonce).v, (gotP l nOpaque).v, (numE (gotP l nNc).v).1, (uhE (gotP l nResp).v).1⟩ pa pk) (by (repeat (first | with_reducible exact Lies.one | with_reducible apply Lies.next))) rfl hκ))
      · rw [if_pos he, bne_iff_ne.2 he]
        refine going ?_
        refine run_op fun K hK => ?_; rw [build_struct (ps := []) (cs := (encA a0 none 0).toArray) rfl]; refine hK _ _ ?_; clear hK K
        refine going ?_
        refine run_op fun K hK => ?_; refine store_all (vs := encA a0 none 0) rfl (cell_A _ _ _) (by (repeat (first | with_reducible exact Upd.one | with_reducible apply Upd.next))) (by rfl) ?_; refine hK _ _ ?_; clear hK K
        refine going ?_
        refine back_cells (vs := [.agg (encA a0 none 0).toArray, .int .i64 (endF (paF l))]) [[]] ⟨[], none, 0, rfl, own_nil, rfl⟩ (hr := by (intro κ hκ; simp only [resW, withV, lookT_hit, lookT_miss, Nat.reduceBEq]; exact load_all (vs := encA a0 none 0) (by (repeat (first | with_reducible exact Lies.one | with_reducible apply Lies.next))) rfl hκ))
  · rw [bne_iff_ne.2 h0, if_pos h0]
    refine going ?_
    refine run_op fun K hK => ?_; rw [build_struct (ps := []) (cs := (encA a0 none 0).toArray) rfl]; refine hK _ _ ?_; clear hK K
    refine going ?_
    refine run_op fun K hK => ?_; refine store_all (vs := encA a0 none 0) rfl (cell_A _ _ _) (by (repeat (first | with_reducible exact Upd.one | with_reducible apply Upd.next))) (by rfl) ?_; refine hK _ _ ?_; clear hK K
    refine going ?_
    refine back_cells (vs := [.agg (encA a0 none 0).toArray, .int .i64 (parseE s).2]) [[]] ⟨[], none, 0, rfl, own_nil, rfl⟩ (hr := by (intro κ hκ; simp only [resW, withV, lookT_hit, lookT_miss, Nat.reduceBEq]; exact load_all (vs := encA a0 none 0) (by (repeat (first | with_reducible exact Lies.one | with_reducible apply Lies.next))) rfl hκ))

end Go.Proofs.Ytfoppclmjmpjiaa

/- Bytes as a number, plainly. Conditions: none. -/
set_option linter.unusedSimpArgs false
set_option linter.unusedVariables false
namespace Go.Proofs.Ytfoppclmjmpjiaa
open Go Go.Ost Go.Sha

/-- Bytes as a number. -/
def numN (p : List UInt8) : Nat := p.foldl (fun n b => n * 256 + b.toNat) 0
theorem numN_snoc (p : List UInt8) (b : UInt8) : numN (p ++ [b]) = numN p * 256 + b.toNat := by unfold numN; rw [List.foldl_append]; rfl
theorem numN_next (p : List UInt8) (i : Nat) (h : i < p.length) : numN (p.take (i + 1)) = numN (p.take i) * 256 + (p.getD i 0).toNat := by
  rw [← numN_snoc, List.take_add_one, List.getD_eq_getElem?_getD, List.getElem?_eq_getElem h]; rfl
theorem numN_lt : ∀ (k : Nat) (p : List UInt8), p.length = k → numN p < 256 ^ k
  | 0, p, h => by
    obtain rfl : p = [] := List.length_eq_zero_iff.1 h
    decide
  | k + 1, p, h => by
    have hne : p ≠ [] := fun e => by rw [e] at h; cases h
    have e := (List.dropLast_concat_getLast hne).symm
    have hl : p.dropLast.length = k := by rw [List.length_dropLast]; omega
    have ih := numN_lt k p.dropLast hl
    rw [e, numN_snoc]
    have := (p.getLast hne).toNat_lt
    rw [Nat.pow_succ]
    omega
theorem or_low (x : W) (b : UInt8) : (x <<< 8) ||| BitVec.ofNat 32 b.toNat = BitVec.ofNat 32 (x.toNat * 256 + b.toNat) := by
  have hb := b.toNat_lt
  apply BitVec.eq_of_toNat_eq
  rw [BitVec.toNat_or, BitVec.toNat_shiftLeft, BitVec.toNat_ofNat, BitVec.toNat_ofNat, Nat.mod_eq_of_lt (show b.toNat < 2 ^ 32 by omega)]
  have h1 : x.toNat <<< 8 % 2 ^ 32 = (x.toNat % 2 ^ 24) <<< 8 := by
    rw [Nat.shiftLeft_eq, Nat.shiftLeft_eq]; omega
  rw [h1, ← Nat.shiftLeft_add_eq_or_of_lt (show b.toNat < 2 ^ 8 by omega), Nat.shiftLeft_eq]
  omega
theorem num_same (p : List UInt8) : BitVec.ofNat 32 (numN p) = numW p := by
  have key : ∀ (l : List UInt8) (n : Nat) (w : W), BitVec.ofNat 32 n = w → BitVec.ofNat 32 (l.foldl (fun (n : Nat) (b : UInt8) => n * 256 + b.toNat) n) = l.foldl (fun (n : W) (b : UInt8) => (n <<< 8) ||| BitVec.ofNat 32 b.toNat) w := by
    intro l
    induction l with
    | nil => intro n w h; exact h
    | cons b l ih =>
      intro n w h
      rw [List.foldl_cons, List.foldl_cons]
      refine ih _ _ ?_
      rw [or_low, ← h]
      apply BitVec.eq_of_toNat_eq
      rw [BitVec.toNat_ofNat, BitVec.toNat_ofNat, BitVec.toNat_ofNat]
      omega
  exact key p 0 0 rfl

end Go.Proofs.Ytfoppclmjmpjiaa

/- An answer's header, plainly. Conditions: as each says. -/
set_option linter.unusedSimpArgs false
set_option linter.unusedVariables false
namespace Go.Proofs.Ytfoppclmjmpjiaa
open Go Go.Ost Go.Sha

/-! ### Plainly -/

def anPar (a : An) : List Par := [(⟨nUser, a.u, true⟩ : Par), ⟨nRealm, a.r, true⟩, ⟨nNonce, a.n, true⟩, ⟨nUri, a.uri, true⟩, ⟨nQop, nAuth, false⟩, ⟨nNc, hex (bytes4 a.nc), false⟩, ⟨nCnonce, a.cn, true⟩, ⟨nResp, hex a.pf, true⟩] ++ opqP a.o ++ [⟨nAlg, nSum, false⟩]
def anOk (a : An) : Bool := sizB a.n && (sizB a.cn && decide ((a.pf.length : Int) = 32))
def anText (a : An) : List UInt8 × Int := if anOk a = false then ([], 4) else printE (anPar a)
theorem an_len (a : An) : (anPar a).length ≤ 20 := by
  unfold anPar opqP
  simp only [List.length_append, List.length_cons, List.length_nil]
  split <;> simp
theorem an_bound {a : An} (h1 : a.u.length ≤ 4000) (h2 : a.r.length ≤ 4000) (h3 : a.n.length ≤ 4000) (h4 : a.uri.length ≤ 4000) (h5 : a.cn.length ≤ 4000) (h6 : a.o.length ≤ 4000) (h7 : a.pf.length ≤ 1000) : ∀ p ∈ anPar a, p.n.length + p.v.length ≤ 5000 := by
  intro p hp
  unfold anPar opqP at hp
  simp only [List.mem_append, List.mem_cons, List.not_mem_nil, or_false] at hp
  rcases hp with ((rfl | rfl | rfl | rfl | rfl | rfl | rfl | rfl) | hp) | rfl
  · show nUser.length + a.u.length ≤ _; have : nUser.length = 8 := rfl; omega
  · show nRealm.length + a.r.length ≤ _; have : nRealm.length = 5 := rfl; omega
  · show nNonce.length + a.n.length ≤ _; have : nNonce.length = 5 := rfl; omega
  · show nUri.length + a.uri.length ≤ _; have : nUri.length = 3 := rfl; omega
  · decide
  · show nNc.length + (hex (bytes4 a.nc)).length ≤ _; rw [hex_len]; have : nNc.length = 2 := rfl; have : (bytes4 a.nc).length = 4 := rfl; omega
  · show nCnonce.length + a.cn.length ≤ _; have : nCnonce.length = 6 := rfl; omega
  · show nResp.length + (hex a.pf).length ≤ _; rw [hex_len]; have : nResp.length = 8 := rfl; omega
  · split at hp
    · cases hp
    · simp only [List.mem_cons, List.not_mem_nil, or_false] at hp
      subst hp
      show nOpaque.length + a.o.length ≤ _; have : nOpaque.length = 6 := rfl; omega
  · decide

end Go.Proofs.Ytfoppclmjmpjiaa

/- An answer's header, in digest. Conditions: as each says. -/
set_option linter.unusedSimpArgs false
set_option linter.unusedVariables false
namespace Go.Proofs.Ytfoppclmjmpjiaa
open Go Go.Ost Go.Sha

instance tpAnT : TPlaces Try.prog 67 [(0, 1), (1, 1), (2, 1), (3, 1), (4, 1), (5, 1), (6, 1), (7, 1)] := ⟨by kernel_rfl⟩
set_option maxHeartbeats 8000000 in
theorem antext_spec (a : An) (h1 : a.u.length ≤ 4000) (h2 : a.r.length ≤ 4000) (h3 : a.n.length ≤ 4000) (h4 : a.uri.length ≤ 4000) (h5 : a.cn.length ≤ 4000) (h6 : a.o.length ≤ 4000) (h7 : a.pf.length ≤ 1000)
    {P : Chunk} {pa : Option Addr} {pk : Nat} (hP : Rd 1 [P] pa a.pf.length (a.pf.map b8)) : Meets Try.prog 31 [.agg (encA a pa pk).toArray] [P]
    fun v A => v = .tuple #[.string (str (anText a).1), .int .i64 (anText a).2] ∧ A = [P] := by
  have hcl := an_len a
  have hcb := an_bound h1 h2 h3 h4 h5 h6 h7
  obtain ⟨au, ar, an, ai, ak, ao, ac, ap⟩ := a
  simp only at h1 h2 h3 h4 h5 h6 h7 hP
  have hx64 := ac.isLt
  have hct : anText ⟨au, ar, an, ai, ak, ao, ac, ap⟩ = if (sizB an && (sizB ak && decide ((ap.length : Int) = 32))) = false then ([], 4) else printE (anPar ⟨au, ar, an, ai, ak, ao, ac, ap⟩) := rfl
  have hcp : anPar ⟨au, ar, an, ai, ak, ao, ac, ap⟩ = [(⟨nUser, au, true⟩ : Par), ⟨nRealm, ar, true⟩, ⟨nNonce, an, true⟩, ⟨nUri, ai, true⟩, ⟨nQop, nAuth, false⟩, ⟨nNc, hex (bytes4 ac), false⟩, ⟨nCnonce, ak, true⟩, ⟨nResp, hex ap, true⟩] ++ opqP ao ++ [⟨nAlg, nSum, false⟩] := rfl
  rw [hct]
  refine spec_intro Try.func31 rfl (by kernel_rfl) (by rw [Try.ntmps31]; simp) fun F => ?_; rw [Try.ntmps31, Try.results31]
  refine going ?_
  refine run_op fun K hK => ?_; refine box_new fun b1 => ?_; (try simp only [Value.cells]); refine hK _ _ ?_; clear hK K
  refine going ?_
  refine code_dr [[], [0], [0, 1], [], [3], [3, 4], [], [6], [6, 7], [], [9], [9, 10], [], [], [13], [13, 14], [13, 14, 15], [], [17], [17, 18], [], [20], [13, 14, 15, 20, 21], [13, 14, 15, 20, 21, 22], [0, 1, 2, 3, 4, 5, 6, 7, 8, 9, 10, 11, 12, 13, 14, 15, 16, 17, 18, 19, 20, 21, 22, 23], [0, 1, 2, 3, 4, 5, 6, 7, 8, 9, 10, 11, 12, 13, 14, 15, 16, 17, 18, 19, 20, 21, 22, 23, 24]] [(0, false, []), (1, false, []), (2, false, []), (3, false, []), (4, false, []), (5, false, []), (6, false, []), (7, false, []), (8, false, []), (9, false, []), (10, false, []), (11, false, []), (12, false, []), (13, false, []), (14, false, []), (17, false, []), (18, false, []), (19, false, []), (20, false, []), (21, false, []), (15, true, [1, 4, 7, 10, 18, 21]), (16, false, []), (22, true, [1, 4, 7, 10, 18]), (23, false, []), (24, true, []), (25, true, [])] ?_
  refine going ?_
  refine draw_quiet (by simp only [List.getElem?_toArray, List.getElem?_cons_succ, List.getElem?_cons_zero]; rfl) fun K hK => ?_; (try simp only [gos, gob, Nat.reduceBEq, if_true, reduceIte, reduceCtorEq, Nat.reduceLT, Nat.reduceEqDiff, Nat.reduceAdd, Nat.reduceSub, Int.reduceLT, Int.reduceLE, Int.reduceBEq, Int.reduceBNe, Int.reduceToNat, Int.reduceAdd, Int.reduceSub, Int.reduceMul, Int.reduceDiv, Int.reduceMod, Int.reducePow, Int.toNat_natCast, Nat.sub_zero, goq]); (try (simp (disch := omega) only [gow, gobw]; try simp only [gos, gob, Nat.reduceBEq, if_true, reduceIte, reduceCtorEq, Nat.reduceLT, Nat.reduceEqDiff, Nat.reduceAdd, Nat.reduceSub, Int.reduceLT, Int.reduceLE, Int.reduceBEq, Int.reduceBNe, Int.reduceToNat, Int.reduceAdd, Int.reduceSub, Int.reduceMul, Int.reduceDiv, Int.reduceMod, Int.reducePow, Int.toNat_natCast, Nat.sub_zero, goq])); rw [build_struct (ps := [(0, .string ⟨#[117, 115, 101, 114, 110, 97, 109, 101]⟩), (1, .string (str au)), (2, .bool true)]) (cs := (encP ⟨nUser, au, true⟩).toArray) rfl]; refine hK _ _ ?_; clear hK K
  refine going ?_
  refine draw_quiet (by simp only [List.getElem?_toArray, List.getElem?_cons_succ, List.getElem?_cons_zero]; rfl) fun K hK => ?_; (try simp only [gos, gob, Nat.reduceBEq, if_true, reduceIte, reduceCtorEq, Nat.reduceLT, Nat.reduceEqDiff, Nat.reduceAdd, Nat.reduceSub, Int.reduceLT, Int.reduceLE, Int.reduceBEq, Int.reduceBNe, Int.reduceToNat, Int.reduceAdd, Int.reduceSub, Int.reduceMul, Int.reduceDiv, Int.reduceMod, Int.reducePow, Int.toNat_natCast, Nat.sub_zero, goq]); (try (simp (disch := omega) only [gow, gobw]; try simp only [gos, gob, Nat.reduceBEq, if_true, reduceIte, reduceCtorEq, Nat.reduceLT, Nat.reduceEqDiff, Nat.reduceAdd, Nat.reduceSub, Int.reduceLT, Int.reduceLE, Int.reduceBEq, Int.reduceBNe, Int.reduceToNat, Int.reduceAdd, Int.reduceSub, Int.reduceMul, Int.reduceDiv, Int.reduceMod, Int.reducePow, Int.toNat_natCast, Nat.sub_zero, goq])); rw [build_struct (ps := [(0, .string ⟨#[114, 101, 97, 108, 109]⟩), (1, .string (str ar)), (2, .bool true)]) (cs := (encP ⟨nRealm, ar, true⟩).toArray) rfl]; refine hK _ _ ?_; clear hK K
  refine going ?_
  refine draw_quiet (by simp only [List.getElem?_toArray, List.getElem?_cons_succ, List.getElem?_cons_zero]; rfl) fun K hK => ?_; (try simp only [gos, gob, Nat.reduceBEq, if_true, reduceIte, reduceCtorEq, Nat.reduceLT, Nat.reduceEqDiff, Nat.reduceAdd, Nat.reduceSub, Int.reduceLT, Int.reduceLE, Int.reduceBEq, Int.reduceBNe, Int.reduceToNat, Int.reduceAdd, Int.reduceSub, Int.reduceMul, Int.reduceDiv, Int.reduceMod, Int.reducePow, Int.toNat_natCast, Nat.sub_zero, goq]); (try (simp (disch := omega) only [gow, gobw]; try simp only [gos, gob, Nat.reduceBEq, if_true, reduceIte, reduceCtorEq, Nat.reduceLT, Nat.reduceEqDiff, Nat.reduceAdd, Nat.reduceSub, Int.reduceLT, Int.reduceLE, Int.reduceBEq, Int.reduceBNe, Int.reduceToNat, Int.reduceAdd, Int.reduceSub, Int.reduceMul, Int.reduceDiv, Int.reduceMod, Int.reducePow, Int.toNat_natCast, Nat.sub_zero, goq])); rw [build_struct (ps := [(0, .string ⟨#[110, 111, 110, 99, 101]⟩), (1, .string (str an)), (2, .bool true)]) (cs := (encP ⟨nNonce, an, true⟩).toArray) rfl]; refine hK _ _ ?_; clear hK K
  refine going ?_
  refine draw_quiet (by simp only [List.getElem?_toArray, List.getElem?_cons_succ, List.getElem?_cons_zero]; rfl) fun K hK => ?_; (try simp only [gos, gob, Nat.reduceBEq, if_true, reduceIte, reduceCtorEq, Nat.reduceLT, Nat.reduceEqDiff, Nat.reduceAdd, Nat.reduceSub, Int.reduceLT, Int.reduceLE, Int.reduceBEq, Int.reduceBNe, Int.reduceToNat, Int.reduceAdd, Int.reduceSub, Int.reduceMul, Int.reduceDiv, Int.reduceMod, Int.reducePow, Int.toNat_natCast, Nat.sub_zero, goq]); (try (simp (disch := omega) only [gow, gobw]; try simp only [gos, gob, Nat.reduceBEq, if_true, reduceIte, reduceCtorEq, Nat.reduceLT, Nat.reduceEqDiff, Nat.reduceAdd, Nat.reduceSub, Int.reduceLT, Int.reduceLE, Int.reduceBEq, Int.reduceBNe, Int.reduceToNat, Int.reduceAdd, Int.reduceSub, Int.reduceMul, Int.reduceDiv, Int.reduceMod, Int.reducePow, Int.toNat_natCast, Nat.sub_zero, goq])); rw [build_struct (ps := [(0, .string ⟨#[117, 114, 105]⟩), (1, .string (str ai)), (2, .bool true)]) (cs := (encP ⟨nUri, ai, true⟩).toArray) rfl]; refine hK _ _ ?_; clear hK K
  refine going ?_
  refine draw_quiet (by simp only [List.getElem?_toArray, List.getElem?_cons_succ, List.getElem?_cons_zero]; rfl) fun K hK => ?_; (try simp only [gos, gob, Nat.reduceBEq, if_true, reduceIte, reduceCtorEq, Nat.reduceLT, Nat.reduceEqDiff, Nat.reduceAdd, Nat.reduceSub, Int.reduceLT, Int.reduceLE, Int.reduceBEq, Int.reduceBNe, Int.reduceToNat, Int.reduceAdd, Int.reduceSub, Int.reduceMul, Int.reduceDiv, Int.reduceMod, Int.reducePow, Int.toNat_natCast, Nat.sub_zero, goq]); (try (simp (disch := omega) only [gow, gobw]; try simp only [gos, gob, Nat.reduceBEq, if_true, reduceIte, reduceCtorEq, Nat.reduceLT, Nat.reduceEqDiff, Nat.reduceAdd, Nat.reduceSub, Int.reduceLT, Int.reduceLE, Int.reduceBEq, Int.reduceBNe, Int.reduceToNat, Int.reduceAdd, Int.reduceSub, Int.reduceMul, Int.reduceDiv, Int.reduceMod, Int.reducePow, Int.toNat_natCast, Nat.sub_zero, goq])); rw [build_struct (ps := [(0, .string ⟨#[113, 111, 112]⟩), (1, .string ⟨#[97, 117, 116, 104]⟩), (2, .bool false)]) (cs := (encP ⟨nQop, nAuth, false⟩).toArray) rfl]; refine hK _ _ ?_; clear hK K
  refine going ?_
  refine draw_quiet (by simp only [List.getElem?_toArray, List.getElem?_cons_succ, List.getElem?_cons_zero]; rfl) fun K hK => ?_; (try simp only [gos, gob, Nat.reduceBEq, if_true, reduceIte, reduceCtorEq, Nat.reduceLT, Nat.reduceEqDiff, Nat.reduceAdd, Nat.reduceSub, Int.reduceLT, Int.reduceLE, Int.reduceBEq, Int.reduceBNe, Int.reduceToNat, Int.reduceAdd, Int.reduceSub, Int.reduceMul, Int.reduceDiv, Int.reduceMod, Int.reducePow, Int.toNat_natCast, Nat.sub_zero, goq]); (try (simp (disch := omega) only [gow, gobw]; try simp only [gos, gob, Nat.reduceBEq, if_true, reduceIte, reduceCtorEq, Nat.reduceLT, Nat.reduceEqDiff, Nat.reduceAdd, Nat.reduceSub, Int.reduceLT, Int.reduceLE, Int.reduceBEq, Int.reduceBNe, Int.reduceToNat, Int.reduceAdd, Int.reduceSub, Int.reduceMul, Int.reduceDiv, Int.reduceMod, Int.reducePow, Int.toNat_natCast, Nat.sub_zero, goq])); rw [build_struct (ps := [(0, .string ⟨#[99, 110, 111, 110, 99, 101]⟩), (1, .string (str ak)), (2, .bool true)]) (cs := (encP ⟨nCnonce, ak, true⟩).toArray) rfl]; refine hK _ _ ?_; clear hK K
  refine going ?_
  refine draw_op fun K hK => ?_; refine calls_to (count_spec ac) ?_; rintro v A ⟨rfl, rfl⟩; (try simp only [List.nil_append, List.cons_append]); (repeat refine pend ?_); refine hK _ _ ?_; clear hK K
  refine going ?_
  refine draw_quiet (by simp only [List.getElem?_toArray, List.getElem?_cons_succ, List.getElem?_cons_zero]; rfl) fun K hK => ?_; (try simp only [gos, gob, Nat.reduceBEq, if_true, reduceIte, reduceCtorEq, Nat.reduceLT, Nat.reduceEqDiff, Nat.reduceAdd, Nat.reduceSub, Int.reduceLT, Int.reduceLE, Int.reduceBEq, Int.reduceBNe, Int.reduceToNat, Int.reduceAdd, Int.reduceSub, Int.reduceMul, Int.reduceDiv, Int.reduceMod, Int.reducePow, Int.toNat_natCast, Nat.sub_zero, goq]); (try (simp (disch := omega) only [gow, gobw]; try simp only [gos, gob, Nat.reduceBEq, if_true, reduceIte, reduceCtorEq, Nat.reduceLT, Nat.reduceEqDiff, Nat.reduceAdd, Nat.reduceSub, Int.reduceLT, Int.reduceLE, Int.reduceBEq, Int.reduceBNe, Int.reduceToNat, Int.reduceAdd, Int.reduceSub, Int.reduceMul, Int.reduceDiv, Int.reduceMod, Int.reducePow, Int.toNat_natCast, Nat.sub_zero, goq])); rw [build_struct (ps := [(0, .string ⟨#[110, 99]⟩), (1, .string (str (hex (bytes4 ac)))), (2, .bool false)]) (cs := (encP ⟨nNc, hex (bytes4 ac), false⟩).toArray) rfl]; refine hK _ _ ?_; clear hK K
  refine going ?_
  refine draw_op fun K hK => ?_; refine calls_to (bhex_spec P pa pk ap (by omega) hP) ?_; rintro v A ⟨rfl, rfl⟩; (try simp only [List.nil_append, List.cons_append]); (repeat refine pend ?_); refine hK _ _ ?_; clear hK K
  refine going ?_
  refine draw_quiet (by simp only [List.getElem?_toArray, List.getElem?_cons_succ, List.getElem?_cons_zero]; rfl) fun K hK => ?_; (try simp only [gos, gob, Nat.reduceBEq, if_true, reduceIte, reduceCtorEq, Nat.reduceLT, Nat.reduceEqDiff, Nat.reduceAdd, Nat.reduceSub, Int.reduceLT, Int.reduceLE, Int.reduceBEq, Int.reduceBNe, Int.reduceToNat, Int.reduceAdd, Int.reduceSub, Int.reduceMul, Int.reduceDiv, Int.reduceMod, Int.reducePow, Int.toNat_natCast, Nat.sub_zero, goq]); (try (simp (disch := omega) only [gow, gobw]; try simp only [gos, gob, Nat.reduceBEq, if_true, reduceIte, reduceCtorEq, Nat.reduceLT, Nat.reduceEqDiff, Nat.reduceAdd, Nat.reduceSub, Int.reduceLT, Int.reduceLE, Int.reduceBEq, Int.reduceBNe, Int.reduceToNat, Int.reduceAdd, Int.reduceSub, Int.reduceMul, Int.reduceDiv, Int.reduceMod, Int.reducePow, Int.toNat_natCast, Nat.sub_zero, goq])); rw [build_struct (ps := [(0, .string ⟨#[114, 101, 115, 112, 111, 110, 115, 101]⟩), (1, .string (str (hex ap))), (2, .bool true)]) (cs := (encP ⟨nResp, hex ap, true⟩).toArray) rfl]; refine hK _ _ ?_; clear hK K
  refine going ?_
  refine draw_op fun K hK => ?_; refine build_els (n := 8) (e := 43) (s := 3) (hs := inferInstance) [encP ⟨nUser, au, true⟩, encP ⟨nRealm, ar, true⟩, encP ⟨nNonce, an, true⟩, encP ⟨nUri, ai, true⟩, encP ⟨nQop, nAuth, false⟩, encP ⟨nNc, hex (bytes4 ac), false⟩, encP ⟨nCnonce, ak, true⟩, encP ⟨nResp, hex ap, true⟩] (by rfl) rfl (by decide) (by decide) (by decide) (by intro r hr; simp only [List.mem_cons, List.not_mem_nil, or_false] at hr; rcases hr with rfl | rfl | rfl | rfl | rfl | rfl | rfl | rfl <;> rfl) (fun b2 C2 ho2 => ?_); (repeat refine pend ?_); refine hK _ _ ?_; clear hK K
  have hX2 : OwnP C2 (some ⟨b2, 0, none⟩) 8 [(⟨nUser, au, true⟩ : Par), ⟨nRealm, ar, true⟩, ⟨nNonce, an, true⟩, ⟨nUri, ai, true⟩, ⟨nQop, nAuth, false⟩, ⟨nNc, hex (bytes4 ac), false⟩, ⟨nCnonce, ak, true⟩, ⟨nResp, hex ap, true⟩] := ho2
  clear ho2
  rw [show Value.slice (some ⟨b2, 0, none⟩) 8 8 = .slice (some ⟨b2, 0, none⟩) ([(⟨nUser, au, true⟩ : Par), ⟨nRealm, ar, true⟩, ⟨nNonce, an, true⟩, ⟨nUri, ai, true⟩, ⟨nQop, nAuth, false⟩, ⟨nNc, hex (bytes4 ac), false⟩, ⟨nCnonce, ak, true⟩, ⟨nResp, hex ap, true⟩] : List Par).length 8 from rfl]
  have hl0 : ([(⟨nUser, au, true⟩ : Par), ⟨nRealm, ar, true⟩, ⟨nNonce, an, true⟩, ⟨nUri, ai, true⟩, ⟨nQop, nAuth, false⟩, ⟨nNc, hex (bytes4 ac), false⟩, ⟨nCnonce, ak, true⟩, ⟨nResp, hex ap, true⟩] : List Par).length = 8 := rfl
  generalize ([(⟨nUser, au, true⟩ : Par), ⟨nRealm, ar, true⟩, ⟨nNonce, an, true⟩, ⟨nUri, ai, true⟩, ⟨nQop, nAuth, false⟩, ⟨nNc, hex (bytes4 ac), false⟩, ⟨nCnonce, ak, true⟩, ⟨nResp, hex ap, true⟩] : List Par) = l0 at *
  generalize (some ⟨b2, 0, none⟩ : Option Addr) = a2 at *
  refine going ?_
  refine run_op fun K hK => ?_; refine calls_to (sized_spec an) ?_; rintro v A ⟨rfl, rfl⟩; (try simp only [List.nil_append, List.cons_append]); refine hK _ _ ?_; clear hK K; refine going ?_
  cases hz1 : sizB an with
  | false =>
    rw [if_pos (by rfl)]
    refine going ?_
    refine back_cells (vs := [.string (str []), .int .i64 4]) [P] ⟨rfl, rfl⟩
  | true =>
    refine going ?_
    refine run_op fun K hK => ?_; refine calls_to (sized_spec ak) ?_; rintro v A ⟨rfl, rfl⟩; (try simp only [List.nil_append, List.cons_append]); refine hK _ _ ?_; clear hK K; refine going ?_
    cases hz2 : sizB ak with
    | false =>
      rw [if_pos (by rfl)]
      refine going ?_
      refine back_cells (vs := [.string (str []), .int .i64 4]) [P] ⟨rfl, rfl⟩
    | true =>
      refine going ?_
      by_cases hz3 : (ap.length : Int) = 32
      · rw [bne_eq_false_iff_eq.2 hz3, if_neg (by rw [decide_eq_true hz3]; simp)]
        refine going ?_
        refine run_op fun K hK => ?_; refine calls_to (opaque_spec hX2 (by omega) ao) ?_; rintro v A ⟨X3, a3, k3, rfl, hX3, rfl⟩; (try simp only [List.nil_append, List.cons_append]); refine hK _ _ ?_; clear hK K; refine going ?_
        have hl3 : (l0 ++ opqP ao).length ≤ 9 := by rw [List.length_append]; unfold opqP; split <;> simp <;> omega
        generalize l0 ++ opqP ao = l1 at *
        refine run_op fun K hK => ?_; rw [build_struct (ps := [(0, .string ⟨#[97, 108, 103, 111, 114, 105, 116, 104, 109]⟩), (1, (.string ⟨#[83, 72, 65, 45, 50, 53, 54]⟩)), (2, .bool false)]) (cs := (encP ⟨nAlg, nSum, false⟩).toArray) rfl]; refine hK _ _ ?_; clear hK K
        refine going ?_
        refine run_op fun K hK => ?_; refine build_el1 (e := 43) (s := 3) (hs := inferInstance) (vs := encP (⟨nAlg, nSum, false⟩ : Par)) (by rfl) (by decide) (by decide) rfl (fun b6 C6 ho6 => ?_); refine hK _ _ ?_; clear hK K
        refine run_op fun K hK => ?_; refine append_own (e := 43) (s := 3) (hs := inferInstance) (by rfl) (by decide) hX3 (.inr (by (repeat (first | with_reducible exact Pick.head _ _ | with_reducible apply Pick.tail)))) (ho6.rd (by (repeat (first | with_reducible assumption | with_reducible exact List.mem_cons_self .. | with_reducible apply List.mem_cons_of_mem)))) (cell_P _) (by simp only [maxLen]; omega) (by omega) (fun X6 a6 k6 hX6 => ?_); refine hK _ _ ?_; clear hK K
        have e1 : (l1).length + 1 = (l1 ++ [(⟨nAlg, nSum, false⟩ : Par)]).length := by simp
        have e2 : (l1).flatMap encP ++ encP (⟨nAlg, nSum, false⟩ : Par) = (l1 ++ [(⟨nAlg, nSum, false⟩ : Par)]).flatMap encP := by simp
        rw [e1, e2] at hX6
        rw [e1]
        clear e1 e2
        rw [← hcp] at hX6 ⊢
        refine run_op fun K hK => ?_; refine calls_to (print_spec hX6 hcl hcb) ?_; rintro v A ⟨rfl, rfl⟩; (try simp only [List.nil_append, List.cons_append]); refine hK _ _ ?_; clear hK K; refine going ?_
        refine back_cells (vs := [.string (str (printE (anPar ⟨au, ar, an, ai, ak, ao, ac, ap⟩)).1), .int .i64 (printE (anPar ⟨au, ar, an, ai, ak, ao, ac, ap⟩)).2]) [P] ⟨rfl, rfl⟩
      · rw [bne_iff_ne.2 hz3, if_pos (by rw [decide_eq_false hz3]; rfl)]
        refine going ?_
        refine back_cells (vs := [.string (str []), .int .i64 4]) [P] ⟨rfl, rfl⟩

end Go.Proofs.Ytfoppclmjmpjiaa
