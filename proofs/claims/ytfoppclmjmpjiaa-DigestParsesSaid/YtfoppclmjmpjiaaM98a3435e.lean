/- Texts in a row: the walk's rules and contracts, as each says. Conditions: as each says. -/
import Derived.Test.YtfoppclmjmpjiaaM07fc157c
import Derived.Test.YtfoppclmjmpjiaaM8f6a7144
import Derived.Test.YtfoppclmjmpjiaaM1bd2b66d
import Derived.Test.YtfoppclmjmpjiaaM9d5662c1
import Derived.Test.YtfoppclmjmpjiaaM97ab6f2e
/- A challenge's header, in digest. Conditions: as each says. -/
set_option linter.unusedSimpArgs false
set_option linter.unusedVariables false
namespace Go.Proofs.Ytfoppclmjmpjiaa
open Go Go.Ost

instance tpChal : TPlaces Try.prog 58 [(0, 1), (1, 1), (2, 1), (3, 1)] := ⟨by kernel_rfl⟩
theorem ch_len (c : Ch) : (chPar c).length ≤ 20 := by
  unfold chPar opqP staP
  simp only [List.length_append, List.length_cons, List.length_nil]
  split <;> split <;> simp
theorem ch_bound {c : Ch} (h1 : c.r.length ≤ 4000) (h2 : c.n.length ≤ 4000) (h3 : c.o.length ≤ 4000) : ∀ p ∈ chPar c, p.n.length + p.v.length ≤ 5000 := by
  intro p hp
  unfold chPar opqP staP at hp
  simp only [List.mem_append, List.mem_cons, List.not_mem_nil, or_false] at hp
  rcases hp with (((hp | hp) | rfl) | hp) | rfl
  · rcases hp with rfl | rfl
    · show nRealm.length + c.r.length ≤ _; have : nRealm.length = 5 := rfl; omega
    · show nNonce.length + c.n.length ≤ _; have : nNonce.length = 5 := rfl; omega
  · split at hp
    · cases hp
    · simp only [List.mem_cons, List.not_mem_nil, or_false] at hp
      subst hp
      show nOpaque.length + c.o.length ≤ _; have : nOpaque.length = 6 := rfl; omega
  · decide
  · split at hp
    · simp only [List.mem_cons, List.not_mem_nil, or_false] at hp
      subst hp; decide
    · cases hp
  · decide
theorem sized_spec (s : List UInt8) : Meets Try.prog 56 [.string (str s)] [] fun v A => v = .bool (sizB s) ∧ A = [] := by
  unfold sizB
  refine spec_intro Try.func56 rfl (by kernel_rfl) (by rw [Try.ntmps56]; simp) fun F => ?_; rw [Try.ntmps56, Try.results56]
  refine going ?_
  cases hb : (s != []) with
  | false =>
    refine going ?_
    refine back_tmp [] ?_; exact ⟨rfl, rfl⟩
  | true =>
    refine going ?_
    refine back_tmp [] ?_; exact ⟨rfl, rfl⟩
set_option maxHeartbeats 1000000 in
theorem opaque_spec {X : Chunk} {xa : Option Addr} {xc : Nat} {l : List Par} (hX : OwnP X xa xc l) (hl : l.length ≤ 100) (s : List UInt8) : Meets Try.prog 55 [.slice xa l.length xc, .string (str s)] [X]
    fun v A => ∃ X' a' k', v = .slice a' (l ++ opqP s).length k' ∧ OwnP X' a' k' (l ++ opqP s) ∧ A = [X'] := by
  unfold opqP
  refine spec_intro Try.func55 rfl (by kernel_rfl) (by rw [Try.ntmps55]; simp) fun F => ?_; rw [Try.ntmps55, Try.results55]
  refine going ?_
  by_cases hs : s = []
  · rw [if_pos hs, hs, List.append_nil]
    refine going ?_
    (try rw [beq_self_eq_true])
    (try refine going ?_)
    refine back_tmp [X] ⟨X, xa, xc, rfl, hX, rfl⟩
  · rw [if_neg hs, beq_eq_false_iff_ne.2 hs]
    refine going ?_
    refine run_op fun K hK => ?_; rw [build_struct (ps := [(0, .string ⟨#[111, 112, 97, 113, 117, 101]⟩), (1, (.string (str s))), (2, .bool true)]) (cs := (encP ⟨nOpaque, s, true⟩).toArray) rfl]; refine hK _ _ ?_; clear hK K
    refine run_op fun K hK => ?_; refine build_el1 (e := 43) (s := 3) (hs := inferInstance) (vs := encP (⟨nOpaque, s, true⟩ : Par)) (by rfl) (by decide) (by decide) rfl (fun b5 C5 ho5 => ?_); refine hK _ _ ?_; clear hK K
    refine run_op fun K hK => ?_; refine append_own (e := 43) (s := 3) (hs := inferInstance) (by rfl) (by decide) hX (.inr (by (repeat (first | with_reducible exact Pick.head _ _ | with_reducible apply Pick.tail)))) (ho5.rd (by (repeat (first | with_reducible assumption | with_reducible exact List.mem_cons_self .. | with_reducible apply List.mem_cons_of_mem)))) (cell_P _) (by simp only [maxLen]; omega) (by omega) (fun X5 a5 k5 hX5 => ?_); refine hK _ _ ?_; clear hK K
    have e1 : (l).length + 1 = (l ++ [(⟨nOpaque, s, true⟩ : Par)]).length := by simp
    have e2 : (l).flatMap encP ++ encP (⟨nOpaque, s, true⟩ : Par) = (l ++ [(⟨nOpaque, s, true⟩ : Par)]).flatMap encP := by simp
    rw [e1, e2] at hX5
    rw [e1]
    clear e1 e2
    refine going ?_
    refine back_tmp [X5] ⟨X5, a5, k5, rfl, hX5, rfl⟩

set_option maxHeartbeats 4000000 in
theorem chtext_spec (c : Ch) (h1 : c.r.length ≤ 4000) (h2 : c.n.length ≤ 4000) (h3 : c.o.length ≤ 4000) : Meets Try.prog 27 [.agg (encC c).toArray] []
    fun v A => v = .tuple #[.string (str (chText c).1), .int .i64 (chText c).2] ∧ A = [] := by
  have hcl := ch_len c
  have hcb := ch_bound h1 h2 h3
  obtain ⟨cr, cn, co, cs⟩ := c
  simp only at h1 h2 h3
  have hct : chText ⟨cr, cn, co, cs⟩ = if sizB cn = false then ([], 4) else printE (chPar ⟨cr, cn, co, cs⟩) := rfl
  have hcp : chPar ⟨cr, cn, co, cs⟩ = [⟨nRealm, cr, true⟩, ⟨nNonce, cn, true⟩] ++ opqP co ++ [⟨nAlg, nSum, false⟩] ++ staP cs ++ [⟨nQop, nAuth, true⟩] := rfl
  rw [hct]
  refine spec_intro Try.func27 rfl (by kernel_rfl) (by rw [Try.ntmps27]; simp) fun F => ?_; rw [Try.ntmps27, Try.results27]
  refine going ?_
  refine run_op fun K hK => ?_; refine box_new fun b1 => ?_; (try simp only [Value.cells]); refine hK _ _ ?_; clear hK K
  refine going ?_
  refine run_op fun K hK => ?_; rw [build_struct (ps := [(0, .string ⟨#[114, 101, 97, 108, 109]⟩), (1, (.string (str cr))), (2, .bool true)]) (cs := (encP ⟨nRealm, cr, true⟩).toArray) rfl]; refine hK _ _ ?_; clear hK K
  refine going ?_
  refine run_op fun K hK => ?_; rw [build_struct (ps := [(0, .string ⟨#[110, 111, 110, 99, 101]⟩), (1, (.string (str cn))), (2, .bool true)]) (cs := (encP ⟨nNonce, cn, true⟩).toArray) rfl]; refine hK _ _ ?_; clear hK K
  refine going ?_
  refine run_op fun K hK => ?_; refine build_els (n := 2) (e := 43) (s := 3) (hs := inferInstance) [encP ⟨nRealm, cr, true⟩, encP ⟨nNonce, cn, true⟩] (by rfl) rfl (by decide) (by decide) (by decide) (by intro r hr; simp only [List.mem_cons, List.not_mem_nil, or_false] at hr; rcases hr with rfl | rfl <;> rfl) (fun b2 C2 ho2 => ?_); refine hK _ _ ?_; clear hK K
  have hX2 : OwnP C2 (some ⟨b2, 0, none⟩) 2 [⟨nRealm, cr, true⟩, ⟨nNonce, cn, true⟩] := ho2
  clear ho2
  rw [show Value.slice (some ⟨b2, 0, none⟩) 2 2 = .slice (some ⟨b2, 0, none⟩) ([⟨nRealm, cr, true⟩, ⟨nNonce, cn, true⟩] : List Par).length 2 from rfl]
  have hl0 : ([⟨nRealm, cr, true⟩, ⟨nNonce, cn, true⟩] : List Par).length = 2 := rfl
  generalize ([⟨nRealm, cr, true⟩, ⟨nNonce, cn, true⟩] : List Par) = l0 at *
  generalize (some ⟨b2, 0, none⟩ : Option Addr) = a2 at *
  refine going ?_
  refine run_op fun K hK => ?_; refine calls_to (opaque_spec hX2 (by omega) co) ?_; rintro v A ⟨X3, a3, k3, rfl, hX3, rfl⟩; (try simp only [List.nil_append, List.cons_append]); refine hK _ _ ?_; clear hK K; refine going ?_
  have hl3 : (l0 ++ opqP co).length ≤ 3 := by rw [List.length_append]; unfold opqP; split <;> simp <;> omega
  generalize l0 ++ opqP co = l1 at *
  refine going ?_
  refine run_op fun K hK => ?_; rw [build_struct (ps := [(0, .string ⟨#[97, 108, 103, 111, 114, 105, 116, 104, 109]⟩), (1, (.string ⟨#[83, 72, 65, 45, 50, 53, 54]⟩)), (2, .bool false)]) (cs := (encP ⟨nAlg, nSum, false⟩).toArray) rfl]; refine hK _ _ ?_; clear hK K
  refine run_op fun K hK => ?_; refine build_el1 (e := 43) (s := 3) (hs := inferInstance) (vs := encP (⟨nAlg, nSum, false⟩ : Par)) (by rfl) (by decide) (by decide) rfl (fun b6 C6 ho6 => ?_); refine hK _ _ ?_; clear hK K
  refine run_op fun K hK => ?_; refine append_own (e := 43) (s := 3) (hs := inferInstance) (by rfl) (by decide) hX3 (.inr (by (repeat (first | with_reducible exact Pick.head _ _ | with_reducible apply Pick.tail)))) (ho6.rd (by (repeat (first | with_reducible assumption | with_reducible exact List.mem_cons_self .. | with_reducible apply List.mem_cons_of_mem)))) (cell_P _) (by simp only [maxLen]; omega) (by omega) (fun X6 a6 k6 hX6 => ?_); refine hK _ _ ?_; clear hK K
  have e1 : (l1).length + 1 = (l1 ++ [(⟨nAlg, nSum, false⟩ : Par)]).length := by simp
  have e2 : (l1).flatMap encP ++ encP (⟨nAlg, nSum, false⟩ : Par) = (l1 ++ [(⟨nAlg, nSum, false⟩ : Par)]).flatMap encP := by simp
  rw [e1, e2] at hX6
  rw [e1]
  clear e1 e2
  have hl6 : (l1 ++ [(⟨nAlg, nSum, false⟩ : Par)]).length ≤ 4 := by rw [List.length_append, List.length_singleton]; omega
  generalize l1 ++ [(⟨nAlg, nSum, false⟩ : Par)] = l2 at *
  refine going ?_
  refine then_mid (fun D L S => ∃ (X7 : Chunk) (a7 : Option Addr) (k7 : Nat), OwnP X7 a7 k7 (l2 ++ staP cs) ∧ D = [] ∧ L = [(4, .slice a7 (l2 ++ staP cs).length k7), (1, .pointer (some ⟨b1, 0, none⟩))] ∧ S = [X7, [(b1, .cells (encC ⟨cr, cn, co, cs⟩).toArray 58 (0, 0))], F]) ?_ ?_
  · cases cs with
    | false =>
      rw [show staP false = [] from rfl, List.append_nil]
      refine going ?_
      exact mid ⟨X6, a6, k6, hX6, rfl, rfl, rfl⟩
    | true =>
      rw [show staP true = [⟨nStale, nTrue, false⟩] from rfl]
      refine going ?_
      refine run_op fun K hK => ?_; rw [build_struct (ps := [(0, .string ⟨#[115, 116, 97, 108, 101]⟩), (1, (.string ⟨#[116, 114, 117, 101]⟩)), (2, .bool false)]) (cs := (encP ⟨nStale, nTrue, false⟩).toArray) rfl]; refine hK _ _ ?_; clear hK K
      refine run_op fun K hK => ?_; refine build_el1 (e := 43) (s := 3) (hs := inferInstance) (vs := encP (⟨nStale, nTrue, false⟩ : Par)) (by rfl) (by decide) (by decide) rfl (fun b7 C7 ho7 => ?_); refine hK _ _ ?_; clear hK K
      refine run_op fun K hK => ?_; refine append_own (e := 43) (s := 3) (hs := inferInstance) (by rfl) (by decide) hX6 (.inr (by (repeat (first | with_reducible exact Pick.head _ _ | with_reducible apply Pick.tail)))) (ho7.rd (by (repeat (first | with_reducible assumption | with_reducible exact List.mem_cons_self .. | with_reducible apply List.mem_cons_of_mem)))) (cell_P _) (by simp only [maxLen]; omega) (by omega) (fun X7 a7 k7 hX7 => ?_); refine hK _ _ ?_; clear hK K
      have e1 : (l2).length + 1 = (l2 ++ [(⟨nStale, nTrue, false⟩ : Par)]).length := by simp
      have e2 : (l2).flatMap encP ++ encP (⟨nStale, nTrue, false⟩ : Par) = (l2 ++ [(⟨nStale, nTrue, false⟩ : Par)]).flatMap encP := by simp
      rw [e1, e2] at hX7
      rw [e1]
      clear e1 e2
      refine going ?_
      exact mid ⟨X7, a7, k7, hX7, rfl, rfl, rfl⟩
  rintro D L S ⟨X7, a7, k7, hX7, rfl, rfl, rfl⟩
  have hl7 : (l2 ++ staP cs).length ≤ 5 := by rw [List.length_append]; unfold staP; split <;> simp <;> omega
  generalize l2 ++ staP cs = l3 at *
  refine going ?_
  refine run_op fun K hK => ?_; refine calls_to (sized_spec cn) ?_; rintro v A ⟨rfl, rfl⟩; (try simp only [List.nil_append, List.cons_append]); refine hK _ _ ?_; clear hK K; refine going ?_
  cases hz : sizB cn with
  | false =>
    rw [if_pos rfl]
    refine going ?_
    refine back_cells (vs := [.string (str []), .int .i64 4]) [] ⟨rfl, rfl⟩
  | true =>
    rw [if_neg (by simp)]
    refine going ?_
    refine run_op fun K hK => ?_; rw [build_struct (ps := [(0, .string ⟨#[113, 111, 112]⟩), (1, (.string ⟨#[97, 117, 116, 104]⟩)), (2, .bool true)]) (cs := (encP ⟨nQop, nAuth, true⟩).toArray) rfl]; refine hK _ _ ?_; clear hK K
    refine run_op fun K hK => ?_; refine build_el1 (e := 43) (s := 3) (hs := inferInstance) (vs := encP (⟨nQop, nAuth, true⟩ : Par)) (by rfl) (by decide) (by decide) rfl (fun b8 C8 ho8 => ?_); refine hK _ _ ?_; clear hK K
    refine run_op fun K hK => ?_; refine append_own (e := 43) (s := 3) (hs := inferInstance) (by rfl) (by decide) hX7 (.inr (by (repeat (first | with_reducible exact Pick.head _ _ | with_reducible apply Pick.tail)))) (ho8.rd (by (repeat (first | with_reducible assumption | with_reducible exact List.mem_cons_self .. | with_reducible apply List.mem_cons_of_mem)))) (cell_P _) (by simp only [maxLen]; omega) (by omega) (fun X8 a8 k8 hX8 => ?_); refine hK _ _ ?_; clear hK K
    have e1 : (l3).length + 1 = (l3 ++ [(⟨nQop, nAuth, true⟩ : Par)]).length := by simp
    have e2 : (l3).flatMap encP ++ encP (⟨nQop, nAuth, true⟩ : Par) = (l3 ++ [(⟨nQop, nAuth, true⟩ : Par)]).flatMap encP := by simp
    rw [e1, e2] at hX8
    rw [e1]
    clear e1 e2
    rw [← hcp] at hX8 ⊢
    refine run_op fun K hK => ?_; refine calls_to (print_spec hX8 hcl hcb) ?_; rintro v A ⟨rfl, rfl⟩; (try simp only [List.nil_append, List.cons_append]); refine hK _ _ ?_; clear hK K; refine going ?_
    refine back_cells (vs := [.string (str (printE (chPar ⟨cr, cn, co, cs⟩)).1), .int .i64 (printE (chPar ⟨cr, cn, co, cs⟩)).2]) [] ⟨rfl, rfl⟩

end Go.Proofs.Ytfoppclmjmpjiaa

/- Numbers' bytes and digits. Conditions: as each says. -/
set_option linter.unusedSimpArgs false
set_option linter.unusedVariables false
namespace Go.Proofs.Ytfoppclmjmpjiaa
open Go Go.Ost Go.Sha

theorem refbytes_spec (n k : Nat) (hn : n < 18446744073709551616) (hk : k ≤ 1000) : Meets Try.prog 18 [.int .u64 n, .int .i64 k] [] (New8 5 (be k n) []) := by
  refine spec_intro Try.func18 rfl (by kernel_rfl) (by rw [Try.ntmps18]; simp) fun F => ?_; rw [Try.ntmps18, Try.results18]
  refine code_seq_k fun N1 hN1 => ?_
  refine reg_to ?_; (try refine run_end ?_)
  refine hN1 _ _ _ ?_; clear hN1
  refine code_seq_k fun N2 hN2 => ?_
  refine reg_to ?_; (try refine run_end ?_)
  refine run_op fun K hK => ?_
  refine make8 (by omega) (fun b1 C1 ho1 => ?_)
  refine hK _ _ ?_; clear hK K
  (try refine run_to ?_); (try refine run_end ?_)
  refine hN2 _ _ _ ?_; clear hN2
  refine code_seq_k fun N3 hN3 => ?_
  refine code_seq_k fun N4 hN4 => ?_
  refine reg_to ?_; (try refine run_end ?_)
  refine hN4 _ _ _ ?_; clear hN4
  refine code_block ?_
  refine code_loop (fun q D L S => ∃ (i : Nat) (C : Chunk) (j : Int) (v : Nat), i ≤ k ∧ j = (k : Int) - 1 - i ∧ v = n / 256 ^ i ∧ Own8 5 C (some ⟨b1, 0, none⟩) k k (List.replicate (k - i) 0 ++ (be k n).drop (k - i)) ∧ q = k - i ∧ D = [] ∧ L = [(6, .int .i64 j), (0, .int .u64 (v : Int)), (5, .slice (some ⟨b1, 0, none⟩) k k)] ∧ S = [C, F]) ?_ ?_
  · refine ⟨_, _, _, ⟨0, C1, (k : Int) - 1, n, by omega, by omega, by simp, ?_, rfl, rfl, rfl, rfl⟩, by (repeat (first | exact True.intro | (refine And.intro ?_ ?_; (· (try simp only [evT, lookT_hit, lookT_miss, Nat.reduceBEq]); (first | done | exact rfl))))), by first | ((repeat (first | with_reducible exact Among.nil _ | with_reducible exact Pick.head _ _ | with_reducible apply Pick.tail | with_reducible apply Among.cons)); done) | ((repeat (first | exact Among.nil _ | exact Pick.head _ _ | apply Pick.tail | apply Among.cons)); done)⟩
    rw [Nat.sub_zero, List.drop_of_length_le (by rw [be_len]; omega), List.append_nil]
    exact ho1
  · rintro q D L S ⟨i, C, j, v, hi, hj, hv, ho, rfl, rfl, rfl, rfl⟩
    have hvn : v ≤ n := by rw [hv]; exact Nat.div_le_self _ _
    refine code_seq_k fun N5 hN5 => ?_
    refine code_seq_k fun N6 hN6 => ?_
    refine reg_to ?_; (try refine run_end ?_)
    refine hN6 _ _ _ ?_; clear hN6
    refine code_if (fun hc => ?_) (fun hc => ?_)
    · have hc := of_decide_eq_true hc
      refine code_skip ?_
      refine hN5 _ _ _ ?_; clear hN5
      refine code_seq_k fun N7 hN7 => ?_
      refine code_block ?_
      refine code_seq_k fun N8 hN8 => ?_
      refine reg_to ?_; (try refine run_end ?_)
      have e1 : Value.int .u8 ((v : Int) % 256) = b8 (UInt8.ofNat (n / 256 ^ i % 256)) := by
        simp only [b8, ← hv, UInt8.toNat_ofNat']; congr 1; omega
      have e2 : (⟨b1, 0 + j.toNat * 1, none⟩ : Addr) = elA (some ⟨b1, 0, none⟩) (k - 1 - i) := by
        simp only [elA, Option.getD_some, add_mk]; congr 1; omega
      refine run_op fun K hK => ?_
      rw [e1, e2]
      refine own_store8 ho (by (repeat (first | with_reducible exact Pick.head _ _ | with_reducible apply Pick.tail))) (by simp [be_len]; omega) (fun C2 ho2 => ?_)
      rw [be_back k n i (by omega)] at ho2
      refine hK _ _ ?_; clear hK K
      (try refine run_to ?_); (try refine run_end ?_)
      refine hN8 _ _ _ ?_; clear hN8
      refine reg_to ?_; (try refine run_end ?_)
      refine hN7 _ _ _ ?_; clear hN7
      refine reg_to ?_; (try refine run_end ?_)
      have hv2 : v / 256 = n / 256 ^ (i + 1) := by rw [hv, Nat.div_div_eq_div_mul, Nat.pow_succ]
      rw [show ((v : Int) / 256) = ((v / 256 : Nat) : Int) from by omega]
      exact again ⟨i + 1, C2, j - 1, v / 256, by omega, by omega, hv2, ho2, rfl, rfl, rfl, rfl⟩
    · have hc := of_decide_eq_false hc
      refine code_exit ?_; try simp only [Cont.then, Cont.block, Cont.noGoto, reduceIte, Nat.reduceEqDiff]
      refine hN3 _ _ _ ?_; clear hN3
      have e : List.replicate (k - i) 0 ++ (be k n).drop (k - i) = be k n := by rw [show k - i = 0 from by omega]; rfl
      rw [e] at ho
      refine code_seq_k fun N9 hN9 => ?_
      refine reg_to ?_; (try refine run_end ?_)
      refine hN9 _ _ _ ?_; clear hN9
      refine code_back ?_
      have e2 := be_len k n
      refine ret_tmp [C] (by (try simp only [evT, lookT_hit, lookT_miss, Nat.reduceBEq]); (first | done | exact rfl)) ⟨C, some ⟨b1, 0, none⟩, k, ?_, ?_, rfl⟩ (by first | ((repeat (first | with_reducible exact Among.nil _ | with_reducible exact Pick.head _ _ | with_reducible apply Pick.tail | with_reducible apply Among.cons)); done) | ((repeat (first | exact Among.nil _ | exact Pick.head _ _ | apply Pick.tail | apply Among.cons)); done))
      · rw [e2]
      · rw [e2]; exact ho

theorem refhex_spec (H : Chunk) (a : Option Addr) (cap : Nat) (bs : List UInt8) (hb : bs.length ≤ 1000000) (h : Rd 1 [H] a bs.length (bs.map b8)) :
    Meets Try.prog 17 [.slice a bs.length cap] [H] fun v A => v = .string (str (hex bs)) ∧ A = [H] := by
  refine spec_intro Try.func17 rfl (by kernel_rfl) (by rw [Try.ntmps17]; simp) fun F => ?_; rw [Try.ntmps17, Try.results17]
  refine code_seq_k fun N1 hN1 => ?_
  refine reg_to ?_; (try refine run_end ?_)
  refine hN1 _ _ _ ?_; clear hN1
  refine code_seq_k fun N2 hN2 => ?_
  refine reg_to ?_; (try refine run_end ?_)
  refine hN2 _ _ _ ?_; clear hN2
  refine code_seq_k fun N3 hN3 => ?_
  refine code_seq_k fun N4 hN4 => ?_
  refine reg_to ?_; (try refine run_end ?_)
  refine hN4 _ _ _ ?_; clear hN4
  refine code_block ?_
  refine code_loop (fun q D L S => ∃ i : Nat, i ≤ bs.length ∧ q = bs.length - i ∧ D = [] ∧ L = [(8, .int .i64 i), (7, .int .i64 bs.length), (6, .slice a bs.length cap), (3, .string (str (hex (bs.take i))))] ∧ S = [F, H]) ?_ ?_
  · exact ⟨_, _, _, ⟨0, by omega, rfl, rfl, rfl, rfl⟩, by (repeat (first | exact True.intro | (refine And.intro ?_ ?_; (· (try simp only [evT, lookT_hit, lookT_miss, Nat.reduceBEq]); (first | done | exact rfl))))), by first | ((repeat (first | with_reducible exact Among.nil _ | with_reducible exact Pick.head _ _ | with_reducible apply Pick.tail | with_reducible apply Among.cons)); done) | ((repeat (first | exact Among.nil _ | exact Pick.head _ _ | apply Pick.tail | apply Among.cons)); done)⟩
  · rintro q D L S ⟨i, hi, rfl, rfl, rfl, rfl⟩
    refine code_seq_k fun N5 hN5 => ?_
    refine reg_to ?_; (try refine run_end ?_)
    refine hN5 _ _ _ ?_; clear hN5
    refine code_seq_k fun N6 hN6 => ?_
    refine code_if (fun hc => ?_) (fun hc => ?_)
    · have hc := of_decide_eq_true hc
      refine code_skip ?_
      refine hN6 _ _ _ ?_; clear hN6
      refine code_seq_k fun N7 hN7 => ?_
      refine code_block ?_
      refine code_seq_k fun N8 hN8 => ?_
      refine code_reg ?_; (repeat ((with_reducible refine run_cons fun K hK => ?_); (try simp only [gos, gob, Nat.reduceBEq, if_true, reduceIte, reduceCtorEq, Nat.reduceLT, Nat.reduceEqDiff, Nat.reduceAdd, Nat.reduceSub, Int.reduceLT, Int.reduceLE, Int.reduceBEq, Int.reduceBNe, Int.reduceToNat, Int.reduceAdd, Int.reduceSub, Int.reduceMul, Int.reduceDiv, Int.reduceMod, Int.reducePow, Int.toNat_natCast, Nat.sub_zero]); (try (simp (disch := omega) only [gow, gobw, index_rd (h.next F)]; try simp only [gos, gob, Nat.reduceBEq, if_true, reduceIte, reduceCtorEq, Nat.reduceLT, Nat.reduceEqDiff, Nat.reduceAdd, Nat.reduceSub, Int.reduceLT, Int.reduceLE, Int.reduceBEq, Int.reduceBNe, Int.reduceToNat, Int.reduceAdd, Int.reduceSub, Int.reduceMul, Int.reduceDiv, Int.reduceMod, Int.reducePow, Int.toNat_natCast, Nat.sub_zero])); (first | (with_reducible refine hK _ _ ?_) | (refine rd_load8 (h.next F) (by omega) ?_; (with_reducible refine hK _ _ ?_)) | ((with_reducible apply load_box); (· (repeat (first | with_reducible exact Lies.one | with_reducible apply Lies.next))); (with_reducible refine hK _ _ ?_)) | ((with_reducible apply load_one); (· (repeat (first | with_reducible exact Lies.one | with_reducible apply Lies.next))); (· exact rfl); (with_reducible refine hK _ _ ?_))); clear hK K)); try ((with_reducible refine run_nil ?_); try simp only [Cont.then, Cont.block, Cont.noGoto, reduceIte, Nat.reduceEqDiff])
      refine hN8 _ _ _ ?_; clear hN8
      rw [show b8 (bs.getD i 0) = .int .u8 (bs.getD i 0).toNat from rfl]
      have hx := (bs.getD i 0).toNat_lt
      refine code_draw [[], [], [1], [], [3], [3, 4], [1, 2, 3, 4, 5], [], [7], [], [9], [9, 10], [7, 8, 9, 10, 11], [1, 2, 3, 4, 5, 6, 7, 8, 9, 10, 11, 12], [0, 1, 2, 3, 4, 5, 6, 7, 8, 9, 10, 11, 12, 13], [0, 1, 2, 3, 4, 5, 6, 7, 8, 9, 10, 11, 12, 13, 14]] [(0, false, []), (1, false, []), (2, false, []), (3, false, []), (4, false, []), (5, false, []), (6, false, []), (7, false, []), (8, false, []), (9, false, []), (10, false, []), (11, false, []), (12, false, []), (13, false, []), (14, false, []), (15, true, [])] (by kernel_rfl) (by kernel_rfl) ?_
      (try refine draw_to ?_); (try refine draw_end ?_)
      refine draw_quiet (by simp only [List.getElem?_toArray, List.getElem?_cons_succ, List.getElem?_cons_zero]; rfl) fun K hK => ?_; (try simp only [gos, gob, Nat.reduceBEq, if_true, reduceIte, reduceCtorEq, Nat.reduceLT, Nat.reduceEqDiff, Nat.reduceAdd, Nat.reduceSub, Int.reduceLT, Int.reduceLE, Int.reduceBEq, Int.reduceBNe, Int.reduceToNat, Int.reduceAdd, Int.reduceSub, Int.reduceMul, Int.reduceDiv, Int.reduceMod, Int.reducePow, Int.toNat_natCast, Nat.sub_zero, goq]); (try (simp (disch := omega) only [gow, gobw]; try simp only [gos, gob, Nat.reduceBEq, if_true, reduceIte, reduceCtorEq, Nat.reduceLT, Nat.reduceEqDiff, Nat.reduceAdd, Nat.reduceSub, Int.reduceLT, Int.reduceLE, Int.reduceBEq, Int.reduceBNe, Int.reduceToNat, Int.reduceAdd, Int.reduceSub, Int.reduceMul, Int.reduceDiv, Int.reduceMod, Int.reducePow, Int.toNat_natCast, Nat.sub_zero, goq]))
      rw [show Value.string ⟨#[48, 49, 50, 51, 52, 53, 54, 55, 56, 57, 97, 98, 99, 100, 101, 102]⟩ = .string (str digits) from rfl]
      rw [str_cut (by omega) (by omega) (by show _ ≤ (16 : Int); omega), show ((((bs.getD i 0).toNat : Int) / 16 + 1).toNat - (((bs.getD i 0).toNat : Int) / 16).toNat) = 1 from by omega, show (((bs.getD i 0).toNat : Int) / 16).toNat = (bs.getD i 0).toNat / 16 from by omega, dig1 _ (by omega)]
      (with_reducible refine hK _ _ ?_); clear hK K
      (try refine draw_to ?_); (try refine draw_end ?_)
      refine draw_quiet (by simp only [List.getElem?_toArray, List.getElem?_cons_succ, List.getElem?_cons_zero]; rfl) fun K hK => ?_; (try simp only [gos, gob, Nat.reduceBEq, if_true, reduceIte, reduceCtorEq, Nat.reduceLT, Nat.reduceEqDiff, Nat.reduceAdd, Nat.reduceSub, Int.reduceLT, Int.reduceLE, Int.reduceBEq, Int.reduceBNe, Int.reduceToNat, Int.reduceAdd, Int.reduceSub, Int.reduceMul, Int.reduceDiv, Int.reduceMod, Int.reducePow, Int.toNat_natCast, Nat.sub_zero, goq]); (try (simp (disch := omega) only [gow, gobw]; try simp only [gos, gob, Nat.reduceBEq, if_true, reduceIte, reduceCtorEq, Nat.reduceLT, Nat.reduceEqDiff, Nat.reduceAdd, Nat.reduceSub, Int.reduceLT, Int.reduceLE, Int.reduceBEq, Int.reduceBNe, Int.reduceToNat, Int.reduceAdd, Int.reduceSub, Int.reduceMul, Int.reduceDiv, Int.reduceMod, Int.reducePow, Int.toNat_natCast, Nat.sub_zero, goq]))
      rw [show Value.string ⟨#[48, 49, 50, 51, 52, 53, 54, 55, 56, 57, 97, 98, 99, 100, 101, 102]⟩ = .string (str digits) from rfl]
      rw [str_cut (by omega) (by omega) (by show _ ≤ (16 : Int); omega), show ((((bs.getD i 0).toNat : Int) % 16 + 1).toNat - (((bs.getD i 0).toNat : Int) % 16).toNat) = 1 from by omega, show (((bs.getD i 0).toNat : Int) % 16).toNat = (bs.getD i 0).toNat % 16 from by omega, dig1 _ (by omega)]
      (with_reducible refine hK _ _ ?_); clear hK K
      refine draw_quiet (by simp only [List.getElem?_toArray, List.getElem?_cons_succ, List.getElem?_cons_zero]; rfl) fun K hK => ?_; (try simp only [gos, gob, Nat.reduceBEq, if_true, reduceIte, reduceCtorEq, Nat.reduceLT, Nat.reduceEqDiff, Nat.reduceAdd, Nat.reduceSub, Int.reduceLT, Int.reduceLE, Int.reduceBEq, Int.reduceBNe, Int.reduceToNat, Int.reduceAdd, Int.reduceSub, Int.reduceMul, Int.reduceDiv, Int.reduceMod, Int.reducePow, Int.toNat_natCast, Nat.sub_zero, goq]); (try (simp (disch := omega) only [gow, gobw]; try simp only [gos, gob, Nat.reduceBEq, if_true, reduceIte, reduceCtorEq, Nat.reduceLT, Nat.reduceEqDiff, Nat.reduceAdd, Nat.reduceSub, Int.reduceLT, Int.reduceLE, Int.reduceBEq, Int.reduceBNe, Int.reduceToNat, Int.reduceAdd, Int.reduceSub, Int.reduceMul, Int.reduceDiv, Int.reduceMod, Int.reducePow, Int.toNat_natCast, Nat.sub_zero, goq]))
      rw [str_add (by simp)]
      (with_reducible refine hK _ _ ?_); clear hK K
      refine draw_quiet (by simp only [List.getElem?_toArray, List.getElem?_cons_succ, List.getElem?_cons_zero]; rfl) fun K hK => ?_; (try simp only [gos, gob, Nat.reduceBEq, if_true, reduceIte, reduceCtorEq, Nat.reduceLT, Nat.reduceEqDiff, Nat.reduceAdd, Nat.reduceSub, Int.reduceLT, Int.reduceLE, Int.reduceBEq, Int.reduceBNe, Int.reduceToNat, Int.reduceAdd, Int.reduceSub, Int.reduceMul, Int.reduceDiv, Int.reduceMod, Int.reducePow, Int.toNat_natCast, Nat.sub_zero, goq]); (try (simp (disch := omega) only [gow, gobw]; try simp only [gos, gob, Nat.reduceBEq, if_true, reduceIte, reduceCtorEq, Nat.reduceLT, Nat.reduceEqDiff, Nat.reduceAdd, Nat.reduceSub, Int.reduceLT, Int.reduceLE, Int.reduceBEq, Int.reduceBNe, Int.reduceToNat, Int.reduceAdd, Int.reduceSub, Int.reduceMul, Int.reduceDiv, Int.reduceMod, Int.reducePow, Int.toNat_natCast, Nat.sub_zero, goq]))
      rw [str_add (by rw [hex_len, List.length_take]; simp; omega)]
      (with_reducible refine hK _ _ ?_); clear hK K
      (try refine draw_to ?_); (try refine draw_end ?_)
      refine draw_op fun K hK => ?_; (repeat refine pend ?_); refine hK _ _ ?_; clear hK K
      (try refine draw_to ?_); (try refine draw_end ?_)
      rw [show hex (bs.take i) ++ [digits.getD ((bs.getD i 0).toNat / 16) 0, digits.getD ((bs.getD i 0).toNat % 16) 0] = hex (bs.take (i + 1)) from by rw [hex_next bs i (by omega)]; rfl]
      refine hN7 _ _ _ ?_; clear hN7
      refine reg_to ?_; (try refine run_end ?_)
      exact again ⟨i + 1, by omega, rfl, rfl, rfl, rfl⟩
    · have hc := of_decide_eq_false hc
      refine code_exit ?_; try simp only [Cont.then, Cont.block, Cont.noGoto, reduceIte, Nat.reduceEqDiff]
      refine hN3 _ _ _ ?_; clear hN3
      obtain rfl : i = bs.length := by omega
      rw [List.take_length]
      refine code_seq_k fun N9 hN9 => ?_
      refine reg_to ?_; (try refine run_end ?_)
      refine hN9 _ _ _ ?_; clear hN9
      refine code_back ?_
      refine back_tmp [H] ?_; exact ⟨rfl, rfl⟩

theorem digit_spec (s : Nat) (h : s < 16) : digits[s]? = some (digits.getD s 0) := by
  rw [List.getD_eq_getElem?_getD, List.getElem?_eq_getElem (show s < digits.length from h)]; rfl

set_option maxHeartbeats 1000000 in
theorem bhex_spec (H : Chunk) (a : Option Addr) (cap : Nat) (bs : List UInt8) (hb : bs.length ≤ 100000) (h : Rd 1 [H] a bs.length (bs.map b8)) :
    Meets Try.prog 44 [.slice a bs.length cap] [H] fun v A => v = .string (str (hex bs)) ∧ A = [H] := by
  refine spec_intro Try.func44 rfl (by kernel_rfl) (by rw [Try.ntmps44]; simp) fun F => ?_; rw [Try.ntmps44, Try.results44]
  refine going ?_
  refine run_op fun K hK => ?_; refine alloc_new fun b3 => ?_; (try simp only [Value.cells]); refine hK _ _ ?_; clear hK K
  refine going ?_
  refine code_nil ?_
  refine loop_i (fun q D L S => ∃ (i : Nat) (p a' : Option Addr) (cap' : Nat) (X : Chunk), i ≤ bs.length ∧ Bd b3 (hex (bs.take i)) p a' cap' X ∧ q = bs.length - i ∧ D = [] ∧
    L = [(8, .int .i64 i), (7, .int .i64 bs.length), (6, .slice a bs.length cap), (3, .pointer (some ⟨b3, 0, none⟩))] ∧ S = [bdB b3 p a' (hex (bs.take i)).length cap', X, F, H])
    ⟨0, none, none, 0, [], by omega, Bd.new b3, rfl, rfl, rfl, rfl⟩ ?_
  rintro q D L S ⟨i, p, a', cap', X, hi, hB, rfl, rfl, rfl, rfl⟩
  have hel := hex_len (bs.take i)
  rw [List.length_take] at hel
  refine going ?_
  refine if_d (fun hc => ?_) (fun hc => ?_)
  · have hil : i < bs.length := by omega
    have hnx := hex_next bs i hil
    have hx := (bs.getD i 0).toNat_lt
    refine going ?_
    refine run_op fun K hK => ?_
    rw [show Value.string ⟨#[48, 49, 50, 51, 52, 53, 54, 55, 56, 57, 97, 98, 99, 100, 101, 102]⟩ = .string (str digits) from rfl]
    rw [sidx (by omega) (by show _ < (16 : Int); omega), show (((bs.getD i 0).toNat / 16 : Nat) : Int).toNat = (bs.getD i 0).toNat / 16 from by omega]
    refine hK _ _ ?_; clear hK K
    refine run_op fun K hK => ?_; refine calls_to (wbyte_spec hB (by omega) (digits.getD ((bs.getD i 0).toNat / 16) 0)) ?_; rintro v A ⟨rfl, p1, a1, cap1, X1, hB1, rfl⟩; (try simp only [List.nil_append, List.cons_append]); refine hK _ _ ?_; clear hK K; refine going ?_
    refine run_op fun K hK => ?_
    rw [show Value.string ⟨#[48, 49, 50, 51, 52, 53, 54, 55, 56, 57, 97, 98, 99, 100, 101, 102]⟩ = .string (str digits) from rfl]
    rw [sidx (by omega) (by show _ < (16 : Int); omega), show (((bs.getD i 0).toNat % 16 : Nat) : Int).toNat = (bs.getD i 0).toNat % 16 from by omega]
    refine hK _ _ ?_; clear hK K
    refine run_op fun K hK => ?_; refine calls_to (wbyte_spec hB1 (by rw [List.length_append, List.length_singleton]; omega) (digits.getD ((bs.getD i 0).toNat % 16) 0)) ?_; rintro v A ⟨rfl, p2, a2, cap2, X2, hB2, rfl⟩; (try simp only [List.nil_append, List.cons_append]); refine hK _ _ ?_; clear hK K; refine going ?_
    rw [show hex (bs.take i) ++ [digits.getD ((bs.getD i 0).toNat / 16) 0] ++ [digits.getD ((bs.getD i 0).toNat % 16) 0] = hex (bs.take (i + 1)) from by rw [hnx, List.append_assoc]; rfl] at hB2 ⊢
    exact again ⟨i + 1, p2, a2, cap2, X2, by omega, hB2, rfl, rfl, rfl, rfl⟩
  · obtain rfl : i = bs.length := by omega
    rw [List.take_length] at hB hel ⊢
    refine going ?_
    refine run_op fun K hK => ?_; refine calls_to (bstring_spec hB (by omega)) ?_; rintro v A ⟨rfl, rfl⟩; (try simp only [List.nil_append, List.cons_append]); refine hK _ _ ?_; clear hK K; refine going ?_
    refine back_tmp [H] ?_; exact ⟨rfl, rfl⟩

end Go.Proofs.Ytfoppclmjmpjiaa

/- The document's examples of headers; counts; texts that are cut. Conditions: as each says. -/
set_option linter.unusedSimpArgs false
set_option linter.unusedVariables false
namespace Go.Proofs.Ytfoppclmjmpjiaa
open Go Go.Ost Go.Sha

theorem cuttext_spec (s : List UInt8) (n : Nat) : Meets Try.prog 11 [.string (str s), .int .i64 n] [] fun v A => v = .string (str (s.take n)) ∧ A = [] := by
  refine spec_intro Try.func11 rfl (by kernel_rfl) (by rw [Try.ntmps11]; simp) fun F => ?_; rw [Try.ntmps11, Try.results11]
  refine going ?_
  have e : s.take (if (n : Int) < s.length then (n : Int) else s.length).toNat = s.take n := by
    split
    · rw [show ((n : Int)).toNat = n from by omega]
    · rw [List.take_of_length_le (by omega), List.take_of_length_le (by omega)]
  rw [e]
  refine back_tmp [] ?_; exact ⟨rfl, rfl⟩

theorem count_spec (x : W) : Meets Try.prog 16 [b32 x] [] fun v A => v = .string (str (hex (bytes4 x))) ∧ A = [] := by
  refine spec_intro Try.func16 rfl (by kernel_rfl) (by rw [Try.ntmps16]; simp) fun F => ?_; rw [Try.ntmps16, Try.results16]
  refine going ?_
  refine run_op fun K hK => ?_; refine build8 ([UInt8.ofNat (x >>> 24).toNat, UInt8.ofNat (x >>> 16).toNat, UInt8.ofNat (x >>> 8).toNat, UInt8.ofNat x.toNat]) (by decide) rfl (rfl) (fun b7 C7 ho7 => ?_); refine hK _ _ ?_; clear hK K
  rw [bytes4_eq] at ho7
  have hb := bhex_spec C7 (some ⟨b7, 0, none⟩) 4 (bytes4 x) (by rw [show (bytes4 x).length = 4 from rfl]; decide) (ho7.rd (by simp))
  rw [show (bytes4 x).length = 4 from rfl] at hb
  refine going ?_
  refine run_op fun K hK => ?_; refine calls_to (hb) ?_; rintro v A ⟨rfl, rfl⟩; (try simp only [List.nil_append, List.cons_append]); refine hK _ _ ?_; clear hK K; refine going ?_
  refine back_tmp [] ?_; exact ⟨rfl, rfl⟩

/-- The document's example. -/
def aw : List UInt8 := [68, 105, 103, 101, 115, 116, 32, 114, 101, 97, 108, 109, 61, 34, 97, 34, 44, 32, 110, 111, 110, 99, 101, 61, 34, 98, 34, 44, 32, 97, 108, 103, 111, 114, 105, 116, 104, 109, 61, 83, 72, 65, 45, 50, 53, 54, 44, 32, 113, 111, 112, 61, 34, 97, 117, 116, 104, 34]
theorem aw_text : chText ⟨[97], [98], [], false⟩ = (aw, 0) := by decide +kernel
theorem aw_count : hex (bytes4 (BitVec.ofNat 32 10)) = [48, 48, 48, 48, 48, 48, 48, 97] := by decide +kernel
theorem awake_spec : Meets Try.prog 10 [] [] fun v A => v = .bool true ∧ A = [] := by
  have ht := chtext_spec ⟨[97], [98], [], false⟩ (by decide) (by decide) (by decide)
  rw [aw_text] at ht
  have hc := count_spec (BitVec.ofNat 32 10)
  rw [aw_count] at hc
  refine spec_intro Try.func10 rfl (by kernel_rfl) (by rw [Try.ntmps10]; simp) fun F => ?_; rw [Try.ntmps10, Try.results10]
  refine going ?_
  refine run_op fun K hK => ?_; rw [build_struct (ps := [(0, .string ⟨#[97]⟩), (1, .string ⟨#[98]⟩)]) (cs := (encC ⟨[97], [98], [], false⟩).toArray) rfl]; refine hK _ _ ?_; clear hK K
  refine going ?_
  refine run_op fun K hK => ?_; refine calls_to (ht) ?_; rintro v A ⟨rfl, rfl⟩; (try simp only [List.nil_append, List.cons_append]); refine hK _ _ ?_; clear hK K; refine going ?_
  (try rw [show (aw == [68, 105, 103, 101, 115, 116, 32, 114, 101, 97, 108, 109, 61, 34, 97, 34, 44, 32, 110, 111, 110, 99, 101, 61, 34, 98, 34, 44, 32, 97, 108, 103, 111, 114, 105, 116, 104, 109, 61, 83, 72, 65, 45, 50, 53, 54, 44, 32, 113, 111, 112, 61, 34, 97, 117, 116, 104, 34]) = true from rfl])
  (try refine going ?_)
  rw [show Value.int .u32 10 = b32 (BitVec.ofNat 32 10) from rfl]
  refine run_op fun K hK => ?_; refine calls_to (hc) ?_; rintro v A ⟨rfl, rfl⟩; (try simp only [List.nil_append, List.cons_append]); refine hK _ _ ?_; clear hK K; refine going ?_
  refine back_tmp [] ?_; exact ⟨by simp, rfl⟩

end Go.Proofs.Ytfoppclmjmpjiaa

/- The parameters of a list, one by one. Conditions: as each says. -/
set_option linter.unusedSimpArgs false
set_option linter.unusedVariables false
namespace Go.Proofs.Ytfoppclmjmpjiaa
open Go Go.Ost

/-- What is told of a list: its parameters, and an error behind them. -/
def seqL (l : List Par) (ok : Bool) : List (Par × Int) := l.map (fun p => (p, 0)) ++ (if ok = true then [] else [(p0, 4)])
abbrev seqE (s : List UInt8) : List (Par × Int) := seqL (listE s).1 (listE s).2
abbrev encS (x : Par × Int) : List Value := [.agg (encP x.1).toArray, .int .i64 x.2]
abbrev NextQ (q pre : List (Par × Int)) (x : Par × Int) : Prop := ∃ suf, q = pre ++ x :: suf
abbrev okay (ps : List Par) : List (Par × Int) := ps.map fun p => (p, 0)

theorem list_head {s r : List UInt8} {p : Par} (h : oneE s = some (p, r)) : ∃ l, (listE s).1 = p :: l := by
  by_cases hr : r = []
  · subst hr; exact ⟨[], by rw [list_last h]⟩
  · cases hs : (signE (spaceL r) 44).1
    · exact ⟨[], by rw [list_stop h hr hs]⟩
    · exact ⟨_, by rw [list_on h hr hs]⟩
theorem seq_cases : ∀ {l ps : List Par} {ok : Bool} {p : Par} {e : Int} {suf : List (Par × Int)}, seqL l ok = okay ps ++ (p, e) :: suf → (e = 0 ∧ ∃ suf', l = ps ++ p :: suf') ∨ (e = 4 ∧ ps = l ∧ ok = false)
  | [], [], ok, p, e, suf, h => by
    cases ok with
    | true => simp [seqL] at h
    | false => simp [seqL] at h; exact .inr ⟨by rw [← h.1.2], rfl, rfl⟩
  | [], a :: ps, ok, p, e, suf, h => by
    cases ok <;> simp [seqL] at h
  | q :: l, [], ok, p, e, suf, h => by
    simp [seqL] at h; exact .inl ⟨h.1.2.symm, l, by rw [h.1.1]; rfl⟩
  | q :: l, a :: ps, ok, p, e, suf, h => by
    have h' : (q, (0 : Int)) :: seqL l ok = (a, 0) :: (okay ps ++ (p, e) :: suf) := by simpa [seqL] using h
    rw [List.cons.injEq, Prod.mk.injEq] at h'
    rcases seq_cases h'.2 with ⟨e0, s', hs'⟩ | ⟨e4, h1, h2⟩
    · exact .inl ⟨e0, s', by rw [h'.1.1, hs']; rfl⟩
    · exact .inr ⟨e4, by rw [h'.1.1, h1], h2⟩
theorem seq_done : ∀ {l ps : List Par} {ok : Bool}, okay ps = seqL l ok → ps = l ∧ ok = true
  | [], [], ok, h => by cases ok with
    | true => exact ⟨rfl, rfl⟩
    | false => simp [seqL] at h
  | [], a :: ps, ok, h => by cases ok <;> simp [seqL] at h
  | q :: l, [], ok, h => by simp [seqL] at h
  | q :: l, a :: ps, ok, h => by
    have h' : (a, (0 : Int)) :: okay ps = (q, 0) :: seqL l ok := by simpa [seqL] using h
    rw [List.cons.injEq, Prod.mk.injEq] at h'
    obtain ⟨h1, h2⟩ := seq_done h'.2
    exact ⟨by rw [h'.1.1, h1], h2⟩
instance tpScanner : TPlaces Try.prog 101 [(0, 1)] := ⟨by kernel_rfl⟩

theorem dscan_spec (s : List UInt8) : Meets Try.prog 45 [.string (str s)] []
    fun u A => ∃ c, u = .func (.func 74) #[] #[.pointer (some ⟨c, 0, none⟩)] ∧ A = [bx c (.string (str s)) 9] := by
  refine spec_intro Try.func45 rfl (by kernel_rfl) (by rw [Try.ntmps45]; simp) fun F => ?_; rw [Try.ntmps45, Try.results45]
  refine going ?_
  refine run_op fun K hK => ?_; refine box_new fun c1 => ?_; (try simp only [Value.cells]); refine hK _ _ ?_; clear hK K
  refine going ?_
  refine back_tmp [bx c1 (.string (str s)) 9] ⟨c1, rfl, rfl⟩

set_option maxHeartbeats 2000000 in
theorem scan_iter (c : Nat) (s : List UInt8) (hs : s.length ≤ 100000) :
    IMeetsG Try.prog 74 [] [.pointer (some ⟨c, 0, none⟩)] encS [bx c (.string (str s)) 9]
      (fun T => T = []) noH noH noH (NextQ (seqE s)) (fun pre => pre = seqE s)
      (fun _ A => A = [bx c (.string (str s)) 9]) (fun _ A => A = [bx c (.string (str s)) 9]) false := by
  refine iter_introG (by kernel_rfl) fun l0 J Jx hN hT hY C hC => ?_
  refine spec_intro Try.func74 rfl (by kernel_rfl) (by rw [Try.ntmps74]; simp) fun F => ?_; rw [Try.ntmps74, Try.results74]
  refine going ?_
  refine run_op fun K hK => ?_; rw [build_struct (ps := [(0, .string (str s))]) (cs := #[.string (str s)]) rfl]; refine hK _ _ ?_; clear hK K
  refine going ?_
  refine run_op fun K hK => ?_; refine box_new fun b3 => ?_; (try simp only [Value.cells]); refine hK _ _ ?_; clear hK K
  refine going ?_
  refine loop_i (fun q D L S => ∃ (ps : List Par) (t : List UInt8) (C' : Chunk), J (okay ps) C' ∧ t.length ≤ s.length ∧ listE s = (ps ++ (listE t).1, (listE t).2) ∧ q = t.length ∧ D = [] ∧
    L = [(3, .pointer (some ⟨b3, 0, none⟩)), (0, .func (.yield l0) #[] #[]), (1, .pointer (some ⟨c, 0, none⟩))] ∧ S = [C', scB b3 t, F, bx c (.string (str s)) 9])
    ⟨[], s, C, hC, Nat.le_refl _, rfl, rfl, rfl, rfl, rfl⟩ ?_
  rintro q D L S ⟨ps, t, C', hJ, htl, hls, rfl, rfl, rfl, rfl⟩
  refine going ?_
  refine run_op fun K hK => ?_; refine calls_to (param_spec b3 t (by omega)) ?_; rintro v A ⟨p, ok, r, rfl, rfl, ho⟩; (try simp only [List.nil_append, List.cons_append]); refine hK _ _ ?_; clear hK K; refine going ?_
  refine run_op fun K hK => ?_; refine alloc_as (encP p0).toArray rfl fun b4 => ?_; refine hK _ _ ?_; clear hK K
  refine run_op fun K hK => ?_; refine store_all (vs := encP p) rfl (cell_P _) (by (repeat (first | with_reducible exact Upd.one | with_reducible apply Upd.next))) (by rfl) ?_; refine hK _ _ ?_; clear hK K
  refine going ?_
  cases ok with
  | false =>
    rw [if_neg (by simp)] at ho
    rw [list_none ho, List.append_nil] at hls
    have hnx : NextQ (seqE s) (okay ps) (p0, 4) := ⟨[], by unfold seqE; rw [hls]; rfl⟩
    refine going ?_
    refine run_op fun K hK => ?_; rw [build_struct (ps := []) (cs := (encP p0).toArray) rfl]; refine hK _ _ ?_; clear hK K
    refine run_op fun K hK => ?_
    refine yield_meetsG (hY (okay ps) (p0, 4) hnx) hJ rfl (by (repeat (first | with_reducible exact Take.nil _ | with_reducible exact Pick.head _ _ | with_reducible apply Pick.tail | with_reducible apply Take.cons))) (fun C4 H4 hJ4 hH4 => ?_) (fun C4 H4 hJ4 hH4 => ?_)
    · subst hH4
      (try simp only [List.nil_append])
      refine hK _ _ ?_; clear hK K
      refine going ?_
      refine back_none [C4, bx c (.string (str s)) 9] ⟨C4, _, rfl, .inl ⟨_, by unfold seqE; rw [hls]; rfl, hJ4, rfl⟩⟩
    · subst hH4
      (try simp only [List.nil_append])
      refine hK _ _ ?_; clear hK K
      refine going ?_
      refine back_none [C4, bx c (.string (str s)) 9] ⟨C4, _, rfl, .inr ⟨_, _, hnx, hJ4, rfl⟩⟩
  | true =>
    rw [if_pos rfl] at ho
    obtain ⟨l1, hl1⟩ := list_head ho
    have h1l := (one_len ho).2.1
    have hnx : NextQ (seqE s) (okay ps) (p, 0) := ⟨seqL l1 (listE t).2, by unfold seqE; rw [hls, hl1]; simp [seqL]⟩
    refine going ?_
    refine run_op fun K hK => ?_; refine load_all (vs := encP p) (by (repeat (first | with_reducible exact Lies.one | with_reducible apply Lies.next))) rfl ?_; refine hK _ _ ?_; clear hK K
    refine run_op fun K hK => ?_
    refine yield_meetsG (hY (okay ps) (p, 0) hnx) hJ rfl (by (repeat (first | with_reducible exact Take.nil _ | with_reducible exact Pick.head _ _ | with_reducible apply Pick.tail | with_reducible apply Take.cons))) (fun C4 H4 hJ4 hH4 => ?_) (fun C4 H4 hJ4 hH4 => ?_)
    · subst hH4
      (try simp only [List.nil_append])
      refine hK _ _ ?_; clear hK K
      have hJ5 : J (okay (ps ++ [p])) C4 := by rw [show okay (ps ++ [p]) = okay ps ++ [(p, 0)] from by simp]; exact hJ4
      refine going ?_
      cases hr : r with
      | nil =>
        subst hr
        rw [list_last ho] at hls
        (try rw [beq_self_eq_true])
        (try refine going ?_)
        refine back_none [C4, bx c (.string (str s)) 9] ⟨C4, _, rfl, .inl ⟨_, by unfold seqE; rw [hls]; simp [seqL], hJ5, rfl⟩⟩
      | cons d r2 =>
        rw [← hr]
        have hr0 : r ≠ [] := by rw [hr]; simp
        rw [beq_eq_false_iff_ne.2 hr0]
        refine going ?_
        have l2 := space_len r
        refine run_op fun K hK => ?_; refine calls_to (space_spec b3 r (by omega)) ?_; rintro v A ⟨rfl, rfl⟩; (try simp only [List.nil_append, List.cons_append]); refine hK _ _ ?_; clear hK K; refine going ?_
        (try rw [show Value.int .u8 44 = b8 44 from rfl])
        refine run_op fun K hK => ?_; refine calls_to (sign_spec b3 (spaceL r) 44 (by omega)) ?_; rintro v A ⟨rfl, rfl⟩; (try simp only [List.nil_append, List.cons_append]); refine hK _ _ ?_; clear hK K; refine going ?_
        have l3 := sign_len (spaceL r) 44
        cases h1 : (signE (spaceL r) 44).1 with
        | false =>
          rw [list_stop ho hr0 h1] at hls
          have hnx2 : NextQ (seqE s) (okay (ps ++ [p])) (p0, 4) := ⟨[], by unfold seqE; rw [hls]; rfl⟩
          refine going ?_
          refine run_op fun K hK => ?_; rw [build_struct (ps := []) (cs := (encP p0).toArray) rfl]; refine hK _ _ ?_; clear hK K
          refine run_op fun K hK => ?_
          refine yield_meetsG (hY (okay (ps ++ [p])) (p0, 4) hnx2) hJ5 rfl (by (repeat (first | with_reducible exact Take.nil _ | with_reducible exact Pick.head _ _ | with_reducible apply Pick.tail | with_reducible apply Take.cons))) (fun C5 H5 hJ6 hH5 => ?_) (fun C5 H5 hJ6 hH5 => ?_)
          · subst hH5
            (try simp only [List.nil_append])
            refine hK _ _ ?_; clear hK K
            refine going ?_
            refine back_none [C5, bx c (.string (str s)) 9] ⟨C5, _, rfl, .inl ⟨_, by unfold seqE; rw [hls]; rfl, hJ6, rfl⟩⟩
          · subst hH5
            (try simp only [List.nil_append])
            refine hK _ _ ?_; clear hK K
            refine going ?_
            refine back_none [C5, bx c (.string (str s)) 9] ⟨C5, _, rfl, .inr ⟨_, _, hnx2, hJ6, rfl⟩⟩
        | true =>
          rw [list_on ho hr0 h1] at hls
          have l4 := space_len (signE (spaceL r) 44).2
          have l5 := sign_yes_len _ _ h1
          refine going ?_
          refine run_op fun K hK => ?_; refine calls_to (space_spec b3 (signE (spaceL r) 44).2 (by omega)) ?_; rintro v A ⟨rfl, rfl⟩; (try simp only [List.nil_append, List.cons_append]); refine hK _ _ ?_; clear hK K; refine going ?_
          exact again ⟨ps ++ [p], spaceL (signE (spaceL r) 44).2, C4, hJ5, by omega, by rw [hls]; simp, rfl, rfl, rfl, rfl⟩
    · subst hH4
      (try simp only [List.nil_append])
      refine hK _ _ ?_; clear hK K
      refine going ?_
      refine back_none [C4, bx c (.string (str s)) 9] ⟨C4, _, rfl, .inr ⟨_, _, hnx, hJ4, rfl⟩⟩

end Go.Proofs.Ytfoppclmjmpjiaa

/- A list's first parameters, as the laws ask for them. Conditions: as each says. -/
set_option linter.unusedSimpArgs false
set_option linter.unusedVariables false
namespace Go.Proofs.Ytfoppclmjmpjiaa
open Go Go.Ost

def scanE (s : List UInt8) (most : Nat) : List Par × Bool := ((listE s).1.take most, !(listE s).2 && decide ((listE s).1.length < most))

set_option maxHeartbeats 2000000 in
theorem scan_spec (s : List UInt8) (hs : s.length ≤ 100000) (most : Nat) (hm : 1 ≤ most) : Meets Try.prog 19 [.string (str s), .int .i64 most] []
    fun v A => ∃ X a k, v = .tuple #[.slice a (scanE s most).1.length k, .bool (scanE s most).2] ∧ OwnR X a k (scanE s most).1 ∧ A = [X] := by
  have hall := list_len _ s (Nat.le_refl _)
  have hcl : ∀ l : List Par, l.length ≤ allLen l := fun l => by
    induction l with
    | nil => exact Nat.le_refl _
    | cons p l ih => show l.length + 1 ≤ p.n.length + p.v.length + 1 + allLen l; omega
  have hlist := hcl (listE s).1
  refine spec_intro Try.func19 rfl (by kernel_rfl) (by rw [Try.ntmps19]; simp) fun F => ?_; rw [Try.ntmps19, Try.results19]
  refine going ?_
  refine run_op fun K hK => ?_; refine box_new fun b3 => ?_; (try simp only [Value.cells]); refine hK _ _ ?_; clear hK K
  refine going ?_
  refine run_op fun K hK => ?_; refine alloc_new fun b6 => ?_; (try simp only [Value.cells]); refine hK _ _ ?_; clear hK K
  refine going ?_
  refine run_op fun K hK => ?_; refine alloc_new fun b7 => ?_; (try simp only [Value.cells]); refine hK _ _ ?_; clear hK K
  refine going ?_
  refine run_op fun K hK => ?_; refine calls_to (dscan_spec s) ?_; rintro v A ⟨cc, rfl, rfl⟩; (try simp only [List.nil_append, List.cons_append]); refine hK _ _ ?_; clear hK K; refine going ?_
  refine code_nil ?_
  refine code_rangeG (by (try simp only [evT, lookT_hit, lookT_miss, Nat.reduceBEq]); (first | done | exact rfl)) (scan_iter cc s hs) (by (repeat (first | exact Take.nil _ | with_reducible exact Pick.head _ _ | with_reducible apply Pick.tail | with_reducible apply Take.cons))) (fun pre C => ∃ (ps : List Par) (X : Chunk) (xa : Option Addr) (xc : Nat), pre = okay ps ∧ ps.length < most ∧ OwnR X xa xc ps ∧
      C = [X, bx b7 (.bool false) 4, bx b6 (.slice xa ps.length xc) 33, bx b3 (.int .i64 most) 3, F])
    (fun k pre C => k = .exit 0 ∧ ∃ (X : Chunk) (xa : Option Addr) (xc : Nat), OwnR X xa xc (scanE s most).1 ∧
      C = [X, bx b7 (.bool (scanE s most).2) 4, bx b6 (.slice xa (scanE s most).1.length xc) 33, bx b3 (.int .i64 most) 3, F]) (fun h => by cases h) (fun C hC => ⟨[], C.flatten, rfl, by simp⟩) (fun _ => rfl)
    ⟨[], [], none, 0, rfl, by simp; omega, own_nil, rfl⟩ ?_ ?_ ?_
  · rintro l F1 C H r pre x ⟨suf, hx⟩ ⟨ps, X, xa, xc, rfl, hlt, hX, rfl⟩ rfl
    obtain ⟨p, e⟩ := x
    have hsc := seq_cases hx
    (try simp only [List.nil_append, List.cons_append, List.append_nil, encS])
    (try simp only [putAll, putT, Nat.reduceLT, if_true, reduceIte, Array.toList, List.toList_toArray])
    refine going ?_
    refine run_op fun K hK => ?_; refine alloc_as (encP p0).toArray rfl fun b8 => ?_; refine hK _ _ ?_; clear hK K
    refine run_op fun K hK => ?_; refine store_all (vs := encP p) rfl (cell_P _) (by (repeat (first | with_reducible exact Upd.one | with_reducible apply Upd.next))) (by rfl) ?_; refine hK _ _ ?_; clear hK K
    refine going ?_
    refine ⟨_, .cons (.tail _ (.head _ _)) (Among.refl _), fun r' _ => ?_⟩
    refine going ?_
    rcases hsc with ⟨rfl, suf', hl⟩ | ⟨rfl, hl, hok⟩
    · have hpl : ps.length < (listE s).1.length := by rw [hl]; simp
      refine going ?_
      refine run_op fun K hK => ?_; refine load_all (vs := encP p) (by (repeat (first | with_reducible exact Lies.one | with_reducible apply Lies.next))) rfl ?_; refine hK _ _ ?_; clear hK K
      refine run_op fun K hK => ?_; refine build_el1 (e := 37) (s := 3) (hs := inferInstance) (vs := encP p) (by rfl) (by decide) (by decide) rfl (fun b1 C1 ho1 => ?_); refine hK _ _ ?_; clear hK K
      refine run_op fun K hK => ?_; refine append_own (e := 37) (s := 3) (hs := inferInstance) (by rfl) (by decide) hX (.inr (by (repeat (first | with_reducible exact Pick.head _ _ | with_reducible apply Pick.tail)))) (ho1.rd (by (repeat (first | with_reducible assumption | with_reducible exact List.mem_cons_self .. | with_reducible apply List.mem_cons_of_mem)))) (cell_P _) (by simp only [maxLen]; omega) (by omega) (fun C3 a3 cap3 ho3 => ?_); refine hK _ _ ?_; clear hK K
      have e1 : ps.length + 1 = (ps ++ [p]).length := by simp
      have e2 : ps.flatMap encP ++ encP p = (ps ++ [p]).flatMap encP := by simp
      rw [e1, e2] at ho3
      rw [e1]
      refine going ?_
      refine if_b (fun hc => ?_) (fun hc => ?_)
      · have hfin : scanE s most = (ps ++ [p], false) := by
          have hpm : (ps ++ [p]).length = most := by omega
          unfold scanE
          rw [hl]
          congr 1
          · rw [show ps ++ p :: suf' = (ps ++ [p]) ++ suf' from by simp, ← hpm, List.take_left]
          · rw [decide_eq_false (by simp at hpm ⊢; omega), Bool.and_false]
        refine going ?_
        rw [hfin]
        exact ⟨_, ⟨_, [], rfl, ⟨rfl, C3, a3, cap3, ho3, rfl⟩, rfl⟩, by (try simp only [List.append_nil]); first | ((repeat (first | with_reducible exact Among.nil _ | with_reducible exact Pick.head _ _ | with_reducible apply Pick.tail | with_reducible apply Among.cons)); done) | ((repeat (first | exact Among.nil _ | exact Pick.head _ _ | apply Pick.tail | apply Among.cons)); done)⟩
      · refine going ?_
        exact ⟨_, ⟨_, [], rfl, ⟨ps ++ [p], C3, a3, cap3, by simp, by omega, ho3, rfl⟩, rfl⟩, by (try simp only [List.append_nil]); first | ((repeat (first | with_reducible exact Among.nil _ | with_reducible exact Pick.head _ _ | with_reducible apply Pick.tail | with_reducible apply Among.cons)); done) | ((repeat (first | exact Among.nil _ | exact Pick.head _ _ | apply Pick.tail | apply Among.cons)); done)⟩
    · have hfin : scanE s most = (ps, true) := by
        unfold scanE
        rw [← hl, hok, List.take_of_length_le (by omega), decide_eq_true hlt]; rfl
      refine going ?_
      rw [hfin]
      exact ⟨_, ⟨_, [], rfl, ⟨rfl, X, xa, xc, hX, rfl⟩, rfl⟩, by (try simp only [List.append_nil]); first | ((repeat (first | with_reducible exact Among.nil _ | with_reducible exact Pick.head _ _ | with_reducible apply Pick.tail | with_reducible apply Among.cons)); done) | ((repeat (first | exact Among.nil _ | exact Pick.head _ _ | apply Pick.tail | apply Among.cons)); done)⟩
  · rintro d pre C A hd ⟨ps, X, xa, xc, rfl, hlt, hX, rfl⟩ rfl
    obtain ⟨h1, h2⟩ := seq_done hd
    have hfin : scanE s most = (ps, false) := by
      unfold scanE
      rw [← h1, h2, List.take_of_length_le (by omega)]; rfl
    rw [hfin]
    (try simp only [List.nil_append, List.cons_append])
    refine going ?_
    refine code_dr [[], [], [0], [0, 1, 2]] [(0, false, []), (1, false, []), (2, true, [1]), (3, true, [])] ?_
    refine going ?_
    (try (refine draw_op fun K hK => ?_; refine hK _ _ ?_; clear hK K))
    refine going ?_
    refine back_cells (vs := [.slice xa ps.length xc, .bool false]) [X] ⟨X, xa, xc, rfl, hX, rfl⟩
  · rintro d k pre x C A hx ⟨rfl, X, xa, xc, hX, rfl⟩ rfl
    (try simp only [List.nil_append, List.cons_append])
    refine going ?_
    refine code_dr [[], [], [0], [0, 1, 2]] [(0, false, []), (1, false, []), (2, true, [1]), (3, true, [])] ?_
    refine going ?_
    (try (refine draw_op fun K hK => ?_; refine hK _ _ ?_; clear hK K))
    refine going ?_
    refine back_cells (vs := [.slice xa (scanE s most).1.length xc, .bool (scanE s most).2]) [X] ⟨X, xa, xc, rfl, hX, rfl⟩

end Go.Proofs.Ytfoppclmjmpjiaa

/- A header read, in digest. Conditions: as each says. -/
set_option linter.unusedSimpArgs false
set_option linter.unusedVariables false
namespace Go.Proofs.Ytfoppclmjmpjiaa
open Go Go.Ost

theorem drop32_yes {t : List UInt8} (h : (signE t 32).1 = true) : t.dropWhile (fun c => c == 32) = (signE t 32).2.dropWhile (fun c => c == 32) := by
  have e := sign_fst h
  generalize (signE t 32).2 = r at *
  rw [e, List.dropWhile_cons, if_pos (beq_self_eq_true _)]
theorem drop32_no {t : List UInt8} (h : (signE t 32).1 = false) : t.dropWhile (fun c => c == 32) = t := by
  cases t with
  | nil => rfl
  | cons d r =>
    by_cases hd : d = 32
    · rw [hd, sign_yes] at h; cases h
    · rw [List.dropWhile_cons, if_neg (by simpa using hd)]
theorem all_count (l : List Par) : l.length ≤ allLen l := by
  induction l with
  | nil => exact Nat.le_refl _
  | cons p l ih => show l.length + 1 ≤ p.n.length + p.v.length + 1 + allLen l; omega
theorem parse_long {s : List UInt8} (h : 4096 < s.length) : parseE s = ([], 3) := by unfold parseE; rw [if_pos h]
theorem parse_head {s : List UInt8} (h : ¬ 4096 < s.length) (h2 : lowL (tokL s) ≠ scheme ∨ (signE (tokR s) 32).1 = false) : parseE s = ([], 4) := by unfold parseE; rw [if_neg h, if_pos h2]
theorem parse_list {s : List UInt8} (h : ¬ 4096 < s.length) (h2 : lowL (tokL s) = scheme) (h3 : (signE (tokR s) 32).1 = true) :
    parseE s = if (listE (restE s)).2 = false then ([], 4) else if cntE (listE (restE s)).1 ≠ 0 then ([], cntE (listE (restE s)).1) else ((listE (restE s)).1, 0) := by
  unfold parseE; rw [if_neg h, if_neg (by rw [not_or]; exact ⟨fun e => e h2, by rw [h3]; simp⟩)]

set_option maxHeartbeats 4000000 in
theorem parse_spec (s : List UInt8) (hs : s.length ≤ 100000) : Meets Try.prog 25 [.string (str s)] []
    fun v A => ∃ X a k, v = .tuple #[.slice a (parseE s).1.length k, .int .i64 (parseE s).2] ∧ OwnP X a k (parseE s).1 ∧ A = [X] := by
  refine spec_intro Try.func25 rfl (by kernel_rfl) (by rw [Try.ntmps25]; simp) fun F => ?_; rw [Try.ntmps25, Try.results25]
  refine code_nil ?_
  refine going ?_
  refine run_op fun K hK => ?_; refine alloc_new fun b2 => ?_; (try simp only [Value.cells]); refine hK _ _ ?_; clear hK K
  refine run_op fun K hK => ?_; refine alloc_new fun b3 => ?_; (try simp only [Value.cells]); refine hK _ _ ?_; clear hK K
  refine going ?_
  by_cases h1 : 4096 < s.length
  · rw [parse_long h1, decide_eq_true (show (4096 : Int) < s.length by omega)]
    refine going ?_
    refine back_cells (vs := [.slice none 0 0, .int .i64 3]) [[]] ⟨[], none, 0, rfl, own_nil, rfl⟩
  rw [decide_eq_false (show ¬ (4096 : Int) < s.length by omega)]
  refine going ?_
  refine run_op fun K hK => ?_; rw [build_struct (ps := [(0, .string (str s))]) (cs := #[.string (str s)]) rfl]; refine hK _ _ ?_; clear hK K
  refine going ?_
  refine run_op fun K hK => ?_; refine box_new fun b4 => ?_; (try simp only [Value.cells]); refine hK _ _ ?_; clear hK K
  refine going ?_
  have l1 := tokL_len s
  have l2 := tokR_len s
  have l3 := sign_len (tokR s) 32
  refine run_op fun K hK => ?_; refine calls_to (stoken_spec b4 s hs) ?_; rintro v A ⟨rfl, rfl⟩; (try simp only [List.nil_append, List.cons_append]); refine hK _ _ ?_; clear hK K; refine going ?_
  refine run_op fun K hK => ?_; refine calls_to (lower_spec (tokL s) (by omega)) ?_; rintro v A ⟨rfl, rfl⟩; (try simp only [List.nil_append, List.cons_append]); refine hK _ _ ?_; clear hK K; refine going ?_
  by_cases h2 : lowL (tokL s) = scheme
  · rw [bne_eq_false_iff_eq.2 (show lowL (tokL s) = [100, 105, 103, 101, 115, 116] from h2)]
    refine going ?_
    (try rw [show Value.int .u8 32 = b8 32 from rfl])
    refine run_op fun K hK => ?_; refine calls_to (sign_spec b4 (tokR s) 32 (by omega)) ?_; rintro v A ⟨rfl, rfl⟩; (try simp only [List.nil_append, List.cons_append]); refine hK _ _ ?_; clear hK K; refine going ?_
    cases h3 : (signE (tokR s) 32).1 with
    | false =>
      rw [parse_head h1 (.inr h3)]
      refine going ?_
      refine back_cells (vs := [.slice none 0 0, .int .i64 4]) [[]] ⟨[], none, 0, rfl, own_nil, rfl⟩
    | true =>
      rw [parse_list h1 h2 h3]
      have hre : restE s = (signE (tokR s) 32).2.dropWhile (fun c => c == 32) := rfl
      have hrl := rest_len s
      have hall := list_len _ (restE s) (Nat.le_refl _)
      have hcn := all_count (listE (restE s)).1
      generalize restE s = r at *
      refine going ?_
      refine loop_i (fun q D L S => ∃ t : List UInt8, t.length ≤ s.length ∧ t.dropWhile (fun c => c == 32) = r ∧ q = t.length ∧ D = [] ∧ L = [(4, .pointer (some ⟨b4, 0, none⟩)), (2, .pointer (some ⟨b2, 0, none⟩)), (3, .pointer (some ⟨b3, 0, none⟩))] ∧
        S = [scB b4 t, bx b3 (.int .i64 0) 44, bx b2 (.slice none 0 0) 42, [], F])
        ⟨(signE (tokR s) 32).2, by omega, hre.symm, rfl, rfl, rfl, rfl⟩ ?_
      rintro q D L S ⟨t, htl, htr, rfl, rfl, rfl, rfl⟩
      refine going ?_
      (try rw [show Value.int .u8 32 = b8 32 from rfl])
      refine run_op fun K hK => ?_; refine calls_to (sign_spec b4 t 32 (by omega)) ?_; rintro v A ⟨rfl, rfl⟩; (try simp only [List.nil_append, List.cons_append]); refine hK _ _ ?_; clear hK K; refine going ?_
      cases h4 : (signE t 32).1 with
      | true =>
        have l5 := sign_yes_len _ _ h4
        rw [drop32_yes h4] at htr
        refine going ?_
        exact again ⟨(signE t 32).2, by omega, htr, rfl, rfl, rfl, rfl⟩
      | false =>
        rw [drop32_no h4] at htr
        rw [sign_no _ _ h4, htr]
        clear htr htl h4 hre l1 l2 l3
        refine going ?_
        refine run_op fun K hK => ?_; refine alloc_new fun b5 => ?_; (try simp only [Value.cells]); refine hK _ _ ?_; clear hK K
        refine going ?_
        refine run_op fun K hK => ?_; refine calls_to (dscan_spec r) ?_; rintro v A ⟨cc, rfl, rfl⟩; (try simp only [List.nil_append, List.cons_append]); refine hK _ _ ?_; clear hK K; refine going ?_
        refine code_nil ?_
        refine code_rangeG (by (try simp only [evT, lookT_hit, lookT_miss, Nat.reduceBEq]); (first | done | exact rfl)) (scan_iter cc r (by omega)) (by (repeat (first | exact Take.nil _ | with_reducible exact Pick.head _ _ | with_reducible apply Pick.tail | with_reducible apply Take.cons))) (fun pre C => ∃ (ps : List Par) (X : Chunk) (xa : Option Addr) (xc : Nat), pre = okay ps ∧ OwnP X xa xc ps ∧
            C = [X, bx b5 (.slice xa ps.length xc) 42, scB b4 r, bx b3 (.int .i64 0) 44, bx b2 (.slice none 0 0) 42, [], F])
          (fun k pre C => k = .ret ∧ (listE r).2 = false ∧ C = [bx b3 (.int .i64 4) 44, bx b2 (.slice none 0 0) 42, [], F]) (fun h => by cases h) (fun C hC => ⟨[], C.flatten, rfl, by simp⟩) (fun _ => rfl)
          ⟨[], [], none, 0, rfl, own_nil, rfl⟩ ?_ ?_ ?_
        · rintro l F1 C H r' pre x ⟨suf, hx⟩ ⟨ps, X, xa, xc, rfl, hX, rfl⟩ rfl
          obtain ⟨p, e⟩ := x
          have hsc := seq_cases hx
          (try simp only [List.nil_append, List.cons_append, List.append_nil, encS])
          (try simp only [putAll, putT, Nat.reduceLT, if_true, reduceIte, Array.toList, List.toList_toArray])
          refine going ?_
          refine run_op fun K hK => ?_; refine alloc_as (encP p0).toArray rfl fun b6 => ?_; refine hK _ _ ?_; clear hK K
          refine run_op fun K hK => ?_; refine store_all (vs := encP p) rfl (cell_P _) (by (repeat (first | with_reducible exact Upd.one | with_reducible apply Upd.next))) (by rfl) ?_; refine hK _ _ ?_; clear hK K
          refine going ?_
          refine ⟨_, .cons (.tail _ (.head _ _)) (Among.refl _), fun r'' _ => ?_⟩
          refine going ?_
          rcases hsc with ⟨rfl, suf', hl⟩ | ⟨rfl, hl, hok⟩
          · have hpl : ps.length < (listE r).1.length := by rw [hl]; simp
            refine going ?_
            refine run_op fun K hK => ?_; refine load_all (vs := encP p) (by (repeat (first | with_reducible exact Lies.one | with_reducible apply Lies.next))) rfl ?_; refine hK _ _ ?_; clear hK K
            refine run_op fun K hK => ?_; refine build_el1 (e := 43) (s := 3) (hs := inferInstance) (vs := encP p) (by rfl) (by decide) (by decide) rfl (fun b1 C1 ho1 => ?_); refine hK _ _ ?_; clear hK K
            refine run_op fun K hK => ?_; refine append_own (e := 43) (s := 3) (hs := inferInstance) (by rfl) (by decide) hX (.inr (by (repeat (first | with_reducible exact Pick.head _ _ | with_reducible apply Pick.tail)))) (ho1.rd (by (repeat (first | with_reducible assumption | with_reducible exact List.mem_cons_self .. | with_reducible apply List.mem_cons_of_mem)))) (cell_P _) (by simp only [maxLen]; omega) (by omega) (fun C3 a3 cap3 ho3 => ?_); refine hK _ _ ?_; clear hK K
            have e1 : ps.length + 1 = (ps ++ [p]).length := by simp
            have e2 : ps.flatMap encP ++ encP p = (ps ++ [p]).flatMap encP := by simp
            rw [e1, e2] at ho3
            rw [e1]
            refine going ?_
            exact ⟨_, ⟨_, [], rfl, ⟨ps ++ [p], C3, a3, cap3, by simp, ho3, rfl⟩, rfl⟩, by (try simp only [List.append_nil]); first | ((repeat (first | with_reducible exact Among.nil _ | with_reducible exact Pick.head _ _ | with_reducible apply Pick.tail | with_reducible apply Among.cons)); done) | ((repeat (first | exact Among.nil _ | exact Pick.head _ _ | apply Pick.tail | apply Among.cons)); done)⟩
          · refine going ?_
            exact ⟨_, ⟨_, [], rfl, ⟨rfl, hok, rfl⟩, rfl⟩, by (try simp only [List.append_nil]); first | ((repeat (first | with_reducible exact Among.nil _ | with_reducible exact Pick.head _ _ | with_reducible apply Pick.tail | with_reducible apply Among.cons)); done) | ((repeat (first | exact Among.nil _ | exact Pick.head _ _ | apply Pick.tail | apply Among.cons)); done)⟩
        · rintro d pre C A hd ⟨ps, X, xa, xc, rfl, hX, rfl⟩ rfl
          obtain ⟨hps, hok⟩ := seq_done hd
          rw [if_neg (by rw [hok]; simp), ← hps]
          rw [← hps] at hcn hall
          (try simp only [List.nil_append, List.cons_append])
          refine going ?_
          refine run_op fun K hK => ?_; refine calls_to (counted_spec hX (by omega)) ?_; rintro v A ⟨rfl, rfl⟩; (try simp only [List.nil_append, List.cons_append]); refine hK _ _ ?_; clear hK K; refine going ?_
          by_cases h5 : cntE ps = 0
          · rw [if_neg (by simp [h5]), h5]
            refine going ?_
            refine back_cells (vs := [.slice xa ps.length xc, .int .i64 0]) [X] ⟨X, xa, xc, rfl, hX, rfl⟩
          · rw [if_pos h5, bne_iff_ne.2 h5]
            refine going ?_
            refine back_cells (vs := [.slice none 0 0, .int .i64 (cntE ps)]) [[]] ⟨[], none, 0, rfl, own_nil, rfl⟩
        · rintro d k pre x C A hx ⟨rfl, hok, rfl⟩ rfl
          rw [if_pos hok]
          (try simp only [List.nil_append, List.cons_append])
          refine going ?_
          refine back_cells (vs := [.slice none 0 0, .int .i64 4]) [[]] ⟨[], none, 0, rfl, own_nil, rfl⟩
  · rw [bne_iff_ne.2 (show lowL (tokL s) ≠ [100, 105, 103, 101, 115, 116] from h2), parse_head h1 (.inl h2)]
    refine going ?_
    refine back_cells (vs := [.slice none 0 0, .int .i64 4]) [[]] ⟨[], none, 0, rfl, own_nil, rfl⟩

end Go.Proofs.Ytfoppclmjmpjiaa

/- Parameters that are asked by their names. Conditions: as each says. -/
set_option linter.unusedSimpArgs false
set_option linter.unusedVariables false
namespace Go.Proofs.Ytfoppclmjmpjiaa
open Go Go.Ost

abbrev fB (b : Nat) (a : Option Addr) (n k : Nat) (f : Fl) : Chunk := [(b, .cells #[.slice a n k, .bool f.1, .bool f.2] 105 (0, 0))]
instance tpFields : TPlaces Try.prog 105 [(0, 1), (1, 1), (2, 1)] := ⟨by kernel_rfl⟩

theorem find_at {l : List Par} {n : List UInt8} {i : Nat} (h : i < l.length) (hno : ((l.take i).find? fun p => p.n == n) = none) (hf : ((l.getD i p0).n == n) = true) : hasB l n = true ∧ gotP l n = l.getD i p0 := by
  have e : l = l.take i ++ l.getD i p0 :: l.drop (i + 1) := by
    have h2 : l.drop i = l.getD i p0 :: l.drop (i + 1) := by
      rw [List.drop_eq_getElem_cons h, List.getD_eq_getElem?_getD, List.getElem?_eq_getElem h]; rfl
    rw [← h2, List.take_append_drop]
  have hfi : (l.find? fun p => p.n == n) = some (l.getD i p0) := by
    generalize l.getD i p0 = x at *
    generalize l.take i = a at *
    rw [e, List.find?_append, hno, Option.none_or, List.find?_cons, hf]
  unfold hasB gotP
  rw [hfi]; exact ⟨rfl, rfl⟩
theorem find_more {l : List Par} {n : List UInt8} {i : Nat} (h : i < l.length) (hno : ((l.take i).find? fun p => p.n == n) = none) (hf : ((l.getD i p0).n == n) = false) : ((l.take (i + 1)).find? fun p => p.n == n) = none := by
  rw [List.take_add_one, List.find?_append, hno, Option.none_or, get_par l i h]
  show List.find? _ [l.getD i p0] = none
  rw [List.find?_cons, hf]; rfl
theorem find_none {l : List Par} {n : List UInt8} (h : (l.find? fun p => p.n == n) = none) : hasB l n = false ∧ gotP l n = p0 := by
  unfold hasB gotP; rw [h]; exact ⟨rfl, rfl⟩

section f
variable {X : Chunk} {xa : Option Addr} {xc : Nat} {l : List Par} {b : Nat}
set_option maxHeartbeats 1000000 in
theorem ffind_spec (hX : OwnP X xa xc l) (hl : l.length ≤ 100000) (f : Fl) (n : List UInt8) : Meets Try.prog 78 [.pointer (some ⟨b, 0, none⟩), .string (str n)] [fB b xa l.length xc f, X]
    fun v A => v = .tuple #[.agg (encP (gotP l n)).toArray, .bool (hasB l n)] ∧ A = [fB b xa l.length xc f, X] := by
  have hs := encP_len
  refine spec_intro Try.func78 rfl (by kernel_rfl) (by rw [Try.ntmps78]; simp) fun F => ?_; rw [Try.ntmps78, Try.results78]
  refine going ?_
  refine run_op fun K hK => ?_; refine alloc_as (encP p0).toArray rfl fun b4 => ?_; refine hK _ _ ?_; clear hK K
  refine going ?_
  refine loop_i (fun q D L S => ∃ i : Nat, i ≤ l.length ∧ ((l.take i).find? fun p => p.n == n) = none ∧ q = l.length - i ∧ D = [] ∧
    L = [(13, .int .i64 i), (12, .int .i64 l.length), (11, .slice xa l.length xc), (4, .pointer (some ⟨b4, 0, none⟩)), (1, .string (str n))] ∧ S = [dpB b4 p0, fB b xa l.length xc f, X, F])
    ⟨0, by omega, rfl, rfl, rfl, rfl, rfl⟩ ?_
  rintro q D L S ⟨i, hi, hno, rfl, rfl, rfl, rfl⟩
  refine going ?_
  refine if_d (fun hc => ?_) (fun hc => ?_)
  · have hil : i < l.length := by omega
    have hx := get_par l i hil
    refine going ?_
    refine run_op fun K hK => ?_; refine load_el_agg hX hs hx (by decide) (by (repeat (first | with_reducible assumption | with_reducible exact List.mem_cons_self .. | with_reducible apply List.mem_cons_of_mem))) ?_; refine hK _ _ ?_; clear hK K
    refine run_op fun K hK => ?_; refine alloc_as (encP p0).toArray rfl fun b7 => ?_; refine hK _ _ ?_; clear hK K
    refine run_op fun K hK => ?_; refine store_all (vs := encP (l.getD i p0)) rfl (cell_P _) (by (repeat (first | with_reducible exact Upd.one | with_reducible apply Upd.next))) (by rfl) ?_; refine hK _ _ ?_; clear hK K
    refine going ?_
    cases hb : ((l.getD i p0).n == n) with
    | true =>
      obtain ⟨e1, e2⟩ := find_at hil hno hb
      rw [e1, e2]
      refine going ?_
      refine run_op fun K hK => ?_; refine load_all (vs := encP (l.getD i p0)) (by (repeat (first | with_reducible exact Lies.one | with_reducible apply Lies.next))) rfl ?_; refine hK _ _ ?_; clear hK K
      refine run_op fun K hK => ?_; refine store_all (vs := encP (l.getD i p0)) rfl (cell_P _) (by (repeat (first | with_reducible exact Upd.one | with_reducible apply Upd.next))) (by rfl) ?_; refine hK _ _ ?_; clear hK K
      refine going ?_
      refine back_cells (vs := [.agg (encP (l.getD i p0)).toArray, .bool true]) [fB b xa l.length xc f, X] ⟨rfl, rfl⟩ (hr := by (intro κ hκ; simp only [resW, withV, lookT_hit, lookT_miss, Nat.reduceBEq]; exact load_all (vs := encP (l.getD i p0)) (by (repeat (first | with_reducible exact Lies.one | with_reducible apply Lies.next))) rfl hκ))
    | false =>
      refine going ?_
      exact again ⟨i + 1, by omega, find_more hil hno hb, rfl, rfl, rfl, rfl⟩
  · obtain rfl : i = l.length := by omega
    rw [List.take_length] at hno
    obtain ⟨e1, e2⟩ := find_none hno
    rw [e1, e2]
    refine going ?_
    refine run_op fun K hK => ?_; rw [build_struct (ps := []) (cs := (encP p0).toArray) rfl]; refine hK _ _ ?_; clear hK K
    refine going ?_
    refine run_op fun K hK => ?_; refine store_all (vs := encP p0) rfl (cell_P _) (by (repeat (first | with_reducible exact Upd.one | with_reducible apply Upd.next))) (by rfl) ?_; refine hK _ _ ?_; clear hK K
    refine going ?_
    refine back_cells (vs := [.agg (encP p0).toArray, .bool false]) [fB b xa l.length xc f, X] ⟨rfl, rfl⟩ (hr := by (intro κ hκ; simp only [resW, withV, lookT_hit, lookT_miss, Nat.reduceBEq]; exact load_all (vs := encP p0) (by (repeat (first | with_reducible exact Lies.one | with_reducible apply Lies.next))) rfl hκ))

set_option maxHeartbeats 1000000 in
theorem fget_spec (hX : OwnP X xa xc l) (hl : l.length ≤ 100000) (f : Fl) (n : List UInt8) (q : Bool) : Meets Try.prog 58 [.pointer (some ⟨b, 0, none⟩), .string (str n), .bool q] [fB b xa l.length xc f, X]
    fun v A => v = .string (str (gotP l n).v) ∧ A = [fB b xa l.length xc (getF l n q f), X] := by
  obtain ⟨lo, ba⟩ := f
  refine spec_intro Try.func58 rfl (by kernel_rfl) (by rw [Try.ntmps58]; simp) fun F => ?_; rw [Try.ntmps58, Try.results58]
  refine going ?_
  refine run_op fun K hK => ?_; refine calls_to (ffind_spec hX hl (lo, ba) n) ?_; rintro v A ⟨rfl, rfl⟩; (try simp only [List.nil_append, List.cons_append]); refine hK _ _ ?_; clear hK K; refine going ?_
  refine run_op fun K hK => ?_; refine alloc_as (encP p0).toArray rfl fun b7 => ?_; refine hK _ _ ?_; clear hK K
  refine run_op fun K hK => ?_; refine store_all (vs := encP (gotP l n)) rfl (cell_P _) (by (repeat (first | with_reducible exact Upd.one | with_reducible apply Upd.next))) (by rfl) ?_; refine hK _ _ ?_; clear hK K
  unfold getF
  generalize gotP l n = p
  generalize hasB l n = h
  refine going ?_
  cases lo with
  | true =>
    refine going ?_
    (try simp only [List.setIfInBounds_toArray, List.set_cons_succ, List.set_cons_zero, List.getElem_toArray, List.getElem_cons_succ, List.getElem_cons_zero])
    refine going ?_
    cases ba with
    | true =>
      refine going ?_
      (try simp only [List.setIfInBounds_toArray, List.set_cons_succ, List.set_cons_zero, List.getElem_toArray, List.getElem_cons_succ, List.getElem_cons_zero])
      refine going ?_
      refine back_tmp [fB b xa l.length xc (true, true), X] ?_; exact ⟨rfl, rfl⟩
    | false =>
      refine going ?_
      (try simp only [List.setIfInBounds_toArray, List.set_cons_succ, List.set_cons_zero, List.getElem_toArray, List.getElem_cons_succ, List.getElem_cons_zero])
      refine going ?_
      refine back_tmp [fB b xa l.length xc (true, p.q != q), X] ?_; exact ⟨rfl, rfl⟩
  | false =>
    refine going ?_
    (try simp only [List.setIfInBounds_toArray, List.set_cons_succ, List.set_cons_zero, List.getElem_toArray, List.getElem_cons_succ, List.getElem_cons_zero])
    refine going ?_
    cases ba with
    | true =>
      refine going ?_
      (try simp only [List.setIfInBounds_toArray, List.set_cons_succ, List.set_cons_zero, List.getElem_toArray, List.getElem_cons_succ, List.getElem_cons_zero])
      refine going ?_
      refine back_tmp [fB b xa l.length xc (!h, true), X] ?_; exact ⟨rfl, rfl⟩
    | false =>
      refine going ?_
      (try simp only [List.setIfInBounds_toArray, List.set_cons_succ, List.set_cons_zero, List.getElem_toArray, List.getElem_cons_succ, List.getElem_cons_zero])
      refine going ?_
      refine back_tmp [fB b xa l.length xc (!h, p.q != q), X] ?_; exact ⟨rfl, rfl⟩

theorem fine_spec (f : Fl) (ok : Bool) : Meets Try.prog 62 [.pointer (some ⟨b, 0, none⟩), .bool ok] [fB b xa l.length xc f] fun v A => v = .tuple #[] ∧ A = [fB b xa l.length xc (fineF ok f)] := by
  obtain ⟨lo, ba⟩ := f
  refine spec_intro Try.func62 rfl (by kernel_rfl) (by rw [Try.ntmps62]; simp) fun F => ?_; rw [Try.ntmps62, Try.results62]
  refine going ?_
  cases ba with
  | true =>
    refine going ?_
    (try simp only [List.setIfInBounds_toArray, List.set_cons_succ, List.set_cons_zero, List.getElem_toArray, List.getElem_cons_succ, List.getElem_cons_zero])
    refine back_none_n [fB b xa l.length xc (lo, true)] ⟨rfl, rfl⟩
  | false =>
    refine going ?_
    (try simp only [List.setIfInBounds_toArray, List.set_cons_succ, List.set_cons_zero, List.getElem_toArray, List.getElem_cons_succ, List.getElem_cons_zero])
    refine back_none_n [fB b xa l.length xc (lo, !ok)] ⟨rfl, rfl⟩

theorem fsome_spec (f : Fl) (s : List UInt8) : Meets Try.prog 59 [.pointer (some ⟨b, 0, none⟩), .string (str s)] [fB b xa l.length xc f] fun v A => v = .string (str s) ∧ A = [fB b xa l.length xc (fineF (sizB s) f)] := by
  unfold sizB
  refine spec_intro Try.func59 rfl (by kernel_rfl) (by rw [Try.ntmps59]; simp) fun F => ?_; rw [Try.ntmps59, Try.results59]
  refine going ?_
  cases hb : (s != []) with
  | false =>
    refine going ?_
    refine run_op fun K hK => ?_; refine calls_to (fine_spec f false) ?_; rintro v A ⟨rfl, rfl⟩; (try simp only [List.nil_append, List.cons_append]); refine hK _ _ ?_; clear hK K; refine going ?_
    refine back_tmp [fB b xa l.length xc (fineF false f)] ?_; exact ⟨rfl, rfl⟩
  | true =>
    refine going ?_
    refine run_op fun K hK => ?_; refine calls_to (fine_spec f (decide ((s.length : Int) ≤ 64))) ?_; rintro v A ⟨rfl, rfl⟩; (try simp only [List.nil_append, List.cons_append]); refine hK _ _ ?_; clear hK K; refine going ?_
    refine back_tmp [fB b xa l.length xc (fineF (decide ((s.length : Int) ≤ 64)) f)] ?_; exact ⟨rfl, rfl⟩

theorem fmay_spec (hX : OwnP X xa xc l) (hl : l.length ≤ 100000) (f : Fl) (n o : List UInt8) (q : Bool) : Meets Try.prog 60 [.pointer (some ⟨b, 0, none⟩), .string (str n), .bool q, .string (str o)] [fB b xa l.length xc f, X]
    fun v A => v = .string (str (if hasB l n = true then (gotP l n).v else o)) ∧ A = [fB b xa l.length xc (mayF l n q f), X] := by
  unfold mayF
  refine spec_intro Try.func60 rfl (by kernel_rfl) (by rw [Try.ntmps60]; simp) fun F => ?_; rw [Try.ntmps60, Try.results60]
  refine going ?_
  refine run_op fun K hK => ?_; refine calls_to (ffind_spec hX hl f n) ?_; rintro v A ⟨rfl, rfl⟩; (try simp only [List.nil_append, List.cons_append]); refine hK _ _ ?_; clear hK K; refine going ?_
  refine run_op fun K hK => ?_; refine alloc_as (encP p0).toArray rfl fun b7 => ?_; refine hK _ _ ?_; clear hK K
  refine run_op fun K hK => ?_; refine store_all (vs := encP (gotP l n)) rfl (cell_P _) (by (repeat (first | with_reducible exact Upd.one | with_reducible apply Upd.next))) (by rfl) ?_; refine hK _ _ ?_; clear hK K
  cases hh : hasB l n with
  | false =>
    refine going ?_
    refine back_tmp [fB b xa l.length xc f, X] ?_; exact ⟨rfl, rfl⟩
  | true =>
    refine going ?_
    refine run_op fun K hK => ?_; refine calls_to (fget_spec hX hl f n q) ?_; rintro v A ⟨rfl, rfl⟩; (try simp only [List.nil_append, List.cons_append]); refine hK _ _ ?_; clear hK K; refine going ?_
    refine back_tmp [fB b xa l.length xc (getF l n q f), X] ?_; exact ⟨rfl, rfl⟩

theorem ended_spec (f : Fl) : Meets Try.prog 63 [.pointer (some ⟨b, 0, none⟩)] [fB b xa l.length xc f] fun v A => v = .int .i64 (endF f) ∧ A = [fB b xa l.length xc f] := by
  obtain ⟨lo, ba⟩ := f
  refine spec_intro Try.func63 rfl (by kernel_rfl) (by rw [Try.ntmps63]; simp) fun F => ?_; rw [Try.ntmps63, Try.results63]
  refine going ?_
  cases lo with
  | true =>
    refine going ?_
    refine back_tmp [fB b xa l.length xc (true, ba)] ?_; exact ⟨rfl, rfl⟩
  | false =>
    refine going ?_
    cases ba with
    | true =>
      refine going ?_
      refine back_tmp [fB b xa l.length xc (false, true)] ?_; exact ⟨rfl, rfl⟩
    | false =>
      refine going ?_
      refine back_tmp [fB b xa l.length xc (false, false)] ?_; exact ⟨rfl, rfl⟩

theorem common_spec (hX : OwnP X xa xc l) (hl : l.length ≤ 100000) (hb : ∀ p ∈ l, p.v.length ≤ 100000) (f : Fl) (q : Bool) : Meets Try.prog 61 [.pointer (some ⟨b, 0, none⟩), .bool q] [fB b xa l.length xc f, X]
    fun v A => v = .tuple #[] ∧ A = [fB b xa l.length xc (comF l q f), X] := by
  have e1 : Value.string ⟨#[113, 111, 112]⟩ = .string (str nQop) := rfl
  have e2 : Value.string ⟨#[97, 108, 103, 111, 114, 105, 116, 104, 109]⟩ = .string (str nAlg) := rfl
  have e3 : Value.string ⟨#[83, 72, 65, 45, 50, 53, 54]⟩ = .string (str nSum) := rfl
  have hal : (gotP l nAlg).v.length ≤ 100000 := by
    unfold gotP
    cases hf : l.find? fun p => p.n == nAlg with
    | none => show (0 : Nat) ≤ _; omega
    | some p => exact hb p (List.mem_of_find?_eq_some hf)
  unfold comF
  refine spec_intro Try.func61 rfl (by kernel_rfl) (by rw [Try.ntmps61]; simp) fun F => ?_; rw [Try.ntmps61, Try.results61]
  refine going ?_
  (try rw [e1])
  refine run_op fun K hK => ?_; refine calls_to (fget_spec hX hl f nQop q) ?_; rintro v A ⟨rfl, rfl⟩; (try simp only [List.nil_append, List.cons_append]); refine hK _ _ ?_; clear hK K; refine going ?_
  refine run_op fun K hK => ?_; refine calls_to (fine_spec (getF l nQop q f) ((gotP l nQop).v == nAuth)) ?_; rintro v A ⟨rfl, rfl⟩; (try simp only [List.nil_append, List.cons_append]); refine hK _ _ ?_; clear hK K; refine going ?_
  (try rw [e2])
  refine run_op fun K hK => ?_; refine calls_to (fget_spec hX hl _ nAlg false) ?_; rintro v A ⟨rfl, rfl⟩; (try simp only [List.nil_append, List.cons_append]); refine hK _ _ ?_; clear hK K; refine going ?_
  refine run_op fun K hK => ?_; refine calls_to (lower_spec (gotP l nAlg).v hal) ?_; rintro v A ⟨rfl, rfl⟩; (try simp only [List.nil_append, List.cons_append]); refine hK _ _ ?_; clear hK K; refine going ?_
  (try rw [e3])
  refine run_op fun K hK => ?_; refine calls_to (lower_spec nSum (by decide)) ?_; rintro v A ⟨rfl, rfl⟩; (try simp only [List.nil_append, List.cons_append]); refine hK _ _ ?_; clear hK K; refine going ?_
  refine run_op fun K hK => ?_; refine calls_to (fine_spec _ (lowL (gotP l nAlg).v == lowL nSum)) ?_; rintro v A ⟨rfl, rfl⟩; (try simp only [List.nil_append, List.cons_append]); refine hK _ _ ?_; clear hK K; refine going ?_
  refine back_none_n [fB b xa l.length xc (comF l q f), X] ⟨rfl, rfl⟩
end f

end Go.Proofs.Ytfoppclmjmpjiaa

/- A challenge of a header, in digest. Conditions: as each says. -/
set_option linter.unusedSimpArgs false
set_option linter.unusedVariables false
namespace Go.Proofs.Ytfoppclmjmpjiaa
open Go Go.Ost

theorem all_in {l : List Par} {p : Par} (h : p ∈ l) : p.n.length + p.v.length + 1 ≤ allLen l := by
  induction l with
  | nil => cases h
  | cons a l ih =>
    show _ ≤ a.n.length + a.v.length + 1 + allLen l
    rcases List.mem_cons.1 h with rfl | h
    · omega
    · have := ih h; omega
theorem parse_bound (s : List UInt8) : (parseE s).1.length ≤ s.length ∧ ∀ p ∈ (parseE s).1, p.n.length + p.v.length ≤ s.length := by
  have h1 := list_len _ (restE s) (Nat.le_refl _)
  have h2 := rest_len s
  have h3 := all_count (listE (restE s)).1
  unfold parseE
  split
  · exact ⟨by simp, fun p hp => by cases hp⟩
  split
  · exact ⟨by simp, fun p hp => by cases hp⟩
  split
  · exact ⟨by simp, fun p hp => by cases hp⟩
  split
  · exact ⟨by simp, fun p hp => by cases hp⟩
  · refine ⟨by show (listE (restE s)).1.length ≤ _; omega, fun p hp => ?_⟩
    have := all_in (l := (listE (restE s)).1) hp
    omega
theorem cell_C (c : Ch) : ∀ v ∈ encC c, Value.cell1 v := by
  intro v hv
  simp only [encC, List.mem_cons, List.not_mem_nil, or_false] at hv
  rcases hv with rfl | rfl | rfl | rfl <;> simp [Value.cell1]

set_option maxHeartbeats 4000000 in
theorem pchal_spec (s : List UInt8) (hs : s.length ≤ 100000) : Meets Try.prog 29 [.string (str s)] []
    fun v A => v = .tuple #[.agg (encC (pcE s).1).toArray, .int .i64 (pcE s).2] ∧ A = [] := by
  obtain ⟨hpl, hpb⟩ := parse_bound s
  unfold pcE
  refine spec_intro Try.func29 rfl (by kernel_rfl) (by rw [Try.ntmps29]; simp) fun F => ?_; rw [Try.ntmps29, Try.results29]
  refine going ?_
  refine run_op fun K hK => ?_; refine alloc_as (encC c0).toArray rfl fun b2 => ?_; refine hK _ _ ?_; clear hK K
  refine going ?_
  refine run_op fun K hK => ?_; refine calls_to (parse_spec s hs) ?_; rintro v A ⟨X, xa, xk, rfl, hX, rfl⟩; (try simp only [List.nil_append, List.cons_append]); refine hK _ _ ?_; clear hK K; refine going ?_
  by_cases h0 : (parseE s).2 = 0
  · rw [h0, if_neg (by decide)]
    generalize (parseE s).1 = l at *
    have hvb : ∀ p ∈ l, p.v.length ≤ 100000 := fun p hp => by have := hpb p hp; omega
    refine going ?_
    refine run_op fun K hK => ?_; rw [build_struct (ps := [(0, .slice xa l.length xk)]) (cs := #[.slice xa l.length xk, .bool false, .bool false]) rfl]; refine hK _ _ ?_; clear hK K
    refine going ?_
    refine run_op fun K hK => ?_; refine box_new fun b6 => ?_; (try simp only [Value.cells]); refine hK _ _ ?_; clear hK K
    refine going ?_
    have hl : l.length ≤ 100000 := by omega
    refine run_op fun K hK => ?_; refine calls_to (fget_spec hX hl (false, false) nRealm true) ?_; rintro v A ⟨rfl, rfl⟩; (try simp only [List.nil_append, List.cons_append]); refine hK _ _ ?_; clear hK K; refine going ?_
    refine run_op fun K hK => ?_; refine calls_to (fget_spec hX hl _ nNonce true) ?_; rintro v A ⟨rfl, rfl⟩; (try simp only [List.nil_append, List.cons_append]); refine hK _ _ ?_; clear hK K; refine going ?_
    refine run_op fun K hK => ?_; refine calls_to (fsome_spec _ (gotP l nNonce).v) ?_; rintro v A ⟨rfl, rfl⟩; (try simp only [List.nil_append, List.cons_append]); refine hK _ _ ?_; clear hK K; refine going ?_
    refine run_op fun K hK => ?_; refine calls_to (fmay_spec hX hl _ nOpaque [] true) ?_; rintro v A ⟨rfl, rfl⟩; (try simp only [List.nil_append, List.cons_append]); refine hK _ _ ?_; clear hK K; refine going ?_
    have hop : (if hasB l nOpaque = true then (gotP l nOpaque).v else []) = (gotP l nOpaque).v := by
      split
      · rfl
      · rename_i h; rw [got_no (by simpa using h)]; rfl
    rw [hop]
    refine run_op fun K hK => ?_; rw [build_struct (ps := [(0, .string (str (gotP l nRealm).v)), (1, .string (str (gotP l nNonce).v)), (2, .string (str (gotP l nOpaque).v))]) (cs := (encC ⟨(gotP l nRealm).v, (gotP l nNonce).v, (gotP l nOpaque).v, false⟩).toArray) rfl]; refine hK _ _ ?_; clear hK K
    refine going ?_
    refine run_op fun K hK => ?_; refine alloc_as (encC c0).toArray rfl fun b7 => ?_; refine hK _ _ ?_; clear hK K
    refine run_op fun K hK => ?_; refine store_all (vs := encC ⟨(gotP l nRealm).v, (gotP l nNonce).v, (gotP l nOpaque).v, false⟩) rfl (cell_C _) (by (repeat (first | with_reducible exact Upd.one | with_reducible apply Upd.next))) (by rfl) ?_; refine hK _ _ ?_; clear hK K
    refine going ?_
    refine run_op fun K hK => ?_; refine calls_to (common_spec hX hl hvb _ true) ?_; rintro v A ⟨rfl, rfl⟩; (try simp only [List.nil_append, List.cons_append]); refine hK _ _ ?_; clear hK K; refine going ?_
    refine run_op fun K hK => ?_; refine calls_to (fmay_spec hX hl _ nStale nFalse false) ?_; rintro v A ⟨rfl, rfl⟩; (try simp only [List.nil_append, List.cons_append]); refine hK _ _ ?_; clear hK K; refine going ?_
    rw [show (if hasB l nStale = true then (gotP l nStale).v else nFalse) = staV l from rfl]
    have hpc : pcF l = fineF (staV l == nTrue || staV l == nFalse) (mayF l nStale false (comF l true (mayF l nOpaque true (fineF (sizB (gotP l nNonce).v) (getF l nNonce true (getF l nRealm true (false, false))))))) := rfl
    unfold pcL
    generalize (mayF l nStale false (comF l true (mayF l nOpaque true (fineF (sizB (gotP l nNonce).v) (getF l nNonce true (getF l nRealm true (false, false))))))) = f9 at *
    cases hst : (staV l == nTrue) with
    | true =>
      rw [show (staV l == [116, 114, 117, 101]) = true from hst]
      refine going ?_
      refine run_op fun K hK => ?_; refine calls_to (fine_spec f9 true) ?_; rintro v A ⟨rfl, rfl⟩; (try simp only [List.nil_append, List.cons_append]); refine hK _ _ ?_; clear hK K; refine going ?_
      rw [show (staV l == nTrue) = true from hst, Bool.true_or] at hpc
      rw [← hpc]
      rw [show (staV l == [116, 114, 117, 101]) = true from hst]
      refine going ?_
      (try simp only [List.setIfInBounds_toArray, List.set_cons_succ, List.set_cons_zero, List.getElem_toArray, List.getElem_cons_succ, List.getElem_cons_zero])
      refine run_op fun K hK => ?_; refine calls_to (ended_spec (pcF l)) ?_; rintro v A ⟨rfl, rfl⟩; (try simp only [List.nil_append, List.cons_append]); refine hK _ _ ?_; clear hK K; refine going ?_
      by_cases he : endF (pcF l) = 0
      · rw [he, if_neg (by decide)]
        refine going ?_
        refine run_op fun K hK => ?_; refine load_all (vs := encC ⟨(gotP l nRealm).v, (gotP l nNonce).v, (gotP l nOpaque).v, true⟩) (by (repeat (first | with_reducible exact Lies.one | with_reducible apply Lies.next))) rfl ?_; refine hK _ _ ?_; clear hK K
        refine run_op fun K hK => ?_; refine store_all (vs := encC ⟨(gotP l nRealm).v, (gotP l nNonce).v, (gotP l nOpaque).v, true⟩) rfl (cell_C _) (by (repeat (first | with_reducible exact Upd.one | with_reducible apply Upd.next))) (by rfl) ?_; refine hK _ _ ?_; clear hK K
        refine going ?_
        (try rw [show (staV l == nTrue) = true from hst])
        refine back_cells (vs := [.agg (encC ⟨(gotP l nRealm).v, (gotP l nNonce).v, (gotP l nOpaque).v, true⟩).toArray, .int .i64 0]) [] ⟨rfl, rfl⟩ (hr := by (intro κ hκ; simp only [resW, withV, lookT_hit, lookT_miss, Nat.reduceBEq]; exact load_all (vs := encC ⟨(gotP l nRealm).v, (gotP l nNonce).v, (gotP l nOpaque).v, true⟩) (by (repeat (first | with_reducible exact Lies.one | with_reducible apply Lies.next))) rfl hκ))
      · rw [if_pos he, bne_iff_ne.2 he]
        refine going ?_
        refine run_op fun K hK => ?_; rw [build_struct (ps := []) (cs := (encC c0).toArray) rfl]; refine hK _ _ ?_; clear hK K
        refine going ?_
        refine run_op fun K hK => ?_; refine store_all (vs := encC c0) rfl (cell_C _) (by (repeat (first | with_reducible exact Upd.one | with_reducible apply Upd.next))) (by rfl) ?_; refine hK _ _ ?_; clear hK K
        refine going ?_
        refine back_cells (vs := [.agg (encC c0).toArray, .int .i64 (endF (pcF l))]) [] ⟨rfl, rfl⟩ (hr := by (intro κ hκ; simp only [resW, withV, lookT_hit, lookT_miss, Nat.reduceBEq]; exact load_all (vs := encC c0) (by (repeat (first | with_reducible exact Lies.one | with_reducible apply Lies.next))) rfl hκ))
    | false =>
      rw [show (staV l == [116, 114, 117, 101]) = false from hst]
      refine going ?_
      rw [show (staV l == [102, 97, 108, 115, 101]) = (staV l == nFalse) from rfl]
      refine run_op fun K hK => ?_; refine calls_to (fine_spec f9 (staV l == nFalse)) ?_; rintro v A ⟨rfl, rfl⟩; (try simp only [List.nil_append, List.cons_append]); refine hK _ _ ?_; clear hK K; refine going ?_
      rw [show (staV l == nTrue) = false from hst, Bool.false_or] at hpc
      rw [← hpc]
      rw [show (staV l == [116, 114, 117, 101]) = false from hst]
      refine going ?_
      (try simp only [List.setIfInBounds_toArray, List.set_cons_succ, List.set_cons_zero, List.getElem_toArray, List.getElem_cons_succ, List.getElem_cons_zero])
      refine run_op fun K hK => ?_; refine calls_to (ended_spec (pcF l)) ?_; rintro v A ⟨rfl, rfl⟩; (try simp only [List.nil_append, List.cons_append]); refine hK _ _ ?_; clear hK K; refine going ?_
      by_cases he : endF (pcF l) = 0
      · rw [he, if_neg (by decide)]
        refine going ?_
        refine run_op fun K hK => ?_; refine load_all (vs := encC ⟨(gotP l nRealm).v, (gotP l nNonce).v, (gotP l nOpaque).v, false⟩) (by (repeat (first | with_reducible exact Lies.one | with_reducible apply Lies.next))) rfl ?_; refine hK _ _ ?_; clear hK K
        refine run_op fun K hK => ?_; refine store_all (vs := encC ⟨(gotP l nRealm).v, (gotP l nNonce).v, (gotP l nOpaque).v, false⟩) rfl (cell_C _) (by (repeat (first | with_reducible exact Upd.one | with_reducible apply Upd.next))) (by rfl) ?_; refine hK _ _ ?_; clear hK K
        refine going ?_
        (try rw [show (staV l == nTrue) = false from hst])
        refine back_cells (vs := [.agg (encC ⟨(gotP l nRealm).v, (gotP l nNonce).v, (gotP l nOpaque).v, false⟩).toArray, .int .i64 0]) [] ⟨rfl, rfl⟩ (hr := by (intro κ hκ; simp only [resW, withV, lookT_hit, lookT_miss, Nat.reduceBEq]; exact load_all (vs := encC ⟨(gotP l nRealm).v, (gotP l nNonce).v, (gotP l nOpaque).v, false⟩) (by (repeat (first | with_reducible exact Lies.one | with_reducible apply Lies.next))) rfl hκ))
      · rw [if_pos he, bne_iff_ne.2 he]
        refine going ?_
        refine run_op fun K hK => ?_; rw [build_struct (ps := []) (cs := (encC c0).toArray) rfl]; refine hK _ _ ?_; clear hK K
        refine going ?_
        refine run_op fun K hK => ?_; refine store_all (vs := encC c0) rfl (cell_C _) (by (repeat (first | with_reducible exact Upd.one | with_reducible apply Upd.next))) (by rfl) ?_; refine hK _ _ ?_; clear hK K
        refine going ?_
        refine back_cells (vs := [.agg (encC c0).toArray, .int .i64 (endF (pcF l))]) [] ⟨rfl, rfl⟩ (hr := by (intro κ hκ; simp only [resW, withV, lookT_hit, lookT_miss, Nat.reduceBEq]; exact load_all (vs := encC c0) (by (repeat (first | with_reducible exact Lies.one | with_reducible apply Lies.next))) rfl hκ))
  · rw [bne_iff_ne.2 h0, if_pos h0]
    refine going ?_
    refine run_op fun K hK => ?_; rw [build_struct (ps := []) (cs := (encC c0).toArray) rfl]; refine hK _ _ ?_; clear hK K
    refine going ?_
    refine run_op fun K hK => ?_; refine store_all (vs := encC c0) rfl (cell_C _) (by (repeat (first | with_reducible exact Upd.one | with_reducible apply Upd.next))) (by rfl) ?_; refine hK _ _ ?_; clear hK K
    refine going ?_
    refine back_cells (vs := [.agg (encC c0).toArray, .int .i64 (parseE s).2]) [] ⟨rfl, rfl⟩ (hr := by (intro κ hκ; simp only [resW, withV, lookT_hit, lookT_miss, Nat.reduceBEq]; exact load_all (vs := encC c0) (by (repeat (first | with_reducible exact Lies.one | with_reducible apply Lies.next))) rfl hκ))

end Go.Proofs.Ytfoppclmjmpjiaa

/- A header printed, by the document. Conditions: as each says. -/
set_option linter.unusedSimpArgs false
set_option linter.unusedVariables false
namespace Go.Proofs.Ytfoppclmjmpjiaa
open Go Go.Ost

theorem print_no (l : List Par) (i : Nat) (h : i < l.length) (hg : goodP (l.getD i p0) = false) : printE l = ([], 4) := by
  unfold printE
  rw [if_pos (by rw [all_par_cut h hg]; simp)]
theorem good_fine {p : Par} (h : fineP p = false) : goodP p = false := by unfold goodP; rw [h]; rfl
theorem good_tok {p : Par} (h : tokB p.n = false) : goodP p = false := by unfold goodP; rw [h]; simp
theorem good_low {p : Par} (h : (lowL p.n == p.n) = false) : goodP p = false := by unfold goodP; rw [h]; simp

set_option maxHeartbeats 4000000 in
theorem rprint_spec {X : Chunk} {xa : Option Addr} {xc : Nat} {l : List Par} (hX : OwnR X xa xc l) (hl : l.length ≤ 20) (hb : ∀ p ∈ l, p.n.length + p.v.length ≤ 5000) :
    Meets Try.prog 23 [.slice xa l.length xc] [X] fun v A => v = .tuple #[.string (str (printE l).1), .int .i64 (printE l).2] ∧ A = [X] := by
  have hs := encP_len
  have s7 : Value.string ⟨#[68, 105, 103, 101, 115, 116, 32]⟩ = .string (str hdr) := rfl
  have s2 : Value.string ⟨#[44, 32]⟩ = .string (str [44, 32]) := rfl
  have s1 : Value.string ⟨#[61]⟩ = .string (str [61]) := rfl
  refine spec_intro Try.func23 rfl (by kernel_rfl) (by rw [Try.ntmps23]; simp) fun F => ?_; rw [Try.ntmps23, Try.results23]
  refine going ?_
  have e0 : hdr = hdr ++ joinP (l.take 0) := by simp [joinP]
  rw [s7, show Value.string (str hdr) = .string (str (hdr ++ joinP (l.take 0))) from by rw [← e0]]
  refine loop_i (fun q D L S => ∃ i : Nat, i ≤ l.length ∧ (l.take i).all goodP = true ∧ q = l.length - i ∧ D = [] ∧
    L = [(13, .int .i64 i), (12, .int .i64 l.length), (11, .slice xa l.length xc), (4, .string (str (hdr ++ joinP (l.take i)))), (0, .slice xa l.length xc)] ∧ S = [X, F])
    ⟨0, by omega, by simp, rfl, rfl, rfl, rfl⟩ ?_
  rintro q D L S ⟨i, hi, hall, rfl, rfl, rfl, rfl⟩
  have hjl := join_len (l.take i) fun p hp => hb p (List.mem_of_mem_take hp)
  have htl : (l.take i).length ≤ 20 := by rw [List.length_take]; omega
  have hh7 : hdr.length = 7 := rfl
  have hjl2 : (joinP (l.take i)).length ≤ 240000 := Nat.le_trans hjl (by omega)
  have hol : (hdr ++ joinP (l.take i)).length ≤ 240007 := by rw [List.length_append]; omega
  clear hjl
  refine going ?_
  refine if_d (fun hc => ?_) (fun hc => ?_)
  · have hil : i < l.length := by omega
    have hx := get_par l i hil
    have hjn := join_next l i hil
    have han := all_par (f := goodP) l i hil
    have hpb := hb _ (List.mem_of_getElem? hx)
    have hvl := val_len (l.getD i p0)
    have hpn := print_no l i hil
    rw [hall, Bool.true_and] at han
    generalize l.getD i p0 = x at *
    obtain ⟨n, v, qq⟩ := x
    simp only at hpb hvl
    refine going ?_
    refine run_op fun K hK => ?_; refine load_el_agg hX hs hx (by decide) (by (repeat (first | with_reducible assumption | with_reducible exact List.mem_cons_self .. | with_reducible apply List.mem_cons_of_mem))) ?_; refine hK _ _ ?_; clear hK K
    refine run_op fun K hK => ?_; refine alloc_as (encP p0).toArray rfl fun b6 => ?_; refine hK _ _ ?_; clear hK K
    refine going ?_
    refine run_op fun K hK => ?_; refine store_all (vs := encP ⟨n, v, qq⟩) rfl (cell_P _) (by (repeat (first | with_reducible exact Upd.one | with_reducible apply Upd.next))) (by rfl) ?_; refine hK _ _ ?_; clear hK K
    refine going ?_
    refine then_mid (fun D L S => fineP ⟨n, v, qq⟩ = true ∧ D = [] ∧ L = [(7, .string (str (valP ⟨n, v, qq⟩))), (6, .pointer (some ⟨b6, 0, none⟩)), (5, .int .i64 i), (13, .int .i64 i), (12, .int .i64 l.length), (11, .slice xa l.length xc), (4, .string (str (hdr ++ joinP (l.take i)))), (0, .slice xa l.length xc)] ∧
      S = [X, rpB b6 ⟨n, v, qq⟩, F]) ?_ ?_
    · cases qq with
      | true =>
        refine going ?_
        refine run_op fun K hK => ?_; refine calls_to (rquote_spec v (by omega)) ?_; rintro v A ⟨rfl, rfl⟩; (try simp only [List.nil_append, List.cons_append]); refine hK _ _ ?_; clear hK K; refine going ?_
        cases hq : (quoE v).2 with
        | true =>
          refine going ?_
          exact mid ⟨hq, rfl, rfl, rfl⟩
        | false =>
          rw [hpn (good_fine hq)]
          refine going ?_
          refine back_cells (vs := [.string (str []), .int .i64 4]) [X] ⟨rfl, rfl⟩
      | false =>
        refine going ?_
        refine run_op fun K hK => ?_; refine calls_to (rtoken_spec v (by omega)) ?_; rintro v A ⟨rfl, rfl⟩; (try simp only [List.nil_append, List.cons_append]); refine hK _ _ ?_; clear hK K; refine going ?_
        cases hq : tokB v with
        | true =>
          refine going ?_
          exact mid ⟨hq, rfl, rfl, rfl⟩
        | false =>
          rw [hpn (good_fine hq)]
          refine going ?_
          refine back_cells (vs := [.string (str []), .int .i64 4]) [X] ⟨rfl, rfl⟩
    rintro D L S ⟨hfine, rfl, rfl, rfl⟩
    (with_reducible refine code_seq ?_); refine then_mid (fun D L S => goodP ⟨n, v, qq⟩ = true ∧ D = [] ∧ L = [(7, .string (str (valP ⟨n, v, qq⟩))), (6, .pointer (some ⟨b6, 0, none⟩)), (5, .int .i64 i), (13, .int .i64 i), (12, .int .i64 l.length), (11, .slice xa l.length xc), (4, .string (str (hdr ++ joinP (l.take i)))), (0, .slice xa l.length xc)] ∧
      S = [X, rpB b6 ⟨n, v, qq⟩, F]) ?_ ?_
    · (try (with_reducible refine code_block ?_))
      (try (with_reducible refine code_seq ?_))
      refine code_dr [[], [0], [0, 1], [0, 1, 2], [0, 1, 2, 3], [0, 1, 2, 3, 4], [0, 1, 2, 3, 4, 5], [0, 1, 2, 3, 4, 5, 6], [0, 1, 2, 3, 4], [0, 1, 2, 3, 4, 8], [0, 1, 2, 3, 4, 5, 6, 7, 8, 9], [0, 1, 2, 3, 4, 5, 6, 7, 8, 9, 10]] [(0, false, []), (1, false, []), (2, true, []), (3, false, []), (4, false, []), (5, false, []), (6, false, []), (8, false, []), (9, false, []), (7, true, [9]), (10, false, []), (11, false, [])] ?_
      refine going ?_
      refine draw_op fun K hK => ?_; refine calls_to (rtoken_spec n (by omega)) ?_; rintro v A ⟨rfl, rfl⟩; (try simp only [List.nil_append, List.cons_append]); (repeat refine pend ?_); refine hK _ _ ?_; clear hK K
      refine going ?_
      cases ht : tokB n with
      | false =>
        rw [hpn (good_tok ht)]
        refine going ?_
        refine back_cells (vs := [.string (str []), .int .i64 4]) [X] ⟨rfl, rfl⟩
      | true =>
        refine going ?_
        refine draw_op fun K hK => ?_; refine calls_to (rlow_spec n (by omega)) ?_; rintro v A ⟨rfl, rfl⟩; (try simp only [List.nil_append, List.cons_append]); (repeat refine pend ?_); refine hK _ _ ?_; clear hK K
        refine going ?_
        by_cases hlo : lowL n = n
        · rw [bne_eq_false_iff_eq.2 hlo]
          refine going ?_
          exact mid ⟨by unfold goodP; rw [hfine, ht, beq_iff_eq.2 hlo]; rfl, rfl, rfl, rfl⟩
        · rw [bne_iff_ne.2 hlo, hpn (good_low (beq_eq_false_iff_ne.2 hlo))]
          refine going ?_
          refine back_cells (vs := [.string (str []), .int .i64 4]) [X] ⟨rfl, rfl⟩
    rintro D L S ⟨hgood, rfl, rfl, rfl⟩
    rw [hgood] at han
    (with_reducible refine code_seq ?_); refine then_mid (fun D L S => D = [] ∧ L = [(4, .string (str (hdr ++ (joinP (l.take i) ++ (if 0 < i then [44, 32] else []))))), (7, .string (str (valP ⟨n, v, qq⟩))), (6, .pointer (some ⟨b6, 0, none⟩)), (13, .int .i64 i), (12, .int .i64 l.length), (11, .slice xa l.length xc), (0, .slice xa l.length xc)] ∧
      S = [X, rpB b6 ⟨n, v, qq⟩, F]) ?_ ?_
    · refine going ?_
      by_cases h0 : 0 < i
      · rw [decide_eq_true (show (0 : Int) < i by omega), if_pos h0, ← List.append_assoc]
        refine going ?_
        rw [s2]
        refine run_op fun K hK => ?_; rw [str_add (by rw [show ([44, 32] : List UInt8).length = 2 from rfl]; omega)]; refine hK _ _ ?_; clear hK K
        refine going ?_
        exact mid ⟨rfl, rfl, rfl⟩
      · rw [decide_eq_false (show ¬ (0 : Int) < i by omega), if_neg h0, List.append_nil]
        refine going ?_
        exact mid ⟨rfl, rfl, rfl⟩
    rintro D L S ⟨rfl, rfl, rfl⟩
    have hol2 : (hdr ++ (joinP (l.take i) ++ (if 0 < i then [44, 32] else []))).length ≤ 240009 := by
      rw [List.length_append, List.length_append]
      have : (if 0 < i then [44, 32] else [] : List UInt8).length ≤ 2 := by split <;> simp
      omega
    have hfin : hdr ++ (joinP (l.take i) ++ (if 0 < i then [44, 32] else [])) ++ (n ++ [61] ++ valP ⟨n, v, qq⟩) = hdr ++ joinP (l.take (i + 1)) := by
      rw [hjn]; simp [textP]
    generalize valP ⟨n, v, qq⟩ = w at *
    have hnl : (n ++ [61] ++ w).length ≤ 20000 ∧ 1 ≤ (n ++ [61] ++ w).length := by rw [List.length_append, List.length_append, List.length_singleton]; omega
    refine going ?_
    rw [s1]
    refine run_op fun K hK => ?_; rw [str_add (by rw [List.length_singleton]; omega)]; refine hK _ _ ?_; clear hK K
    refine going ?_
    refine run_op fun K hK => ?_; rw [str_add (by rw [List.length_append, List.length_singleton]; omega)]; refine hK _ _ ?_; clear hK K
    refine going ?_
    refine run_op fun K hK => ?_; rw [str_add (by omega), hfin]; refine hK _ _ ?_; clear hK K
    refine going ?_
    exact again ⟨i + 1, by omega, han, rfl, rfl, rfl, rfl⟩
  · obtain rfl : i = l.length := by omega
    rw [List.take_length] at hall hol ⊢
    unfold printE
    refine going ?_
    by_cases h1 : l.length = 0
    · rw [beq_iff_eq.2 (show (l.length : Int) = 0 by omega), if_pos (by rw [decide_eq_false (by omega)]; rfl)]
      refine going ?_
      refine back_cells (vs := [.string (str []), .int .i64 4]) [X] ⟨rfl, rfl⟩
    · rw [beq_eq_false_iff_ne.2 (show (l.length : Int) ≠ 0 by omega), if_neg (by rw [hall, decide_eq_true (show 0 < l.length by omega)]; simp)]
      refine going ?_
      by_cases h2 : 4096 < (hdr ++ joinP l).length
      · rw [if_pos h2, decide_eq_true (show (4096 : Int) < ((hdr ++ joinP l).length : Nat) by omega)]
        refine going ?_
        refine back_cells (vs := [.string (str []), .int .i64 3]) [X] ⟨rfl, rfl⟩
      · rw [if_neg h2, decide_eq_false (show ¬ (4096 : Int) < ((hdr ++ joinP l).length : Nat) by omega)]
        refine going ?_
        refine run_op fun K hK => ?_; refine calls_to (rcounted_spec hX (by omega)) ?_; rintro v A ⟨rfl, rfl⟩; (try simp only [List.nil_append, List.cons_append]); refine hK _ _ ?_; clear hK K; refine going ?_
        by_cases h3 : cntE l = 0
        · rw [if_neg (by simp [h3]), h3]
          refine going ?_
          refine back_cells (vs := [.string (str (hdr ++ joinP l)), .int .i64 0]) [X] ⟨rfl, rfl⟩
        · rw [if_pos h3, bne_iff_ne.2 h3]
          refine going ?_
          refine back_cells (vs := [.string (str []), .int .i64 (cntE l)]) [X] ⟨rfl, rfl⟩

end Go.Proofs.Ytfoppclmjmpjiaa

/- A challenge's header, in the document. Conditions: as each says. -/
set_option linter.unusedSimpArgs false
set_option linter.unusedVariables false
namespace Go.Proofs.Ytfoppclmjmpjiaa
open Go Go.Ost

instance tprChal : TPlaces Try.prog 57 [(0, 1), (1, 1), (2, 1), (3, 1)] := ⟨by kernel_rfl⟩
theorem rch_len (c : Ch) : (chPar c).length ≤ 20 := by
  unfold chPar opqP staP
  simp only [List.length_append, List.length_cons, List.length_nil]
  split <;> split <;> simp
theorem rch_bound {c : Ch} (h1 : c.r.length ≤ 4000) (h2 : c.n.length ≤ 4000) (h3 : c.o.length ≤ 4000) : ∀ p ∈ chPar c, p.n.length + p.v.length ≤ 5000 := by
  intro p hp
  unfold chPar opqP staP at hp
  simp only [List.mem_append, List.mem_cons, List.not_mem_nil, or_false] at hp
  rcases hp with (((hp | hp) | rfl) | hp) | rfl
  · rcases hp with rfl | rfl
    · show nRealm.length + c.r.length ≤ _; have : nRealm.length = 5 := rfl; omega
    · show nNonce.length + c.n.length ≤ _; have : nNonce.length = 5 := rfl; omega
  · split at hp
    · cases hp
    · simp only [List.mem_cons, List.not_mem_nil, or_false] at hp
      subst hp
      show nOpaque.length + c.o.length ≤ _; have : nOpaque.length = 6 := rfl; omega
  · decide
  · split at hp
    · simp only [List.mem_cons, List.not_mem_nil, or_false] at hp
      subst hp; decide
    · cases hp
  · decide
theorem some_spec (s : List UInt8) : Meets Try.prog 57 [.string (str s)] [] fun v A => v = .bool (sizB s) ∧ A = [] := by
  have hb : sizB s = (decide ((1 : Int) ≤ s.length) && decide ((s.length : Int) ≤ 64)) := by
    unfold sizB
    congr 1
    cases s with
    | nil => rfl
    | cons a l => rw [List.length_cons, decide_eq_true (by omega)]; rfl
  rw [hb]
  refine spec_intro Try.func57 rfl (by kernel_rfl) (by rw [Try.ntmps57]; simp) fun F => ?_; rw [Try.ntmps57, Try.results57]
  refine going ?_
  cases hb : decide ((1 : Int) ≤ s.length) with
  | false =>
    refine going ?_
    refine back_tmp [] ?_; exact ⟨rfl, rfl⟩
  | true =>
    refine going ?_
    refine back_tmp [] ?_; exact ⟨rfl, rfl⟩

set_option maxHeartbeats 4000000 in
theorem rchtext_spec (c : Ch) (h1 : c.r.length ≤ 4000) (h2 : c.n.length ≤ 4000) (h3 : c.o.length ≤ 4000) : Meets Try.prog 28 [.agg (encC c).toArray] []
    fun v A => v = .tuple #[.string (str (chText c).1), .int .i64 (chText c).2] ∧ A = [] := by
  have hcl := rch_len c
  have hcb := rch_bound h1 h2 h3
  obtain ⟨cr, cn, co, cs⟩ := c
  simp only at h1 h2 h3
  have hct : chText ⟨cr, cn, co, cs⟩ = if sizB cn = false then ([], 4) else printE (chPar ⟨cr, cn, co, cs⟩) := rfl
  have hcp : chPar ⟨cr, cn, co, cs⟩ = [⟨nRealm, cr, true⟩, ⟨nNonce, cn, true⟩] ++ opqP co ++ [⟨nAlg, nSum, false⟩] ++ staP cs ++ [⟨nQop, nAuth, true⟩] := rfl
  rw [hct]
  refine spec_intro Try.func28 rfl (by kernel_rfl) (by rw [Try.ntmps28]; simp) fun F => ?_; rw [Try.ntmps28, Try.results28]
  refine going ?_
  refine run_op fun K hK => ?_; refine box_new fun b1 => ?_; (try simp only [Value.cells]); refine hK _ _ ?_; clear hK K
  refine going ?_
  refine run_op fun K hK => ?_; rw [build_struct (ps := [(0, .string ⟨#[114, 101, 97, 108, 109]⟩), (1, (.string (str cr))), (2, .bool true)]) (cs := (encP ⟨nRealm, cr, true⟩).toArray) rfl]; refine hK _ _ ?_; clear hK K
  refine going ?_
  refine run_op fun K hK => ?_; rw [build_struct (ps := [(0, .string ⟨#[110, 111, 110, 99, 101]⟩), (1, (.string (str cn))), (2, .bool true)]) (cs := (encP ⟨nNonce, cn, true⟩).toArray) rfl]; refine hK _ _ ?_; clear hK K
  refine going ?_
  refine run_op fun K hK => ?_; refine build_els (n := 2) (e := 37) (s := 3) (hs := inferInstance) [encP ⟨nRealm, cr, true⟩, encP ⟨nNonce, cn, true⟩] (by rfl) rfl (by decide) (by decide) (by decide) (by intro r hr; simp only [List.mem_cons, List.not_mem_nil, or_false] at hr; rcases hr with rfl | rfl <;> rfl) (fun b2 C2 ho2 => ?_); refine hK _ _ ?_; clear hK K
  have hX2 : OwnR C2 (some ⟨b2, 0, none⟩) 2 [⟨nRealm, cr, true⟩, ⟨nNonce, cn, true⟩] := ho2
  clear ho2
  rw [show Value.slice (some ⟨b2, 0, none⟩) 2 2 = .slice (some ⟨b2, 0, none⟩) ([⟨nRealm, cr, true⟩, ⟨nNonce, cn, true⟩] : List Par).length 2 from rfl]
  have hl0 : ([⟨nRealm, cr, true⟩, ⟨nNonce, cn, true⟩] : List Par).length = 2 := rfl
  generalize ([⟨nRealm, cr, true⟩, ⟨nNonce, cn, true⟩] : List Par) = l0 at *
  generalize (some ⟨b2, 0, none⟩ : Option Addr) = a2 at *
  refine going ?_
  refine then_mid (fun D L S => ∃ (X3 : Chunk) (a3 : Option Addr) (k3 : Nat), OwnR X3 a3 k3 (l0 ++ opqP co) ∧ D = [] ∧ L = [(4, .slice a3 (l0 ++ opqP co).length k3), (1, .pointer (some ⟨b1, 0, none⟩))] ∧ S = [X3, [(b1, .cells (encC ⟨cr, cn, co, cs⟩).toArray 57 (0, 0))], F]) ?_ ?_
  · by_cases hs : co = []
    · have ho : opqP co = [] := if_pos hs
      rw [ho, List.append_nil, bne_eq_false_iff_eq.2 hs]
      refine going ?_
      exact mid ⟨C2, a2, 2, hX2, rfl, rfl, rfl⟩
    · have ho : opqP co = [⟨nOpaque, co, true⟩] := if_neg hs
      rw [ho, bne_iff_ne.2 hs]
      refine going ?_
      refine run_op fun K hK => ?_; rw [build_struct (ps := [(0, .string ⟨#[111, 112, 97, 113, 117, 101]⟩), (1, (.string (str co))), (2, .bool true)]) (cs := (encP ⟨nOpaque, co, true⟩).toArray) rfl]; refine hK _ _ ?_; clear hK K
      refine run_op fun K hK => ?_; refine build_el1 (e := 37) (s := 3) (hs := inferInstance) (vs := encP (⟨nOpaque, co, true⟩ : Par)) (by rfl) (by decide) (by decide) rfl (fun b5 C5 ho5 => ?_); refine hK _ _ ?_; clear hK K
      refine run_op fun K hK => ?_; refine append_own (e := 37) (s := 3) (hs := inferInstance) (by rfl) (by decide) hX2 (.inr (by (repeat (first | with_reducible exact Pick.head _ _ | with_reducible apply Pick.tail)))) (ho5.rd (by (repeat (first | with_reducible assumption | with_reducible exact List.mem_cons_self .. | with_reducible apply List.mem_cons_of_mem)))) (cell_P _) (by simp only [maxLen]; omega) (by omega) (fun X5 a5 k5 hX5 => ?_); refine hK _ _ ?_; clear hK K
      have e1 : (l0).length + 1 = (l0 ++ [(⟨nOpaque, co, true⟩ : Par)]).length := by simp
      have e2 : (l0).flatMap encP ++ encP (⟨nOpaque, co, true⟩ : Par) = (l0 ++ [(⟨nOpaque, co, true⟩ : Par)]).flatMap encP := by simp
      rw [e1, e2] at hX5
      rw [e1]
      clear e1 e2
      refine going ?_
      exact mid ⟨X5, a5, k5, hX5, rfl, rfl, rfl⟩
  rintro D L S ⟨X3, a3, k3, hX3, rfl, rfl, rfl⟩
  have hl3 : (l0 ++ opqP co).length ≤ 3 := by rw [List.length_append]; unfold opqP; split <;> simp <;> omega
  generalize l0 ++ opqP co = l1 at *
  refine going ?_
  refine run_op fun K hK => ?_; rw [build_struct (ps := [(0, .string ⟨#[97, 108, 103, 111, 114, 105, 116, 104, 109]⟩), (1, (.string ⟨#[83, 72, 65, 45, 50, 53, 54]⟩)), (2, .bool false)]) (cs := (encP ⟨nAlg, nSum, false⟩).toArray) rfl]; refine hK _ _ ?_; clear hK K
  refine run_op fun K hK => ?_; refine build_el1 (e := 37) (s := 3) (hs := inferInstance) (vs := encP (⟨nAlg, nSum, false⟩ : Par)) (by rfl) (by decide) (by decide) rfl (fun b6 C6 ho6 => ?_); refine hK _ _ ?_; clear hK K
  refine run_op fun K hK => ?_; refine append_own (e := 37) (s := 3) (hs := inferInstance) (by rfl) (by decide) hX3 (.inr (by (repeat (first | with_reducible exact Pick.head _ _ | with_reducible apply Pick.tail)))) (ho6.rd (by (repeat (first | with_reducible assumption | with_reducible exact List.mem_cons_self .. | with_reducible apply List.mem_cons_of_mem)))) (cell_P _) (by simp only [maxLen]; omega) (by omega) (fun X6 a6 k6 hX6 => ?_); refine hK _ _ ?_; clear hK K
  have e1 : (l1).length + 1 = (l1 ++ [(⟨nAlg, nSum, false⟩ : Par)]).length := by simp
  have e2 : (l1).flatMap encP ++ encP (⟨nAlg, nSum, false⟩ : Par) = (l1 ++ [(⟨nAlg, nSum, false⟩ : Par)]).flatMap encP := by simp
  rw [e1, e2] at hX6
  rw [e1]
  clear e1 e2
  have hl6 : (l1 ++ [(⟨nAlg, nSum, false⟩ : Par)]).length ≤ 4 := by rw [List.length_append, List.length_singleton]; omega
  generalize l1 ++ [(⟨nAlg, nSum, false⟩ : Par)] = l2 at *
  refine going ?_
  refine then_mid (fun D L S => ∃ (X7 : Chunk) (a7 : Option Addr) (k7 : Nat), OwnR X7 a7 k7 (l2 ++ staP cs) ∧ D = [] ∧ L = [(4, .slice a7 (l2 ++ staP cs).length k7), (1, .pointer (some ⟨b1, 0, none⟩))] ∧ S = [X7, [(b1, .cells (encC ⟨cr, cn, co, cs⟩).toArray 57 (0, 0))], F]) ?_ ?_
  · cases cs with
    | false =>
      rw [show staP false = [] from rfl, List.append_nil]
      refine going ?_
      exact mid ⟨X6, a6, k6, hX6, rfl, rfl, rfl⟩
    | true =>
      rw [show staP true = [⟨nStale, nTrue, false⟩] from rfl]
      refine going ?_
      refine run_op fun K hK => ?_; rw [build_struct (ps := [(0, .string ⟨#[115, 116, 97, 108, 101]⟩), (1, (.string ⟨#[116, 114, 117, 101]⟩)), (2, .bool false)]) (cs := (encP ⟨nStale, nTrue, false⟩).toArray) rfl]; refine hK _ _ ?_; clear hK K
      refine run_op fun K hK => ?_; refine build_el1 (e := 37) (s := 3) (hs := inferInstance) (vs := encP (⟨nStale, nTrue, false⟩ : Par)) (by rfl) (by decide) (by decide) rfl (fun b7 C7 ho7 => ?_); refine hK _ _ ?_; clear hK K
      refine run_op fun K hK => ?_; refine append_own (e := 37) (s := 3) (hs := inferInstance) (by rfl) (by decide) hX6 (.inr (by (repeat (first | with_reducible exact Pick.head _ _ | with_reducible apply Pick.tail)))) (ho7.rd (by (repeat (first | with_reducible assumption | with_reducible exact List.mem_cons_self .. | with_reducible apply List.mem_cons_of_mem)))) (cell_P _) (by simp only [maxLen]; omega) (by omega) (fun X7 a7 k7 hX7 => ?_); refine hK _ _ ?_; clear hK K
      have e1 : (l2).length + 1 = (l2 ++ [(⟨nStale, nTrue, false⟩ : Par)]).length := by simp
      have e2 : (l2).flatMap encP ++ encP (⟨nStale, nTrue, false⟩ : Par) = (l2 ++ [(⟨nStale, nTrue, false⟩ : Par)]).flatMap encP := by simp
      rw [e1, e2] at hX7
      rw [e1]
      clear e1 e2
      refine going ?_
      exact mid ⟨X7, a7, k7, hX7, rfl, rfl, rfl⟩
  rintro D L S ⟨X7, a7, k7, hX7, rfl, rfl, rfl⟩
  have hl7 : (l2 ++ staP cs).length ≤ 5 := by rw [List.length_append]; unfold staP; split <;> simp <;> omega
  generalize l2 ++ staP cs = l3 at *
  refine going ?_
  refine run_op fun K hK => ?_; refine calls_to (some_spec cn) ?_; rintro v A ⟨rfl, rfl⟩; (try simp only [List.nil_append, List.cons_append]); refine hK _ _ ?_; clear hK K; refine going ?_
  cases hz : sizB cn with
  | false =>
    rw [if_pos rfl]
    refine going ?_
    refine back_cells (vs := [.string (str []), .int .i64 4]) [] ⟨rfl, rfl⟩
  | true =>
    rw [if_neg (by simp)]
    refine going ?_
    refine run_op fun K hK => ?_; rw [build_struct (ps := [(0, .string ⟨#[113, 111, 112]⟩), (1, (.string ⟨#[97, 117, 116, 104]⟩)), (2, .bool true)]) (cs := (encP ⟨nQop, nAuth, true⟩).toArray) rfl]; refine hK _ _ ?_; clear hK K
    refine run_op fun K hK => ?_; refine build_el1 (e := 37) (s := 3) (hs := inferInstance) (vs := encP (⟨nQop, nAuth, true⟩ : Par)) (by rfl) (by decide) (by decide) rfl (fun b8 C8 ho8 => ?_); refine hK _ _ ?_; clear hK K
    refine run_op fun K hK => ?_; refine append_own (e := 37) (s := 3) (hs := inferInstance) (by rfl) (by decide) hX7 (.inr (by (repeat (first | with_reducible exact Pick.head _ _ | with_reducible apply Pick.tail)))) (ho8.rd (by (repeat (first | with_reducible assumption | with_reducible exact List.mem_cons_self .. | with_reducible apply List.mem_cons_of_mem)))) (cell_P _) (by simp only [maxLen]; omega) (by omega) (fun X8 a8 k8 hX8 => ?_); refine hK _ _ ?_; clear hK K
    have e1 : (l3).length + 1 = (l3 ++ [(⟨nQop, nAuth, true⟩ : Par)]).length := by simp
    have e2 : (l3).flatMap encP ++ encP (⟨nQop, nAuth, true⟩ : Par) = (l3 ++ [(⟨nQop, nAuth, true⟩ : Par)]).flatMap encP := by simp
    rw [e1, e2] at hX8
    rw [e1]
    clear e1 e2
    rw [← hcp] at hX8 ⊢
    refine run_op fun K hK => ?_; refine calls_to (rprint_spec hX8 hcl hcb) ?_; rintro v A ⟨rfl, rfl⟩; (try simp only [List.nil_append, List.cons_append]); refine hK _ _ ?_; clear hK K; refine going ?_
    refine back_cells (vs := [.string (str (printE (chPar ⟨cr, cn, co, cs⟩)).1), .int .i64 (printE (chPar ⟨cr, cn, co, cs⟩)).2]) [] ⟨rfl, rfl⟩

end Go.Proofs.Ytfoppclmjmpjiaa
