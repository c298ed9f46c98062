/- Texts in a row: the walk's rules and contracts, as each says. Conditions: as each says. -/
import Derived.Test.YtfoppclmjmpjiaaM77233987
import Derived.Test.YtfoppclmjmpjiaaMf6b7c41b
import Derived.Test.YtfoppclmjmpjiaaM1bd2b66d
import Derived.Test.YtfoppclmjmpjiaaM9d5662c1
/- An answer of a header, by the document. Conditions: as each says. -/
set_option linter.unusedSimpArgs false
set_option linter.unusedVariables false
namespace Go.Proofs.Ytfoppclmjmpjiaa
open Go Go.Ost Go.Sha

instance tpRAns : TPlaces Try.prog 65 [(0, 1), (1, 1), (2, 1), (3, 1), (4, 1), (5, 1), (6, 1), (7, 1)] := ⟨by kernel_rfl⟩
theorem rcell_A (a : An) (pa : Option Addr) (pk : Nat) : ∀ v ∈ encA a pa pk, Value.cell1 v := by
  intro v hv
  simp only [encA, List.mem_cons, List.not_mem_nil, or_false] at hv
  rcases hv with rfl | rfl | rfl | rfl | rfl | rfl | rfl | rfl <;> simp [Value.cell1, b32]
abbrev raB (b : Nat) (a : An) (pa : Option Addr) (pk : Nat) : Chunk := [(b, .cells (encA a pa pk).toArray 65 (0, 0))]

set_option maxHeartbeats 1000000 in
theorem rnum_spec {X : Chunk} {xa : Option Addr} {xc : Nat} {p : List UInt8} (hX : Own8 5 X xa p.length xc p) (h4 : p.length = 4) : Meets Try.prog 71 [.slice xa p.length xc] [X] fun v A => v = .int .u64 (numN p) ∧ A = [X] := by
  refine spec_intro Try.func71 rfl (by kernel_rfl) (by rw [Try.ntmps71]; simp) fun F => ?_; rw [Try.ntmps71, Try.results71]
  refine going ?_
  refine loop_i (fun q D L S => ∃ (i : Nat) (m : Nat), i ≤ p.length ∧ m = numN (p.take i) ∧ q = p.length - i ∧ D = [] ∧
    L = [(8, .int .i64 i), (7, .int .i64 p.length), (6, .slice xa p.length xc), (3, .int .u64 (m : Int))] ∧ S = [X, F])
    ⟨0, 0, by omega, by simp [numN], rfl, rfl, rfl, rfl⟩ ?_
  rintro q D L S ⟨i, m, hi, hm, rfl, rfl, rfl, rfl⟩
  have hmb : m < 256 ^ 4 := by
    have h1 := numN_lt i (p.take i) (by rw [List.length_take]; omega)
    have h2 : 256 ^ i ≤ 256 ^ 4 := Nat.pow_le_pow_right (by decide) (by omega)
    omega
  refine going ?_
  refine if_d (fun hc => ?_) (fun hc => ?_)
  · have hil : i < p.length := by omega
    have hnx := numN_next p i hil
    rw [← hm] at hnx
    have hlt := (p.getD i 0).toNat_lt
    refine going ?_
    refine again ⟨i + 1, m * 256 + (p.getD i 0).toNat, by omega, hnx.symm, rfl, rfl, rfl, rfl⟩
  · obtain rfl : i = p.length := by omega
    rw [List.take_length] at hm
    rw [hm]
    refine going ?_
    refine back_tmp [X] ?_; exact ⟨rfl, rfl⟩

theorem num_wrap (q : List UInt8) : Value.int .u32 (IntKind.u32.wrap ((numN q : Nat) : Int)) = b32 (numW q) := by
  rw [wrap32_mod, ← num_same]
  exact congrArg (fun n : Nat => Value.int .u32 (n : Int)) (BitVec.toNat_ofNat (numN q) 32).symm

theorem rkeep_len (l : List Par) : (keepL l).length ≤ l.length := List.length_filter_le _ _
theorem keep_next (l : List Par) (i : Nat) (h : i < l.length) : keepL (l.take (i + 1)) = keepL (l.take i) ++ (if ((l.getD i p0).n != nStale) = true then [l.getD i p0] else []) := by
  unfold keepL
  rw [List.take_add_one, List.filter_append, get_par l i h]
  congr 1
  show List.filter _ [l.getD i p0] = _
  rw [List.filter_cons]
  split <;> simp

set_option maxHeartbeats 8000000 in
theorem rpans_spec (s : List UInt8) (hs : s.length ≤ 100000) : Meets Try.prog 37 [.string (str s)] []
    fun v A => ∃ P pa pk, v = .tuple #[.agg (encA (rpaE s).1 pa pk).toArray, .int .i64 (rpaE s).2] ∧ Own8 5 P pa (rpaE s).1.pf.length pk (rpaE s).1.pf ∧ A = [P] := by
  have hs3 := encP_len
  obtain ⟨hpl, hpb⟩ := rparse_bound s
  unfold rpaE
  refine spec_intro Try.func37 rfl (by kernel_rfl) (by rw [Try.ntmps37]; simp) fun F => ?_; rw [Try.ntmps37, Try.results37]
  refine code_nil ?_
  refine going ?_
  refine run_op fun K hK => ?_; refine alloc_as (encA a0 none 0).toArray rfl fun b2 => ?_; refine hK _ _ ?_; clear hK K
  refine going ?_
  refine run_op fun K hK => ?_; refine calls_to (rparse_spec s hs) ?_; rintro v A ⟨X, xa, xk, rfl, hX, rfl⟩; (try simp only [List.nil_append, List.cons_append]); refine hK _ _ ?_; clear hK K; refine going ?_
  by_cases h0 : (parseE s).2 = 0
  · rw [h0, if_neg (by decide)]
    generalize (parseE s).1 = l at *
    have hvb0 : ∀ p ∈ l, p.v.length ≤ 100000 := fun p hp => by have := hpb p hp; omega
    have hl : l.length ≤ 100000 := by omega
    clear hpl hpb
    refine going ?_
    refine code_nil ?_
    refine block_mid (fun D L S => ∃ (Kc : Chunk) (ka : Option Addr) (kc : Nat), OwnR Kc ka kc (keepL l) ∧ D = [] ∧ L = [(6, .slice ka (keepL l).length kc), (2, .pointer (some ⟨b2, 0, none⟩))] ∧ S = [Kc, X, raB b2 a0 none 0, [], F]) ?_ ?_
    · refine loop_i (fun q D L S => ∃ (i : Nat) (Kc : Chunk) (ka : Option Addr) (kc : Nat), i ≤ l.length ∧ OwnR Kc ka kc (keepL (l.take i)) ∧ q = l.length - i ∧ D = [] ∧
        L = [(26, .int .i64 i), (25, .int .i64 l.length), (24, .slice xa l.length xk), (6, .slice ka (keepL (l.take i)).length kc), (2, .pointer (some ⟨b2, 0, none⟩))] ∧ S = [Kc, X, raB b2 a0 none 0, [], F])
        ⟨0, [], none, 0, by omega, own_nil, rfl, rfl, rfl, rfl⟩ ?_
      rintro q D L S ⟨i, Kc, ka, kc, hi, hkc, rfl, rfl, rfl, rfl⟩
      have hkl := rkeep_len (l.take i)
      rw [List.length_take] at hkl
      refine going ?_
      refine if_d (fun hc => ?_) (fun hc => ?_)
      · have hil : i < l.length := by omega
        have hx := get_par l i hil
        have hkn := keep_next l i hil
        generalize l.getD i p0 = x at *
        refine going ?_
        refine run_op fun K hK => ?_; refine load_el_agg hX hs3 hx (by decide) (by (repeat (first | with_reducible assumption | with_reducible exact List.mem_cons_self .. | with_reducible apply List.mem_cons_of_mem))) ?_; refine hK _ _ ?_; clear hK K
        refine run_op fun K hK => ?_; refine alloc_as (encP p0).toArray rfl fun b8 => ?_; refine hK _ _ ?_; clear hK K
        refine run_op fun K hK => ?_; refine store_all (vs := encP x) rfl (cell_P _) (by (repeat (first | with_reducible exact Upd.one | with_reducible apply Upd.next))) (by rfl) ?_; refine hK _ _ ?_; clear hK K
        refine going ?_
        cases hst : (x.n != nStale) with
        | true =>
          rw [show (x.n != [115, 116, 97, 108, 101]) = true from hst]
          rw [hst, if_pos rfl] at hkn
          refine going ?_
          refine run_op fun K hK => ?_; refine load_all (vs := encP x) (by (repeat (first | with_reducible exact Lies.one | with_reducible apply Lies.next))) rfl ?_; refine hK _ _ ?_; clear hK K
          refine run_op fun K hK => ?_; refine build_el1 (e := 37) (s := 3) (hs := inferInstance) (vs := encP x) (by rfl) (by decide) (by decide) rfl (fun b1 C1 ho1 => ?_); refine hK _ _ ?_; clear hK K
          refine run_op fun K hK => ?_; refine append_own (e := 37) (s := 3) (hs := inferInstance) (by rfl) (by decide) hkc (.inr (by (repeat (first | with_reducible exact Pick.head _ _ | with_reducible apply Pick.tail)))) (ho1.rd (by (repeat (first | with_reducible assumption | with_reducible exact List.mem_cons_self .. | with_reducible apply List.mem_cons_of_mem)))) (cell_P _) (by simp only [maxLen]; omega) (by omega) (fun C3 a3 cap3 ho3 => ?_); refine hK _ _ ?_; clear hK K
          have e1 : (keepL (l.take i)).length + 1 = (keepL (l.take (i + 1))).length := by rw [hkn]; simp
          have e2 : (keepL (l.take i)).flatMap encP ++ encP x = (keepL (l.take (i + 1))).flatMap encP := by rw [hkn]; simp
          rw [e1, e2] at ho3
          rw [e1]
          refine going ?_
          exact again ⟨i + 1, C3, a3, cap3, by omega, ho3, rfl, rfl, rfl, rfl⟩
        | false =>
          rw [show (x.n != [115, 116, 97, 108, 101]) = false from hst]
          rw [hst, if_neg (by simp), List.append_nil] at hkn
          rw [← hkn] at hkc ⊢
          refine going ?_
          exact again ⟨i + 1, Kc, ka, kc, by omega, hkc, rfl, rfl, rfl, rfl⟩
      · obtain rfl : i = l.length := by omega
        rw [List.take_length] at hkc hkl ⊢
        refine going ?_
        exact mid ⟨Kc, ka, kc, hkc, rfl, rfl, rfl⟩
    rintro D L S ⟨Kc, ka, kc, hkc, rfl, rfl, rfl⟩
    have hkl := rkeep_len l
    have hvb : ∀ p ∈ keepL l, p.v.length ≤ 100000 := fun p hp => hvb0 p (List.mem_filter.1 hp).1
    generalize keepL l = k at *
    have hl2 : k.length ≤ 100000 := by omega
    clear hX hvb0 hl hkl
    refine going ?_
    refine run_op fun K hK => ?_; refine build1 rfl [sv nUser, sv nRealm, sv nNonce, sv nUri, sv nQop, sv nNc, sv nCnonce, sv nResp, sv nAlg] (by decide) rfl rfl (by simp [Value.cell1]) (fun b21 C21 ho21 => ?_); refine hK _ _ ?_; clear hK K
    refine going ?_
    refine run_op fun K hK => ?_; refine build1 rfl [sv nUser, sv nRealm, sv nNonce, sv nUri, sv nCnonce, sv nResp, sv nOpaque] (by decide) rfl rfl (by simp [Value.cell1]) (fun b22 C22 ho22 => ?_); refine hK _ _ ?_; clear hK K
    refine going ?_
    have hM : OwnT C21 (some ⟨b21, 0, none⟩) 9 mustA := ho21
    have hQ : OwnT C22 (some ⟨b22, 0, none⟩) 7 quoA := ho22
    have hls := rlook_spec hkc hl2 hM hQ (by decide) (by decide)
    rw [show mustA.length = 9 from rfl, show quoA.length = 7 from rfl] at hls
    clear hM hQ ho21 ho22
    refine run_op fun K hK => ?_; refine calls_to (hls) ?_; rintro v A ⟨rfl, rfl⟩; (try simp only [List.nil_append, List.cons_append]); refine hK _ _ ?_; clear hK K; refine going ?_
    clear hls
    unfold rpaL
    generalize hlk : lookE k mustA quoA = lk at *
    obtain ⟨there, right⟩ := lk
    cases there with
    | false =>
      rw [if_pos rfl]
      refine going ?_
      refine run_op fun K hK => ?_; rw [build_struct (ps := []) (cs := (encA a0 none 0).toArray) rfl]; refine hK _ _ ?_; clear hK K
      refine going ?_
      refine run_op fun K hK => ?_; refine store_all (vs := encA a0 none 0) rfl (rcell_A _ _ _) (by (repeat (first | with_reducible exact Upd.one | with_reducible apply Upd.next))) (by rfl) ?_; refine hK _ _ ?_; clear hK K
      refine going ?_
      refine back_cells (vs := [.agg (encA a0 none 0).toArray, .int .i64 6]) [[]] ⟨[], none, 0, rfl, own_nil, rfl⟩ (hr := by (intro κ hκ; simp only [resW, withV, lookT_hit, lookT_miss, Nat.reduceBEq]; exact load_all (vs := encA a0 none 0) (by (repeat (first | with_reducible exact Lies.one | with_reducible apply Lies.next))) rfl hκ))
    | true =>
      rw [if_neg (by simp)]
      refine going ?_
      refine run_op fun K hK => ?_; refine calls_to (rvalue_spec hkc hl2 nNc) ?_; rintro v A ⟨rfl, rfl⟩; (try simp only [List.nil_append, List.cons_append]); refine hK _ _ ?_; clear hK K; refine going ?_
      refine run_op fun K hK => ?_; refine calls_to (runhex_spec (gotP k nNc).v (got_len hvb nNc)) ?_; rintro v A ⟨Q, qa, qk, rfl, hQ, rfl⟩; (try simp only [List.nil_append, List.cons_append]); refine hK _ _ ?_; clear hK K; refine going ?_
      refine run_op fun K hK => ?_; refine calls_to (rvalue_spec hkc hl2 nResp) ?_; rintro v A ⟨rfl, rfl⟩; (try simp only [List.nil_append, List.cons_append]); refine hK _ _ ?_; clear hK K; refine going ?_
      refine run_op fun K hK => ?_; refine calls_to (runhex_spec (gotP k nResp).v (got_len hvb nResp)) ?_; rintro v A ⟨P, pa, pk, rfl, hP, rfl⟩; (try simp only [List.nil_append, List.cons_append]); refine hK _ _ ?_; clear hK K
      (repeat (first | (with_reducible refine run_nil ?_) | ((with_reducible refine run_probe ?_); refine runq_more ?_)))
      (with_reducible refine then_n ?_)
      (with_reducible refine code_seq ?_); refine then_mid (fun D L S => rpaB k = false ∧ D = [] ∧ L = [(4, .slice ka k.length kc), (11, .slice qa (uhE (gotP k nNc).v).1.length qk), (13, .slice pa (uhE (gotP k nResp).v).1.length pk), (2, .pointer (some ⟨b2, 0, none⟩))] ∧ S = [P, Q, Kc, raB b2 a0 none 0, [], F]) ?_ ?_
      · (with_reducible refine code_seq ?_); refine then_mid (fun D L S => D = [] ∧ L = [(103, .bool (rpaB k)), (4, .slice ka k.length kc), (11, .slice qa (uhE (gotP k nNc).v).1.length qk), (13, .slice pa (uhE (gotP k nResp).v).1.length pk), (2, .pointer (some ⟨b2, 0, none⟩))] ∧ S = [P, Q, Kc, raB b2 a0 none 0, [], F]) ?_ ?_
        · refine code_runc ?_
          refine runc_mid3 (fun L S => L = [(63, .bool (!right)), (12, .int .i64 (uhE (gotP k nNc).v).2), (14, .int .i64 (uhE (gotP k nResp).v).2), (4, .slice ka k.length kc), (11, .slice qa (uhE (gotP k nNc).v).1.length qk), (13, .slice pa (uhE (gotP k nResp).v).1.length pk), (2, .pointer (some ⟨b2, 0, none⟩))] ∧ S = [P, Q, Kc, raB b2 a0 none 0, [], F]) ?_ ?_
          · refine going ?_
            exact midr ⟨rfl, rfl⟩
          rintro L S ⟨rfl, rfl⟩
          generalize hc1 : (!right) = c1
          refine runc_mid5 (fun L S => L = [(68, .bool (c1 || ((gotP k nQop).v != nAuth))), (12, .int .i64 (uhE (gotP k nNc).v).2), (14, .int .i64 (uhE (gotP k nResp).v).2), (4, .slice ka k.length kc), (11, .slice qa (uhE (gotP k nNc).v).1.length qk), (13, .slice pa (uhE (gotP k nResp).v).1.length pk), (2, .pointer (some ⟨b2, 0, none⟩))] ∧ S = [P, Q, Kc, raB b2 a0 none 0, [], F]) ?_ ?_
          · cases c1 with
            | true =>
              refine going ?_
              exact midr ⟨rfl, rfl⟩
            | false =>
              refine going ?_
              refine run_op fun K hK => ?_; refine calls_to (rvalue_spec hkc hl2 nQop) ?_; rintro v A ⟨rfl, rfl⟩; (try simp only [List.nil_append, List.cons_append]); refine hK _ _ ?_; clear hK K; refine going ?_
              (try rw [show ((gotP k nQop).v != [97, 117, 116, 104]) = ((gotP k nQop).v != nAuth) from rfl])
              exact midr ⟨rfl, rfl⟩
          rintro L S ⟨rfl, rfl⟩
          generalize hc2 : (c1 || ((gotP k nQop).v != nAuth)) = c2
          refine runc_mid6 (fun L S => L = [(74, .bool (c2 || (lowL (gotP k nAlg).v != nSumL))), (12, .int .i64 (uhE (gotP k nNc).v).2), (14, .int .i64 (uhE (gotP k nResp).v).2), (4, .slice ka k.length kc), (11, .slice qa (uhE (gotP k nNc).v).1.length qk), (13, .slice pa (uhE (gotP k nResp).v).1.length pk), (2, .pointer (some ⟨b2, 0, none⟩))] ∧ S = [P, Q, Kc, raB b2 a0 none 0, [], F]) ?_ ?_
          · cases c2 with
            | true =>
              refine going ?_
              exact midr ⟨rfl, rfl⟩
            | false =>
              refine going ?_
              refine run_op fun K hK => ?_; refine calls_to (rvalue_spec hkc hl2 nAlg) ?_; rintro v A ⟨rfl, rfl⟩; (try simp only [List.nil_append, List.cons_append]); refine hK _ _ ?_; clear hK K; refine going ?_
              refine run_op fun K hK => ?_; refine calls_to (rlow_spec (gotP k nAlg).v (got_len hvb nAlg)) ?_; rintro v A ⟨rfl, rfl⟩; (try simp only [List.nil_append, List.cons_append]); refine hK _ _ ?_; clear hK K; refine going ?_
              (try rw [show (lowL (gotP k nAlg).v != [115, 104, 97, 45, 50, 53, 54]) = (lowL (gotP k nAlg).v != nSumL) from rfl])
              exact midr ⟨rfl, rfl⟩
          rintro L S ⟨rfl, rfl⟩
          generalize hc3 : (c2 || (lowL (gotP k nAlg).v != nSumL)) = c3
          refine runc_mid4 (fun L S => L = [(78, .bool (c3 || ((uhE (gotP k nNc).v).2 != 0))), (14, .int .i64 (uhE (gotP k nResp).v).2), (4, .slice ka k.length kc), (11, .slice qa (uhE (gotP k nNc).v).1.length qk), (13, .slice pa (uhE (gotP k nResp).v).1.length pk), (2, .pointer (some ⟨b2, 0, none⟩))] ∧ S = [P, Q, Kc, raB b2 a0 none 0, [], F]) ?_ ?_
          · cases c3 with
            | true =>
              refine going ?_
              exact midr ⟨rfl, rfl⟩
            | false =>
              refine going ?_
              exact midr ⟨rfl, rfl⟩
          rintro L S ⟨rfl, rfl⟩
          generalize hc4 : (c3 || ((uhE (gotP k nNc).v).2 != 0)) = c4
          refine runc_mid5 (fun L S => L = [(83, .bool (c4 || (((uhE (gotP k nNc).v).1.length : Int) != 4))), (14, .int .i64 (uhE (gotP k nResp).v).2), (4, .slice ka k.length kc), (11, .slice qa (uhE (gotP k nNc).v).1.length qk), (13, .slice pa (uhE (gotP k nResp).v).1.length pk), (2, .pointer (some ⟨b2, 0, none⟩))] ∧ S = [P, Q, Kc, raB b2 a0 none 0, [], F]) ?_ ?_
          · cases c4 with
            | true =>
              refine going ?_
              exact midr ⟨rfl, rfl⟩
            | false =>
              refine going ?_
              exact midr ⟨rfl, rfl⟩
          rintro L S ⟨rfl, rfl⟩
          generalize hc5 : (c4 || (((uhE (gotP k nNc).v).1.length : Int) != 4)) = c5
          refine runc_mid4 (fun L S => L = [(87, .bool (c5 || ((uhE (gotP k nResp).v).2 != 0))), (4, .slice ka k.length kc), (11, .slice qa (uhE (gotP k nNc).v).1.length qk), (13, .slice pa (uhE (gotP k nResp).v).1.length pk), (2, .pointer (some ⟨b2, 0, none⟩))] ∧ S = [P, Q, Kc, raB b2 a0 none 0, [], F]) ?_ ?_
          · cases c5 with
            | true =>
              refine going ?_
              exact midr ⟨rfl, rfl⟩
            | false =>
              refine going ?_
              exact midr ⟨rfl, rfl⟩
          rintro L S ⟨rfl, rfl⟩
          generalize hc6 : (c5 || ((uhE (gotP k nResp).v).2 != 0)) = c6
          refine runc_mid5 (fun L S => L = [(92, .bool (c6 || (((uhE (gotP k nResp).v).1.length : Int) != 32))), (4, .slice ka k.length kc), (11, .slice qa (uhE (gotP k nNc).v).1.length qk), (13, .slice pa (uhE (gotP k nResp).v).1.length pk), (2, .pointer (some ⟨b2, 0, none⟩))] ∧ S = [P, Q, Kc, raB b2 a0 none 0, [], F]) ?_ ?_
          · cases c6 with
            | true =>
              refine going ?_
              exact midr ⟨rfl, rfl⟩
            | false =>
              refine going ?_
              exact midr ⟨rfl, rfl⟩
          rintro L S ⟨rfl, rfl⟩
          generalize hc7 : (c6 || (((uhE (gotP k nResp).v).1.length : Int) != 32)) = c7
          refine runc_mid6 (fun L S => L = [(98, .bool (c7 || !sizB (gotP k nNonce).v)), (4, .slice ka k.length kc), (11, .slice qa (uhE (gotP k nNc).v).1.length qk), (13, .slice pa (uhE (gotP k nResp).v).1.length pk), (2, .pointer (some ⟨b2, 0, none⟩))] ∧ S = [P, Q, Kc, raB b2 a0 none 0, [], F]) ?_ ?_
          · cases c7 with
            | true =>
              refine going ?_
              exact midr ⟨rfl, rfl⟩
            | false =>
              refine going ?_
              refine run_op fun K hK => ?_; refine calls_to (rvalue_spec hkc hl2 nNonce) ?_; rintro v A ⟨rfl, rfl⟩; (try simp only [List.nil_append, List.cons_append]); refine hK _ _ ?_; clear hK K; refine going ?_
              refine run_op fun K hK => ?_; refine calls_to (some_spec (gotP k nNonce).v) ?_; rintro v A ⟨rfl, rfl⟩; (try simp only [List.nil_append, List.cons_append]); refine hK _ _ ?_; clear hK K; refine going ?_
              exact midr ⟨rfl, rfl⟩
          rintro L S ⟨rfl, rfl⟩
          generalize hc8 : (c7 || !sizB (gotP k nNonce).v) = c8
          refine runc_run ?_
          rw [show rpaB k = (c8 || !sizB (gotP k nCnonce).v) from by subst hc8 hc7 hc6 hc5 hc4 hc3 hc2 hc1; unfold rpaB; rw [hlk]; simp only [Bool.and_assoc, Bool.or_assoc]]
          cases c8 with
          | true =>
            refine going ?_
            exact mid ⟨rfl, rfl, rfl⟩
          | false =>
            refine going ?_
            refine run_op fun K hK => ?_; refine calls_to (rvalue_spec hkc hl2 nCnonce) ?_; rintro v A ⟨rfl, rfl⟩; (try simp only [List.nil_append, List.cons_append]); refine hK _ _ ?_; clear hK K; refine going ?_
            refine run_op fun K hK => ?_; refine calls_to (some_spec (gotP k nCnonce).v) ?_; rintro v A ⟨rfl, rfl⟩; (try simp only [List.nil_append, List.cons_append]); refine hK _ _ ?_; clear hK K; refine going ?_
            exact mid ⟨rfl, rfl, rfl⟩
        rintro D L S ⟨rfl, rfl, rfl⟩
        cases hb : rpaB k with
        | true =>
          rw [if_pos rfl]
          refine going ?_
          refine run_op fun K hK => ?_; rw [build_struct (ps := []) (cs := (encA a0 none 0).toArray) rfl]; refine hK _ _ ?_; clear hK K
          refine going ?_
          refine run_op fun K hK => ?_; refine store_all (vs := encA a0 none 0) rfl (rcell_A _ _ _) (by (repeat (first | with_reducible exact Upd.one | with_reducible apply Upd.next))) (by rfl) ?_; refine hK _ _ ?_; clear hK K
          refine going ?_
          refine back_cells (vs := [.agg (encA a0 none 0).toArray, .int .i64 4]) [[]] ⟨[], none, 0, rfl, own_nil, rfl⟩ (hr := by (intro κ hκ; simp only [resW, withV, lookT_hit, lookT_miss, Nat.reduceBEq]; exact load_all (vs := encA a0 none 0) (by (repeat (first | with_reducible exact Lies.one | with_reducible apply Lies.next))) rfl hκ))
        | false =>
          refine going ?_
          exact mid ⟨rfl, rfl, rfl, rfl⟩
      rintro D L S ⟨hgood, rfl, rfl, rfl⟩
      rw [if_neg (by rw [hgood]; simp)]
      have hl4 : (uhE (gotP k nNc).v).1.length = 4 := by
        unfold rpaB at hgood
        simp only [Bool.or_eq_false_iff] at hgood
        have := hgood.2.2.2.2.1
        simp at this; omega
      refine going ?_
      refine run_op fun K hK => ?_; refine calls_to (rvalue_spec hkc hl2 nUser) ?_; rintro v A ⟨rfl, rfl⟩; (try simp only [List.nil_append, List.cons_append]); refine hK _ _ ?_; clear hK K; refine going ?_
      refine run_op fun K hK => ?_; refine calls_to (rvalue_spec hkc hl2 nRealm) ?_; rintro v A ⟨rfl, rfl⟩; (try simp only [List.nil_append, List.cons_append]); refine hK _ _ ?_; clear hK K; refine going ?_
      refine run_op fun K hK => ?_; refine calls_to (rvalue_spec hkc hl2 nNonce) ?_; rintro v A ⟨rfl, rfl⟩; (try simp only [List.nil_append, List.cons_append]); refine hK _ _ ?_; clear hK K; refine going ?_
      refine run_op fun K hK => ?_; refine calls_to (rvalue_spec hkc hl2 nUri) ?_; rintro v A ⟨rfl, rfl⟩; (try simp only [List.nil_append, List.cons_append]); refine hK _ _ ?_; clear hK K; refine going ?_
      refine run_op fun K hK => ?_; refine calls_to (rvalue_spec hkc hl2 nCnonce) ?_; rintro v A ⟨rfl, rfl⟩; (try simp only [List.nil_append, List.cons_append]); refine hK _ _ ?_; clear hK K; refine going ?_
      refine run_op fun K hK => ?_; refine calls_to (rvalue_spec hkc hl2 nOpaque) ?_; rintro v A ⟨rfl, rfl⟩; (try simp only [List.nil_append, List.cons_append]); refine hK _ _ ?_; clear hK K; refine going ?_
      refine run_op fun K hK => ?_; refine calls_to (rnum_spec hQ hl4) ?_; rintro v A ⟨rfl, rfl⟩; (try simp only [List.nil_append, List.cons_append]); refine hK _ _ ?_; clear hK K; refine going ?_
      rw [num_wrap]
      refine run_op fun K hK => ?_; rw [build_struct (ps := [(0, .string (str (gotP k nUser).v)), (1, .string (str (gotP k nRealm).v)), (2, .string (str (gotP k nNonce).v)), (3, .string (str (gotP k nUri).v)), (4, .string (str (gotP k nCnonce).v)), (5, .string (str (gotP k nOpaque).v)), (6, b32 (numW (uhE (gotP k nNc).v).1)), (7, .slice pa (uhE (gotP k nResp).v).1.length pk)]) (cs := (encA (anL k) pa pk).toArray) rfl]; refine hK _ _ ?_; clear hK K
      refine going ?_
      refine run_op fun K hK => ?_; refine store_all (vs := encA (anL k) pa pk) rfl (rcell_A _ _ _) (by (repeat (first | with_reducible exact Upd.one | with_reducible apply Upd.next))) (by rfl) ?_; refine hK _ _ ?_; clear hK K
      refine going ?_
      refine back_cells (vs := [.agg (encA (anL k) pa pk).toArray, .int .i64 0]) [P] ⟨P, pa, pk, rfl, hP, rfl⟩ (hr := by (intro κ hκ; simp only [resW, withV, lookT_hit, lookT_miss, Nat.reduceBEq]; exact load_all (vs := encA (anL k) pa pk) (by (repeat (first | with_reducible exact Lies.one | with_reducible apply Lies.next))) rfl hκ))
  · rw [bne_iff_ne.2 h0, if_pos h0]
    refine going ?_
    refine run_op fun K hK => ?_; rw [build_struct (ps := []) (cs := (encA a0 none 0).toArray) rfl]; refine hK _ _ ?_; clear hK K
    refine going ?_
    refine run_op fun K hK => ?_; refine store_all (vs := encA a0 none 0) rfl (rcell_A _ _ _) (by (repeat (first | with_reducible exact Upd.one | with_reducible apply Upd.next))) (by rfl) ?_; refine hK _ _ ?_; clear hK K
    refine going ?_
    refine back_cells (vs := [.agg (encA a0 none 0).toArray, .int .i64 (parseE s).2]) [[]] ⟨[], none, 0, rfl, own_nil, rfl⟩ (hr := by (intro κ hκ; simp only [resW, withV, lookT_hit, lookT_miss, Nat.reduceBEq]; exact load_all (vs := encA a0 none 0) (by (repeat (first | with_reducible exact Lies.one | with_reducible apply Lies.next))) rfl hκ))

end Go.Proofs.Ytfoppclmjmpjiaa

/- A challenge of a header, by the document. Conditions: as each says. -/
set_option linter.unusedSimpArgs false
set_option linter.unusedVariables false
namespace Go.Proofs.Ytfoppclmjmpjiaa
open Go Go.Ost

def rpcE (s : List UInt8) : Ch × Int := if (parseE s).2 ≠ 0 then (c0, (parseE s).2) else rpcL (parseE s).1
theorem rcell_C (c : Ch) : ∀ v ∈ encC c, Value.cell1 v := by
  intro v hv
  simp only [encC, List.mem_cons, List.not_mem_nil, or_false] at hv
  rcases hv with rfl | rfl | rfl | rfl <;> simp [Value.cell1]
set_option maxHeartbeats 4000000 in
theorem rpchal_spec (s : List UInt8) (hs : s.length ≤ 100000) : Meets Try.prog 36 [.string (str s)] []
    fun v A => v = .tuple #[.agg (encC (rpcE s).1).toArray, .int .i64 (rpcE s).2] ∧ A = [] := by
  obtain ⟨hpl, hpb⟩ := rparse_bound s
  unfold rpcE
  refine spec_intro Try.func36 rfl (by kernel_rfl) (by rw [Try.ntmps36]; simp) fun F => ?_; rw [Try.ntmps36, Try.results36]
  refine going ?_
  refine run_op fun K hK => ?_; refine alloc_as (encC c0).toArray rfl fun b2 => ?_; refine hK _ _ ?_; clear hK K
  refine going ?_
  refine run_op fun K hK => ?_; refine calls_to (rparse_spec s hs) ?_; rintro v A ⟨X, xa, xk, rfl, hX, rfl⟩; (try simp only [List.nil_append, List.cons_append]); refine hK _ _ ?_; clear hK K; refine going ?_
  by_cases h0 : (parseE s).2 = 0
  · rw [h0, if_neg (by decide)]
    generalize (parseE s).1 = l at *
    have hvb : ∀ p ∈ l, p.v.length ≤ 100000 := fun p hp => by have := hpb p hp; omega
    have hl : l.length ≤ 100000 := by omega
    clear hpl hpb
    refine going ?_
    refine run_op fun K hK => ?_; refine build1 rfl [sv nRealm, sv nNonce, sv nQop, sv nAlg] (by decide) rfl rfl (by simp [Value.cell1]) (fun b21 C21 ho21 => ?_); refine hK _ _ ?_; clear hK K
    refine going ?_
    refine run_op fun K hK => ?_; refine build1 rfl [sv nRealm, sv nNonce, sv nQop, sv nOpaque] (by decide) rfl rfl (by simp [Value.cell1]) (fun b22 C22 ho22 => ?_); refine hK _ _ ?_; clear hK K
    refine going ?_
    have hM : OwnT C21 (some ⟨b21, 0, none⟩) 4 [nRealm, nNonce, nQop, nAlg] := ho21
    have hQ : OwnT C22 (some ⟨b22, 0, none⟩) 4 [nRealm, nNonce, nQop, nOpaque] := ho22
    have hls := rlook_spec hX hl hM hQ (by decide) (by decide)
    rw [show ([nRealm, nNonce, nQop, nAlg] : List (List UInt8)).length = 4 from rfl, show ([nRealm, nNonce, nQop, nOpaque] : List (List UInt8)).length = 4 from rfl] at hls
    clear hM hQ ho21 ho22
    refine run_op fun K hK => ?_; refine calls_to (hls) ?_; rintro v A ⟨rfl, rfl⟩; (try simp only [List.nil_append, List.cons_append]); refine hK _ _ ?_; clear hK K; refine going ?_
    clear hls
    unfold rpcL
    generalize hlk : lookE l [nRealm, nNonce, nQop, nAlg] [nRealm, nNonce, nQop, nOpaque] = lk at *
    obtain ⟨there, right⟩ := lk
    cases there with
    | false =>
      rw [if_pos rfl]
      refine going ?_
      refine run_op fun K hK => ?_; rw [build_struct (ps := []) (cs := (encC c0).toArray) rfl]; refine hK _ _ ?_; clear hK K
      refine going ?_
      refine run_op fun K hK => ?_; refine store_all (vs := encC c0) rfl (rcell_C _) (by (repeat (first | with_reducible exact Upd.one | with_reducible apply Upd.next))) (by rfl) ?_; refine hK _ _ ?_; clear hK K
      refine going ?_
      refine back_cells (vs := [.agg (encC c0).toArray, .int .i64 6]) [] ⟨rfl, rfl⟩ (hr := by (intro κ hκ; simp only [resW, withV, lookT_hit, lookT_miss, Nat.reduceBEq]; exact load_all (vs := encC c0) (by (repeat (first | with_reducible exact Lies.one | with_reducible apply Lies.next))) rfl hκ))
    | true =>
      rw [if_neg (by simp)]
      refine going ?_
      refine run_op fun K hK => ?_; refine calls_to (rfind_spec hX hl nStale) ?_; rintro v A ⟨rfl, rfl⟩; (try simp only [List.nil_append, List.cons_append]); refine hK _ _ ?_; clear hK K; refine going ?_
      refine run_op fun K hK => ?_; refine alloc_as (encP p0).toArray rfl fun b8 => ?_; refine hK _ _ ?_; clear hK K
      refine run_op fun K hK => ?_; refine store_all (vs := encP (gotP l nStale)) rfl (cell_P _) (by (repeat (first | with_reducible exact Upd.one | with_reducible apply Upd.next))) (by rfl) ?_; refine hK _ _ ?_; clear hK K
      (repeat (first | (with_reducible refine run_nil ?_) | ((with_reducible refine run_probe ?_); refine runq_more ?_)))
      (with_reducible refine then_n ?_)
      (with_reducible refine code_seq ?_); refine then_mid (fun D L S => rpcB l = false ∧ D = [] ∧ L = [(4, .slice xa l.length xk), (8, .pointer (some ⟨b8, 0, none⟩)), (2, .pointer (some ⟨b2, 0, none⟩))] ∧ S = [X, rpB b8 (gotP l nStale), [(b2, .cells (encC c0).toArray 57 (0, 0))], F]) ?_ ?_
      · (with_reducible refine code_seq ?_); refine then_mid (fun D L S => D = [] ∧ L = [(65, .bool (rpcB l)), (4, .slice xa l.length xk), (8, .pointer (some ⟨b8, 0, none⟩)), (2, .pointer (some ⟨b2, 0, none⟩))] ∧ S = [X, rpB b8 (gotP l nStale), [(b2, .cells (encC c0).toArray 57 (0, 0))], F]) ?_ ?_
        · refine code_runc ?_
          refine runc_mid7 (fun L S => L = [(40, .bool (hasB l nStale && ((gotP l nStale).v != nTrue))), (7, .bool right), (4, .slice xa l.length xk), (8, .pointer (some ⟨b8, 0, none⟩)), (2, .pointer (some ⟨b2, 0, none⟩))] ∧ S = [X, rpB b8 (gotP l nStale), [(b2, .cells (encC c0).toArray 57 (0, 0))], F]) ?_ ?_
          · cases hasB l nStale with
            | false =>
              refine going ?_
              exact midr ⟨rfl, rfl⟩
            | true =>
              refine going ?_
              (try rw [show ((gotP l nStale).v != [116, 114, 117, 101]) = ((gotP l nStale).v != nTrue) from rfl])
              exact midr ⟨rfl, rfl⟩
          rintro L S ⟨rfl, rfl⟩
          generalize hc1 : (hasB l nStale && ((gotP l nStale).v != nTrue)) = c1
          refine runc_mid5 (fun L S => L = [(45, .bool (c1 && ((gotP l nStale).v != nFalse))), (7, .bool right), (4, .slice xa l.length xk), (8, .pointer (some ⟨b8, 0, none⟩)), (2, .pointer (some ⟨b2, 0, none⟩))] ∧ S = [X, rpB b8 (gotP l nStale), [(b2, .cells (encC c0).toArray 57 (0, 0))], F]) ?_ ?_
          · cases c1 with
            | false =>
              refine going ?_
              exact midr ⟨rfl, rfl⟩
            | true =>
              refine going ?_
              (try rw [show ((gotP l nStale).v != [102, 97, 108, 115, 101]) = ((gotP l nStale).v != nFalse) from rfl])
              exact midr ⟨rfl, rfl⟩
          rintro L S ⟨rfl, rfl⟩
          generalize hc2 : (c1 && ((gotP l nStale).v != nFalse)) = c2
          refine runc_mid4 (fun L S => L = [(49, .bool (c2 || !right)), (4, .slice xa l.length xk), (8, .pointer (some ⟨b8, 0, none⟩)), (2, .pointer (some ⟨b2, 0, none⟩))] ∧ S = [X, rpB b8 (gotP l nStale), [(b2, .cells (encC c0).toArray 57 (0, 0))], F]) ?_ ?_
          · cases c2 with
            | true =>
              refine going ?_
              exact midr ⟨rfl, rfl⟩
            | false =>
              refine going ?_
              exact midr ⟨rfl, rfl⟩
          rintro L S ⟨rfl, rfl⟩
          generalize hc3 : (c2 || !right) = c3
          refine runc_mid5 (fun L S => L = [(54, .bool (c3 || ((gotP l nQop).v != nAuth))), (4, .slice xa l.length xk), (8, .pointer (some ⟨b8, 0, none⟩)), (2, .pointer (some ⟨b2, 0, none⟩))] ∧ S = [X, rpB b8 (gotP l nStale), [(b2, .cells (encC c0).toArray 57 (0, 0))], F]) ?_ ?_
          · cases c3 with
            | true =>
              refine going ?_
              exact midr ⟨rfl, rfl⟩
            | false =>
              refine going ?_
              refine run_op fun K hK => ?_; refine calls_to (rvalue_spec hX hl nQop) ?_; rintro v A ⟨rfl, rfl⟩; (try simp only [List.nil_append, List.cons_append]); refine hK _ _ ?_; clear hK K; refine going ?_
              (try rw [show ((gotP l nQop).v != [97, 117, 116, 104]) = ((gotP l nQop).v != nAuth) from rfl])
              exact midr ⟨rfl, rfl⟩
          rintro L S ⟨rfl, rfl⟩
          generalize hc4 : (c3 || ((gotP l nQop).v != nAuth)) = c4
          refine runc_mid6 (fun L S => L = [(60, .bool (c4 || (lowL (gotP l nAlg).v != nSumL))), (4, .slice xa l.length xk), (8, .pointer (some ⟨b8, 0, none⟩)), (2, .pointer (some ⟨b2, 0, none⟩))] ∧ S = [X, rpB b8 (gotP l nStale), [(b2, .cells (encC c0).toArray 57 (0, 0))], F]) ?_ ?_
          · cases c4 with
            | true =>
              refine going ?_
              exact midr ⟨rfl, rfl⟩
            | false =>
              refine going ?_
              refine run_op fun K hK => ?_; refine calls_to (rvalue_spec hX hl nAlg) ?_; rintro v A ⟨rfl, rfl⟩; (try simp only [List.nil_append, List.cons_append]); refine hK _ _ ?_; clear hK K; refine going ?_
              refine run_op fun K hK => ?_; refine calls_to (rlow_spec (gotP l nAlg).v (got_len hvb nAlg)) ?_; rintro v A ⟨rfl, rfl⟩; (try simp only [List.nil_append, List.cons_append]); refine hK _ _ ?_; clear hK K; refine going ?_
              (try rw [show (lowL (gotP l nAlg).v != [115, 104, 97, 45, 50, 53, 54]) = (lowL (gotP l nAlg).v != nSumL) from rfl])
              exact midr ⟨rfl, rfl⟩
          rintro L S ⟨rfl, rfl⟩
          generalize hc5 : (c4 || (lowL (gotP l nAlg).v != nSumL)) = c5
          refine runc_run ?_
          rw [show rpcB l = (c5 || !sizB (gotP l nNonce).v) from by subst hc5 hc4 hc3 hc2 hc1; unfold rpcB; rw [hlk]; simp only [Bool.and_assoc, Bool.or_assoc]]
          cases c5 with
          | true =>
            refine going ?_
            exact mid ⟨rfl, rfl, rfl⟩
          | false =>
            refine going ?_
            refine run_op fun K hK => ?_; refine calls_to (rvalue_spec hX hl nNonce) ?_; rintro v A ⟨rfl, rfl⟩; (try simp only [List.nil_append, List.cons_append]); refine hK _ _ ?_; clear hK K; refine going ?_
            refine run_op fun K hK => ?_; refine calls_to (some_spec (gotP l nNonce).v) ?_; rintro v A ⟨rfl, rfl⟩; (try simp only [List.nil_append, List.cons_append]); refine hK _ _ ?_; clear hK K; refine going ?_
            exact mid ⟨rfl, rfl, rfl⟩
        rintro D L S ⟨rfl, rfl, rfl⟩
        cases hb : rpcB l with
        | true =>
          rw [if_pos rfl]
          refine going ?_
          refine run_op fun K hK => ?_; rw [build_struct (ps := []) (cs := (encC c0).toArray) rfl]; refine hK _ _ ?_; clear hK K
          refine going ?_
          refine run_op fun K hK => ?_; refine store_all (vs := encC c0) rfl (rcell_C _) (by (repeat (first | with_reducible exact Upd.one | with_reducible apply Upd.next))) (by rfl) ?_; refine hK _ _ ?_; clear hK K
          refine going ?_
          refine back_cells (vs := [.agg (encC c0).toArray, .int .i64 4]) [] ⟨rfl, rfl⟩ (hr := by (intro κ hκ; simp only [resW, withV, lookT_hit, lookT_miss, Nat.reduceBEq]; exact load_all (vs := encC c0) (by (repeat (first | with_reducible exact Lies.one | with_reducible apply Lies.next))) rfl hκ))
        | false =>
          refine going ?_
          exact mid ⟨rfl, rfl, rfl, rfl⟩
      rintro D L S ⟨hgood, rfl, rfl, rfl⟩
      rw [if_neg (by rw [hgood]; simp)]
      refine going ?_
      refine code_dr [[], [0], [], [0, 1, 2], [], [0, 1, 2, 3, 4], [], [6], [6, 7], [0, 1, 2, 3, 4, 5, 6, 7, 8], [0, 1, 2, 3, 4, 5, 6, 7, 8, 9], [0, 1, 2, 3, 4, 5, 6, 7, 8, 9, 10]] [(0, false, []), (2, false, []), (4, false, []), (6, false, []), (7, false, []), (8, false, []), (1, true, [7]), (3, true, [7]), (5, true, [7]), (9, false, []), (10, true, []), (11, true, [])] ?_
      refine going ?_
      refine draw_op fun K hK => ?_; refine calls_to (rvalue_spec hX hl nRealm) ?_; rintro v A ⟨rfl, rfl⟩; (try simp only [List.nil_append, List.cons_append]); (repeat refine pend ?_); refine hK _ _ ?_; clear hK K
      refine going ?_
      refine draw_op fun K hK => ?_; refine calls_to (rvalue_spec hX hl nNonce) ?_; rintro v A ⟨rfl, rfl⟩; (try simp only [List.nil_append, List.cons_append]); (repeat refine pend ?_); refine hK _ _ ?_; clear hK K
      refine going ?_
      refine draw_op fun K hK => ?_; refine calls_to (rvalue_spec hX hl nOpaque) ?_; rintro v A ⟨rfl, rfl⟩; (try simp only [List.nil_append, List.cons_append]); (repeat refine pend ?_); refine hK _ _ ?_; clear hK K
      refine going ?_
      rw [show ((gotP l nStale).v == [116, 114, 117, 101]) = ((gotP l nStale).v == nTrue) from rfl]
      refine draw_quiet (by simp only [List.getElem?_toArray, List.getElem?_cons_succ, List.getElem?_cons_zero]; rfl) fun K hK => ?_; (try simp only [gos, gob, Nat.reduceBEq, if_true, reduceIte, reduceCtorEq, Nat.reduceLT, Nat.reduceEqDiff, Nat.reduceAdd, Nat.reduceSub, Int.reduceLT, Int.reduceLE, Int.reduceBEq, Int.reduceBNe, Int.reduceToNat, Int.reduceAdd, Int.reduceSub, Int.reduceMul, Int.reduceDiv, Int.reduceMod, Int.reducePow, Int.toNat_natCast, Nat.sub_zero, goq]); (try (simp (disch := omega) only [gow, gobw]; try simp only [gos, gob, Nat.reduceBEq, if_true, reduceIte, reduceCtorEq, Nat.reduceLT, Nat.reduceEqDiff, Nat.reduceAdd, Nat.reduceSub, Int.reduceLT, Int.reduceLE, Int.reduceBEq, Int.reduceBNe, Int.reduceToNat, Int.reduceAdd, Int.reduceSub, Int.reduceMul, Int.reduceDiv, Int.reduceMod, Int.reducePow, Int.toNat_natCast, Nat.sub_zero, goq])); rw [build_struct (ps := [(0, .string (str (gotP l nRealm).v)), (1, .string (str (gotP l nNonce).v)), (2, .string (str (gotP l nOpaque).v)), (3, .bool ((gotP l nStale).v == nTrue))]) (cs := (encC ⟨(gotP l nRealm).v, (gotP l nNonce).v, (gotP l nOpaque).v, (gotP l nStale).v == nTrue⟩).toArray) rfl]; refine hK _ _ ?_; clear hK K
      refine going ?_
      refine draw_op fun K hK => ?_; refine store_all (vs := encC ⟨(gotP l nRealm).v, (gotP l nNonce).v, (gotP l nOpaque).v, (gotP l nStale).v == nTrue⟩) rfl (rcell_C _) (by (repeat (first | with_reducible exact Upd.one | with_reducible apply Upd.next))) (by rfl) ?_; (repeat refine pend ?_); refine hK _ _ ?_; clear hK K
      refine going ?_
      refine back_cells (vs := [.agg (encC ⟨(gotP l nRealm).v, (gotP l nNonce).v, (gotP l nOpaque).v, (gotP l nStale).v == nTrue⟩).toArray, .int .i64 0]) [] ⟨rfl, rfl⟩ (hr := by (intro κ hκ; simp only [resW, withV, lookT_hit, lookT_miss, Nat.reduceBEq]; exact load_all (vs := encC ⟨(gotP l nRealm).v, (gotP l nNonce).v, (gotP l nOpaque).v, (gotP l nStale).v == nTrue⟩) (by (repeat (first | with_reducible exact Lies.one | with_reducible apply Lies.next))) rfl hκ))
  · rw [bne_iff_ne.2 h0, if_pos h0]
    refine going ?_
    refine run_op fun K hK => ?_; rw [build_struct (ps := []) (cs := (encC c0).toArray) rfl]; refine hK _ _ ?_; clear hK K
    refine going ?_
    refine run_op fun K hK => ?_; refine store_all (vs := encC c0) rfl (rcell_C _) (by (repeat (first | with_reducible exact Upd.one | with_reducible apply Upd.next))) (by rfl) ?_; refine hK _ _ ?_; clear hK K
    refine going ?_
    refine back_cells (vs := [.agg (encC c0).toArray, .int .i64 (parseE s).2]) [] ⟨rfl, rfl⟩ (hr := by (intro κ hκ; simp only [resW, withV, lookT_hit, lookT_miss, Nat.reduceBEq]; exact load_all (vs := encC c0) (by (repeat (first | with_reducible exact Lies.one | with_reducible apply Lies.next))) rfl hκ))

end Go.Proofs.Ytfoppclmjmpjiaa

/- The statement DigestParses. Conditions: as each says. -/
set_option linter.unusedSimpArgs false
set_option linter.unusedVariables false
namespace Go.Proofs.Ytfoppclmjmpjiaa
open Go Go.Ost Go.Sha

theorem rpc_same (s : List UInt8) : rpcE s = pcE s := by
  unfold rpcE pcE; rw [pc_same]
theorem rpa_same (s : List UInt8) : rpaE s = paE s := by
  unfold rpaE paE; rw [pa_same]

set_option maxHeartbeats 8000000 in
theorem DigestParses_law (C : Chunk) (_ : True) (s0 : List UInt8) (_ : (⟨⟨s0⟩⟩ : ByteArray).size ≤ maxLen) :
    Meets Try.prog 9 [.string ⟨⟨s0⟩⟩] [C] fun v A => v = .bool true ∧ A = [C] := by
  rw [show Value.string ⟨⟨s0⟩⟩ = .string (str s0) from rfl]
  refine spec_intro Try.func9 rfl (by kernel_rfl) (by rw [Try.ntmps9]; simp) fun F => ?_; rw [Try.ntmps9, Try.results9]
  refine going ?_
  refine run_op fun K hK => ?_; refine calls_to (awake_spec) ?_; rintro v A ⟨rfl, rfl⟩; (try simp only [List.nil_append, List.cons_append]); refine hK _ _ ?_; clear hK K; refine going ?_
  refine run_op fun K hK => ?_; refine calls_to (cuttext_spec s0 4200) ?_; rintro v A ⟨rfl, rfl⟩; (try simp only [List.nil_append, List.cons_append]); refine hK _ _ ?_; clear hK K; refine going ?_
  have hl : (s0.take 4200).length ≤ 4200 := by rw [List.length_take]; omega
  generalize s0.take 4200 = s at *
  obtain ⟨hpl, hpb⟩ := parse_bound s
  have h1 := rpchal_spec s (by omega)
  have h2 := rpans_spec s (by omega)
  rw [rpc_same] at h1
  rw [rpa_same] at h2
  refine run_op fun K hK => ?_; refine calls_to (parse_spec s (by omega)) ?_; rintro v A ⟨X, xa, xk, rfl, hX, rfl⟩; (try simp only [List.nil_append, List.cons_append]); refine hK _ _ ?_; clear hK K; refine going ?_
  refine run_op fun K hK => ?_; refine calls_to (rparse_spec s (by omega)) ?_; rintro v A ⟨Y, ya, yk, rfl, hY, rfl⟩; (try simp only [List.nil_append, List.cons_append]); refine hK _ _ ?_; clear hK K; refine going ?_
  refine run_op fun K hK => ?_; refine calls_to (pchal_spec s (by omega)) ?_; rintro v A ⟨rfl, rfl⟩; (try simp only [List.nil_append, List.cons_append]); refine hK _ _ ?_; clear hK K; refine going ?_
  refine run_op fun K hK => ?_; refine alloc_as (encC c0).toArray rfl fun b7 => ?_; refine hK _ _ ?_; clear hK K
  refine run_op fun K hK => ?_; refine store_all (vs := encC (pcE s).1) rfl (cell_C _) (by (repeat (first | with_reducible exact Upd.one | with_reducible apply Upd.next))) (by rfl) ?_; refine hK _ _ ?_; clear hK K
  refine going ?_
  refine run_op fun K hK => ?_; refine calls_to (h1) ?_; rintro v A ⟨rfl, rfl⟩; (try simp only [List.nil_append, List.cons_append]); refine hK _ _ ?_; clear hK K; refine going ?_
  refine run_op fun K hK => ?_; refine alloc_as (encC c0).toArray rfl fun b9 => ?_; refine hK _ _ ?_; clear hK K
  refine run_op fun K hK => ?_; refine store_all (vs := encC (pcE s).1) rfl (cell_C _) (by (repeat (first | with_reducible exact Upd.one | with_reducible apply Upd.next))) (by rfl) ?_; refine hK _ _ ?_; clear hK K
  refine going ?_
  refine run_op fun K hK => ?_; refine calls_to (pans_spec s (by omega)) ?_; rintro v A ⟨P, pa, pk, rfl, hP, rfl⟩; (try simp only [List.nil_append, List.cons_append]); refine hK _ _ ?_; clear hK K; refine going ?_
  refine run_op fun K hK => ?_; refine alloc_as (encA a0 none 0).toArray rfl fun b11 => ?_; refine hK _ _ ?_; clear hK K
  refine run_op fun K hK => ?_; refine store_all (vs := encA (paE s).1 pa pk) rfl (cell_A _ _ _) (by (repeat (first | with_reducible exact Upd.one | with_reducible apply Upd.next))) (by rfl) ?_; refine hK _ _ ?_; clear hK K
  refine going ?_
  refine run_op fun K hK => ?_; refine calls_to (h2) ?_; rintro v A ⟨Q, qa, qk, rfl, hQ, rfl⟩; (try simp only [List.nil_append, List.cons_append]); refine hK _ _ ?_; clear hK K; refine going ?_
  refine run_op fun K hK => ?_; refine alloc_as (encA a0 none 0).toArray rfl fun b13 => ?_; refine hK _ _ ?_; clear hK K
  refine run_op fun K hK => ?_; refine store_all (vs := encA (paE s).1 qa qk) rfl (cell_A _ _ _) (by (repeat (first | with_reducible exact Upd.one | with_reducible apply Upd.next))) (by rfl) ?_; refine hK _ _ ?_; clear hK K
  refine going ?_
  generalize (parseE s).1 = l at *
  refine run_op fun K hK => ?_; refine calls_to (back_spec hX (by omega)) ?_; rintro v A ⟨Z, za, zk, rfl, hZ, rfl⟩; (try simp only [List.nil_append, List.cons_append]); refine hK _ _ ?_; clear hK K; refine going ?_
  refine run_op fun K hK => ?_; refine calls_to (equal_spec hZ hY (by omega)) ?_; rintro v A ⟨rfl, rfl⟩; (try simp only [List.nil_append, List.cons_append]); refine hK _ _ ?_; clear hK K; refine going ?_
  refine run_op fun K hK => ?_; refine load_all (vs := encC (pcE s).1) (by (repeat (first | with_reducible exact Lies.one | with_reducible apply Lies.next))) rfl ?_; refine hK _ _ ?_; clear hK K
  refine going ?_
  refine run_op fun K hK => ?_; refine load_all (vs := encC (pcE s).1) (by (repeat (first | with_reducible exact Lies.one | with_reducible apply Lies.next))) rfl ?_; refine hK _ _ ?_; clear hK K
  refine run_op fun K hK => ?_; rw [agg_eql (eqC (pcE s).1)]; refine hK _ _ ?_; clear hK K
  refine going ?_
  refine run_op fun K hK => ?_; refine load_all (vs := encA (paE s).1 pa pk) (by (repeat (first | with_reducible exact Lies.one | with_reducible apply Lies.next))) rfl ?_; refine hK _ _ ?_; clear hK K
  refine going ?_
  refine run_op fun K hK => ?_; refine load_all (vs := encA (paE s).1 qa qk) (by (repeat (first | with_reducible exact Lies.one | with_reducible apply Lies.next))) rfl ?_; refine hK _ _ ?_; clear hK K
  refine going ?_
  refine run_op fun K hK => ?_; refine calls_to (sameans_spec (paE s).1 (P := P) (Q := Q) (hP.rd (List.mem_cons_self ..)) (hQ.rd (List.mem_cons_self ..))) ?_; rintro v A ⟨rfl, rfl⟩; (try simp only [List.nil_append, List.cons_append]); refine hK _ _ ?_; clear hK K; refine going ?_
  refine back_tmp [C] ?_; exact ⟨rfl, rfl⟩

end Go.Proofs.Ytfoppclmjmpjiaa
