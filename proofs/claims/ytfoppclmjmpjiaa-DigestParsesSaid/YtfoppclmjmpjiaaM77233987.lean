/- Texts in a row: the walk's rules and contracts, as each says. Conditions: as each says. -/
import Derived.Test.YtfoppclmjmpjiaaMf6b7c41b
import Derived.Test.YtfoppclmjmpjiaaM98a3435e
import Derived.Test.YtfoppclmjmpjiaaM1bd2b66d
import Derived.Test.YtfoppclmjmpjiaaM8f6a7144
import Derived.Test.YtfoppclmjmpjiaaM07fc157c
/- Digits read, by the document. Conditions: as each says. -/
set_option linter.unusedSimpArgs false
set_option linter.unusedVariables false
namespace Go.Proofs.Ytfoppclmjmpjiaa
open Go Go.Ost Go.Sha

theorem dv_at : ∀ j < 16, dv (digits.getD j 0) = j := by decide +kernel
theorem dv_no {c : UInt8} (h : ∀ j < 16, digits.getD j 0 ≠ c) : dv c = -1 := by
  have key : ∀ l : List UInt8, (∀ x ∈ l, x ≠ c) → Lib.indexByte l c = -1 := by
    intro l
    induction l with
    | nil => intro _; rfl
    | cons b l ih =>
      intro h
      have e : Lib.indexByte (b :: l) c = if (b == c) = true then (0 : Int) else if (Lib.indexByte l c == -1) = true then -1 else Lib.indexByte l c + 1 := rfl
      rw [e, if_neg (by simpa using h b (List.mem_cons_self ..)), ih fun x hx => h x (List.mem_cons_of_mem _ hx)]; rfl
  refine key digits fun x hx => ?_
  obtain ⟨j, hj⟩ := List.mem_iff_getElem?.1 hx
  have hlt := (List.getElem?_eq_some_iff.1 hj).1
  have := h j hlt
  rw [List.getD_eq_getElem?_getD, hj] at this
  exact this
theorem uhF_snoc {a b : UInt8} (ha : 0 ≤ dv a) (hb : 0 ≤ dv b) : ∀ (k : Nat) (t l : List UInt8), t.length ≤ k → uhF t = some l → uhF (t ++ [a, b]) = some (l ++ [UInt8.ofNat (16 * (dv a).toNat + (dv b).toNat)])
  | _, [], l, _, h => by
    simp [uhF] at h; subst h
    show (if dv a < 0 ∨ dv b < 0 then none else _) = _
    rw [if_neg (by omega)]; rfl
  | _, [x], l, _, h => by simp [uhF] at h
  | 0, x :: y :: t, l, hk, h => by simp at hk
  | k + 1, x :: y :: t, l, hk, h => by
    simp only [uhF] at h
    show (if dv x < 0 ∨ dv y < 0 then none else _) = _
    split at h
    · cases h
    · rename_i hxy
      rw [if_neg hxy]
      cases hr : uhF t with
      | none => rw [hr] at h; cases h
      | some m =>
        rw [hr] at h; cases h
        have ih := uhF_snoc ha hb k t m (by simp only [List.length_cons] at hk; omega) hr
        rw [List.append_eq] at *
        rw [ih]; rfl
theorem uhF_no {c : UInt8} (hc : dv c < 0) : ∀ (k : Nat) (s : List UInt8), s.length ≤ k → c ∈ s → uhF s = none
  | _, [], _, h => by cases h
  | _, [x], _, h => rfl
  | 0, x :: y :: t, hk, h => by simp at hk
  | k + 1, x :: y :: t, hk, h => by
    rw [uhF]
    rcases List.mem_cons.1 h with rfl | h
    · rw [if_pos (.inl hc)]
    · rcases List.mem_cons.1 h with rfl | h
      · rw [if_pos (.inr hc)]
      · rw [uhF_no hc k t (by simp only [List.length_cons] at hk; omega) h]
        split <;> rfl

set_option maxHeartbeats 4000000 in
theorem runhex_spec (s : List UInt8) (hs : s.length ≤ 100000) : Meets Try.prog 70 [.string (str s)] []
    fun v A => ∃ X a k, v = .tuple #[.slice a (uhE s).1.length k, .int .i64 (uhE s).2] ∧ Own8 5 X a (uhE s).1.length k (uhE s).1 ∧ A = [X] := by
  have eD : Value.string ⟨#[48, 49, 50, 51, 52, 53, 54, 55, 56, 57, 97, 98, 99, 100, 101, 102]⟩ = .string (str digits) := rfl
  have hdl : digits.length = 16 := rfl
  refine spec_intro Try.func70 rfl (by kernel_rfl) (by rw [Try.ntmps70]; simp) fun F => ?_; rw [Try.ntmps70, Try.results70]
  refine code_nil ?_
  refine going ?_
  by_cases h2 : s.length % 2 = 0
  · rw [bne_eq_false_iff_eq.2 (show (s.length : Int) % 2 = 0 by omega)]
    refine going ?_
    refine loop_i (fun q D L S => ∃ (i : Nat) (out : List UInt8) (X : Chunk) (xa : Option Addr) (xc : Nat), i ≤ s.length ∧ out.length ≤ i ∧
      ((i % 2 = 0 ∧ uhF (s.take i) = some out) ∨ (i % 2 = 1 ∧ ∃ o1, uhF (s.take (i - 1)) = some o1 ∧ 0 ≤ dv (s.getD (i - 1) 0) ∧ out = o1 ++ [UInt8.ofNat (16 * (dv (s.getD (i - 1) 0)).toNat)])) ∧
      Own8 5 X xa out.length xc out ∧ q = s.length - i ∧ D = [] ∧ L = [(5, .int .i64 i), (4, .slice xa out.length xc), (0, .string (str s))] ∧ S = [X, F])
      ⟨0, [], [], none, 0, by omega, by simp, .inl ⟨rfl, rfl⟩, own_nil, rfl, rfl, rfl, rfl⟩ ?_
    rintro q D L S ⟨i, out, X, xa, xc, hi, hol, hcase, hX, rfl, rfl, rfl, rfl⟩
    refine going ?_
    refine if_d (fun hc => ?_) (fun hc => ?_)
    · have hil : i < s.length := by omega
      have hmem : s.getD i 0 ∈ s := by
        rw [List.getD_eq_getElem?_getD, List.getElem?_eq_getElem hil]; exact List.getElem_mem hil
      have htk : s.take (i + 1) = s.take i ++ [s.getD i 0] := by
        rw [List.take_add_one, List.getD_eq_getElem?_getD, List.getElem?_eq_getElem hil]; rfl
      refine going ?_
      refine loop_i (fun q D L S => ∃ (n : Nat) (w : Int), n ≤ 16 ∧ ((w = -1 ∧ ∀ j < n, digits.getD j 0 ≠ s.getD i 0) ∨ (w = dv (s.getD i 0) ∧ 0 ≤ w)) ∧ q = 16 - n ∧ D = [] ∧
        L = [(7, .int .i64 n), (6, .int .i64 w), (5, .int .i64 i), (4, .slice xa out.length xc), (0, .string (str s))] ∧ S = [X, F])
        ⟨0, -1, by omega, .inl ⟨rfl, fun j hj => absurd hj (Nat.not_lt_zero j)⟩, rfl, rfl, rfl, rfl⟩ ?_
      rintro q D L S ⟨n, w, hn, hw, rfl, rfl, rfl, rfl⟩
      refine going ?_
      refine if_d (fun hc => ?_) (fun hc => ?_)
      · have hnl : n < 16 := by omega
        have hdat := dv_at n hnl
        refine going ?_
        refine code_dr [[], [0], [], [], [2, 3], [0, 1, 2, 3, 4]] [(0, false, []), (1, false, []), (2, false, []), (3, false, []), (4, false, []), (5, false, [])] ?_
        refine going ?_
        refine draw_quiet (by simp only [List.getElem?_toArray, List.getElem?_cons_succ, List.getElem?_cons_zero]; rfl) fun K hK => ?_; (try simp only [gos, gob, Nat.reduceBEq, if_true, reduceIte, reduceCtorEq, Nat.reduceLT, Nat.reduceEqDiff, Nat.reduceAdd, Nat.reduceSub, Int.reduceLT, Int.reduceLE, Int.reduceBEq, Int.reduceBNe, Int.reduceToNat, Int.reduceAdd, Int.reduceSub, Int.reduceMul, Int.reduceDiv, Int.reduceMod, Int.reducePow, Int.toNat_natCast, Nat.sub_zero, goq]); (try (simp (disch := omega) only [gow, gobw]; try simp only [gos, gob, Nat.reduceBEq, if_true, reduceIte, reduceCtorEq, Nat.reduceLT, Nat.reduceEqDiff, Nat.reduceAdd, Nat.reduceSub, Int.reduceLT, Int.reduceLE, Int.reduceBEq, Int.reduceBNe, Int.reduceToNat, Int.reduceAdd, Int.reduceSub, Int.reduceMul, Int.reduceDiv, Int.reduceMod, Int.reducePow, Int.toNat_natCast, Nat.sub_zero, goq])); rw [eD, sidx (by omega) (by show (n : Int) < (16 : Nat); omega)]; refine hK _ _ ?_; clear hK K
        (try rw [show ((n : Int)).toNat = n from by omega])
        refine going ?_
        cases he : (digits.getD n 0 == s.getD i 0) with
        | true =>
          have heq := eq_of_beq he
          (try rw [he])
          (try rw [show (((digits.getD n 0).toNat : Int) == ((s.getD i 0).toNat : Int)) = true from by rw [heq]; simp])
          refine going ?_
          exact again ⟨n + 1, n, by omega, .inr ⟨by rw [← heq, hdat], by omega⟩, rfl, rfl, rfl, rfl⟩
        | false =>
          have hne := beq_eq_false_iff_ne.1 he
          (try rw [he])
          refine going ?_
          refine again ⟨n + 1, w, by omega, ?_, rfl, rfl, rfl, rfl⟩
          rcases hw with ⟨h1, h3⟩ | h1
          · refine .inl ⟨h1, fun j hj => ?_⟩
            rcases Nat.lt_or_ge j n with h | h
            · exact h3 j h
            · obtain rfl : j = n := by omega
              exact hne
          · exact .inr h1
      · obtain rfl : n = 16 := by omega
        have hwd : w = dv (s.getD i 0) := by
          rcases hw with ⟨h1, h3⟩ | ⟨h1, _⟩
          · rw [h1, dv_no h3]
          · exact h1
        have hdr := dv_range (s.getD i 0)
        clear hw
        generalize hcc : s.getD i 0 = cc at *
        refine going ?_
        by_cases hw0 : 0 ≤ w
        · rw [decide_eq_false (show ¬ w < 0 by omega)]
          refine going ?_
          by_cases hev : i % 2 = 0
          · obtain ⟨_, hu⟩ | ⟨h, _⟩ := hcase
            · rw [beq_iff_eq.2 (show (i : Int) % 2 = 0 by omega)]
              refine going ?_
              have e1 : Value.int .u8 (16 * w) = b8 (UInt8.ofNat (16 * (dv cc).toNat)) := by
                simp only [b8, UInt8.toNat_ofNat']
                congr 1; omega
              rw [e1]
              refine run_op fun K hK => ?_; refine build8 ([UInt8.ofNat (16 * (dv cc).toNat)]) (by decide) rfl (rfl) (fun b7 C7 ho7 => ?_); refine hK _ _ ?_; clear hK K
              refine going ?_
              refine run_op fun K hK => ?_; refine app8 (hX) (by (repeat (first | with_reducible exact Pick.head _ _ | with_reducible apply Pick.tail))) ((ho7.rd (List.mem_cons_self ..)).mem (by (repeat (first | with_reducible assumption | with_reducible exact List.mem_cons_self .. | with_reducible apply List.mem_cons_of_mem)))) (by omega) (fun C9 a9 cap9 ho9 => ?_); refine hK _ _ ?_; clear hK K
              rw [show out.length + 1 = (out ++ [UInt8.ofNat (16 * (dv cc).toNat)]).length from by simp] at ho9 ⊢
              refine going ?_
              exact again ⟨i + 1, out ++ [UInt8.ofNat (16 * (dv cc).toNat)], C9, a9, cap9, by omega, by simp; omega, .inr ⟨by omega, out, by rw [Nat.add_sub_cancel]; exact hu, by rw [Nat.add_sub_cancel, hcc]; omega, by rw [Nat.add_sub_cancel, hcc]⟩, ho9, rfl, rfl, rfl, rfl⟩
            · omega
          · obtain ⟨h, _⟩ | ⟨_, o1, hu, hv0, hout⟩ := hcase
            · omega
            have hr1 := dv_range (s.getD (i - 1) 0)
            have htk2 : s.take (i + 1) = s.take (i - 1) ++ [s.getD (i - 1) 0, cc] := by
              have e1 : s.take i = s.take (i - 1) ++ [s.getD (i - 1) 0] := by
                have h1 : i - 1 < s.length := by omega
                have h3 : i = i - 1 + 1 := by omega
                rw [show s.take i = s.take (i - 1 + 1) from by rw [← h3], List.take_add_one, List.getD_eq_getElem?_getD, List.getElem?_eq_getElem h1]; rfl
              rw [htk, e1]; simp
            have hsn := uhF_snoc (a := s.getD (i - 1) 0) (b := cc) hv0 (by omega) _ _ _ (Nat.le_refl _) hu
            rw [← htk2] at hsn
            generalize dv (s.getD (i - 1) 0) = v1 at *
            have hol1 : out.length = o1.length + 1 := by rw [hout]; simp
            have hgo : out.getD o1.length 0 = UInt8.ofNat (16 * v1.toNat) := by rw [hout]; simp
            have hset : out.set o1.length (UInt8.ofNat (16 * v1.toNat + (dv cc).toNat)) = o1 ++ [UInt8.ofNat (16 * v1.toNat + (dv cc).toNat)] := by rw [hout]; simp
            rw [beq_eq_false_iff_ne.2 (show (i : Int) % 2 ≠ 0 by omega)]
            refine going ?_
            (try rw [show ((out.length : Int) - 1).toNat = o1.length from by omega])
            (try rw [hgo, show b8 (UInt8.ofNat (16 * v1.toNat)) = .int .u8 (16 * v1) from by simp only [b8, UInt8.toNat_ofNat']; congr 1; omega])
            refine going ?_
            (try rw [show ((out.length : Int) - 1).toNat = o1.length from by omega])
            have e1 : Value.int .u8 (16 * v1 + w) = b8 (UInt8.ofNat (16 * v1.toNat + (dv cc).toNat)) := by
              simp only [b8, UInt8.toNat_ofNat']
              congr 1; omega
            refine run_op fun K hK => ?_; rw [e1]; refine own_store8 hX (by (repeat (first | with_reducible exact Pick.head _ _ | with_reducible apply Pick.tail))) (by omega) (fun X2 hX2 => ?_); refine hK _ _ ?_; clear hK K
            rw [hset, show out.length = (o1 ++ [UInt8.ofNat (16 * v1.toNat + (dv cc).toNat)]).length from by rw [hol1]; simp] at hX2
            rw [show Value.slice xa out.length xc = .slice xa (o1 ++ [UInt8.ofNat (16 * v1.toNat + (dv cc).toNat)]).length xc from by rw [hol1]; simp]
            refine going ?_
            exact again ⟨i + 1, o1 ++ [UInt8.ofNat (16 * v1.toNat + (dv cc).toNat)], X2, xa, xc, by omega, by rw [List.length_append, List.length_singleton]; omega, .inl ⟨by omega, hsn⟩, hX2, rfl, rfl, rfl, rfl⟩
        · have hno : uhE s = ([], 5) := by
            unfold uhE
            rw [if_neg (by omega), uhF_no (c := cc) (by omega) _ s (Nat.le_refl _) hmem]
          rw [decide_eq_true (show w < 0 by omega), hno]
          refine code_nil ?_
          refine going ?_
          refine back_cells (vs := [.slice none 0 0, .int .i64 5]) [[]] ⟨[], none, 0, rfl, own_nil, rfl⟩
    · obtain rfl : i = s.length := by omega
      rw [List.take_length] at hcase
      have hfin : uhE s = (out, 0) := by
        rcases hcase with ⟨_, h⟩ | ⟨h, _⟩
        · unfold uhE; rw [if_neg (by omega), h]
        · omega
      rw [hfin]
      refine going ?_
      refine back_cells (vs := [.slice xa out.length xc, .int .i64 0]) [X] ⟨X, xa, xc, rfl, hX, rfl⟩
  · have hodd : uhE s = ([], 2) := by unfold uhE; rw [if_pos h2]
    rw [hodd, bne_iff_ne.2 (show (s.length : Int) % 2 ≠ 0 by omega)]
    refine going ?_
    refine back_cells (vs := [.slice none 0 0, .int .i64 2]) [[]] ⟨[], none, 0, rfl, own_nil, rfl⟩

theorem same_spec {X Y : Chunk} {xa ya : Option Addr} {xc yc : Nat} {p : List UInt8} (hX : Rd 1 [X] xa p.length (p.map b8)) (hY : Rd 1 [Y] ya p.length (p.map b8)) : Meets Try.prog 66 [.slice xa p.length xc, .slice ya p.length yc] [X, Y]
    fun v A => v = .bool true ∧ A = [X, Y] := by
  refine spec_intro Try.func66 rfl (by kernel_rfl) (by rw [Try.ntmps66]; simp) fun F => ?_; rw [Try.ntmps66, Try.results66]
  refine going ?_
  refine run_op fun K hK => ?_; refine conv_bytes_string (hX.mem (by (repeat (first | with_reducible assumption | with_reducible exact List.mem_cons_self .. | with_reducible apply List.mem_cons_of_mem)))) ?_; refine hK _ _ ?_; clear hK K
  refine going ?_
  refine run_op fun K hK => ?_; refine conv_bytes_string (hY.mem (by (repeat (first | with_reducible assumption | with_reducible exact List.mem_cons_self .. | with_reducible apply List.mem_cons_of_mem)))) ?_; refine hK _ _ ?_; clear hK K
  refine going ?_
  refine back_tmp [X, Y] ?_; exact ⟨by simp, rfl⟩

end Go.Proofs.Ytfoppclmjmpjiaa

/- An answer's header, in the document. Conditions: as each says. -/
set_option linter.unusedSimpArgs false
set_option linter.unusedVariables false
namespace Go.Proofs.Ytfoppclmjmpjiaa
open Go Go.Ost Go.Sha

instance tprAnT : TPlaces Try.prog 65 [(0, 1), (1, 1), (2, 1), (3, 1), (4, 1), (5, 1), (6, 1), (7, 1)] := ⟨by kernel_rfl⟩
set_option maxHeartbeats 8000000 in
theorem rantext_spec (a : An) (h1 : a.u.length ≤ 4000) (h2 : a.r.length ≤ 4000) (h3 : a.n.length ≤ 4000) (h4 : a.uri.length ≤ 4000) (h5 : a.cn.length ≤ 4000) (h6 : a.o.length ≤ 4000) (h7 : a.pf.length ≤ 1000)
    {P : Chunk} {pa : Option Addr} {pk : Nat} (hP : Rd 1 [P] pa a.pf.length (a.pf.map b8)) : Meets Try.prog 32 [.agg (encA a pa pk).toArray] [P]
    fun v A => v = .tuple #[.string (str (anText a).1), .int .i64 (anText a).2] ∧ A = [P] := by
  have hcl := an_len a
  have hcb := an_bound h1 h2 h3 h4 h5 h6 h7
  obtain ⟨au, ar, an, ai, ak, ao, ac, ap⟩ := a
  simp only at h1 h2 h3 h4 h5 h6 h7 hP
  have hx64 := ac.isLt
  have hct : anText ⟨au, ar, an, ai, ak, ao, ac, ap⟩ = if (sizB an && (sizB ak && decide ((ap.length : Int) = 32))) = false then ([], 4) else printE (anPar ⟨au, ar, an, ai, ak, ao, ac, ap⟩) := rfl
  have hcp : anPar ⟨au, ar, an, ai, ak, ao, ac, ap⟩ = [(⟨nUser, au, true⟩ : Par), ⟨nRealm, ar, true⟩, ⟨nNonce, an, true⟩, ⟨nUri, ai, true⟩, ⟨nQop, nAuth, false⟩, ⟨nNc, hex (bytes4 ac), false⟩, ⟨nCnonce, ak, true⟩, ⟨nResp, hex ap, true⟩] ++ opqP ao ++ [⟨nAlg, nSum, false⟩] := rfl
  rw [hct]
  refine spec_intro Try.func32 rfl (by kernel_rfl) (by rw [Try.ntmps32]; simp) fun F => ?_; rw [Try.ntmps32, Try.results32]
  refine going ?_
  refine run_op fun K hK => ?_; refine box_new fun b1 => ?_; (try simp only [Value.cells]); refine hK _ _ ?_; clear hK K
  refine going ?_
  refine run_op fun K hK => ?_; refine calls_to (some_spec an) ?_; rintro v A ⟨rfl, rfl⟩; (try simp only [List.nil_append, List.cons_append]); refine hK _ _ ?_; clear hK K; refine going ?_
  cases hz1 : sizB an with
  | false =>
    rw [if_pos (by rfl)]
    refine going ?_
    refine back_cells (vs := [.string (str []), .int .i64 4]) [P] ⟨rfl, rfl⟩
  | true =>
    refine going ?_
    refine run_op fun K hK => ?_; refine calls_to (some_spec ak) ?_; rintro v A ⟨rfl, rfl⟩; (try simp only [List.nil_append, List.cons_append]); refine hK _ _ ?_; clear hK K; refine going ?_
    cases hz2 : sizB ak with
    | false =>
      rw [if_pos (by rfl)]
      refine going ?_
      refine back_cells (vs := [.string (str []), .int .i64 4]) [P] ⟨rfl, rfl⟩
    | true =>
      refine going ?_
      by_cases hz3 : (ap.length : Int) = 32
      · rw [bne_eq_false_iff_eq.2 hz3, if_neg (by rw [decide_eq_true hz3]; simp)]
        refine going ?_
        refine code_dr [[], [0], [0, 1], [], [3], [3, 4], [], [6], [6, 7], [], [9], [9, 10], [], [], [13], [13, 14], [13, 14, 15], [13, 14, 15, 16], [13, 14, 15, 16, 17], [], [19], [19, 20], [], [22], [13, 14, 15, 16, 17, 22, 23], [13, 14, 15, 16, 17, 22, 23, 24], [0, 1, 2, 3, 4, 5, 6, 7, 8, 9, 10, 11, 12, 13, 14, 15, 16, 17, 18, 19, 20, 21, 22, 23, 24, 25], [0, 1, 2, 3, 4, 5, 6, 7, 8, 9, 10, 11, 12, 13, 14, 15, 16, 17, 18, 19, 20, 21, 22, 23, 24, 25, 26]] [(0, false, []), (1, false, []), (2, false, []), (3, false, []), (4, false, []), (5, false, []), (6, false, []), (7, false, []), (8, false, []), (9, false, []), (10, false, []), (11, false, []), (12, false, []), (13, false, []), (14, false, []), (15, false, []), (19, false, []), (20, false, []), (21, false, []), (22, false, []), (23, false, []), (16, true, [1, 4, 7, 10, 20, 23]), (17, true, [1, 4, 7, 10, 20, 23]), (18, false, []), (24, true, [1, 4, 7, 10, 20]), (25, false, []), (26, true, []), (27, true, [])] ?_
        refine going ?_
        refine draw_quiet (by simp only [List.getElem?_toArray, List.getElem?_cons_succ, List.getElem?_cons_zero]; rfl) fun K hK => ?_; (try simp only [gos, gob, Nat.reduceBEq, if_true, reduceIte, reduceCtorEq, Nat.reduceLT, Nat.reduceEqDiff, Nat.reduceAdd, Nat.reduceSub, Int.reduceLT, Int.reduceLE, Int.reduceBEq, Int.reduceBNe, Int.reduceToNat, Int.reduceAdd, Int.reduceSub, Int.reduceMul, Int.reduceDiv, Int.reduceMod, Int.reducePow, Int.toNat_natCast, Nat.sub_zero, goq]); (try (simp (disch := omega) only [gow, gobw]; try simp only [gos, gob, Nat.reduceBEq, if_true, reduceIte, reduceCtorEq, Nat.reduceLT, Nat.reduceEqDiff, Nat.reduceAdd, Nat.reduceSub, Int.reduceLT, Int.reduceLE, Int.reduceBEq, Int.reduceBNe, Int.reduceToNat, Int.reduceAdd, Int.reduceSub, Int.reduceMul, Int.reduceDiv, Int.reduceMod, Int.reducePow, Int.toNat_natCast, Nat.sub_zero, goq])); rw [build_struct (ps := [(0, .string ⟨#[117, 115, 101, 114, 110, 97, 109, 101]⟩), (1, .string (str au)), (2, .bool true)]) (cs := (encP ⟨nUser, au, true⟩).toArray) rfl]; refine hK _ _ ?_; clear hK K
        refine going ?_
        refine draw_quiet (by simp only [List.getElem?_toArray, List.getElem?_cons_succ, List.getElem?_cons_zero]; rfl) fun K hK => ?_; (try simp only [gos, gob, Nat.reduceBEq, if_true, reduceIte, reduceCtorEq, Nat.reduceLT, Nat.reduceEqDiff, Nat.reduceAdd, Nat.reduceSub, Int.reduceLT, Int.reduceLE, Int.reduceBEq, Int.reduceBNe, Int.reduceToNat, Int.reduceAdd, Int.reduceSub, Int.reduceMul, Int.reduceDiv, Int.reduceMod, Int.reducePow, Int.toNat_natCast, Nat.sub_zero, goq]); (try (simp (disch := omega) only [gow, gobw]; try simp only [gos, gob, Nat.reduceBEq, if_true, reduceIte, reduceCtorEq, Nat.reduceLT, Nat.reduceEqDiff, Nat.reduceAdd, Nat.reduceSub, Int.reduceLT, Int.reduceLE, Int.reduceBEq, Int.reduceBNe, Int.reduceToNat, Int.reduceAdd, Int.reduceSub, Int.reduceMul, Int.reduceDiv, Int.reduceMod, Int.reducePow, Int.toNat_natCast, Nat.sub_zero, goq])); rw [build_struct (ps := [(0, .string ⟨#[114, 101, 97, 108, 109]⟩), (1, .string (str ar)), (2, .bool true)]) (cs := (encP ⟨nRealm, ar, true⟩).toArray) rfl]; refine hK _ _ ?_; clear hK K
        refine going ?_
        refine draw_quiet (by simp only [List.getElem?_toArray, List.getElem?_cons_succ, List.getElem?_cons_zero]; rfl) fun K hK => ?_; (try simp only [gos, gob, Nat.reduceBEq, if_true, reduceIte, reduceCtorEq, Nat.reduceLT, Nat.reduceEqDiff, Nat.reduceAdd, Nat.reduceSub, Int.reduceLT, Int.reduceLE, Int.reduceBEq, Int.reduceBNe, Int.reduceToNat, Int.reduceAdd, Int.reduceSub, Int.reduceMul, Int.reduceDiv, Int.reduceMod, Int.reducePow, Int.toNat_natCast, Nat.sub_zero, goq]); (try (simp (disch := omega) only [gow, gobw]; try simp only [gos, gob, Nat.reduceBEq, if_true, reduceIte, reduceCtorEq, Nat.reduceLT, Nat.reduceEqDiff, Nat.reduceAdd, Nat.reduceSub, Int.reduceLT, Int.reduceLE, Int.reduceBEq, Int.reduceBNe, Int.reduceToNat, Int.reduceAdd, Int.reduceSub, Int.reduceMul, Int.reduceDiv, Int.reduceMod, Int.reducePow, Int.toNat_natCast, Nat.sub_zero, goq])); rw [build_struct (ps := [(0, .string ⟨#[110, 111, 110, 99, 101]⟩), (1, .string (str an)), (2, .bool true)]) (cs := (encP ⟨nNonce, an, true⟩).toArray) rfl]; refine hK _ _ ?_; clear hK K
        refine going ?_
        refine draw_quiet (by simp only [List.getElem?_toArray, List.getElem?_cons_succ, List.getElem?_cons_zero]; rfl) fun K hK => ?_; (try simp only [gos, gob, Nat.reduceBEq, if_true, reduceIte, reduceCtorEq, Nat.reduceLT, Nat.reduceEqDiff, Nat.reduceAdd, Nat.reduceSub, Int.reduceLT, Int.reduceLE, Int.reduceBEq, Int.reduceBNe, Int.reduceToNat, Int.reduceAdd, Int.reduceSub, Int.reduceMul, Int.reduceDiv, Int.reduceMod, Int.reducePow, Int.toNat_natCast, Nat.sub_zero, goq]); (try (simp (disch := omega) only [gow, gobw]; try simp only [gos, gob, Nat.reduceBEq, if_true, reduceIte, reduceCtorEq, Nat.reduceLT, Nat.reduceEqDiff, Nat.reduceAdd, Nat.reduceSub, Int.reduceLT, Int.reduceLE, Int.reduceBEq, Int.reduceBNe, Int.reduceToNat, Int.reduceAdd, Int.reduceSub, Int.reduceMul, Int.reduceDiv, Int.reduceMod, Int.reducePow, Int.toNat_natCast, Nat.sub_zero, goq])); rw [build_struct (ps := [(0, .string ⟨#[117, 114, 105]⟩), (1, .string (str ai)), (2, .bool true)]) (cs := (encP ⟨nUri, ai, true⟩).toArray) rfl]; refine hK _ _ ?_; clear hK K
        refine going ?_
        refine draw_quiet (by simp only [List.getElem?_toArray, List.getElem?_cons_succ, List.getElem?_cons_zero]; rfl) fun K hK => ?_; (try simp only [gos, gob, Nat.reduceBEq, if_true, reduceIte, reduceCtorEq, Nat.reduceLT, Nat.reduceEqDiff, Nat.reduceAdd, Nat.reduceSub, Int.reduceLT, Int.reduceLE, Int.reduceBEq, Int.reduceBNe, Int.reduceToNat, Int.reduceAdd, Int.reduceSub, Int.reduceMul, Int.reduceDiv, Int.reduceMod, Int.reducePow, Int.toNat_natCast, Nat.sub_zero, goq]); (try (simp (disch := omega) only [gow, gobw]; try simp only [gos, gob, Nat.reduceBEq, if_true, reduceIte, reduceCtorEq, Nat.reduceLT, Nat.reduceEqDiff, Nat.reduceAdd, Nat.reduceSub, Int.reduceLT, Int.reduceLE, Int.reduceBEq, Int.reduceBNe, Int.reduceToNat, Int.reduceAdd, Int.reduceSub, Int.reduceMul, Int.reduceDiv, Int.reduceMod, Int.reducePow, Int.toNat_natCast, Nat.sub_zero, goq])); rw [build_struct (ps := [(0, .string ⟨#[113, 111, 112]⟩), (1, .string ⟨#[97, 117, 116, 104]⟩), (2, .bool false)]) (cs := (encP ⟨nQop, nAuth, false⟩).toArray) rfl]; refine hK _ _ ?_; clear hK K
        refine going ?_
        refine draw_quiet (by simp only [List.getElem?_toArray, List.getElem?_cons_succ, List.getElem?_cons_zero]; rfl) fun K hK => ?_; (try simp only [gos, gob, Nat.reduceBEq, if_true, reduceIte, reduceCtorEq, Nat.reduceLT, Nat.reduceEqDiff, Nat.reduceAdd, Nat.reduceSub, Int.reduceLT, Int.reduceLE, Int.reduceBEq, Int.reduceBNe, Int.reduceToNat, Int.reduceAdd, Int.reduceSub, Int.reduceMul, Int.reduceDiv, Int.reduceMod, Int.reducePow, Int.toNat_natCast, Nat.sub_zero, goq]); (try (simp (disch := omega) only [gow, gobw]; try simp only [gos, gob, Nat.reduceBEq, if_true, reduceIte, reduceCtorEq, Nat.reduceLT, Nat.reduceEqDiff, Nat.reduceAdd, Nat.reduceSub, Int.reduceLT, Int.reduceLE, Int.reduceBEq, Int.reduceBNe, Int.reduceToNat, Int.reduceAdd, Int.reduceSub, Int.reduceMul, Int.reduceDiv, Int.reduceMod, Int.reducePow, Int.toNat_natCast, Nat.sub_zero, goq])); rw [build_struct (ps := [(0, .string ⟨#[99, 110, 111, 110, 99, 101]⟩), (1, .string (str ak)), (2, .bool true)]) (cs := (encP ⟨nCnonce, ak, true⟩).toArray) rfl]; refine hK _ _ ?_; clear hK K
        refine going ?_
        have hbb := refbytes_spec ac.toNat 4 (by omega) (by decide)
        rw [bytes4_be] at hbb
        refine draw_op fun K hK => ?_; refine calls_to (hbb) ?_; rintro v A ⟨B, ba, bk, rfl, hB, rfl⟩; (try simp only [List.nil_append, List.cons_append]); (repeat refine pend ?_); refine hK _ _ ?_; clear hK K
        refine going ?_
        refine draw_op fun K hK => ?_; refine calls_to (refhex_spec B ba bk (bytes4 ac) (by rw [show (bytes4 ac).length = 4 from rfl]; decide) (hB.rd (List.mem_cons_self ..))) ?_; rintro v A ⟨rfl, rfl⟩; (try simp only [List.nil_append, List.cons_append]); (repeat refine pend ?_); refine hK _ _ ?_; clear hK K
        refine going ?_
        refine draw_quiet (by simp only [List.getElem?_toArray, List.getElem?_cons_succ, List.getElem?_cons_zero]; rfl) fun K hK => ?_; (try simp only [gos, gob, Nat.reduceBEq, if_true, reduceIte, reduceCtorEq, Nat.reduceLT, Nat.reduceEqDiff, Nat.reduceAdd, Nat.reduceSub, Int.reduceLT, Int.reduceLE, Int.reduceBEq, Int.reduceBNe, Int.reduceToNat, Int.reduceAdd, Int.reduceSub, Int.reduceMul, Int.reduceDiv, Int.reduceMod, Int.reducePow, Int.toNat_natCast, Nat.sub_zero, goq]); (try (simp (disch := omega) only [gow, gobw]; try simp only [gos, gob, Nat.reduceBEq, if_true, reduceIte, reduceCtorEq, Nat.reduceLT, Nat.reduceEqDiff, Nat.reduceAdd, Nat.reduceSub, Int.reduceLT, Int.reduceLE, Int.reduceBEq, Int.reduceBNe, Int.reduceToNat, Int.reduceAdd, Int.reduceSub, Int.reduceMul, Int.reduceDiv, Int.reduceMod, Int.reducePow, Int.toNat_natCast, Nat.sub_zero, goq])); rw [build_struct (ps := [(0, .string ⟨#[110, 99]⟩), (1, .string (str (hex (bytes4 ac)))), (2, .bool false)]) (cs := (encP ⟨nNc, hex (bytes4 ac), false⟩).toArray) rfl]; refine hK _ _ ?_; clear hK K
        refine going ?_
        refine draw_op fun K hK => ?_; refine calls_to (refhex_spec P pa pk ap (by omega) hP) ?_; rintro v A ⟨rfl, rfl⟩; (try simp only [List.nil_append, List.cons_append]); (repeat refine pend ?_); refine hK _ _ ?_; clear hK K
        refine going ?_
        refine draw_quiet (by simp only [List.getElem?_toArray, List.getElem?_cons_succ, List.getElem?_cons_zero]; rfl) fun K hK => ?_; (try simp only [gos, gob, Nat.reduceBEq, if_true, reduceIte, reduceCtorEq, Nat.reduceLT, Nat.reduceEqDiff, Nat.reduceAdd, Nat.reduceSub, Int.reduceLT, Int.reduceLE, Int.reduceBEq, Int.reduceBNe, Int.reduceToNat, Int.reduceAdd, Int.reduceSub, Int.reduceMul, Int.reduceDiv, Int.reduceMod, Int.reducePow, Int.toNat_natCast, Nat.sub_zero, goq]); (try (simp (disch := omega) only [gow, gobw]; try simp only [gos, gob, Nat.reduceBEq, if_true, reduceIte, reduceCtorEq, Nat.reduceLT, Nat.reduceEqDiff, Nat.reduceAdd, Nat.reduceSub, Int.reduceLT, Int.reduceLE, Int.reduceBEq, Int.reduceBNe, Int.reduceToNat, Int.reduceAdd, Int.reduceSub, Int.reduceMul, Int.reduceDiv, Int.reduceMod, Int.reducePow, Int.toNat_natCast, Nat.sub_zero, goq])); rw [build_struct (ps := [(0, .string ⟨#[114, 101, 115, 112, 111, 110, 115, 101]⟩), (1, .string (str (hex ap))), (2, .bool true)]) (cs := (encP ⟨nResp, hex ap, true⟩).toArray) rfl]; refine hK _ _ ?_; clear hK K
        refine going ?_
        refine draw_op fun K hK => ?_; refine build_els (n := 8) (e := 37) (s := 3) (hs := inferInstance) [encP ⟨nUser, au, true⟩, encP ⟨nRealm, ar, true⟩, encP ⟨nNonce, an, true⟩, encP ⟨nUri, ai, true⟩, encP ⟨nQop, nAuth, false⟩, encP ⟨nNc, hex (bytes4 ac), false⟩, encP ⟨nCnonce, ak, true⟩, encP ⟨nResp, hex ap, true⟩] (by rfl) rfl (by decide) (by decide) (by decide) (by intro r hr; simp only [List.mem_cons, List.not_mem_nil, or_false] at hr; rcases hr with rfl | rfl | rfl | rfl | rfl | rfl | rfl | rfl <;> rfl) (fun b2 C2 ho2 => ?_); (repeat refine pend ?_); refine hK _ _ ?_; clear hK K
        have hX2 : OwnR C2 (some ⟨b2, 0, none⟩) 8 [(⟨nUser, au, true⟩ : Par), ⟨nRealm, ar, true⟩, ⟨nNonce, an, true⟩, ⟨nUri, ai, true⟩, ⟨nQop, nAuth, false⟩, ⟨nNc, hex (bytes4 ac), false⟩, ⟨nCnonce, ak, true⟩, ⟨nResp, hex ap, true⟩] := ho2
        clear ho2
        rw [show Value.slice (some ⟨b2, 0, none⟩) 8 8 = .slice (some ⟨b2, 0, none⟩) ([(⟨nUser, au, true⟩ : Par), ⟨nRealm, ar, true⟩, ⟨nNonce, an, true⟩, ⟨nUri, ai, true⟩, ⟨nQop, nAuth, false⟩, ⟨nNc, hex (bytes4 ac), false⟩, ⟨nCnonce, ak, true⟩, ⟨nResp, hex ap, true⟩] : List Par).length 8 from rfl]
        have hl0 : ([(⟨nUser, au, true⟩ : Par), ⟨nRealm, ar, true⟩, ⟨nNonce, an, true⟩, ⟨nUri, ai, true⟩, ⟨nQop, nAuth, false⟩, ⟨nNc, hex (bytes4 ac), false⟩, ⟨nCnonce, ak, true⟩, ⟨nResp, hex ap, true⟩] : List Par).length = 8 := rfl
        generalize ([(⟨nUser, au, true⟩ : Par), ⟨nRealm, ar, true⟩, ⟨nNonce, an, true⟩, ⟨nUri, ai, true⟩, ⟨nQop, nAuth, false⟩, ⟨nNc, hex (bytes4 ac), false⟩, ⟨nCnonce, ak, true⟩, ⟨nResp, hex ap, true⟩] : List Par) = l0 at *
        generalize (some ⟨b2, 0, none⟩ : Option Addr) = a2 at *
        refine going ?_
        refine then_mid (fun D L S => ∃ (X3 : Chunk) (a3 : Option Addr) (k3 : Nat), OwnR X3 a3 k3 (l0 ++ opqP ao) ∧ D = [] ∧ L = [(4, .slice a3 (l0 ++ opqP ao).length k3), (1, .pointer (some ⟨b1, 0, none⟩))] ∧ S = [X3, [(b1, .cells (encA ⟨au, ar, an, ai, ak, ao, ac, ap⟩ pa pk).toArray 65 (0, 0))], F, P]) ?_ ?_
        · by_cases hs : ao = []
          · have ho : opqP ao = [] := if_pos hs
            rw [ho, List.append_nil, bne_eq_false_iff_eq.2 hs]
            refine going ?_
            exact mid ⟨C2, a2, 8, hX2, rfl, rfl, rfl⟩
          · have ho : opqP ao = [⟨nOpaque, ao, true⟩] := if_neg hs
            rw [ho, bne_iff_ne.2 hs]
            refine going ?_
            refine run_op fun K hK => ?_; rw [build_struct (ps := [(0, .string ⟨#[111, 112, 97, 113, 117, 101]⟩), (1, (.string (str ao))), (2, .bool true)]) (cs := (encP ⟨nOpaque, ao, true⟩).toArray) rfl]; refine hK _ _ ?_; clear hK K
            refine going ?_
            refine run_op fun K hK => ?_; refine build_el1 (e := 37) (s := 3) (hs := inferInstance) (vs := encP (⟨nOpaque, ao, true⟩ : Par)) (by rfl) (by decide) (by decide) rfl (fun b5 C5 ho5 => ?_); refine hK _ _ ?_; clear hK K
            refine run_op fun K hK => ?_; refine append_own (e := 37) (s := 3) (hs := inferInstance) (by rfl) (by decide) hX2 (.inr (by (repeat (first | with_reducible exact Pick.head _ _ | with_reducible apply Pick.tail)))) (ho5.rd (by (repeat (first | with_reducible assumption | with_reducible exact List.mem_cons_self .. | with_reducible apply List.mem_cons_of_mem)))) (cell_P _) (by simp only [maxLen]; omega) (by omega) (fun X5 a5 k5 hX5 => ?_); refine hK _ _ ?_; clear hK K
            have e1 : (l0).length + 1 = (l0 ++ [(⟨nOpaque, ao, true⟩ : Par)]).length := by simp
            have e2 : (l0).flatMap encP ++ encP (⟨nOpaque, ao, true⟩ : Par) = (l0 ++ [(⟨nOpaque, ao, true⟩ : Par)]).flatMap encP := by simp
            rw [e1, e2] at hX5
            rw [e1]
            clear e1 e2
            refine going ?_
            exact mid ⟨X5, a5, k5, hX5, rfl, rfl, rfl⟩
        rintro D L S ⟨X3, a3, k3, hX3, rfl, rfl, rfl⟩
        have hl3 : (l0 ++ opqP ao).length ≤ 9 := by rw [List.length_append]; unfold opqP; split <;> simp <;> omega
        generalize l0 ++ opqP ao = l1 at *
        refine going ?_
        refine run_op fun K hK => ?_; rw [build_struct (ps := [(0, .string ⟨#[97, 108, 103, 111, 114, 105, 116, 104, 109]⟩), (1, (.string ⟨#[83, 72, 65, 45, 50, 53, 54]⟩)), (2, .bool false)]) (cs := (encP ⟨nAlg, nSum, false⟩).toArray) rfl]; refine hK _ _ ?_; clear hK K
        refine going ?_
        refine run_op fun K hK => ?_; refine build_el1 (e := 37) (s := 3) (hs := inferInstance) (vs := encP (⟨nAlg, nSum, false⟩ : Par)) (by rfl) (by decide) (by decide) rfl (fun b6 C6 ho6 => ?_); refine hK _ _ ?_; clear hK K
        refine run_op fun K hK => ?_; refine append_own (e := 37) (s := 3) (hs := inferInstance) (by rfl) (by decide) hX3 (.inr (by (repeat (first | with_reducible exact Pick.head _ _ | with_reducible apply Pick.tail)))) (ho6.rd (by (repeat (first | with_reducible assumption | with_reducible exact List.mem_cons_self .. | with_reducible apply List.mem_cons_of_mem)))) (cell_P _) (by simp only [maxLen]; omega) (by omega) (fun X6 a6 k6 hX6 => ?_); refine hK _ _ ?_; clear hK K
        have e1 : (l1).length + 1 = (l1 ++ [(⟨nAlg, nSum, false⟩ : Par)]).length := by simp
        have e2 : (l1).flatMap encP ++ encP (⟨nAlg, nSum, false⟩ : Par) = (l1 ++ [(⟨nAlg, nSum, false⟩ : Par)]).flatMap encP := by simp
        rw [e1, e2] at hX6
        rw [e1]
        clear e1 e2
        rw [← hcp] at hX6 ⊢
        refine run_op fun K hK => ?_; refine calls_to (rprint_spec hX6 hcl hcb) ?_; rintro v A ⟨rfl, rfl⟩; (try simp only [List.nil_append, List.cons_append]); refine hK _ _ ?_; clear hK K; refine going ?_
        refine back_cells (vs := [.string (str (printE (anPar ⟨au, ar, an, ai, ak, ao, ac, ap⟩)).1), .int .i64 (printE (anPar ⟨au, ar, an, ai, ak, ao, ac, ap⟩)).2]) [P] ⟨rfl, rfl⟩
      · rw [bne_iff_ne.2 hz3, if_pos (by rw [decide_eq_false hz3]; rfl)]
        refine going ?_
        refine back_cells (vs := [.string (str []), .int .i64 4]) [P] ⟨rfl, rfl⟩

end Go.Proofs.Ytfoppclmjmpjiaa

/- The statement DigestAnswers. Conditions: as each says. -/
set_option linter.unusedSimpArgs false
set_option linter.unusedVariables false
namespace Go.Proofs.Ytfoppclmjmpjiaa
open Go Go.Ost Go.Sha

theorem rcut_spec {H : Chunk} {a : Option Addr} {cap : Nat} (p : List UInt8) (hpc : p.length ≤ cap) (hr : Rd 1 [H] a p.length (p.map b8)) (n : Nat) (hn : n ≤ 1000) (hm : p.length ≤ 9223372036854775807) :
    Meets Try.prog 30 [.slice a p.length cap, .int .i64 n] [H] (New8 5 (p.take n) [H]) := by
  refine spec_intro Try.func30 rfl (by kernel_rfl) (by rw [Try.ntmps30]; simp) fun F => ?_; rw [Try.ntmps30, Try.results30]
  refine going ?_
  refine run_op fun K hK => ?_; refine build8 ([]) (by decide) rfl (rfl) (fun b5 C5 ho5 => ?_); refine hK _ _ ?_; clear hK K
  refine going ?_
  have hX : (if ((n : Int) < (p.length : Int)) then (n : Int) else p.length).toNat = (p.take n).length := by rw [List.length_take]; split <;> omega
  rw [hX]
  have hq := rd_cut1 hr (l := 0) (h' := (p.take n).length) (m := cap) (by omega) (by rw [List.length_take]; omega) (by rw [List.length_take]; omega)
  rw [List.drop_zero, Nat.sub_zero, show p.take (p.take n).length = p.take n from by rw [List.length_take]; by_cases h : n ≤ p.length; rw [Nat.min_eq_left h]; rw [Nat.min_eq_right (by omega), List.take_length, List.take_of_length_le (by omega)]] at hq
  refine run_op fun K hK => ?_; refine app8 (ho5) (by (repeat (first | with_reducible exact Pick.head _ _ | with_reducible apply Pick.tail))) (hq.mem (by (repeat (first | with_reducible assumption | with_reducible exact List.mem_cons_self .. | with_reducible apply List.mem_cons_of_mem)))) (by rw [List.length_take]; omega) (fun C9 a9 cap9 ho9 => ?_); refine hK _ _ ?_; clear hK K
  (try simp only [List.nil_append, Nat.zero_add] at ho9 ⊢)
  refine going ?_
  refine back_tmp ([C9, H]) ?_; exact ⟨_, _, _, rfl, ho9, rfl⟩

theorem an_of {C : Chunk} {us : List Value} (h : RowW C [.str, .str, .str, .str, .str, .str, .int .u32, .bytes] us) : ∃ (a : An) (pa : Option Addr) (pk : Nat), us = encA a pa pk ∧ a.pf.length ≤ pk ∧ pk ≤ maxLen ∧ Rd 1 [C] pa a.pf.length (a.pf.map b8) := by
  match us, h with
  | [a, b, c, d, e, f, g, i], ⟨⟨la, ha, _⟩, ⟨lb, hb, _⟩, ⟨lc, hc, _⟩, ⟨ld, hd, _⟩, ⟨le, he, _⟩, ⟨lf, hf, _⟩, ⟨z, hz, hw⟩, ⟨pa, pk, bs, hi, h1, h2, h3⟩, _⟩ =>
    have hz0 : 0 ≤ z ∧ z ≤ 4294967295 := by simp only [Lit.wf, Bool.and_eq_true, decide_eq_true_eq] at hw; exact ⟨hw.1, hw.2⟩
    exact ⟨⟨la, lb, lc, ld, le, lf, BitVec.ofNat 32 z.toNat, bs⟩, pa, pk, by
      have hx : Value.int .u32 z = b32 (BitVec.ofNat 32 z.toNat) := by simp only [b32, BitVec.toNat_ofNat]; congr 1; omega
      rw [ha, hb, hc, hd, he, hf, hz, hi, hx], h1, h2, h3⟩

/-! ### What is printed is read again -/

theorem digit_in : ∀ k < 16, dv (digits.getD k 0) = k := by decide +kernel
theorem uhF_hex : ∀ l : List UInt8, uhF (hex l) = some l
  | [] => rfl
  | b :: l => by
    have hb := b.toNat_lt
    have e : hex (b :: l) = digits.getD (b.toNat / 16) 0 :: digits.getD (b.toNat % 16) 0 :: hex l := rfl
    rw [e, uhF, digit_in _ (by omega), digit_in _ (by omega), if_neg (by omega), uhF_hex l]
    show some (UInt8.ofNat _ :: l) = _
    congr 2
    rw [show 16 * ((b.toNat / 16 : Nat) : Int).toNat + ((b.toNat % 16 : Nat) : Int).toNat = b.toNat from by omega]
    simp
theorem uh_hex (l : List UInt8) : uhE (hex l) = (l, 0) := by
  unfold uhE
  rw [if_neg (by rw [hex_len]; omega), uhF_hex]
theorem num_hex (x : W) : numE (hex (bytes4 x)) = (x, true) := by
  unfold numE
  rw [uh_hex, hex_len]
  have hw : numW (bytes4 x) = x := by
    have h := x.isLt
    rw [← num_same]
    apply BitVec.eq_of_toNat_eq
    rw [BitVec.toNat_ofNat]
    show ((((0 * 256 + (UInt8.ofNat (x.toNat / 16777216)).toNat) * 256 + (UInt8.ofNat (x.toNat / 65536)).toNat) * 256 + (UInt8.ofNat (x.toNat / 256)).toNat) * 256 + (UInt8.ofNat x.toNat).toNat) % 2 ^ 32 = _
    simp only [UInt8.toNat_ofNat']
    omega
  rw [hw]; rfl
theorem pa_good (a : An) (hok : anOk a = true) : paL (anPar a) = (a, 0) := by
  obtain ⟨u, r, n, uri, cn, o, nc, pf⟩ := a
  unfold anOk at hok
  simp only [Bool.and_eq_true] at hok
  obtain ⟨hs1, hs2, hs3⟩ := hok
  have hc : anPar ⟨u, r, n, uri, cn, o, nc, pf⟩ = [(⟨nUser, u, true⟩ : Par), ⟨nRealm, r, true⟩, ⟨nNonce, n, true⟩, ⟨nUri, uri, true⟩, ⟨nQop, nAuth, false⟩, ⟨nNc, hex (bytes4 nc), false⟩, ⟨nCnonce, cn, true⟩, ⟨nResp, hex pf, true⟩] ++ opqP o ++ [⟨nAlg, nSum, false⟩] := rfl
  have key : ∀ l : List Par, hasB l nUser = true → gotP l nUser = ⟨nUser, u, true⟩ → hasB l nRealm = true → gotP l nRealm = ⟨nRealm, r, true⟩ → hasB l nNonce = true → gotP l nNonce = ⟨nNonce, n, true⟩ → hasB l nUri = true → gotP l nUri = ⟨nUri, uri, true⟩ → hasB l nQop = true → gotP l nQop = ⟨nQop, nAuth, false⟩ → hasB l nNc = true → gotP l nNc = ⟨nNc, hex (bytes4 nc), false⟩ → hasB l nCnonce = true → gotP l nCnonce = ⟨nCnonce, cn, true⟩ → hasB l nResp = true → gotP l nResp = ⟨nResp, hex pf, true⟩ → hasB l nAlg = true → gotP l nAlg = ⟨nAlg, nSum, false⟩ → (gotP l nOpaque).v = o → (hasB l nOpaque = true → (gotP l nOpaque).q = true) → paL l = (⟨u, r, n, uri, cn, o, nc, pf⟩, 0) := by
    intro l a0 b0 a1 b1 a2 b2 a3 b3 a4 b4 a5 b5 a6 b6 a7 b7 a8 b8v o1 o2
    have hf : paF l = (false, false) := by
      unfold paF comF
      have g : ∀ (m v : List UInt8) (q : Bool), hasB l m = true → gotP l m = ⟨m, v, q⟩ → getF l m q (false, false) = (false, false) := by
        intro m v q h1 h2
        unfold getF
        rw [h1, h2]; simp
      have f : ∀ b : Bool, b = true → fineF b (false, false) = (false, false) := by
        intro b h; rw [h]; rfl
      rw [g _ _ _ a0 b0, g _ _ _ a1 b1, g _ _ _ a2 b2, f _ (by rw [b2]; exact hs1), g _ _ _ a3 b3, g _ _ _ a6 b6, f _ (by rw [b6]; exact hs2)]
      have m1 : mayF l nOpaque true (false, false) = (false, false) := by
        unfold mayF
        split
        · rename_i h; unfold getF; rw [h, o2 h]; rfl
        · rfl
      rw [m1, g _ _ _ a4 b4, f _ (by rw [b4]; exact beq_self_eq_true _), g _ _ _ a8 b8v, f _ (by rw [b8v]; exact beq_self_eq_true _), g _ _ _ a5 b5, f _ (by rw [b5, num_hex]), g _ _ _ a7 b7]
      exact f _ (by unfold proofB; rw [b7, uh_hex]; simpa using hs3)
    unfold paL anL
    rw [hf, if_neg (by decide), b0, b1, b2, b3, b5, b6, b7, o1, num_hex, uh_hex]
  rw [hc]
  cases o with
  | nil => exact key _ (by kernel_rfl) (by kernel_rfl) (by kernel_rfl) (by kernel_rfl) (by kernel_rfl) (by kernel_rfl) (by kernel_rfl) (by kernel_rfl) (by kernel_rfl) (by kernel_rfl) (by kernel_rfl) (by kernel_rfl) (by kernel_rfl) (by kernel_rfl) (by kernel_rfl) (by kernel_rfl) (by kernel_rfl) (by kernel_rfl) (by kernel_rfl) (fun h => absurd h (show ¬ (false = true) by decide))
  | cons a o =>
    have ho : opqP (a :: o) = [⟨nOpaque, a :: o, true⟩] := if_neg (by simp)
    rw [ho]
    exact key _ (by kernel_rfl) (by kernel_rfl) (by kernel_rfl) (by kernel_rfl) (by kernel_rfl) (by kernel_rfl) (by kernel_rfl) (by kernel_rfl) (by kernel_rfl) (by kernel_rfl) (by kernel_rfl) (by kernel_rfl) (by kernel_rfl) (by kernel_rfl) (by kernel_rfl) (by kernel_rfl) (by kernel_rfl) (by kernel_rfl) (by kernel_rfl) (fun _ => by kernel_rfl)
theorem pa_back {a : An} (h : (anText a).2 = 0) : paE (anText a).1 = (a, 0) ∧ (anText a).1.length ≤ 4096 := by
  unfold anText at h ⊢
  cases hs : anOk a with
  | false => rw [if_pos hs] at h; cases h
  | true =>
    have hs' : ¬ anOk a = false := by rw [hs]; simp
    rw [if_neg hs'] at h
    (first | rw [if_neg hs'] | rw [if_neg (show ¬ (true = false) by decide)])
    refine ⟨?_, print_len h⟩
    unfold paE
    rw [parse_print h, if_neg (by simp)]
    exact pa_good a hs

set_option maxHeartbeats 4000000 in
theorem sameans_spec (a : An) {P Q : Chunk} {pa qa : Option Addr} {pk qk : Nat} (hP : Rd 1 [P] pa a.pf.length (a.pf.map b8)) (hQ : Rd 1 [Q] qa a.pf.length (a.pf.map b8)) :
    Meets Try.prog 34 [.agg (encA a pa pk).toArray, .agg (encA a qa qk).toArray] [P, Q] fun v A => v = .bool true ∧ A = [P, Q] := by
  obtain ⟨u, r, n, uri, cn, o, nc, pf⟩ := a
  refine spec_intro Try.func34 rfl (by kernel_rfl) (by rw [Try.ntmps34]; simp) fun F => ?_; rw [Try.ntmps34, Try.results34]
  refine going ?_
  refine run_op fun K hK => ?_; refine box_new fun b2 => ?_; (try simp only [Value.cells]); refine hK _ _ ?_; clear hK K
  refine run_op fun K hK => ?_; refine box_new fun b3 => ?_; (try simp only [Value.cells]); refine hK _ _ ?_; clear hK K
  refine going ?_
  refine run_op fun K hK => ?_; rw [show b32 nc = Value.int .u32 (nc.toNat : Int) from rfl]; (try simp only [gos, gob, Nat.reduceBEq, if_true, reduceIte, reduceCtorEq, Nat.reduceLT, Nat.reduceEqDiff, Nat.reduceAdd, Nat.reduceSub, Int.reduceLT, Int.reduceLE, Int.reduceBEq, Int.reduceBNe, Int.reduceToNat, Int.reduceAdd, Int.reduceSub, Int.reduceMul, Int.reduceDiv, Int.reduceMod, Int.reducePow, Int.toNat_natCast, Nat.sub_zero]); (try (simp (disch := omega) only [gow, gobw]; try simp only [gos, gob, Nat.reduceBEq, if_true, reduceIte, reduceCtorEq, Nat.reduceLT, Nat.reduceEqDiff, Nat.reduceAdd, Nat.reduceSub, Int.reduceLT, Int.reduceLE, Int.reduceBEq, Int.reduceBNe, Int.reduceToNat, Int.reduceAdd, Int.reduceSub, Int.reduceMul, Int.reduceDiv, Int.reduceMod, Int.reducePow, Int.toNat_natCast, Nat.sub_zero])); refine hK _ _ ?_; clear hK K
  refine going ?_
  refine run_op fun K hK => ?_; refine calls_to (same_spec hP hQ) ?_; rintro v A ⟨rfl, rfl⟩; (try simp only [List.nil_append, List.cons_append]); refine hK _ _ ?_; clear hK K; refine going ?_
  refine back_tmp [P, Q] ?_; exact ⟨rfl, rfl⟩

set_option maxHeartbeats 8000000 in
theorem DigestAnswers_law (C : Chunk) (_ : True) (us : List Value) (hus : RowW C [.str, .str, .str, .str, .str, .str, .int .u32, .bytes] us) :
    Meets Try.prog 8 [.agg us.toArray] [C] fun v A => v = .bool true ∧ A = [C] := by
  obtain ⟨⟨u0, r0, n0, i0, k0, o0, nc, p0⟩, pa, pk, rfl, hk1, hk2, hP0⟩ := an_of hus
  simp only at hk1 hP0
  refine spec_intro Try.func8 rfl (by kernel_rfl) (by rw [Try.ntmps8]; simp) fun F => ?_; rw [Try.ntmps8, Try.results8]
  refine going ?_
  refine run_op fun K hK => ?_; refine box_new fun b1 => ?_; (try simp only [Value.cells]); refine hK _ _ ?_; clear hK K
  refine going ?_
  refine run_op fun K hK => ?_; refine calls_to (awake_spec) ?_; rintro v A ⟨rfl, rfl⟩; (try simp only [List.nil_append, List.cons_append]); refine hK _ _ ?_; clear hK K; refine going ?_
  refine code_dr [[], [0], [0, 1], [], [3], [0, 1, 2, 3, 4], [], [6], [0, 1, 2, 3, 4, 5, 6, 7], [], [9], [0, 1, 2, 3, 4, 5, 6, 7, 8, 9, 10], [0, 1, 2, 3, 4, 6, 7, 9, 10], [0, 1, 2, 3, 4, 5, 6, 7, 8, 9, 10, 11, 12], [0, 1, 2, 3, 4, 5, 6, 7, 8, 9, 10, 11, 12, 13], [0, 1, 2, 3, 4, 5, 6, 7, 8, 9, 10, 11, 12, 13, 14], [0, 1, 2, 3, 4, 5, 6, 7, 8, 9, 10, 11, 12, 13, 14, 15], [0, 1, 2, 3, 4, 5, 6, 7, 8, 9, 10, 11, 12, 13, 14, 15, 16], [0, 1, 2, 3, 4, 5, 6, 7, 8, 9, 10, 11, 12, 13, 14, 15, 16, 17], [0, 1, 2, 3, 4, 5, 6, 7, 8, 9, 10, 11, 12, 13, 14, 15, 16, 17, 18]] [(0, false, []), (1, false, []), (3, false, []), (4, false, []), (6, false, []), (7, false, []), (9, false, []), (10, false, []), (2, true, [4, 7, 10]), (12, false, []), (5, true, [7, 10]), (8, true, [10]), (11, true, []), (13, true, []), (14, false, []), (15, true, []), (16, false, []), (17, true, []), (18, false, []), (19, true, [])] ?_
  refine going ?_
  refine draw_op fun K hK => ?_; refine calls_to (cuttext_spec u0 1500) ?_; rintro v A ⟨rfl, rfl⟩; (try simp only [List.nil_append, List.cons_append]); (repeat refine pend ?_); refine hK _ _ ?_; clear hK K
  refine going ?_
  refine draw_op fun K hK => ?_; refine calls_to (cuttext_spec r0 1500) ?_; rintro v A ⟨rfl, rfl⟩; (try simp only [List.nil_append, List.cons_append]); (repeat refine pend ?_); refine hK _ _ ?_; clear hK K
  refine going ?_
  refine draw_op fun K hK => ?_; refine calls_to (cuttext_spec i0 1500) ?_; rintro v A ⟨rfl, rfl⟩; (try simp only [List.nil_append, List.cons_append]); (repeat refine pend ?_); refine hK _ _ ?_; clear hK K
  refine going ?_
  refine draw_op fun K hK => ?_; refine calls_to (cuttext_spec o0 100) ?_; rintro v A ⟨rfl, rfl⟩; (try simp only [List.nil_append, List.cons_append]); (repeat refine pend ?_); refine hK _ _ ?_; clear hK K
  refine going ?_
  (try (refine draw_op fun K hK => ?_; (first | refine store_box trivial (by (repeat (first | with_reducible exact Upd.one | with_reducible apply Upd.next))) ?_ | refine store_one trivial (by (repeat (first | with_reducible exact Upd.one | with_reducible apply Upd.next))) (by simp) ?_); (repeat refine pend ?_); refine hK _ _ ?_; clear hK K; refine going ?_))
  (try (refine draw_op fun K hK => ?_; (first | refine store_box trivial (by (repeat (first | with_reducible exact Upd.one | with_reducible apply Upd.next))) ?_ | refine store_one trivial (by (repeat (first | with_reducible exact Upd.one | with_reducible apply Upd.next))) (by simp) ?_); (repeat refine pend ?_); refine hK _ _ ?_; clear hK K; refine going ?_))
  (try (refine draw_op fun K hK => ?_; (first | refine store_box trivial (by (repeat (first | with_reducible exact Upd.one | with_reducible apply Upd.next))) ?_ | refine store_one trivial (by (repeat (first | with_reducible exact Upd.one | with_reducible apply Upd.next))) (by simp) ?_); (repeat refine pend ?_); refine hK _ _ ?_; clear hK K; refine going ?_))
  (try (refine draw_op fun K hK => ?_; (first | refine store_box trivial (by (repeat (first | with_reducible exact Upd.one | with_reducible apply Upd.next))) ?_ | refine store_one trivial (by (repeat (first | with_reducible exact Upd.one | with_reducible apply Upd.next))) (by simp) ?_); (repeat refine pend ?_); refine hK _ _ ?_; clear hK K; refine going ?_))
  (try simp only [List.setIfInBounds_toArray, List.set_cons_succ, List.set_cons_zero, List.getElem_toArray, List.getElem_cons_succ, List.getElem_cons_zero])
  refine code_dr [[], [0], [0, 1], [], [3], [0, 1, 2, 3, 4], [], [6], [0, 1, 2, 3, 4, 5, 6, 7], [0, 1, 2, 3, 4, 6, 7], [0, 1, 2, 3, 4, 5, 6, 7, 8, 9], [0, 1, 2, 3, 4, 5, 6, 7, 8, 9, 10], [0, 1, 2, 3, 4, 5, 6, 7, 8, 9, 10, 11], [0, 1, 2, 3, 4, 5, 6, 7, 8, 9, 10, 11, 12], [0, 1, 2, 3, 4, 5, 6, 7, 8, 9, 10, 11, 12, 13]] [(0, false, []), (1, false, []), (3, false, []), (4, false, []), (6, false, []), (7, false, []), (2, true, [4, 7]), (9, false, []), (5, true, [7]), (8, true, []), (10, true, []), (11, false, []), (12, true, []), (13, false, []), (14, true, [])] ?_
  refine going ?_
  refine draw_op fun K hK => ?_; refine calls_to (cuttext_spec n0 70) ?_; rintro v A ⟨rfl, rfl⟩; (try simp only [List.nil_append, List.cons_append]); (repeat refine pend ?_); refine hK _ _ ?_; clear hK K
  refine going ?_
  refine draw_op fun K hK => ?_; refine calls_to (cuttext_spec k0 70) ?_; rintro v A ⟨rfl, rfl⟩; (try simp only [List.nil_append, List.cons_append]); (repeat refine pend ?_); refine hK _ _ ?_; clear hK K
  refine going ?_
  refine draw_op fun K hK => ?_; refine calls_to (rcut_spec p0 hk1 hP0 40 (by decide) (by simp only [maxLen] at hk2; omega)) ?_; rintro v A ⟨Q, qa, qk, rfl, hQ, rfl⟩; (try simp only [List.nil_append, List.cons_append]); (repeat refine pend ?_); refine hK _ _ ?_; clear hK K
  refine going ?_
  (try (refine draw_op fun K hK => ?_; (first | refine store_box trivial (by (repeat (first | with_reducible exact Upd.one | with_reducible apply Upd.next))) ?_ | refine store_one trivial (by (repeat (first | with_reducible exact Upd.one | with_reducible apply Upd.next))) (by simp) ?_); (repeat refine pend ?_); refine hK _ _ ?_; clear hK K; refine going ?_))
  (try (refine draw_op fun K hK => ?_; (first | refine store_box trivial (by (repeat (first | with_reducible exact Upd.one | with_reducible apply Upd.next))) ?_ | refine store_one trivial (by (repeat (first | with_reducible exact Upd.one | with_reducible apply Upd.next))) (by simp) ?_); (repeat refine pend ?_); refine hK _ _ ?_; clear hK K; refine going ?_))
  (try (refine draw_op fun K hK => ?_; (first | refine store_box trivial (by (repeat (first | with_reducible exact Upd.one | with_reducible apply Upd.next))) ?_ | refine store_one trivial (by (repeat (first | with_reducible exact Upd.one | with_reducible apply Upd.next))) (by simp) ?_); (repeat refine pend ?_); refine hK _ _ ?_; clear hK K; refine going ?_))
  (try simp only [List.setIfInBounds_toArray, List.set_cons_succ, List.set_cons_zero, List.getElem_toArray, List.getElem_cons_succ, List.getElem_cons_zero])
  have lu : (u0.take 1500).length ≤ 1500 := by rw [List.length_take]; omega
  generalize u0.take 1500 = u at *
  have lr : (r0.take 1500).length ≤ 1500 := by rw [List.length_take]; omega
  generalize r0.take 1500 = r at *
  have luri : (i0.take 1500).length ≤ 1500 := by rw [List.length_take]; omega
  generalize i0.take 1500 = uri at *
  have lo : (o0.take 100).length ≤ 100 := by rw [List.length_take]; omega
  generalize o0.take 100 = o at *
  have ln : (n0.take 70).length ≤ 70 := by rw [List.length_take]; omega
  generalize n0.take 70 = n at *
  have lcn : (k0.take 70).length ≤ 70 := by rw [List.length_take]; omega
  generalize k0.take 70 = cn at *
  have lpf : (p0.take 40).length ≤ 40 := by rw [List.length_take]; omega
  generalize p0.take 40 = pf at *
  have hQr : Rd 1 [Q] qa pf.length (pf.map b8) := hQ.rd (List.mem_cons_self ..)
  refine run_op fun K hK => ?_; refine load_all (vs := encA ⟨u, r, n, uri, cn, o, nc, pf⟩ qa qk) (by (repeat (first | with_reducible exact Lies.one | with_reducible apply Lies.next))) rfl ?_; refine hK _ _ ?_; clear hK K
  refine going ?_
  refine run_op fun K hK => ?_; refine calls_to (antext_spec (a := ⟨u, r, n, uri, cn, o, nc, pf⟩) (by show u.length ≤ _; omega) (by show r.length ≤ _; omega) (by show n.length ≤ _; omega) (by show uri.length ≤ _; omega) (by show cn.length ≤ _; omega) (by show o.length ≤ _; omega) (by show pf.length ≤ _; omega) hQr) ?_; rintro v A ⟨rfl, rfl⟩; (try simp only [List.nil_append, List.cons_append]); refine hK _ _ ?_; clear hK K; refine going ?_
  refine run_op fun K hK => ?_; refine load_all (vs := encA ⟨u, r, n, uri, cn, o, nc, pf⟩ qa qk) (by (repeat (first | with_reducible exact Lies.one | with_reducible apply Lies.next))) rfl ?_; refine hK _ _ ?_; clear hK K
  refine going ?_
  refine run_op fun K hK => ?_; refine calls_to (rantext_spec (a := ⟨u, r, n, uri, cn, o, nc, pf⟩) (by show u.length ≤ _; omega) (by show r.length ≤ _; omega) (by show n.length ≤ _; omega) (by show uri.length ≤ _; omega) (by show cn.length ≤ _; omega) (by show o.length ≤ _; omega) (by show pf.length ≤ _; omega) hQr) ?_; rintro v A ⟨rfl, rfl⟩; (try simp only [List.nil_append, List.cons_append]); refine hK _ _ ?_; clear hK K; refine going ?_
  by_cases h0 : (anText ⟨u, r, n, uri, cn, o, nc, pf⟩).2 = 0
  · obtain ⟨hpb, hpl⟩ := pa_back h0
    have hps := pans_spec (anText ⟨u, r, n, uri, cn, o, nc, pf⟩).1 (by omega)
    rw [hpb] at hps
    rw [h0]
    refine going ?_
    refine run_op fun K hK => ?_; refine calls_to (hps) ?_; rintro v A ⟨R, ra, rk, rfl, hR, rfl⟩; (try simp only [List.nil_append, List.cons_append]); refine hK _ _ ?_; clear hK K; refine going ?_
    refine run_op fun K hK => ?_; refine alloc_as (encA a0 none 0).toArray rfl fun b7 => ?_; refine hK _ _ ?_; clear hK K
    refine run_op fun K hK => ?_; refine store_all (vs := encA ⟨u, r, n, uri, cn, o, nc, pf⟩ ra rk) rfl (cell_A _ _ _) (by (repeat (first | with_reducible exact Upd.one | with_reducible apply Upd.next))) (by rfl) ?_; refine hK _ _ ?_; clear hK K
    refine going ?_
    refine run_op fun K hK => ?_; refine load_all (vs := encA ⟨u, r, n, uri, cn, o, nc, pf⟩ ra rk) (by (repeat (first | with_reducible exact Lies.one | with_reducible apply Lies.next))) rfl ?_; refine hK _ _ ?_; clear hK K
    refine going ?_
    refine run_op fun K hK => ?_; refine load_all (vs := encA ⟨u, r, n, uri, cn, o, nc, pf⟩ qa qk) (by (repeat (first | with_reducible exact Lies.one | with_reducible apply Lies.next))) rfl ?_; refine hK _ _ ?_; clear hK K
    refine going ?_
    refine run_op fun K hK => ?_; refine calls_to (sameans_spec ⟨u, r, n, uri, cn, o, nc, pf⟩ (P := R) (Q := Q) (hR.rd (List.mem_cons_self ..)) hQr) ?_; rintro v A ⟨rfl, rfl⟩; (try simp only [List.nil_append, List.cons_append]); refine hK _ _ ?_; clear hK K; refine going ?_
    refine back_tmp [C] ?_; exact ⟨rfl, rfl⟩
  · rw [bne_iff_ne.2 h0]
    refine going ?_
    refine back_tmp [C] ?_; exact ⟨rfl, rfl⟩

end Go.Proofs.Ytfoppclmjmpjiaa

/- A parameter of a text, by the document: blanks, a token, the parameter. Conditions: as each says. -/
set_option linter.unusedSimpArgs false
set_option linter.unusedVariables false
namespace Go.Proofs.Ytfoppclmjmpjiaa
open Go Go.Ost

theorem eq_n (c : UInt8) (k : Nat) (hk : k < 256) : (c.toNat : Int) = k ↔ c = UInt8.ofNat k := by
  constructor
  · intro h
    refine UInt8.toNat_inj.1 ?_
    rw [UInt8.toNat_ofNat']; omega
  · rintro rfl
    rw [UInt8.toNat_ofNat']; omega

theorem rspace_spec (s : List UInt8) (i : Nat) (hi : i ≤ s.length) (hs : s.length ≤ 100000) : Meets Try.prog 47 [.string (str s), .int .i64 i] []
    fun v A => (∃ j : Nat, v = .int .i64 j ∧ i ≤ j ∧ j ≤ s.length ∧ s.drop j = spaceL (s.drop i)) ∧ A = [] := by
  refine spec_intro Try.func47 rfl (by kernel_rfl) (by rw [Try.ntmps47]; simp) fun F => ?_; rw [Try.ntmps47, Try.results47]
  refine going ?_
  refine loop_i (fun q D L S => ∃ k : Nat, i ≤ k ∧ k ≤ s.length ∧ spaceL (s.drop k) = spaceL (s.drop i) ∧ q = s.length - k ∧ D = [] ∧ L = [(1, .int .i64 k), (0, .string (str s))] ∧ S = [F])
    ⟨i, by omega, hi, rfl, rfl, rfl, rfl, rfl⟩ ?_
  rintro q D L S ⟨k, hik, hk, hsp, rfl, rfl, rfl, rfl⟩
  refine going ?_
  by_cases hkl : k < s.length
  · have hdr := getD_drop s k hkl
    rw [decide_eq_true (show (k : Int) < s.length by omega)]
    refine going ?_
    by_cases e1 : s.getD k 0 = 32
    · have hb : blank (s.getD k 0) = true := by rw [e1]; rfl
      rw [hdr] at hsp
      rw [beq_iff_eq.2 (show ((s.getD k 0).toNat : Int) = 32 by rw [e1]; rfl)]
      refine going ?_
      exact again ⟨k + 1, by omega, by omega, by rw [← hsp]; unfold spaceL; rw [List.dropWhile_cons, if_pos hb], rfl, rfl, rfl, rfl⟩
    · rw [beq_eq_false_iff_ne.2 (show ((s.getD k 0).toNat : Int) ≠ 32 from fun h => e1 (UInt8.toNat_inj.1 (show (s.getD k 0).toNat = 32 by omega)))]
      refine going ?_
      by_cases e2 : s.getD k 0 = 9
      · have hb : blank (s.getD k 0) = true := by rw [e2]; rfl
        rw [hdr] at hsp
        rw [beq_iff_eq.2 (show ((s.getD k 0).toNat : Int) = 9 by rw [e2]; rfl)]
        refine going ?_
        exact again ⟨k + 1, by omega, by omega, by rw [← hsp]; unfold spaceL; rw [List.dropWhile_cons, if_pos hb], rfl, rfl, rfl, rfl⟩
      · have hb : blank (s.getD k 0) = false := by unfold blank; simp only [decide_eq_false e1, decide_eq_false e2, Bool.or_false]
        rw [beq_eq_false_iff_ne.2 (show ((s.getD k 0).toNat : Int) ≠ 9 from fun h => e2 (UInt8.toNat_inj.1 (show (s.getD k 0).toNat = 9 by omega)))]
        refine going ?_
        refine back_tmp [] ?_; exact ⟨⟨k, rfl, hik, hk, by rw [← hsp, hdr]; unfold spaceL; rw [List.dropWhile_cons, if_neg (by rw [hb]; simp)]⟩, rfl⟩
  · obtain rfl : k = s.length := by omega
    rw [decide_eq_false (show ¬ (s.length : Int) < s.length by omega)]
    refine going ?_
    refine back_tmp [] ?_; exact ⟨⟨s.length, rfl, hik, hk, by rw [← hsp, List.drop_length]; rfl⟩, rfl⟩

theorem word_spec (s : List UInt8) (i : Nat) (hi : i ≤ s.length) (hs : s.length ≤ 100000) : Meets Try.prog 77 [.string (str s), .int .i64 i] []
    fun v A => (∃ j : Nat, v = .int .i64 j ∧ i ≤ j ∧ j ≤ s.length ∧ (s.take j).drop i = tokL (s.drop i) ∧ s.drop j = tokR (s.drop i)) ∧ A = [] := by
  refine spec_intro Try.func77 rfl (by kernel_rfl) (by rw [Try.ntmps77]; simp) fun F => ?_; rw [Try.ntmps77, Try.results77]
  refine going ?_
  refine loop_i (fun q D L S => ∃ k : Nat, i ≤ k ∧ k ≤ s.length ∧ ((s.drop i).take (k - i)).all tcB = true ∧ q = s.length - k ∧ D = [] ∧ L = [(1, .int .i64 k), (0, .string (str s))] ∧ S = [F])
    ⟨i, by omega, hi, by simp, rfl, rfl, rfl, rfl⟩ ?_
  rintro q D L S ⟨k, hik, hk, hall, rfl, rfl, rfl, rfl⟩
  have hll : (s.drop i).length = s.length - i := List.length_drop
  have hdd : (s.drop i).drop (k - i) = s.drop k := by rw [List.drop_drop]; congr 1; omega
  refine going ?_
  by_cases hkl : k < s.length
  · have hnx := all_take_next (p := tcB) (s.drop i) (k - i) (by omega)
    have hgd : (s.drop i).getD (k - i) 0 = s.getD k 0 := by
      simp only [List.getD_eq_getElem?_getD, List.getElem?_drop]
      rw [show i + (k - i) = k from by omega]
    rw [hgd] at hnx
    rw [decide_eq_true (show (k : Int) < s.length by omega)]
    refine going ?_
    have htc := rtchar_spec (s.getD k 0)
    refine run_op fun K hK => ?_; refine calls_to (htc) ?_; rintro v A ⟨rfl, rfl⟩; (try simp only [List.nil_append, List.cons_append]); refine hK _ _ ?_; clear hK K; refine going ?_
    cases h1 : tcB (s.getD k 0) with
    | true =>
      refine going ?_
      exact again ⟨k + 1, by omega, by omega, by rw [show k + 1 - i = k - i + 1 from by omega, hnx, hall, h1]; rfl, rfl, rfl, rfl, rfl⟩
    | false =>
      obtain ⟨e1, e2⟩ := tok_at (s.drop i) (k - i) hall (.inr ⟨by omega, by rw [hgd]; exact h1⟩)
      refine going ?_
      refine back_tmp [] ?_; exact ⟨⟨k, rfl, hik, hk, by rw [e1, cut_cut], by rw [e2, hdd]⟩, rfl⟩
  · obtain rfl : k = s.length := by omega
    obtain ⟨e1, e2⟩ := tok_at (s.drop i) (s.length - i) hall (.inl (by omega))
    rw [decide_eq_false (show ¬ (s.length : Int) < s.length by omega)]
    refine going ?_
    refine back_tmp [] ?_; exact ⟨⟨s.length, rfl, hik, hk, by rw [e1, cut_cut], by rw [e2, hdd]⟩, rfl⟩

/-- What one tells. -/
def oneR (s : List UInt8) (i : Nat) (p : Par) (e : Int) : Prop :=
  (oneE (s.drop i) = none ∧ e = -1) ∨ ∃ j : Nat, oneE (s.drop i) = some (p, s.drop j) ∧ e = j ∧ j ≤ s.length
theorem word_nil {s t : List UInt8} {i j : Nat} (hij : i ≤ j) (hj : j ≤ s.length) (htl : (s.take j).drop i = t) : t = [] ↔ j = i := by
  rw [← htl]
  constructor
  · intro h
    have := congrArg List.length h
    rw [List.length_drop, List.length_take, List.length_nil] at this; omega
  · rintro rfl
    exact List.drop_eq_nil_of_le (by rw [List.length_take]; omega)

set_option maxHeartbeats 2000000 in
theorem rone_spec (s : List UInt8) (i : Nat) (hi : i ≤ s.length) (hs : s.length ≤ 100000) : Meets Try.prog 46 [.string (str s), .int .i64 i] []
    fun v A => ∃ (p : Par) (e : Int), v = .tuple #[.agg (encP p).toArray, .int .i64 e] ∧ A = [] ∧ oneR s i p e := by
  refine spec_intro Try.func46 rfl (by kernel_rfl) (by rw [Try.ntmps46]; simp) fun F => ?_; rw [Try.ntmps46, Try.results46]
  refine going ?_
  refine run_op fun K hK => ?_; refine alloc_as (encP p0).toArray rfl fun b4 => ?_; refine hK _ _ ?_; clear hK K
  refine going ?_
  refine run_op fun K hK => ?_; refine calls_to (word_spec s i hi hs) ?_; rintro v A ⟨⟨j, rfl, hij, hj, htl, htr⟩, rfl⟩; (try simp only [List.nil_append, List.cons_append]); refine hK _ _ ?_; clear hK K; refine going ?_
  rw [htl]
  have hll : (tokL (s.drop i)).length ≤ s.length := by have := tokL_len (s.drop i); rw [List.length_drop] at this; omega
  refine run_op fun K hK => ?_; refine calls_to (rlow_spec (tokL (s.drop i)) (by omega)) ?_; rintro v A ⟨rfl, rfl⟩; (try simp only [List.nil_append, List.cons_append]); refine hK _ _ ?_; clear hK K; refine going ?_
  refine run_op fun K hK => ?_; rw [build_struct (ps := [(0, .string (str (lowL (tokL (s.drop i)))))]) (cs := (encP ⟨lowL (tokL (s.drop i)), [], false⟩).toArray) rfl]; refine hK _ _ ?_; clear hK K
  refine going ?_
  refine run_op fun K hK => ?_; refine alloc_as (encP p0).toArray rfl fun b7 => ?_; refine hK _ _ ?_; clear hK K
  refine run_op fun K hK => ?_; refine store_all (vs := encP ⟨lowL (tokL (s.drop i)), [], false⟩) rfl (cell_P _) (by (repeat (first | with_reducible exact Upd.one | with_reducible apply Upd.next))) (by rfl) ?_; refine hK _ _ ?_; clear hK K
  refine going ?_
  refine run_op fun K hK => ?_; refine calls_to (rspace_spec s j hj hs) ?_; rintro v A ⟨⟨k, rfl, hjk, hk, hsp⟩, rfl⟩; (try simp only [List.nil_append, List.cons_append]); refine hK _ _ ?_; clear hK K; refine going ?_
  rw [htr] at hsp
  have hno := word_nil hij hj htl
  by_cases e1 : j = i
  · rw [beq_iff_eq.2 (show (j : Int) = i by omega)]
    refine going ?_
    refine run_op fun K hK => ?_; rw [build_struct (ps := []) (cs := (encP p0).toArray) rfl]; refine hK _ _ ?_; clear hK K
    refine going ?_
    refine run_op fun K hK => ?_; refine store_all (vs := encP p0) rfl (cell_P _) (by (repeat (first | with_reducible exact Upd.one | with_reducible apply Upd.next))) (by rfl) ?_; refine hK _ _ ?_; clear hK K
    refine going ?_
    refine back_cells (vs := [.agg (encP p0).toArray, .int .i64 (-1)]) [] ⟨p0, -1, rfl, rfl, .inl ⟨one_no1 (hno.2 e1), rfl⟩⟩ (hr := by (intro κ hκ; simp only [resW, withV, lookT_hit, lookT_miss, Nat.reduceBEq]; exact load_all (vs := encP p0) (by (repeat (first | with_reducible exact Lies.one | with_reducible apply Lies.next))) rfl hκ))
  · have hne : tokL (s.drop i) ≠ [] := fun h => e1 (hno.1 h)
    rw [beq_eq_false_iff_ne.2 (show (j : Int) ≠ i by omega)]
    refine going ?_
    by_cases hkl : k < s.length
    · have hdr := getD_drop s k hkl
      rw [decide_eq_false (show ¬ (s.length : Int) ≤ k by omega)]
      refine going ?_
      by_cases e2 : s.getD k 0 = 61
      · rw [bne_eq_false_iff_eq.2 (show ((s.getD k 0).toNat : Int) = 61 by rw [e2]; rfl)]
        rw [e2] at hdr
        rw [hdr] at hsp
        refine going ?_
        refine run_op fun K hK => ?_; refine calls_to (rspace_spec s (k + 1) (by omega) hs) ?_; rintro v A ⟨⟨m, rfl, hkm, hm, hsp2⟩, rfl⟩; (try simp only [List.nil_append, List.cons_append]); refine hK _ _ ?_; clear hK K; refine going ?_
        by_cases hml : m < s.length
        · have hdm := getD_drop s m hml
          rw [decide_eq_true (show (m : Int) < s.length by omega)]
          refine going ?_
          by_cases e3 : s.getD m 0 = 34
          · rw [beq_iff_eq.2 (show ((s.getD m 0).toNat : Int) = 34 by rw [e3]; rfl)]
            rw [e3] at hdm
            have hz : spaceL (s.drop (k + 1)) = 34 :: s.drop (m + 1) := by rw [← hsp2, hdm]
            refine going ?_
            (try simp only [List.setIfInBounds_toArray, List.set_cons_succ, List.set_cons_zero, List.getElem_toArray, List.getElem_cons_succ, List.getElem_cons_zero])
            refine loop_i (fun mm D L S => ∃ (q : Nat) (out : List UInt8), m + 1 ≤ q ∧ q ≤ s.length ∧ out.length ≤ q ∧ qgo (s.drop (m + 1)) = (qgo (s.drop q)).map (fun x => (out ++ x.1, x.2)) ∧ mm = s.length - q ∧ D = [] ∧
                L = [(8, .int .i64 q), (7, .pointer (some ⟨b7, 0, none⟩)), (4, .pointer (some ⟨b4, 0, none⟩)), (0, .string (str s))] ∧ S = [rpB b7 ⟨lowL (tokL (s.drop i)), out, true⟩, rpB b4 p0, F])
              ⟨m + 1, [], by omega, by omega, by simp, by simp, rfl, rfl, rfl, rfl⟩ ?_
            rintro mm D L S ⟨q, out, hmq, hqs, hol, hq, rfl, rfl, rfl, rfl⟩
            refine going ?_
            refine if_d (fun hc => ?_) (fun hc => ?_)
            · have hql : q < s.length := by omega
              have hdq := getD_drop s q hql
              rw [hdq] at hq
              refine going ?_
              by_cases d1 : s.getD q 0 = 34
              · rw [beq_iff_eq.2 (show ((s.getD q 0).toNat : Int) = 34 by rw [d1]; rfl)]
                rw [d1, qgo_end, Option.map_some, List.append_nil] at hq
                refine going ?_
                refine run_op fun K hK => ?_; refine load_all (vs := encP ⟨lowL (tokL (s.drop i)), out, true⟩) (by (repeat (first | with_reducible exact Lies.one | with_reducible apply Lies.next))) rfl ?_; refine hK _ _ ?_; clear hK K
                refine going ?_
                refine run_op fun K hK => ?_; refine store_all (vs := encP ⟨lowL (tokL (s.drop i)), out, true⟩) rfl (cell_P _) (by (repeat (first | with_reducible exact Upd.one | with_reducible apply Upd.next))) (by rfl) ?_; refine hK _ _ ?_; clear hK K
                refine going ?_
                refine back_cells (vs := [.agg (encP ⟨lowL (tokL (s.drop i)), out, true⟩).toArray, .int .i64 ((q : Int) + 1)]) [] ⟨⟨lowL (tokL (s.drop i)), out, true⟩, (q : Int) + 1, rfl, rfl, .inr ⟨q + 1, by rw [one_q hne hsp.symm hz, hq]; rfl, rfl, by omega⟩⟩ (hr := by (intro κ hκ; simp only [resW, withV, lookT_hit, lookT_miss, Nat.reduceBEq]; exact load_all (vs := encP ⟨lowL (tokL (s.drop i)), out, true⟩) (by (repeat (first | with_reducible exact Lies.one | with_reducible apply Lies.next))) rfl hκ))
              · rw [beq_eq_false_iff_ne.2 (show ((s.getD q 0).toNat : Int) ≠ 34 from fun h => d1 (UInt8.toNat_inj.1 (show (s.getD q 0).toNat = 34 by omega)))]
                refine going ?_
                by_cases d2 : s.getD q 0 = 92
                · rw [beq_iff_eq.2 (show ((s.getD q 0).toNat : Int) = 92 by rw [d2]; rfl)]
                  rw [d2] at hq
                  refine going ?_
                  by_cases hq2 : q + 1 < s.length
                  · have hdq2 := getD_drop s (q + 1) hq2
                    rw [hdq2] at hq
                    rw [decide_eq_true (show (q : Int) + 1 < s.length by omega)]
                    refine going ?_
                    rw [show ((q : Int) + 1).toNat = q + 1 from by omega]
                    refine going ?_
                    refine run_op fun K hK => ?_; refine calls_to (may_spec (s.getD (q + 1) 0)) ?_; rintro v A ⟨rfl, rfl⟩; (try simp only [List.nil_append, List.cons_append]); refine hK _ _ ?_; clear hK K; refine going ?_
                    cases h3 : inB (s.getD (q + 1) 0) with
                    | false =>
                      rw [qgo_bad2 h3, Option.map_none] at hq
                      refine going ?_
                      refine run_op fun K hK => ?_; rw [build_struct (ps := []) (cs := (encP p0).toArray) rfl]; refine hK _ _ ?_; clear hK K
                      refine going ?_
                      refine run_op fun K hK => ?_; refine store_all (vs := encP p0) rfl (cell_P _) (by (repeat (first | with_reducible exact Upd.one | with_reducible apply Upd.next))) (by rfl) ?_; refine hK _ _ ?_; clear hK K
                      refine going ?_
                      refine back_cells (vs := [.agg (encP p0).toArray, .int .i64 (-1)]) [] ⟨p0, -1, rfl, rfl, .inl ⟨by rw [one_q hne hsp.symm hz, hq]; rfl, rfl⟩⟩ (hr := by (intro κ hκ; simp only [resW, withV, lookT_hit, lookT_miss, Nat.reduceBEq]; exact load_all (vs := encP p0) (by (repeat (first | with_reducible exact Lies.one | with_reducible apply Lies.next))) rfl hκ))
                    | true =>
                      rw [qgo_esc h3, Option.map_map] at hq
                      have hc1 := cut_one s ((q + 1)) hq2
                      refine going ?_
                      refine code_dr [[], [0], [], [], [], [4], [2, 3, 4, 5], [0, 1, 2, 3, 4, 5, 6], [0, 1, 2, 3, 4, 5, 6, 7], [0, 1, 2, 3, 4, 5, 6, 7, 8]] [(0, false, []), (1, false, []), (2, false, []), (3, false, []), (4, false, []), (5, false, []), (6, false, []), (7, false, []), (8, false, []), (9, true, [])] ?_
                      refine going ?_
                      rw [show ((q : Int) + 1).toNat = q + 1 from by omega, show ((q : Int) + 1 + 1).toNat = q + 1 + 1 from by omega]; rw [show (((q + 1 : Nat) : Int) + 1).toNat = q + 1 + 1 from by omega] at hc1; rw [hc1]
                      refine draw_quiet (by simp only [List.getElem?_toArray, List.getElem?_cons_succ, List.getElem?_cons_zero]; rfl) fun K hK => ?_; (try simp only [gos, gob, Nat.reduceBEq, if_true, reduceIte, reduceCtorEq, Nat.reduceLT, Nat.reduceEqDiff, Nat.reduceAdd, Nat.reduceSub, Int.reduceLT, Int.reduceLE, Int.reduceBEq, Int.reduceBNe, Int.reduceToNat, Int.reduceAdd, Int.reduceSub, Int.reduceMul, Int.reduceDiv, Int.reduceMod, Int.reducePow, Int.toNat_natCast, Nat.sub_zero, goq]); (try (simp (disch := omega) only [gow, gobw]; try simp only [gos, gob, Nat.reduceBEq, if_true, reduceIte, reduceCtorEq, Nat.reduceLT, Nat.reduceEqDiff, Nat.reduceAdd, Nat.reduceSub, Int.reduceLT, Int.reduceLE, Int.reduceBEq, Int.reduceBNe, Int.reduceToNat, Int.reduceAdd, Int.reduceSub, Int.reduceMul, Int.reduceDiv, Int.reduceMod, Int.reducePow, Int.toNat_natCast, Nat.sub_zero, goq]))
                      rw [str_add (by simp only [List.length_singleton]; omega)]
                      refine hK _ _ ?_; clear hK K
                      refine going ?_
                      (try simp only [List.setIfInBounds_toArray, List.set_cons_succ, List.set_cons_zero, List.getElem_toArray, List.getElem_cons_succ, List.getElem_cons_zero])
                      exact again ⟨(q + 1) + 1, out ++ [s.getD (q + 1) 0], by omega, by omega, by simp; omega, by rw [hq]; congr 1; funext x; simp, rfl, rfl, rfl, rfl⟩
                  · have hnil : s.drop (q + 1) = [] := List.drop_eq_nil_of_le (by omega)
                    rw [hnil, qgo_end1, Option.map_none] at hq
                    rw [decide_eq_false (show ¬ (q : Int) + 1 < s.length by omega)]
                    refine going ?_
                    (try rw [beq_iff_eq.2 (show ((s.getD q 0).toNat : Int) = 92 by rw [d2]; rfl)])
                    refine going ?_
                    refine run_op fun K hK => ?_; rw [build_struct (ps := []) (cs := (encP p0).toArray) rfl]; refine hK _ _ ?_; clear hK K
                    refine going ?_
                    refine run_op fun K hK => ?_; refine store_all (vs := encP p0) rfl (cell_P _) (by (repeat (first | with_reducible exact Upd.one | with_reducible apply Upd.next))) (by rfl) ?_; refine hK _ _ ?_; clear hK K
                    refine going ?_
                    refine back_cells (vs := [.agg (encP p0).toArray, .int .i64 (-1)]) [] ⟨p0, -1, rfl, rfl, .inl ⟨by rw [one_q hne hsp.symm hz, hq]; rfl, rfl⟩⟩ (hr := by (intro κ hκ; simp only [resW, withV, lookT_hit, lookT_miss, Nat.reduceBEq]; exact load_all (vs := encP p0) (by (repeat (first | with_reducible exact Lies.one | with_reducible apply Lies.next))) rfl hκ))
                · rw [beq_eq_false_iff_ne.2 (show ((s.getD q 0).toNat : Int) ≠ 92 from fun h => d2 (UInt8.toNat_inj.1 (show (s.getD q 0).toNat = 92 by omega)))]
                  refine going ?_
                  (try rw [beq_eq_false_iff_ne.2 (show ((s.getD q 0).toNat : Int) ≠ 92 from fun h => d2 (UInt8.toNat_inj.1 (show (s.getD q 0).toNat = 92 by omega)))])
                  refine going ?_
                  refine run_op fun K hK => ?_; refine calls_to (may_spec (s.getD q 0)) ?_; rintro v A ⟨rfl, rfl⟩; (try simp only [List.nil_append, List.cons_append]); refine hK _ _ ?_; clear hK K; refine going ?_
                  cases h3 : inB (s.getD q 0) with
                  | false =>
                    rw [qgo_bad d1 h3, Option.map_none] at hq
                    refine going ?_
                    refine run_op fun K hK => ?_; rw [build_struct (ps := []) (cs := (encP p0).toArray) rfl]; refine hK _ _ ?_; clear hK K
                    refine going ?_
                    refine run_op fun K hK => ?_; refine store_all (vs := encP p0) rfl (cell_P _) (by (repeat (first | with_reducible exact Upd.one | with_reducible apply Upd.next))) (by rfl) ?_; refine hK _ _ ?_; clear hK K
                    refine going ?_
                    refine back_cells (vs := [.agg (encP p0).toArray, .int .i64 (-1)]) [] ⟨p0, -1, rfl, rfl, .inl ⟨by rw [one_q hne hsp.symm hz, hq]; rfl, rfl⟩⟩ (hr := by (intro κ hκ; simp only [resW, withV, lookT_hit, lookT_miss, Nat.reduceBEq]; exact load_all (vs := encP p0) (by (repeat (first | with_reducible exact Lies.one | with_reducible apply Lies.next))) rfl hκ))
                  | true =>
                    rw [qgo_cons d1 h3 d2, Option.map_map] at hq
                    have hc1 := cut_one s (q) hql
                    refine going ?_
                    refine code_dr [[], [0], [], [], [], [4], [2, 3, 4, 5], [0, 1, 2, 3, 4, 5, 6], [0, 1, 2, 3, 4, 5, 6, 7], [0, 1, 2, 3, 4, 5, 6, 7, 8]] [(0, false, []), (1, false, []), (2, false, []), (3, false, []), (4, false, []), (5, false, []), (6, false, []), (7, false, []), (8, false, []), (9, true, [])] ?_
                    refine going ?_
                    rw [hc1]
                    refine draw_quiet (by simp only [List.getElem?_toArray, List.getElem?_cons_succ, List.getElem?_cons_zero]; rfl) fun K hK => ?_; (try simp only [gos, gob, Nat.reduceBEq, if_true, reduceIte, reduceCtorEq, Nat.reduceLT, Nat.reduceEqDiff, Nat.reduceAdd, Nat.reduceSub, Int.reduceLT, Int.reduceLE, Int.reduceBEq, Int.reduceBNe, Int.reduceToNat, Int.reduceAdd, Int.reduceSub, Int.reduceMul, Int.reduceDiv, Int.reduceMod, Int.reducePow, Int.toNat_natCast, Nat.sub_zero, goq]); (try (simp (disch := omega) only [gow, gobw]; try simp only [gos, gob, Nat.reduceBEq, if_true, reduceIte, reduceCtorEq, Nat.reduceLT, Nat.reduceEqDiff, Nat.reduceAdd, Nat.reduceSub, Int.reduceLT, Int.reduceLE, Int.reduceBEq, Int.reduceBNe, Int.reduceToNat, Int.reduceAdd, Int.reduceSub, Int.reduceMul, Int.reduceDiv, Int.reduceMod, Int.reducePow, Int.toNat_natCast, Nat.sub_zero, goq]))
                    rw [str_add (by simp only [List.length_singleton]; omega)]
                    refine hK _ _ ?_; clear hK K
                    refine going ?_
                    (try simp only [List.setIfInBounds_toArray, List.set_cons_succ, List.set_cons_zero, List.getElem_toArray, List.getElem_cons_succ, List.getElem_cons_zero])
                    exact again ⟨q + 1, out ++ [s.getD q 0], by omega, by omega, by simp; omega, by rw [hq]; congr 1; funext x; simp, rfl, rfl, rfl, rfl⟩
            · obtain rfl : q = s.length := by omega
              rw [List.drop_length] at hq
              refine going ?_
              refine run_op fun K hK => ?_; rw [build_struct (ps := []) (cs := (encP p0).toArray) rfl]; refine hK _ _ ?_; clear hK K
              refine going ?_
              refine run_op fun K hK => ?_; refine store_all (vs := encP p0) rfl (cell_P _) (by (repeat (first | with_reducible exact Upd.one | with_reducible apply Upd.next))) (by rfl) ?_; refine hK _ _ ?_; clear hK K
              refine going ?_
              refine back_cells (vs := [.agg (encP p0).toArray, .int .i64 (-1)]) [] ⟨p0, -1, rfl, rfl, .inl ⟨by rw [one_q hne hsp.symm hz, hq]; rfl, rfl⟩⟩ (hr := by (intro κ hκ; simp only [resW, withV, lookT_hit, lookT_miss, Nat.reduceBEq]; exact load_all (vs := encP p0) (by (repeat (first | with_reducible exact Lies.one | with_reducible apply Lies.next))) rfl hκ))
          · rw [beq_eq_false_iff_ne.2 (show ((s.getD m 0).toNat : Int) ≠ 34 from fun h => e3 (UInt8.toNat_inj.1 (show (s.getD m 0).toNat = 34 by omega)))]
            have hq0 : (signE (spaceL (s.drop (k + 1))) 34).1 = false := by rw [← hsp2, hdm, sign_not _ e3]
            refine going ?_
            refine run_op fun K hK => ?_; refine calls_to (word_spec s m hm hs) ?_; rintro v A ⟨⟨e, rfl, hme, he, hvl, hvr⟩, rfl⟩; (try simp only [List.nil_append, List.cons_append]); refine hK _ _ ?_; clear hK K; refine going ?_
            have hno2 := word_nil hme he hvl
            rw [hsp2] at hvl hvr hno2
            have ho := one_t hne hsp.symm hq0
            by_cases e4 : e = m
            · rw [beq_iff_eq.2 (show (e : Int) = m by omega)]
              rw [if_pos (hno2.2 e4)] at ho
              refine going ?_
              refine run_op fun K hK => ?_; rw [build_struct (ps := []) (cs := (encP p0).toArray) rfl]; refine hK _ _ ?_; clear hK K
              refine going ?_
              refine run_op fun K hK => ?_; refine store_all (vs := encP p0) rfl (cell_P _) (by (repeat (first | with_reducible exact Upd.one | with_reducible apply Upd.next))) (by rfl) ?_; refine hK _ _ ?_; clear hK K
              refine going ?_
              refine back_cells (vs := [.agg (encP p0).toArray, .int .i64 (-1)]) [] ⟨p0, -1, rfl, rfl, .inl ⟨ho, rfl⟩⟩ (hr := by (intro κ hκ; simp only [resW, withV, lookT_hit, lookT_miss, Nat.reduceBEq]; exact load_all (vs := encP p0) (by (repeat (first | with_reducible exact Lies.one | with_reducible apply Lies.next))) rfl hκ))
            · rw [beq_eq_false_iff_ne.2 (show (e : Int) ≠ m by omega)]
              rw [if_neg (fun h => e4 (hno2.1 h))] at ho
              refine going ?_
              rw [hvl]
              (try simp only [List.setIfInBounds_toArray, List.set_cons_succ, List.set_cons_zero, List.getElem_toArray, List.getElem_cons_succ, List.getElem_cons_zero])
              refine run_op fun K hK => ?_; refine load_all (vs := encP ⟨lowL (tokL (s.drop i)), tokL (spaceL (s.drop (k + 1))), false⟩) (by (repeat (first | with_reducible exact Lies.one | with_reducible apply Lies.next))) rfl ?_; refine hK _ _ ?_; clear hK K
              refine going ?_
              refine run_op fun K hK => ?_; refine store_all (vs := encP ⟨lowL (tokL (s.drop i)), tokL (spaceL (s.drop (k + 1))), false⟩) rfl (cell_P _) (by (repeat (first | with_reducible exact Upd.one | with_reducible apply Upd.next))) (by rfl) ?_; refine hK _ _ ?_; clear hK K
              refine going ?_
              refine back_cells (vs := [.agg (encP ⟨lowL (tokL (s.drop i)), tokL (spaceL (s.drop (k + 1))), false⟩).toArray, .int .i64 (e)]) [] ⟨⟨lowL (tokL (s.drop i)), tokL (spaceL (s.drop (k + 1))), false⟩, e, rfl, rfl, .inr ⟨e, by rw [hvr]; exact ho, rfl, he⟩⟩ (hr := by (intro κ hκ; simp only [resW, withV, lookT_hit, lookT_miss, Nat.reduceBEq]; exact load_all (vs := encP ⟨lowL (tokL (s.drop i)), tokL (spaceL (s.drop (k + 1))), false⟩) (by (repeat (first | with_reducible exact Lies.one | with_reducible apply Lies.next))) rfl hκ))
        · rw [decide_eq_false (show ¬ (m : Int) < s.length by omega)]
          have hq0 : (signE (spaceL (s.drop (k + 1))) 34).1 = false := by rw [← hsp2, List.drop_eq_nil_of_le (by omega)]; rfl
          refine going ?_
          refine run_op fun K hK => ?_; refine calls_to (word_spec s m hm hs) ?_; rintro v A ⟨⟨e, rfl, hme, he, hvl, hvr⟩, rfl⟩; (try simp only [List.nil_append, List.cons_append]); refine hK _ _ ?_; clear hK K; refine going ?_
          have hno2 := word_nil hme he hvl
          rw [hsp2] at hvl hvr hno2
          have ho := one_t hne hsp.symm hq0
          by_cases e4 : e = m
          · rw [beq_iff_eq.2 (show (e : Int) = m by omega)]
            rw [if_pos (hno2.2 e4)] at ho
            refine going ?_
            refine run_op fun K hK => ?_; rw [build_struct (ps := []) (cs := (encP p0).toArray) rfl]; refine hK _ _ ?_; clear hK K
            refine going ?_
            refine run_op fun K hK => ?_; refine store_all (vs := encP p0) rfl (cell_P _) (by (repeat (first | with_reducible exact Upd.one | with_reducible apply Upd.next))) (by rfl) ?_; refine hK _ _ ?_; clear hK K
            refine going ?_
            refine back_cells (vs := [.agg (encP p0).toArray, .int .i64 (-1)]) [] ⟨p0, -1, rfl, rfl, .inl ⟨ho, rfl⟩⟩ (hr := by (intro κ hκ; simp only [resW, withV, lookT_hit, lookT_miss, Nat.reduceBEq]; exact load_all (vs := encP p0) (by (repeat (first | with_reducible exact Lies.one | with_reducible apply Lies.next))) rfl hκ))
          · rw [beq_eq_false_iff_ne.2 (show (e : Int) ≠ m by omega)]
            rw [if_neg (fun h => e4 (hno2.1 h))] at ho
            refine going ?_
            rw [hvl]
            (try simp only [List.setIfInBounds_toArray, List.set_cons_succ, List.set_cons_zero, List.getElem_toArray, List.getElem_cons_succ, List.getElem_cons_zero])
            refine run_op fun K hK => ?_; refine load_all (vs := encP ⟨lowL (tokL (s.drop i)), tokL (spaceL (s.drop (k + 1))), false⟩) (by (repeat (first | with_reducible exact Lies.one | with_reducible apply Lies.next))) rfl ?_; refine hK _ _ ?_; clear hK K
            refine going ?_
            refine run_op fun K hK => ?_; refine store_all (vs := encP ⟨lowL (tokL (s.drop i)), tokL (spaceL (s.drop (k + 1))), false⟩) rfl (cell_P _) (by (repeat (first | with_reducible exact Upd.one | with_reducible apply Upd.next))) (by rfl) ?_; refine hK _ _ ?_; clear hK K
            refine going ?_
            refine back_cells (vs := [.agg (encP ⟨lowL (tokL (s.drop i)), tokL (spaceL (s.drop (k + 1))), false⟩).toArray, .int .i64 (e)]) [] ⟨⟨lowL (tokL (s.drop i)), tokL (spaceL (s.drop (k + 1))), false⟩, e, rfl, rfl, .inr ⟨e, by rw [hvr]; exact ho, rfl, he⟩⟩ (hr := by (intro κ hκ; simp only [resW, withV, lookT_hit, lookT_miss, Nat.reduceBEq]; exact load_all (vs := encP ⟨lowL (tokL (s.drop i)), tokL (spaceL (s.drop (k + 1))), false⟩) (by (repeat (first | with_reducible exact Lies.one | with_reducible apply Lies.next))) rfl hκ))
      · rw [bne_iff_ne.2 (show ((s.getD k 0).toNat : Int) ≠ 61 from fun h => e2 (UInt8.toNat_inj.1 (show (s.getD k 0).toNat = 61 by omega)))]
        refine going ?_
        refine run_op fun K hK => ?_; rw [build_struct (ps := []) (cs := (encP p0).toArray) rfl]; refine hK _ _ ?_; clear hK K
        refine going ?_
        refine run_op fun K hK => ?_; refine store_all (vs := encP p0) rfl (cell_P _) (by (repeat (first | with_reducible exact Upd.one | with_reducible apply Upd.next))) (by rfl) ?_; refine hK _ _ ?_; clear hK K
        refine going ?_
        refine back_cells (vs := [.agg (encP p0).toArray, .int .i64 (-1)]) [] ⟨p0, -1, rfl, rfl, .inl ⟨one_no2 (by rw [← hsp, hdr, sign_not _ e2]), rfl⟩⟩ (hr := by (intro κ hκ; simp only [resW, withV, lookT_hit, lookT_miss, Nat.reduceBEq]; exact load_all (vs := encP p0) (by (repeat (first | with_reducible exact Lies.one | with_reducible apply Lies.next))) rfl hκ))
    · rw [decide_eq_true (show (s.length : Int) ≤ k by omega)]
      refine going ?_
      refine run_op fun K hK => ?_; rw [build_struct (ps := []) (cs := (encP p0).toArray) rfl]; refine hK _ _ ?_; clear hK K
      refine going ?_
      refine run_op fun K hK => ?_; refine store_all (vs := encP p0) rfl (cell_P _) (by (repeat (first | with_reducible exact Upd.one | with_reducible apply Upd.next))) (by rfl) ?_; refine hK _ _ ?_; clear hK K
      refine going ?_
      refine back_cells (vs := [.agg (encP p0).toArray, .int .i64 (-1)]) [] ⟨p0, -1, rfl, rfl, .inl ⟨one_no2 (by rw [← hsp, List.drop_eq_nil_of_le (by omega)]; rfl), rfl⟩⟩ (hr := by (intro κ hκ; simp only [resW, withV, lookT_hit, lookT_miss, Nat.reduceBEq]; exact load_all (vs := encP p0) (by (repeat (first | with_reducible exact Lies.one | with_reducible apply Lies.next))) rfl hκ))

end Go.Proofs.Ytfoppclmjmpjiaa

/- A list's parameters, by the document. Conditions: as each says. -/
set_option linter.unusedSimpArgs false
set_option linter.unusedVariables false
namespace Go.Proofs.Ytfoppclmjmpjiaa
open Go Go.Ost

set_option maxHeartbeats 2000000 in
theorem rlist_spec (s : List UInt8) (hs : s.length ≤ 100000) : Meets Try.prog 20 [.string (str s)] []
    fun v A => ∃ X a k, v = .tuple #[.slice a (listE s).1.length k, .bool (listE s).2] ∧ OwnR X a k (listE s).1 ∧ A = [X] := by
  refine spec_intro Try.func20 rfl (by kernel_rfl) (by rw [Try.ntmps20]; simp) fun F => ?_; rw [Try.ntmps20, Try.results20]
  refine going ?_
  refine code_nil ?_
  refine loop_i (fun q D L S => ∃ (i : Nat) (ps : List Par) (X : Chunk) (xa : Option Addr) (xc : Nat), i ≤ s.length ∧ ps.length ≤ i ∧ OwnR X xa xc ps ∧ listE s = (ps ++ (listE (s.drop i)).1, (listE (s.drop i)).2) ∧ q = s.length - i ∧ D = [] ∧
    L = [(5, .int .i64 i), (4, .slice xa ps.length xc), (0, .string (str s))] ∧ S = [X, F])
    ⟨0, [], [], none, 0, by omega, by simp, own_nil, rfl, rfl, rfl, rfl, rfl⟩ ?_
  rintro q D L S ⟨i, ps, X, xa, xc, hi, hpl, hX, hls, rfl, rfl, rfl, rfl⟩
  refine going ?_
  refine run_op fun K hK => ?_; refine calls_to (rone_spec s i hi hs) ?_; rintro v A ⟨p, e, rfl, rfl, hR⟩; (try simp only [List.nil_append, List.cons_append]); refine hK _ _ ?_; clear hK K; refine going ?_
  refine run_op fun K hK => ?_; refine alloc_as (encP p0).toArray rfl fun b6 => ?_; refine hK _ _ ?_; clear hK K
  refine run_op fun K hK => ?_; refine store_all (vs := encP p) rfl (cell_P _) (by (repeat (first | with_reducible exact Upd.one | with_reducible apply Upd.next))) (by rfl) ?_; refine hK _ _ ?_; clear hK K
  refine going ?_
  rcases hR with ⟨hn, rfl⟩ | ⟨j, ho, rfl, hj⟩
  · rw [list_none hn, List.append_nil] at hls
    rw [hls]
    refine going ?_
    refine back_cells (vs := [.slice xa ps.length xc, .bool false]) [X] ⟨X, xa, xc, rfl, hX, rfl⟩
  · have h1l := (one_len ho).2.1
    rw [List.length_drop, List.length_drop] at h1l
    rw [decide_eq_false (show ¬ (j : Int) < 0 by omega)]
    refine going ?_
    refine run_op fun K hK => ?_; refine load_all (vs := encP p) (by (repeat (first | with_reducible exact Lies.one | with_reducible apply Lies.next))) rfl ?_; refine hK _ _ ?_; clear hK K
    refine run_op fun K hK => ?_; refine build_el1 (e := 37) (s := 3) (hs := inferInstance) (vs := encP p) (by rfl) (by decide) (by decide) rfl (fun b1 C1 ho1 => ?_); refine hK _ _ ?_; clear hK K
    refine run_op fun K hK => ?_; refine append_own (e := 37) (s := 3) (hs := inferInstance) (by rfl) (by decide) hX (.inr (by (repeat (first | with_reducible exact Pick.head _ _ | with_reducible apply Pick.tail)))) (ho1.rd (by (repeat (first | with_reducible assumption | with_reducible exact List.mem_cons_self .. | with_reducible apply List.mem_cons_of_mem)))) (cell_P _) (by simp only [maxLen]; omega) (by omega) (fun C3 a3 cap3 ho3 => ?_); refine hK _ _ ?_; clear hK K
    have e1 : ps.length + 1 = (ps ++ [p]).length := by simp
    have e2 : ps.flatMap encP ++ encP p = (ps ++ [p]).flatMap encP := by simp
    rw [e1, e2] at ho3
    rw [e1]
    refine going ?_
    by_cases hjl : j = s.length
    · rw [hjl, List.drop_length] at ho
      rw [list_last ho] at hls
      rw [beq_iff_eq.2 (show (j : Int) = s.length by omega), hls]
      refine going ?_
      refine back_cells (vs := [.slice a3 (ps ++ [p]).length cap3, .bool true]) [C3] ⟨C3, a3, cap3, rfl, ho3, rfl⟩
    · have hr0 : s.drop j ≠ [] := fun h => by
        have := congrArg List.length h
        rw [List.length_drop, List.length_nil] at this; omega
      rw [beq_eq_false_iff_ne.2 (show (j : Int) ≠ s.length by omega)]
      refine going ?_
      refine run_op fun K hK => ?_; refine calls_to (rspace_spec s j hj hs) ?_; rintro v A ⟨⟨k, rfl, hjk, hk, hsp⟩, rfl⟩; (try simp only [List.nil_append, List.cons_append]); refine hK _ _ ?_; clear hK K; refine going ?_
      by_cases hkl : k < s.length
      · have hdr := getD_drop s k hkl
        rw [decide_eq_false (show ¬ (s.length : Int) ≤ k by omega)]
        refine going ?_
        by_cases e3 : s.getD k 0 = 44
        · rw [e3] at hdr
          rw [hdr] at hsp
          rw [list_on ho hr0 (by rw [← hsp, sign_yes]), ← hsp, sign_yes] at hls
          rw [bne_eq_false_iff_eq.2 (show ((s.getD k 0).toNat : Int) = 44 by rw [e3]; rfl)]
          refine going ?_
          refine run_op fun K hK => ?_; refine calls_to (rspace_spec s (k + 1) (by omega) hs) ?_; rintro v A ⟨⟨m, rfl, hkm, hm, hsp2⟩, rfl⟩; (try simp only [List.nil_append, List.cons_append]); refine hK _ _ ?_; clear hK K; refine going ?_
          exact again ⟨m, ps ++ [p], C3, a3, cap3, hm, by omega, ho3, by rw [hls, hsp2]; simp, rfl, rfl, rfl, rfl⟩
        · rw [list_stop ho hr0 (by rw [← hsp, hdr, sign_not _ e3])] at hls
          rw [bne_iff_ne.2 (show ((s.getD k 0).toNat : Int) ≠ 44 from fun h => e3 (UInt8.toNat_inj.1 (show (s.getD k 0).toNat = 44 by omega))), hls]
          refine going ?_
          refine back_cells (vs := [.slice a3 (ps ++ [p]).length cap3, .bool false]) [C3] ⟨C3, a3, cap3, rfl, ho3, rfl⟩
      · rw [list_stop ho hr0 (by rw [← hsp, List.drop_eq_nil_of_le (by omega)]; rfl)] at hls
        rw [decide_eq_true (show (s.length : Int) ≤ k by omega), hls]
        refine going ?_
        refine back_cells (vs := [.slice a3 (ps ++ [p]).length cap3, .bool false]) [C3] ⟨C3, a3, cap3, rfl, ho3, rfl⟩

end Go.Proofs.Ytfoppclmjmpjiaa

/- A header read, by the document. Conditions: as each says. -/
set_option linter.unusedSimpArgs false
set_option linter.unusedVariables false
namespace Go.Proofs.Ytfoppclmjmpjiaa
open Go Go.Ost

theorem low_tc {c : UInt8} (h : 97 ≤ (low1 c).toNat ∧ (low1 c).toNat ≤ 122) : tcB c = true := by
  unfold low1 at h
  unfold tcB
  split at h
  · rename_i hc
    rw [decide_eq_true hc]; simp
  · rw [decide_eq_true h]; simp
theorem scheme_tc {a : List UInt8} (h : lowL a = scheme) : a.all tcB = true ∧ a.length = 6 := by
  have hl : (lowL a).length = a.length := by unfold lowL; simp
  refine ⟨?_, by rw [← hl, h]; rfl⟩
  rw [List.all_eq_true]
  intro c hc
  refine low_tc ?_
  have hm : low1 c ∈ scheme := by rw [← h]; exact List.mem_map.2 ⟨c, hc, rfl⟩
  simp only [scheme, List.mem_cons, List.not_mem_nil, or_false] at hm
  rcases hm with e | e | e | e | e | e <;> rw [e] <;> decide
theorem head_yes {s : List UInt8} (h0 : 7 ≤ s.length) (h1 : lowL (s.take 6) = scheme) (h2 : s.getD 6 0 = 32) : lowL (tokL s) = scheme ∧ (signE (tokR s) 32).1 = true ∧ restE s = (s.drop 6).dropWhile (fun c => c == 32) := by
  have hd : s.drop 6 = 32 :: s.drop 7 := by
    rw [List.drop_eq_getElem_cons (show 6 < s.length by omega)]
    rw [List.getD_eq_getElem?_getD, List.getElem?_eq_getElem (show 6 < s.length by omega), Option.getD_some] at h2
    rw [h2]
  have e := tok_app (r := s.drop 6) (scheme_tc h1).1 (by rw [hd]; show (!tcB 32) = true; decide)
  rw [List.take_append_drop] at e
  refine ⟨by rw [e.1]; exact h1, by rw [e.2, hd, sign_yes], ?_⟩
  unfold restE
  rw [e.2, hd, sign_yes, List.dropWhile_cons, if_pos (beq_self_eq_true _)]
theorem head_no {s : List UInt8} (h1 : lowL (tokL s) = scheme) (h2 : (signE (tokR s) 32).1 = true) : 7 ≤ s.length ∧ lowL (s.take 6) = scheme ∧ s.getD 6 0 = 32 := by
  have e := sign_fst h2
  have hb := tok_both s
  obtain ⟨_, hl⟩ := scheme_tc h1
  generalize (signE (tokR s) 32).2 = r at *
  generalize tokL s = a at *
  rw [e] at hb
  subst hb
  refine ⟨by rw [List.length_append, List.length_cons]; omega, by rw [← hl, List.take_left]; exact h1, ?_⟩
  rw [List.getD_eq_getElem?_getD, List.getElem?_append_right (by omega), hl]; rfl
theorem rparse_long {s : List UInt8} (h : 4096 < s.length) : parseE s = ([], 3) := by unfold parseE; rw [if_pos h]
theorem rparse_head {s : List UInt8} (h : ¬ 4096 < s.length) (h2 : ¬ (7 ≤ s.length ∧ lowL (s.take 6) = scheme ∧ s.getD 6 0 = 32)) : parseE s = ([], 4) := by
  unfold parseE
  rw [if_neg h, if_pos]
  by_cases e1 : lowL (tokL s) = scheme
  · cases e2 : (signE (tokR s) 32).1 with
    | false => exact .inr rfl
    | true => exact (h2 (head_no e1 e2)).elim
  · exact .inl e1
theorem rparse_list {s : List UInt8} (h : ¬ 4096 < s.length) (h2 : lowL (tokL s) = scheme) (h3 : (signE (tokR s) 32).1 = true) :
    parseE s = if (listE (restE s)).2 = false then ([], 4) else if cntE (listE (restE s)).1 ≠ 0 then ([], cntE (listE (restE s)).1) else ((listE (restE s)).1, 0) := by
  unfold parseE; rw [if_neg h, if_neg (by rw [not_or]; exact ⟨fun e => e h2, by rw [h3]; simp⟩)]

set_option maxHeartbeats 4000000 in
theorem rparse_spec (s : List UInt8) (hs : s.length ≤ 100000) : Meets Try.prog 35 [.string (str s)] []
    fun v A => ∃ X a k, v = .tuple #[.slice a (parseE s).1.length k, .int .i64 (parseE s).2] ∧ OwnR X a k (parseE s).1 ∧ A = [X] := by
  refine spec_intro Try.func35 rfl (by kernel_rfl) (by rw [Try.ntmps35]; simp) fun F => ?_; rw [Try.ntmps35, Try.results35]
  refine code_nil ?_
  refine going ?_
  by_cases h1 : 4096 < s.length
  · rw [rparse_long h1, decide_eq_true (show (4096 : Int) < s.length by omega)]
    refine going ?_
    refine back_cells (vs := [.slice none 0 0, .int .i64 3]) [[]] ⟨[], none, 0, rfl, own_nil, rfl⟩
  rw [decide_eq_false (show ¬ (4096 : Int) < s.length by omega)]
  refine going ?_
  by_cases h7 : 7 ≤ s.length
  · rw [decide_eq_false (show ¬ (s.length : Int) < 7 by omega)]
    refine going ?_
    have ht6 : (s.take 6).length ≤ 6 := by rw [List.length_take]; omega
    refine run_op fun K hK => ?_; refine calls_to (rlow_spec (s.take 6) (by omega)) ?_; rintro v A ⟨rfl, rfl⟩; (try simp only [List.nil_append, List.cons_append]); refine hK _ _ ?_; clear hK K; refine going ?_
    by_cases h2 : lowL (s.take 6) = scheme
    · rw [bne_eq_false_iff_eq.2 (show lowL (s.take 6) = [100, 105, 103, 101, 115, 116] from h2)]
      refine going ?_
      by_cases h3 : s.getD 6 0 = 32
      · obtain ⟨q1, q2, q3⟩ := head_yes h7 h2 h3
        rw [bne_eq_false_iff_eq.2 (show ((s.getD 6 0).toNat : Int) = 32 by rw [h3]; rfl), rparse_list h1 q1 q2]
        have hrl := rest_len s
        have hall := list_len _ (restE s) (Nat.le_refl _)
        have hcn : (listE (restE s)).1.length ≤ allLen (listE (restE s)).1 := by
          generalize (listE (restE s)).1 = l
          induction l with
          | nil => exact Nat.le_refl _
          | cons p l ih => show l.length + 1 ≤ p.n.length + p.v.length + 1 + allLen l; omega
        generalize restE s = r at *
        refine going ?_
        refine block_mid (fun D L S => ∃ i : Nat, i ≤ s.length ∧ s.drop i = r ∧ D = [] ∧ L = [(4, .int .i64 i), (0, .string (str s))] ∧ S = [[], F]) ?_ ?_
        · refine loop_i (fun q D L S => ∃ i : Nat, i ≤ s.length ∧ (s.drop i).dropWhile (fun c => c == 32) = r ∧ q = s.length - i ∧ D = [] ∧ L = [(4, .int .i64 i), (0, .string (str s))] ∧ S = [[], F])
            ⟨6, by omega, q3.symm, rfl, rfl, rfl, rfl⟩ ?_
          rintro q D L S ⟨i, hi, hdr, rfl, rfl, rfl, rfl⟩
          refine going ?_
          by_cases hil : i < s.length
          · have hdd : s.drop i = s.getD i 0 :: s.drop (i + 1) := by
              rw [List.drop_eq_getElem_cons hil, List.getD_eq_getElem?_getD, List.getElem?_eq_getElem hil]; rfl
            rw [hdd] at hdr
            rw [decide_eq_true (show (i : Int) < s.length by omega)]
            refine going ?_
            by_cases e : s.getD i 0 = 32
            · rw [beq_iff_eq.2 (show ((s.getD i 0).toNat : Int) = 32 by rw [e]; rfl)]
              rw [e, List.dropWhile_cons, if_pos (beq_self_eq_true _)] at hdr
              refine going ?_
              exact again ⟨i + 1, by omega, hdr, rfl, rfl, rfl, rfl⟩
            · rw [beq_eq_false_iff_ne.2 (show ((s.getD i 0).toNat : Int) ≠ 32 from fun h => e (UInt8.toNat_inj.1 (show (s.getD i 0).toNat = 32 by omega)))]
              rw [List.dropWhile_cons, if_neg (by simpa using e), ← hdd] at hdr
              refine going ?_
              exact mid ⟨i, hi, hdr, rfl, rfl, rfl⟩
          · rw [decide_eq_false (show ¬ (i : Int) < s.length by omega)]
            rw [List.drop_eq_nil_of_le (by omega), List.dropWhile_nil] at hdr
            refine going ?_
            exact mid ⟨i, hi, by rw [List.drop_eq_nil_of_le (by omega)]; exact hdr, rfl, rfl, rfl⟩
        rintro D L S ⟨i, hi, hdr, rfl, rfl, rfl⟩
        refine going ?_
        rw [hdr]
        refine run_op fun K hK => ?_; refine calls_to (rlist_spec r (by omega)) ?_; rintro v A ⟨X, xa, xc, rfl, hX, rfl⟩; (try simp only [List.nil_append, List.cons_append]); refine hK _ _ ?_; clear hK K; refine going ?_
        cases hok : (listE r).2 with
        | false =>
          rw [if_pos rfl]
          refine going ?_
          refine back_cells (vs := [.slice none 0 0, .int .i64 4]) [[]] ⟨[], none, 0, rfl, own_nil, rfl⟩
        | true =>
          rw [if_neg (by simp)]
          refine going ?_
          refine run_op fun K hK => ?_; refine calls_to (rcounted_spec hX (by omega)) ?_; rintro v A ⟨rfl, rfl⟩; (try simp only [List.nil_append, List.cons_append]); refine hK _ _ ?_; clear hK K; refine going ?_
          by_cases h5 : cntE (listE r).1 = 0
          · rw [if_neg (by simp [h5]), h5]
            refine going ?_
            refine back_cells (vs := [.slice xa (listE r).1.length xc, .int .i64 0]) [X] ⟨X, xa, xc, rfl, hX, rfl⟩
          · rw [if_pos h5, bne_iff_ne.2 h5]
            refine going ?_
            refine back_cells (vs := [.slice none 0 0, .int .i64 (cntE (listE r).1)]) [[]] ⟨[], none, 0, rfl, own_nil, rfl⟩
      · rw [bne_iff_ne.2 (show ((s.getD 6 0).toNat : Int) ≠ 32 from fun h => h3 (UInt8.toNat_inj.1 (show (s.getD 6 0).toNat = 32 by omega))), rparse_head h1 (fun h => h3 h.2.2)]
        refine going ?_
        refine back_cells (vs := [.slice none 0 0, .int .i64 4]) [[]] ⟨[], none, 0, rfl, own_nil, rfl⟩
    · rw [bne_iff_ne.2 (show lowL (s.take 6) ≠ [100, 105, 103, 101, 115, 116] from h2), rparse_head h1 (fun h => h2 h.2.1)]
      refine going ?_
      refine back_cells (vs := [.slice none 0 0, .int .i64 4]) [[]] ⟨[], none, 0, rfl, own_nil, rfl⟩
  · rw [decide_eq_true (show (s.length : Int) < 7 by omega), rparse_head h1 (fun h => h7 h.1)]
    refine going ?_
    refine back_cells (vs := [.slice none 0 0, .int .i64 4]) [[]] ⟨[], none, 0, rfl, own_nil, rfl⟩

end Go.Proofs.Ytfoppclmjmpjiaa

/- Parameters that are asked by their names, by the document. Conditions: as each says. -/
set_option linter.unusedSimpArgs false
set_option linter.unusedVariables false
namespace Go.Proofs.Ytfoppclmjmpjiaa
open Go Go.Ost

theorem rfind_at {l : List Par} {n : List UInt8} {i : Nat} (h : i < l.length) (hno : ((l.take i).find? fun p => p.n == n) = none) (hf : ((l.getD i p0).n == n) = true) : hasB l n = true ∧ gotP l n = l.getD i p0 := by
  have e : l = l.take i ++ l.getD i p0 :: l.drop (i + 1) := by
    have h2 : l.drop i = l.getD i p0 :: l.drop (i + 1) := by
      rw [List.drop_eq_getElem_cons h, List.getD_eq_getElem?_getD, List.getElem?_eq_getElem h]; rfl
    rw [← h2, List.take_append_drop]
  have hfi : (l.find? fun p => p.n == n) = some (l.getD i p0) := by
    generalize l.getD i p0 = x at *
    generalize l.take i = a at *
    rw [e, List.find?_append, hno, Option.none_or, List.find?_cons, hf]
  unfold hasB gotP
  rw [hfi]; exact ⟨rfl, rfl⟩
theorem rfind_more {l : List Par} {n : List UInt8} {i : Nat} (h : i < l.length) (hno : ((l.take i).find? fun p => p.n == n) = none) (hf : ((l.getD i p0).n == n) = false) : ((l.take (i + 1)).find? fun p => p.n == n) = none := by
  rw [List.take_add_one, List.find?_append, hno, Option.none_or, get_par l i h]
  show List.find? _ [l.getD i p0] = none
  rw [List.find?_cons, hf]; rfl
theorem rfind_none {l : List Par} {n : List UInt8} (h : (l.find? fun p => p.n == n) = none) : hasB l n = false ∧ gotP l n = p0 := by
  unfold hasB gotP; rw [h]; exact ⟨rfl, rfl⟩
abbrev sv (s : List UInt8) : Value := .string (str s)
abbrev OwnT (X : Chunk) (a : Option Addr) (k : Nat) (l : List (List UInt8)) : Prop := Ost.Own 1 9 X a l.length k (l.map sv)
theorem get_sv (l : List (List UInt8)) (i : Nat) (h : i < l.length) : (l.map sv)[i]? = some (sv (l.getD i [])) := by
  rw [List.getElem?_map, List.getD_eq_getElem?_getD, List.getElem?_eq_getElem h]; rfl
theorem all_sv {f : List UInt8 → Bool} (l : List (List UInt8)) (j : Nat) (h : j < l.length) : (l.take (j + 1)).all f = ((l.take j).all f && f (l.getD j [])) := by
  rw [List.take_add_one, List.all_append, List.getD_eq_getElem?_getD, List.getElem?_eq_getElem h]; simp
theorem any_sv {f : List UInt8 → Bool} (l : List (List UInt8)) (j : Nat) (h : j < l.length) : (l.take (j + 1)).any f = ((l.take j).any f || f (l.getD j [])) := by
  rw [List.take_add_one, List.any_append, List.getD_eq_getElem?_getD, List.getElem?_eq_getElem h]; simp
theorem any_has (l : List (List UInt8)) (n : List UInt8) : (l.any fun x => x == n) = l.contains n := by
  rw [Bool.eq_iff_iff, List.any_eq_true, List.contains_iff_mem]
  constructor
  · rintro ⟨x, hx, e⟩; rw [← eq_of_beq e]; exact hx
  · intro h; exact ⟨n, h, by simp⟩

section f
variable {X : Chunk} {xa : Option Addr} {xc : Nat} {l : List Par}
set_option maxHeartbeats 1000000 in
theorem rfind_spec (hX : OwnR X xa xc l) (hl : l.length ≤ 100000) (n : List UInt8) : Meets Try.prog 68 [.slice xa l.length xc, .string (str n)] [X]
    fun v A => v = .tuple #[.agg (encP (gotP l n)).toArray, .bool (hasB l n)] ∧ A = [X] := by
  have hs := encP_len
  refine spec_intro Try.func68 rfl (by kernel_rfl) (by rw [Try.ntmps68]; simp) fun F => ?_; rw [Try.ntmps68, Try.results68]
  refine going ?_
  refine run_op fun K hK => ?_; refine alloc_as (encP p0).toArray rfl fun b4 => ?_; refine hK _ _ ?_; clear hK K
  refine going ?_
  refine loop_i (fun q D L S => ∃ i : Nat, i ≤ l.length ∧ ((l.take i).find? fun p => p.n == n) = none ∧ q = l.length - i ∧ D = [] ∧
    L = [(10, .int .i64 i), (9, .int .i64 l.length), (8, .slice xa l.length xc), (4, .pointer (some ⟨b4, 0, none⟩)), (1, .string (str n))] ∧ S = [rpB b4 p0, X, F])
    ⟨0, by omega, rfl, rfl, rfl, rfl, rfl⟩ ?_
  rintro q D L S ⟨i, hi, hno, rfl, rfl, rfl, rfl⟩
  refine going ?_
  refine if_d (fun hc => ?_) (fun hc => ?_)
  · have hil : i < l.length := by omega
    have hx := get_par l i hil
    refine going ?_
    refine run_op fun K hK => ?_; refine load_el_agg hX hs hx (by decide) (by (repeat (first | with_reducible assumption | with_reducible exact List.mem_cons_self .. | with_reducible apply List.mem_cons_of_mem))) ?_; refine hK _ _ ?_; clear hK K
    refine run_op fun K hK => ?_; refine alloc_as (encP p0).toArray rfl fun b7 => ?_; refine hK _ _ ?_; clear hK K
    refine run_op fun K hK => ?_; refine store_all (vs := encP (l.getD i p0)) rfl (cell_P _) (by (repeat (first | with_reducible exact Upd.one | with_reducible apply Upd.next))) (by rfl) ?_; refine hK _ _ ?_; clear hK K
    refine going ?_
    cases hb : ((l.getD i p0).n == n) with
    | true =>
      obtain ⟨e1, e2⟩ := rfind_at hil hno hb
      rw [e1, e2]
      refine going ?_
      refine run_op fun K hK => ?_; refine load_all (vs := encP (l.getD i p0)) (by (repeat (first | with_reducible exact Lies.one | with_reducible apply Lies.next))) rfl ?_; refine hK _ _ ?_; clear hK K
      refine run_op fun K hK => ?_; refine store_all (vs := encP (l.getD i p0)) rfl (cell_P _) (by (repeat (first | with_reducible exact Upd.one | with_reducible apply Upd.next))) (by rfl) ?_; refine hK _ _ ?_; clear hK K
      refine going ?_
      refine back_cells (vs := [.agg (encP (l.getD i p0)).toArray, .bool true]) [X] ⟨rfl, rfl⟩ (hr := by (intro κ hκ; simp only [resW, withV, lookT_hit, lookT_miss, Nat.reduceBEq]; exact load_all (vs := encP (l.getD i p0)) (by (repeat (first | with_reducible exact Lies.one | with_reducible apply Lies.next))) rfl hκ))
    | false =>
      refine going ?_
      exact again ⟨i + 1, by omega, rfind_more hil hno hb, rfl, rfl, rfl, rfl⟩
  · obtain rfl : i = l.length := by omega
    rw [List.take_length] at hno
    obtain ⟨e1, e2⟩ := rfind_none hno
    rw [e1, e2]
    refine going ?_
    refine run_op fun K hK => ?_; rw [build_struct (ps := []) (cs := (encP p0).toArray) rfl]; refine hK _ _ ?_; clear hK K
    refine going ?_
    refine run_op fun K hK => ?_; refine store_all (vs := encP p0) rfl (cell_P _) (by (repeat (first | with_reducible exact Upd.one | with_reducible apply Upd.next))) (by rfl) ?_; refine hK _ _ ?_; clear hK K
    refine going ?_
    refine back_cells (vs := [.agg (encP p0).toArray, .bool false]) [X] ⟨rfl, rfl⟩ (hr := by (intro κ hκ; simp only [resW, withV, lookT_hit, lookT_miss, Nat.reduceBEq]; exact load_all (vs := encP p0) (by (repeat (first | with_reducible exact Lies.one | with_reducible apply Lies.next))) rfl hκ))

theorem rvalue_spec (hX : OwnR X xa xc l) (hl : l.length ≤ 100000) (n : List UInt8) : Meets Try.prog 69 [.slice xa l.length xc, .string (str n)] [X]
    fun v A => v = .string (str (gotP l n).v) ∧ A = [X] := by
  refine spec_intro Try.func69 rfl (by kernel_rfl) (by rw [Try.ntmps69]; simp) fun F => ?_; rw [Try.ntmps69, Try.results69]
  refine going ?_
  refine run_op fun K hK => ?_; refine calls_to (rfind_spec hX hl n) ?_; rintro v A ⟨rfl, rfl⟩; (try simp only [List.nil_append, List.cons_append]); refine hK _ _ ?_; clear hK K; refine going ?_
  refine run_op fun K hK => ?_; refine alloc_as (encP p0).toArray rfl fun b7 => ?_; refine hK _ _ ?_; clear hK K
  refine run_op fun K hK => ?_; refine store_all (vs := encP (gotP l n)) rfl (cell_P _) (by (repeat (first | with_reducible exact Upd.one | with_reducible apply Upd.next))) (by rfl) ?_; refine hK _ _ ?_; clear hK K
  refine going ?_
  refine back_tmp [X] ?_; exact ⟨rfl, rfl⟩

set_option maxHeartbeats 4000000 in
theorem rlook_spec (hX : OwnR X xa xc l) (hl : l.length ≤ 100000) {M Q : Chunk} {ma qa : Option Addr} {mc qc : Nat} {ms qs : List (List UInt8)} (hM : OwnT M ma mc ms) (hQ : OwnT Q qa qc qs) (hm : ms.length ≤ 1000) (hq : qs.length ≤ 1000) :
    Meets Try.prog 67 [.slice xa l.length xc, .slice ma ms.length mc, .slice qa qs.length qc] [X, M, Q]
    fun v A => v = .tuple #[.bool (lookE l ms qs).1, .bool (lookE l ms qs).2] ∧ A = [X, M, Q] := by
  unfold lookE
  refine spec_intro Try.func67 rfl (by kernel_rfl) (by rw [Try.ntmps67]; simp) fun F => ?_; rw [Try.ntmps67, Try.results67]
  refine going ?_
  refine block_mid (fun D L S => D = [] ∧ L = [(8, .bool (ms.all (hasB l))), (9, .bool true), (0, .slice xa l.length xc), (1, .slice ma ms.length mc), (2, .slice qa qs.length qc)] ∧ S = [X, M, Q, F]) ?_ ?_
  · refine loop_i (fun q D L S => ∃ i : Nat, i ≤ ms.length ∧ q = ms.length - i ∧ D = [] ∧
      L = [(23, .int .i64 i), (22, .int .i64 ms.length), (21, .slice ma ms.length mc), (8, .bool ((ms.take i).all (hasB l))), (9, .bool true), (0, .slice xa l.length xc), (1, .slice ma ms.length mc), (2, .slice qa qs.length qc)] ∧ S = [X, M, Q, F])
      ⟨0, by omega, rfl, rfl, rfl, rfl⟩ ?_
    rintro q D L S ⟨i, hi, rfl, rfl, rfl, rfl⟩
    refine going ?_
    refine if_d (fun hc => ?_) (fun hc => ?_)
    · have hil : i < ms.length := by omega
      have hx := get_sv ms i hil
      have han := all_sv (f := hasB l) ms i hil
      generalize ms.getD i [] = n at *
      refine going ?_
      refine run_op fun K hK => ?_; refine calls_to (rfind_spec hX hl n) ?_; rintro v A ⟨rfl, rfl⟩; (try simp only [List.nil_append, List.cons_append]); refine hK _ _ ?_; clear hK K; refine going ?_
      refine run_op fun K hK => ?_; refine alloc_as (encP p0).toArray rfl fun b7 => ?_; refine hK _ _ ?_; clear hK K
      refine run_op fun K hK => ?_; refine store_all (vs := encP (gotP l n)) rfl (cell_P _) (by (repeat (first | with_reducible exact Upd.one | with_reducible apply Upd.next))) (by rfl) ?_; refine hK _ _ ?_; clear hK K
      refine going ?_
      cases hw : (ms.take i).all (hasB l) with
      | true =>
        rw [hw, Bool.true_and] at han
        refine going ?_
        rw [← han]
        exact again ⟨i + 1, by omega, rfl, rfl, rfl, rfl⟩
      | false =>
        rw [hw, Bool.false_and] at han
        refine going ?_
        rw [← han]
        exact again ⟨i + 1, by omega, rfl, rfl, rfl, rfl⟩
    · obtain rfl : i = ms.length := by omega
      rw [List.take_length]
      refine going ?_
      exact mid ⟨rfl, rfl, rfl⟩
  rintro D L S ⟨rfl, rfl, rfl⟩
  generalize ms.all (hasB l) = there
  have hsv : ∀ l : List (List UInt8), ∀ v ∈ l.map sv, Value.cell1 v := fun l v hv => by
    obtain ⟨x, _, rfl⟩ := List.mem_map.1 hv; trivial
  refine going ?_
  refine run_op fun K hK => ?_; refine build_el0 (e := 9) (s := 1) (hs := inferInstance) (fun b38 C38 ho38 => ?_); refine hK _ _ ?_; clear hK K
  refine going ?_
  refine run_op fun K hK => ?_; refine append_own (e := 9) (s := 1) (hs := inferInstance) (by rfl) (by decide) ho38 (.inr (by (repeat (first | with_reducible exact Pick.head _ _ | with_reducible apply Pick.tail)))) (hM.rd (by (repeat (first | with_reducible assumption | with_reducible exact List.mem_cons_self .. | with_reducible apply List.mem_cons_of_mem)))) (hsv ms) (by simp only [maxLen]; omega) (by omega) (fun C3 a3 k3 ho3 => ?_); refine hK _ _ ?_; clear hK K
  refine going ?_
  refine run_op fun K hK => ?_; refine build1 rfl [sv nOpaque, sv nStale] (by decide) rfl rfl (by simp [Value.cell1]) (fun b5 C5 ho5 => ?_); refine hK _ _ ?_; clear hK K
  refine going ?_
  refine run_op fun K hK => ?_; refine append_own (e := 9) (s := 1) (hs := inferInstance) (by rfl) (by decide) ho3 (.inr (by (repeat (first | with_reducible exact Pick.head _ _ | with_reducible apply Pick.tail)))) (ho5.rd (by (repeat (first | with_reducible assumption | with_reducible exact List.mem_cons_self .. | with_reducible apply List.mem_cons_of_mem)))) (hsv [nOpaque, nStale]) (by simp only [maxLen]; omega) (by omega) (fun N na nk hN => ?_); refine hK _ _ ?_; clear hK K
  have e1 : 0 + ms.length + 2 = (ms ++ [nOpaque, nStale]).length := by simp
  have e2 : [] ++ ms.map sv ++ [sv nOpaque, sv nStale] = (ms ++ [nOpaque, nStale]).map sv := by simp
  rw [e1, e2] at hN
  rw [e1]
  clear e1 e2
  have hN2 : OwnT N na nk (ms ++ [nOpaque, nStale]) := hN
  clear hN ho3
  have hnl : (ms ++ [nOpaque, nStale]).length ≤ 1002 := by simp; omega
  generalize ms ++ [nOpaque, nStale] = ns at *
  refine going ?_
  refine loop_i (fun q D L S => ∃ i : Nat, i ≤ ns.length ∧ q = ns.length - i ∧ D = [] ∧
    L = [(44, .int .i64 i), (43, .int .i64 ns.length), (42, .slice na ns.length nk), (8, .bool there), (9, .bool ((ns.take i).all fun n => !(hasB l n && (gotP l n).q != qs.contains n))), (0, .slice xa l.length xc), (2, .slice qa qs.length qc)] ∧ S = [N, X, M, Q, F])
    ⟨0, by omega, rfl, rfl, rfl, rfl⟩ ?_
  rintro q D L S ⟨i, hi, rfl, rfl, rfl, rfl⟩
  refine going ?_
  refine if_d (fun hc => ?_) (fun hc => ?_)
  · have hil : i < ns.length := by omega
    have hx := get_sv ns i hil
    have han := all_sv (f := fun n => !(hasB l n && (gotP l n).q != qs.contains n)) ns i hil
    (try simp only at han)
    generalize ns.getD i [] = n at *
    generalize hacc : ((ns.take i).all fun n => !(hasB l n && (gotP l n).q != qs.contains n)) = acc at *
    clear hacc
    refine going ?_
    refine run_op fun K hK => ?_; refine calls_to (rfind_spec hX hl n) ?_; rintro v A ⟨rfl, rfl⟩; (try simp only [List.nil_append, List.cons_append]); refine hK _ _ ?_; clear hK K; refine going ?_
    refine run_op fun K hK => ?_; refine alloc_as (encP p0).toArray rfl fun b16 => ?_; refine hK _ _ ?_; clear hK K
    refine run_op fun K hK => ?_; refine store_all (vs := encP (gotP l n)) rfl (cell_P _) (by (repeat (first | with_reducible exact Upd.one | with_reducible apply Upd.next))) (by rfl) ?_; refine hK _ _ ?_; clear hK K
    generalize gotP l n = p at *
    generalize hasB l n = h at *
    refine going ?_
    refine loop_i (fun q D L S => ∃ k : Nat, k ≤ qs.length ∧ q = qs.length - k ∧ D = [] ∧
      L = [(56, .int .i64 k), (55, .int .i64 qs.length), (54, .slice qa qs.length qc), (18, .bool ((qs.take k).any fun x => x == n)), (15, sv n), (16, .pointer (some ⟨b16, 0, none⟩)), (17, .bool h),
        (44, .int .i64 i), (43, .int .i64 ns.length), (42, .slice na ns.length nk), (8, .bool there), (9, .bool acc), (0, .slice xa l.length xc), (2, .slice qa qs.length qc)] ∧ S = [rpB b16 p, N, X, M, Q, F])
      ⟨0, by omega, rfl, rfl, rfl, rfl⟩ ?_
    rintro q D L S ⟨k, hk, rfl, rfl, rfl, rfl⟩
    refine going ?_
    refine if_d (fun hc => ?_) (fun hc => ?_)
    · have hkl : k < qs.length := by omega
      have hx2 := get_sv qs k hkl
      have han2 := any_sv (f := fun x => x == n) qs k hkl
      (try simp only at han2)
      generalize qs.getD k [] = x at *
      refine going ?_
      cases hw : ((qs.take k).any fun x => x == n) with
      | true =>
        rw [hw, Bool.true_or] at han2
        refine going ?_
        rw [show Value.bool true = .bool ((qs.take (k + 1)).any fun x => x == n) from by rw [han2]]
        exact again ⟨k + 1, by omega, rfl, rfl, rfl, rfl⟩
      | false =>
        rw [hw, Bool.false_or] at han2
        refine going ?_
        rw [← han2]
        exact again ⟨k + 1, by omega, rfl, rfl, rfl, rfl⟩
    · obtain rfl : k = qs.length := by omega
      rw [List.take_length, any_has]
      generalize qs.contains n = w at *
      refine going ?_
      cases h with
      | false =>
        rw [Bool.false_and, Bool.not_false, Bool.and_true] at han
        refine going ?_
        rw [← han]
        exact again ⟨i + 1, by omega, rfl, rfl, rfl, rfl⟩
      | true =>
        rw [Bool.true_and] at han
        refine going ?_
        cases hpw : (p.q != w) with
        | true =>
          rw [hpw, Bool.not_true, Bool.and_false] at han
          refine going ?_
          rw [show Value.bool false = .bool ((ns.take (i + 1)).all fun n => !(hasB l n && (gotP l n).q != qs.contains n)) from by rw [han]]
          exact again ⟨i + 1, by omega, rfl, rfl, rfl, rfl⟩
        | false =>
          rw [hpw, Bool.not_false, Bool.and_true] at han
          refine going ?_
          rw [← han]
          exact again ⟨i + 1, by omega, rfl, rfl, rfl, rfl⟩
  · obtain rfl : i = ns.length := by omega
    rw [List.take_length]
    refine going ?_
    refine back_cells (vs := [.bool there, .bool (ns.all fun n => !(hasB l n && (gotP l n).q != qs.contains n))]) [X, M, Q] ⟨rfl, rfl⟩
end f

end Go.Proofs.Ytfoppclmjmpjiaa

/- What is read of a header is no longer than it. Conditions: as each says. -/
set_option linter.unusedSimpArgs false
set_option linter.unusedVariables false
namespace Go.Proofs.Ytfoppclmjmpjiaa
open Go Go.Ost

theorem rall_count (l : List Par) : l.length ≤ allLen l := by
  induction l with
  | nil => exact Nat.le_refl _
  | cons p l ih => show l.length + 1 ≤ p.n.length + p.v.length + 1 + allLen l; omega
theorem rall_in {l : List Par} {p : Par} (h : p ∈ l) : p.n.length + p.v.length + 1 ≤ allLen l := by
  induction l with
  | nil => cases h
  | cons a l ih =>
    show _ ≤ a.n.length + a.v.length + 1 + allLen l
    rcases List.mem_cons.1 h with rfl | h
    · omega
    · have := ih h; omega
theorem rparse_bound (s : List UInt8) : (parseE s).1.length ≤ s.length ∧ ∀ p ∈ (parseE s).1, p.n.length + p.v.length ≤ s.length := by
  have h1 := list_len _ (restE s) (Nat.le_refl _)
  have h2 := rest_len s
  have h3 := rall_count (listE (restE s)).1
  unfold parseE
  split
  · exact ⟨by simp, fun p hp => by cases hp⟩
  split
  · exact ⟨by simp, fun p hp => by cases hp⟩
  split
  · exact ⟨by simp, fun p hp => by cases hp⟩
  split
  · exact ⟨by simp, fun p hp => by cases hp⟩
  · refine ⟨by show (listE (restE s)).1.length ≤ _; omega, fun p hp => ?_⟩
    have := rall_in (l := (listE (restE s)).1) hp
    omega
theorem got_len {l : List Par} {B : Nat} (h : ∀ p ∈ l, p.v.length ≤ B) (n : List UInt8) : (gotP l n).v.length ≤ B := by
  unfold gotP
  cases hf : l.find? fun p => p.n == n with
  | none => show (0 : Nat) ≤ _; omega
  | some p => exact h p (List.mem_of_find?_eq_some hf)

end Go.Proofs.Ytfoppclmjmpjiaa
