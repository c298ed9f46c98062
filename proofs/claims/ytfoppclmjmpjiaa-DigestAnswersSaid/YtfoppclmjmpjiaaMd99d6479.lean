/- Texts in a row: the walk's rules and contracts, as each says. Conditions: as each says. -/
import Derived.Test.YtfoppclmjmpjiaaM3a18551e
import Derived.Test.YtfoppclmjmpjiaaM5b0d9824
import Derived.Test.YtfoppclmjmpjiaaM1bd2b66d
import Derived.Test.YtfoppclmjmpjiaaM8f6a7144
/- Digits read, by the document. Conditions: as each says. -/
set_option linter.unusedSimpArgs false
set_option linter.unusedVariables false
namespace Go.Proofs.Ytfoppclmjmpjiaa
open Go Go.Ost Go.Sha

theorem dv_at : ∀ j < 16, dv (digits.getD j 0) = j := by decide +kernel
theorem dv_no {c : UInt8} (h : ∀ j < 16, digits.getD j 0 ≠ c) : dv c = -1 := by
  have key : ∀ l : List UInt8, (∀ x ∈ l, x ≠ c) → Lib.indexByte l c = -1 := by
    intro l
    induction l with
    | nil => intro _; rfl
    | cons b l ih =>
      intro h
      have e : Lib.indexByte (b :: l) c = if (b == c) = true then (0 : Int) else if (Lib.indexByte l c == -1) = true then -1 else Lib.indexByte l c + 1 := rfl
      rw [e, if_neg (by simpa using h b (List.mem_cons_self ..)), ih fun x hx => h x (List.mem_cons_of_mem _ hx)]; rfl
  refine key digits fun x hx => ?_
  obtain ⟨j, hj⟩ := List.mem_iff_getElem?.1 hx
  have hlt := (List.getElem?_eq_some_iff.1 hj).1
  have := h j hlt
  rw [List.getD_eq_getElem?_getD, hj] at this
  exact this
theorem uhF_snoc {a b : UInt8} (ha : 0 ≤ dv a) (hb : 0 ≤ dv b) : ∀ (k : Nat) (t l : List UInt8), t.length ≤ k → uhF t = some l → uhF (t ++ [a, b]) = some (l ++ [UInt8.ofNat (16 * (dv a).toNat + (dv b).toNat)])
  | _, [], l, _, h => by
    simp [uhF] at h; subst h
    show (if dv a < 0 ∨ dv b < 0 then none else _) = _
    rw [if_neg (by omega)]; rfl
  | _, [x], l, _, h => by simp [uhF] at h
  | 0, x :: y :: t, l, hk, h => by simp at hk
  | k + 1, x :: y :: t, l, hk, h => by
    simp only [uhF] at h
    show (if dv x < 0 ∨ dv y < 0 then none else _) = _
    split at h
    · cases h
    · rename_i hxy
      rw [if_neg hxy]
      cases hr : uhF t with
      | none => rw [hr] at h; cases h
      | some m =>
        rw [hr] at h; cases h
        have ih := uhF_snoc ha hb k t m (by simp only [List.length_cons] at hk; omega) hr
        rw [List.append_eq] at *
        rw [ih]; rfl
theorem uhF_no {c : UInt8} (hc : dv c < 0) : ∀ (k : Nat) (s : List UInt8), s.length ≤ k → c ∈ s → uhF s = none
  | _, [], _, h => by cases h
  | _, [x], _, h => rfl
  | 0, x :: y :: t, hk, h => by simp at hk
  | k + 1, x :: y :: t, hk, h => by
    rw [uhF]
    rcases List.mem_cons.1 h with rfl | h
    · rw [if_pos (.inl hc)]
    · rcases List.mem_cons.1 h with rfl | h
      · rw [if_pos (.inr hc)]
      · rw [uhF_no hc k t (by simp only [List.length_cons] at hk; omega) h]
        split <;> rfl

set_option maxHeartbeats 4000000 in
theorem runhex_spec (s : List UInt8) (hs : s.length ≤ 100000) : Meets Try.prog 70 [.string (str s)] []
    fun v A => ∃ X a k, v = .tuple #[.slice a (uhE s).1.length k, .int .i64 (uhE s).2] ∧ Own8 5 X a (uhE s).1.length k (uhE s).1 ∧ A = [X] := by
  have eD : Value.string ⟨#[48, 49, 50, 51, 52, 53, 54, 55, 56, 57, 97, 98, 99, 100, 101, 102]⟩ = .string (str digits) := rfl
  have hdl : digits.length = 16 := rfl
  refine spec_intro Try.func70 rfl (by kernel_rfl) (by rw [Try.ntmps70]; simp) fun F => ?_; rw [Try.ntmps70, Try.results70]
  refine code_nil ?_
  refine going ?_
  by_cases h2 : s.length % 2 = 0
  · rw [bne_eq_false_iff_eq.2 (show (s.length : Int) % 2 = 0 by omega)]
    refine going ?_
    refine loop_i (fun q D L S => ∃ (i : Nat) (out : List UInt8) (X : Chunk) (xa : Option Addr) (xc : Nat), i ≤ s.length ∧ out.length ≤ i ∧
      ((i % 2 = 0 ∧ uhF (s.take i) = some out) ∨ (i % 2 = 1 ∧ ∃ o1, uhF (s.take (i - 1)) = some o1 ∧ 0 ≤ dv (s.getD (i - 1) 0) ∧ out = o1 ++ [UInt8.ofNat (16 * (dv (s.getD (i - 1) 0)).toNat)])) ∧
      Own8 5 X xa out.length xc out ∧ q = s.length - i ∧ D = [] ∧ L = [(5, .int .i64 i), (4, .slice xa out.length xc), (0, .string (str s))] ∧ S = [X, F])
      ⟨0, [], [], none, 0, by omega, by simp, .inl ⟨rfl, rfl⟩, own_nil, rfl, rfl, rfl, rfl⟩ ?_
    rintro q D L S ⟨i, out, X, xa, xc, hi, hol, hcase, hX, rfl, rfl, rfl, rfl⟩
    refine going ?_
    refine if_d (fun hc => ?_) (fun hc => ?_)
    · have hil : i < s.length := by omega
      have hmem : s.getD i 0 ∈ s := by
        rw [List.getD_eq_getElem?_getD, List.getElem?_eq_getElem hil]; exact List.getElem_mem hil
      have htk : s.take (i + 1) = s.take i ++ [s.getD i 0] := by
        rw [List.take_add_one, List.getD_eq_getElem?_getD, List.getElem?_eq_getElem hil]; rfl
      refine going ?_
      refine loop_i (fun q D L S => ∃ (n : Nat) (w : Int), n ≤ 16 ∧ ((w = -1 ∧ ∀ j < n, digits.getD j 0 ≠ s.getD i 0) ∨ (w = dv (s.getD i 0) ∧ 0 ≤ w)) ∧ q = 16 - n ∧ D = [] ∧
        L = [(7, .int .i64 n), (6, .int .i64 w), (5, .int .i64 i), (4, .slice xa out.length xc), (0, .string (str s))] ∧ S = [X, F])
        ⟨0, -1, by omega, .inl ⟨rfl, fun j hj => absurd hj (Nat.not_lt_zero j)⟩, rfl, rfl, rfl, rfl⟩ ?_
      rintro q D L S ⟨n, w, hn, hw, rfl, rfl, rfl, rfl⟩
      refine going ?_
      refine if_d (fun hc => ?_) (fun hc => ?_)
      · have hnl : n < 16 := by omega
        have hdat := dv_at n hnl
        refine going ?_
        refine code_dr [[], [0], [], [], [2, 3], [0, 1, 2, 3, 4]] [(0, false, []), (1, false, []), (2, false, []), (3, false, []), (4, false, []), (5, false, [])] ?_
        refine going ?_
        refine draw_quiet (by simp only [List.getElem?_toArray, List.getElem?_cons_succ, List.getElem?_cons_zero]; rfl) fun K hK => ?_; (try simp only [gos, gob, Nat.reduceBEq, if_true, reduceIte, reduceCtorEq, Nat.reduceLT, Nat.reduceEqDiff, Nat.reduceAdd, Nat.reduceSub, Int.reduceLT, Int.reduceLE, Int.reduceBEq, Int.reduceBNe, Int.reduceToNat, Int.reduceAdd, Int.reduceSub, Int.reduceMul, Int.reduceDiv, Int.reduceMod, Int.reducePow, Int.toNat_natCast, Nat.sub_zero, goq]); (try (simp (disch := omega) only [gow, gobw]; try simp only [gos, gob, Nat.reduceBEq, if_true, reduceIte, reduceCtorEq, Nat.reduceLT, Nat.reduceEqDiff, Nat.reduceAdd, Nat.reduceSub, Int.reduceLT, Int.reduceLE, Int.reduceBEq, Int.reduceBNe, Int.reduceToNat, Int.reduceAdd, Int.reduceSub, Int.reduceMul, Int.reduceDiv, Int.reduceMod, Int.reducePow, Int.toNat_natCast, Nat.sub_zero, goq])); rw [eD, sidx (by omega) (by show (n : Int) < (16 : Nat); omega)]; refine hK _ _ ?_; clear hK K
        (try rw [show ((n : Int)).toNat = n from by omega])
        refine going ?_
        cases he : (digits.getD n 0 == s.getD i 0) with
        | true =>
          have heq := eq_of_beq he
          (try rw [he])
          (try rw [show (((digits.getD n 0).toNat : Int) == ((s.getD i 0).toNat : Int)) = true from by rw [heq]; simp])
          refine going ?_
          exact again ⟨n + 1, n, by omega, .inr ⟨by rw [← heq, hdat], by omega⟩, rfl, rfl, rfl, rfl⟩
        | false =>
          have hne := beq_eq_false_iff_ne.1 he
          (try rw [he])
          refine going ?_
          refine again ⟨n + 1, w, by omega, ?_, rfl, rfl, rfl, rfl⟩
          rcases hw with ⟨h1, h3⟩ | h1
          · refine .inl ⟨h1, fun j hj => ?_⟩
            rcases Nat.lt_or_ge j n with h | h
            · exact h3 j h
            · obtain rfl : j = n := by omega
              exact hne
          · exact .inr h1
      · obtain rfl : n = 16 := by omega
        have hwd : w = dv (s.getD i 0) := by
          rcases hw with ⟨h1, h3⟩ | ⟨h1, _⟩
          · rw [h1, dv_no h3]
          · exact h1
        have hdr := dv_range (s.getD i 0)
        clear hw
        generalize hcc : s.getD i 0 = cc at *
        refine going ?_
        by_cases hw0 : 0 ≤ w
        · rw [decide_eq_false (show ¬ w < 0 by omega)]
          refine going ?_
          by_cases hev : i % 2 = 0
          · obtain ⟨_, hu⟩ | ⟨h, _⟩ := hcase
            · rw [beq_iff_eq.2 (show (i : Int) % 2 = 0 by omega)]
              refine going ?_
              have e1 : Value.int .u8 (16 * w) = b8 (UInt8.ofNat (16 * (dv cc).toNat)) := by
                simp only [b8, UInt8.toNat_ofNat']
                congr 1; omega
              rw [e1]
              refine run_op fun K hK => ?_; refine build8 ([UInt8.ofNat (16 * (dv cc).toNat)]) (by decide) rfl (rfl) (fun b7 C7 ho7 => ?_); refine hK _ _ ?_; clear hK K
              refine going ?_
              refine run_op fun K hK => ?_; refine app8 (hX) (by (repeat (first | with_reducible exact Pick.head _ _ | with_reducible apply Pick.tail))) ((ho7.rd (List.mem_cons_self ..)).mem (by (repeat (first | with_reducible assumption | with_reducible exact List.mem_cons_self .. | with_reducible apply List.mem_cons_of_mem)))) (by omega) (fun C9 a9 cap9 ho9 => ?_); refine hK _ _ ?_; clear hK K
              rw [show out.length + 1 = (out ++ [UInt8.ofNat (16 * (dv cc).toNat)]).length from by simp] at ho9 ⊢
              refine going ?_
              exact again ⟨i + 1, out ++ [UInt8.ofNat (16 * (dv cc).toNat)], C9, a9, cap9, by omega, by simp; omega, .inr ⟨by omega, out, by rw [Nat.add_sub_cancel]; exact hu, by rw [Nat.add_sub_cancel, hcc]; omega, by rw [Nat.add_sub_cancel, hcc]⟩, ho9, rfl, rfl, rfl, rfl⟩
            · omega
          · obtain ⟨h, _⟩ | ⟨_, o1, hu, hv0, hout⟩ := hcase
            · omega
            have hr1 := dv_range (s.getD (i - 1) 0)
            have htk2 : s.take (i + 1) = s.take (i - 1) ++ [s.getD (i - 1) 0, cc] := by
              have e1 : s.take i = s.take (i - 1) ++ [s.getD (i - 1) 0] := by
                have h1 : i - 1 < s.length := by omega
                have h3 : i = i - 1 + 1 := by omega
                rw [show s.take i = s.take (i - 1 + 1) from by rw [← h3], List.take_add_one, List.getD_eq_getElem?_getD, List.getElem?_eq_getElem h1]; rfl
              rw [htk, e1]; simp
            have hsn := uhF_snoc (a := s.getD (i - 1) 0) (b := cc) hv0 (by omega) _ _ _ (Nat.le_refl _) hu
            rw [← htk2] at hsn
            generalize dv (s.getD (i - 1) 0) = v1 at *
            have hol1 : out.length = o1.length + 1 := by rw [hout]; simp
            have hgo : out.getD o1.length 0 = UInt8.ofNat (16 * v1.toNat) := by rw [hout]; simp
            have hset : out.set o1.length (UInt8.ofNat (16 * v1.toNat + (dv cc).toNat)) = o1 ++ [UInt8.ofNat (16 * v1.toNat + (dv cc).toNat)] := by rw [hout]; simp
            rw [beq_eq_false_iff_ne.2 (show (i : Int) % 2 ≠ 0 by omega)]
            refine going ?_
            (try rw [show ((out.length : Int) - 1).toNat = o1.length from by omega])
            (try rw [hgo, show b8 (UInt8.ofNat (16 * v1.toNat)) = .int .u8 (16 * v1) from by simp only [b8, UInt8.toNat_ofNat']; congr 1; omega])
            refine going ?_
            (try rw [show ((out.length : Int) - 1).toNat = o1.length from by omega])
            have e1 : Value.int .u8 (16 * v1 + w) = b8 (UInt8.ofNat (16 * v1.toNat + (dv cc).toNat)) := by
              simp only [b8, UInt8.toNat_ofNat']
              congr 1; omega
            refine run_op fun K hK => ?_; rw [e1]; refine own_store8 hX (by (repeat (first | with_reducible exact Pick.head _ _ | with_reducible apply Pick.tail))) (by omega) (fun X2 hX2 => ?_); refine hK _ _ ?_; clear hK K
            rw [hset, show out.length = (o1 ++ [UInt8.ofNat (16 * v1.toNat + (dv cc).toNat)]).length from by rw [hol1]; simp] at hX2
            rw [show Value.slice xa out.length xc = .slice xa (o1 ++ [UInt8.ofNat (16 * v1.toNat + (dv cc).toNat)]).length xc from by rw [hol1]; simp]
            refine going ?_
            exact again ⟨i + 1, o1 ++ [UInt8.ofNat (16 * v1.toNat + (dv cc).toNat)], X2, xa, xc, by omega, by rw [List.length_append, List.length_singleton]; omega, .inl ⟨by omega, hsn⟩, hX2, rfl, rfl, rfl, rfl⟩
        · have hno : uhE s = ([], 5) := by
            unfold uhE
            rw [if_neg (by omega), uhF_no (c := cc) (by omega) _ s (Nat.le_refl _) hmem]
          rw [decide_eq_true (show w < 0 by omega), hno]
          refine code_nil ?_
          refine going ?_
          refine back_cells (vs := [.slice none 0 0, .int .i64 5]) [[]] ⟨[], none, 0, rfl, own_nil, rfl⟩
    · obtain rfl : i = s.length := by omega
      rw [List.take_length] at hcase
      have hfin : uhE s = (out, 0) := by
        rcases hcase with ⟨_, h⟩ | ⟨h, _⟩
        · unfold uhE; rw [if_neg (by omega), h]
        · omega
      rw [hfin]
      refine going ?_
      refine back_cells (vs := [.slice xa out.length xc, .int .i64 0]) [X] ⟨X, xa, xc, rfl, hX, rfl⟩
  · have hodd : uhE s = ([], 2) := by unfold uhE; rw [if_pos h2]
    rw [hodd, bne_iff_ne.2 (show (s.length : Int) % 2 ≠ 0 by omega)]
    refine going ?_
    refine back_cells (vs := [.slice none 0 0, .int .i64 2]) [[]] ⟨[], none, 0, rfl, own_nil, rfl⟩

theorem same_spec {X Y : Chunk} {xa ya : Option Addr} {xc yc : Nat} {p : List UInt8} (hX : Rd 1 [X] xa p.length (p.map b8)) (hY : Rd 1 [Y] ya p.length (p.map b8)) : Meets Try.prog 66 [.slice xa p.length xc, .slice ya p.length yc] [X, Y]
    fun v A => v = .bool true ∧ A = [X, Y] := by
  refine spec_intro Try.func66 rfl (by kernel_rfl) (by rw [Try.ntmps66]; simp) fun F => ?_; rw [Try.ntmps66, Try.results66]
  refine going ?_
  refine run_op fun K hK => ?_; refine conv_bytes_string (hX.mem (by (repeat (first | with_reducible assumption | with_reducible exact List.mem_cons_self .. | with_reducible apply List.mem_cons_of_mem)))) ?_; refine hK _ _ ?_; clear hK K
  refine going ?_
  refine run_op fun K hK => ?_; refine conv_bytes_string (hY.mem (by (repeat (first | with_reducible assumption | with_reducible exact List.mem_cons_self .. | with_reducible apply List.mem_cons_of_mem)))) ?_; refine hK _ _ ?_; clear hK K
  refine going ?_
  refine back_tmp [X, Y] ?_; exact ⟨by simp, rfl⟩

end Go.Proofs.Ytfoppclmjmpjiaa

/- An answer's header, in the document. Conditions: as each says. -/
set_option linter.unusedSimpArgs false
set_option linter.unusedVariables false
namespace Go.Proofs.Ytfoppclmjmpjiaa
open Go Go.Ost Go.Sha

instance tprAnT : TPlaces Try.prog 65 [(0, 1), (1, 1), (2, 1), (3, 1), (4, 1), (5, 1), (6, 1), (7, 1)] := ⟨by kernel_rfl⟩
set_option maxHeartbeats 8000000 in
theorem rantext_spec (a : An) (h1 : a.u.length ≤ 4000) (h2 : a.r.length ≤ 4000) (h3 : a.n.length ≤ 4000) (h4 : a.uri.length ≤ 4000) (h5 : a.cn.length ≤ 4000) (h6 : a.o.length ≤ 4000) (h7 : a.pf.length ≤ 1000)
    {P : Chunk} {pa : Option Addr} {pk : Nat} (hP : Rd 1 [P] pa a.pf.length (a.pf.map b8)) : Meets Try.prog 32 [.agg (encA a pa pk).toArray] [P]
    fun v A => v = .tuple #[.string (str (anText a).1), .int .i64 (anText a).2] ∧ A = [P] := by
  have hcl := an_len a
  have hcb := an_bound h1 h2 h3 h4 h5 h6 h7
  obtain ⟨au, ar, an, ai, ak, ao, ac, ap⟩ := a
  simp only at h1 h2 h3 h4 h5 h6 h7 hP
  have hx64 := ac.isLt
  have hct : anText ⟨au, ar, an, ai, ak, ao, ac, ap⟩ = if (sizB an && (sizB ak && decide ((ap.length : Int) = 32))) = false then ([], 4) else printE (anPar ⟨au, ar, an, ai, ak, ao, ac, ap⟩) := rfl
  have hcp : anPar ⟨au, ar, an, ai, ak, ao, ac, ap⟩ = [(⟨nUser, au, true⟩ : Par), ⟨nRealm, ar, true⟩, ⟨nNonce, an, true⟩, ⟨nUri, ai, true⟩, ⟨nQop, nAuth, false⟩, ⟨nNc, hex (bytes4 ac), false⟩, ⟨nCnonce, ak, true⟩, ⟨nResp, hex ap, true⟩] ++ opqP ao ++ [⟨nAlg, nSum, false⟩] := rfl
  rw [hct]
  refine spec_intro Try.func32 rfl (by kernel_rfl) (by rw [Try.ntmps32]; simp) fun F => ?_; rw [Try.ntmps32, Try.results32]
  refine going ?_
  refine run_op fun K hK => ?_; refine box_new fun b1 => ?_; (try simp only [Value.cells]); refine hK _ _ ?_; clear hK K
  refine going ?_
  refine run_op fun K hK => ?_; refine calls_to (some_spec an) ?_; rintro v A ⟨rfl, rfl⟩; (try simp only [List.nil_append, List.cons_append]); refine hK _ _ ?_; clear hK K; refine going ?_
  cases hz1 : sizB an with
  | false =>
    rw [if_pos (by rfl)]
    refine going ?_
    refine back_cells (vs := [.string (str []), .int .i64 4]) [P] ⟨rfl, rfl⟩
  | true =>
    refine going ?_
    refine run_op fun K hK => ?_; refine calls_to (some_spec ak) ?_; rintro v A ⟨rfl, rfl⟩; (try simp only [List.nil_append, List.cons_append]); refine hK _ _ ?_; clear hK K; refine going ?_
    cases hz2 : sizB ak with
    | false =>
      rw [if_pos (by rfl)]
      refine going ?_
      refine back_cells (vs := [.string (str []), .int .i64 4]) [P] ⟨rfl, rfl⟩
    | true =>
      refine going ?_
      by_cases hz3 : (ap.length : Int) = 32
      · rw [bne_eq_false_iff_eq.2 hz3, if_neg (by rw [decide_eq_true hz3]; simp)]
        refine going ?_
        refine code_dr [[], [0], [0, 1], [], [3], [3, 4], [], [6], [6, 7], [], [9], [9, 10], [], [], [13], [13, 14], [13, 14, 15], [13, 14, 15, 16], [13, 14, 15, 16, 17], [], [19], [19, 20], [], [22], [13, 14, 15, 16, 17, 22, 23], [13, 14, 15, 16, 17, 22, 23, 24], [0, 1, 2, 3, 4, 5, 6, 7, 8, 9, 10, 11, 12, 13, 14, 15, 16, 17, 18, 19, 20, 21, 22, 23, 24, 25], [0, 1, 2, 3, 4, 5, 6, 7, 8, 9, 10, 11, 12, 13, 14, 15, 16, 17, 18, 19, 20, 21, 22, 23, 24, 25, 26]] [(0, false, []), (1, false, []), (2, false, []), (3, false, []), (4, false, []), (5, false, []), (6, false, []), (7, false, []), (8, false, []), (9, false, []), (10, false, []), (11, false, []), (12, false, []), (13, false, []), (14, false, []), (15, false, []), (19, false, []), (20, false, []), (21, false, []), (22, false, []), (23, false, []), (16, true, [1, 4, 7, 10, 20, 23]), (17, true, [1, 4, 7, 10, 20, 23]), (18, false, []), (24, true, [1, 4, 7, 10, 20]), (25, false, []), (26, true, []), (27, true, [])] ?_
        refine going ?_
        refine draw_quiet (by simp only [List.getElem?_toArray, List.getElem?_cons_succ, List.getElem?_cons_zero]; rfl) fun K hK => ?_; (try simp only [gos, gob, Nat.reduceBEq, if_true, reduceIte, reduceCtorEq, Nat.reduceLT, Nat.reduceEqDiff, Nat.reduceAdd, Nat.reduceSub, Int.reduceLT, Int.reduceLE, Int.reduceBEq, Int.reduceBNe, Int.reduceToNat, Int.reduceAdd, Int.reduceSub, Int.reduceMul, Int.reduceDiv, Int.reduceMod, Int.reducePow, Int.toNat_natCast, Nat.sub_zero, goq]); (try (simp (disch := omega) only [gow, gobw]; try simp only [gos, gob, Nat.reduceBEq, if_true, reduceIte, reduceCtorEq, Nat.reduceLT, Nat.reduceEqDiff, Nat.reduceAdd, Nat.reduceSub, Int.reduceLT, Int.reduceLE, Int.reduceBEq, Int.reduceBNe, Int.reduceToNat, Int.reduceAdd, Int.reduceSub, Int.reduceMul, Int.reduceDiv, Int.reduceMod, Int.reducePow, Int.toNat_natCast, Nat.sub_zero, goq])); rw [build_struct (ps := [(0, .string ⟨#[117, 115, 101, 114, 110, 97, 109, 101]⟩), (1, .string (str au)), (2, .bool true)]) (cs := (encP ⟨nUser, au, true⟩).toArray) rfl]; refine hK _ _ ?_; clear hK K
        refine going ?_
        refine draw_quiet (by simp only [List.getElem?_toArray, List.getElem?_cons_succ, List.getElem?_cons_zero]; rfl) fun K hK => ?_; (try simp only [gos, gob, Nat.reduceBEq, if_true, reduceIte, reduceCtorEq, Nat.reduceLT, Nat.reduceEqDiff, Nat.reduceAdd, Nat.reduceSub, Int.reduceLT, Int.reduceLE, Int.reduceBEq, Int.reduceBNe, Int.reduceToNat, Int.reduceAdd, Int.reduceSub, Int.reduceMul, Int.reduceDiv, Int.reduceMod, Int.reducePow, Int.toNat_natCast, Nat.sub_zero, goq]); (try (simp (disch := omega) only [gow, gobw]; try simp only [gos, gob, Nat.reduceBEq, if_true, reduceIte, reduceCtorEq, Nat.reduceLT, Nat.reduceEqDiff, Nat.reduceAdd, Nat.reduceSub, Int.reduceLT, Int.reduceLE, Int.reduceBEq, Int.reduceBNe, Int.reduceToNat, Int.reduceAdd, Int.reduceSub, Int.reduceMul, Int.reduceDiv, Int.reduceMod, Int.reducePow, Int.toNat_natCast, Nat.sub_zero, goq])); rw [build_struct (ps := [(0, .string ⟨#[114, 101, 97, 108, 109]⟩), (1, .string (str ar)), (2, .bool true)]) (cs := (encP ⟨nRealm, ar, true⟩).toArray) rfl]; refine hK _ _ ?_; clear hK K
        refine going ?_
        refine draw_quiet (by simp only [List.getElem?_toArray, List.getElem?_cons_succ, List.getElem?_cons_zero]; rfl) fun K hK => ?_; (try simp only [gos, gob, Nat.reduceBEq, if_true, reduceIte, reduceCtorEq, Nat.reduceLT, Nat.reduceEqDiff, Nat.reduceAdd, Nat.reduceSub, Int.reduceLT, Int.reduceLE, Int.reduceBEq, Int.reduceBNe, Int.reduceToNat, Int.reduceAdd, Int.reduceSub, Int.reduceMul, Int.reduceDiv, Int.reduceMod, Int.reducePow, Int.toNat_natCast, Nat.sub_zero, goq]); (try (simp (disch := omega) only [gow, gobw]; try simp only [gos, gob, Nat.reduceBEq, if_true, reduceIte, reduceCtorEq, Nat.reduceLT, Nat.reduceEqDiff, Nat.reduceAdd, Nat.reduceSub, Int.reduceLT, Int.reduceLE, Int.reduceBEq, Int.reduceBNe, Int.reduceToNat, Int.reduceAdd, Int.reduceSub, Int.reduceMul, Int.reduceDiv, Int.reduceMod, Int.reducePow, Int.toNat_natCast, Nat.sub_zero, goq])); rw [build_struct (ps := [(0, .string ⟨#[110, 111, 110, 99, 101]⟩), (1, .string (str an)), (2, .bool true)]) (cs := (encP ⟨nNonce, an, true⟩).toArray) rfl]; refine hK _ _ ?_; clear hK K
        refine going ?_
        refine draw_quiet (by simp only [List.getElem?_toArray, List.getElem?_cons_succ, List.getElem?_cons_zero]; rfl) fun K hK => ?_; (try simp only [gos, gob, Nat.reduceBEq, if_true, reduceIte, reduceCtorEq, Nat.reduceLT, Nat.reduceEqDiff, Nat.reduceAdd, Nat.reduceSub, Int.reduceLT, Int.reduceLE, Int.reduceBEq, Int.reduceBNe, Int.reduceToNat, Int.reduceAdd, Int.reduceSub, Int.reduceMul, Int.reduceDiv, Int.reduceMod, Int.reducePow, Int.toNat_natCast, Nat.sub_zero, goq]); (try (simp (disch := omega) only [gow, gobw]; try simp only [gos, gob, Nat.reduceBEq, if_true, reduceIte, reduceCtorEq, Nat.reduceLT, Nat.reduceEqDiff, Nat.reduceAdd, Nat.reduceSub, Int.reduceLT, Int.reduceLE, Int.reduceBEq, Int.reduceBNe, Int.reduceToNat, Int.reduceAdd, Int.reduceSub, Int.reduceMul, Int.reduceDiv, Int.reduceMod, Int.reducePow, Int.toNat_natCast, Nat.sub_zero, goq])); rw [build_struct (ps := [(0, .string ⟨#[117, 114, 105]⟩), (1, .string (str ai)), (2, .bool true)]) (cs := (encP ⟨nUri, ai, true⟩).toArray) rfl]; refine hK _ _ ?_; clear hK K
        refine going ?_
        refine draw_quiet (by simp only [List.getElem?_toArray, List.getElem?_cons_succ, List.getElem?_cons_zero]; rfl) fun K hK => ?_; (try simp only [gos, gob, Nat.reduceBEq, if_true, reduceIte, reduceCtorEq, Nat.reduceLT, Nat.reduceEqDiff, Nat.reduceAdd, Nat.reduceSub, Int.reduceLT, Int.reduceLE, Int.reduceBEq, Int.reduceBNe, Int.reduceToNat, Int.reduceAdd, Int.reduceSub, Int.reduceMul, Int.reduceDiv, Int.reduceMod, Int.reducePow, Int.toNat_natCast, Nat.sub_zero, goq]); (try (simp (disch := omega) only [gow, gobw]; try simp only [gos, gob, Nat.reduceBEq, if_true, reduceIte, reduceCtorEq, Nat.reduceLT, Nat.reduceEqDiff, Nat.reduceAdd, Nat.reduceSub, Int.reduceLT, Int.reduceLE, Int.reduceBEq, Int.reduceBNe, Int.reduceToNat, Int.reduceAdd, Int.reduceSub, Int.reduceMul, Int.reduceDiv, Int.reduceMod, Int.reducePow, Int.toNat_natCast, Nat.sub_zero, goq])); rw [build_struct (ps := [(0, .string ⟨#[113, 111, 112]⟩), (1, .string ⟨#[97, 117, 116, 104]⟩), (2, .bool false)]) (cs := (encP ⟨nQop, nAuth, false⟩).toArray) rfl]; refine hK _ _ ?_; clear hK K
        refine going ?_
        refine draw_quiet (by simp only [List.getElem?_toArray, List.getElem?_cons_succ, List.getElem?_cons_zero]; rfl) fun K hK => ?_; (try simp only [gos, gob, Nat.reduceBEq, if_true, reduceIte, reduceCtorEq, Nat.reduceLT, Nat.reduceEqDiff, Nat.reduceAdd, Nat.reduceSub, Int.reduceLT, Int.reduceLE, Int.reduceBEq, Int.reduceBNe, Int.reduceToNat, Int.reduceAdd, Int.reduceSub, Int.reduceMul, Int.reduceDiv, Int.reduceMod, Int.reducePow, Int.toNat_natCast, Nat.sub_zero, goq]); (try (simp (disch := omega) only [gow, gobw]; try simp only [gos, gob, Nat.reduceBEq, if_true, reduceIte, reduceCtorEq, Nat.reduceLT, Nat.reduceEqDiff, Nat.reduceAdd, Nat.reduceSub, Int.reduceLT, Int.reduceLE, Int.reduceBEq, Int.reduceBNe, Int.reduceToNat, Int.reduceAdd, Int.reduceSub, Int.reduceMul, Int.reduceDiv, Int.reduceMod, Int.reducePow, Int.toNat_natCast, Nat.sub_zero, goq])); rw [build_struct (ps := [(0, .string ⟨#[99, 110, 111, 110, 99, 101]⟩), (1, .string (str ak)), (2, .bool true)]) (cs := (encP ⟨nCnonce, ak, true⟩).toArray) rfl]; refine hK _ _ ?_; clear hK K
        refine going ?_
        have hbb := refbytes_spec ac.toNat 4 (by omega) (by decide)
        rw [bytes4_be] at hbb
        refine draw_op fun K hK => ?_; refine calls_to (hbb) ?_; rintro v A ⟨B, ba, bk, rfl, hB, rfl⟩; (try simp only [List.nil_append, List.cons_append]); (repeat refine pend ?_); refine hK _ _ ?_; clear hK K
        refine going ?_
        refine draw_op fun K hK => ?_; refine calls_to (refhex_spec B ba bk (bytes4 ac) (by rw [show (bytes4 ac).length = 4 from rfl]; decide) (hB.rd (List.mem_cons_self ..))) ?_; rintro v A ⟨rfl, rfl⟩; (try simp only [List.nil_append, List.cons_append]); (repeat refine pend ?_); refine hK _ _ ?_; clear hK K
        refine going ?_
        refine draw_quiet (by simp only [List.getElem?_toArray, List.getElem?_cons_succ, List.getElem?_cons_zero]; rfl) fun K hK => ?_; (try simp only [gos, gob, Nat.reduceBEq, if_true, reduceIte, reduceCtorEq, Nat.reduceLT, Nat.reduceEqDiff, Nat.reduceAdd, Nat.reduceSub, Int.reduceLT, Int.reduceLE, Int.reduceBEq, Int.reduceBNe, Int.reduceToNat, Int.reduceAdd, Int.reduceSub, Int.reduceMul, Int.reduceDiv, Int.reduceMod, Int.reducePow, Int.toNat_natCast, Nat.sub_zero, goq]); (try (simp (disch := omega) only [gow, gobw]; try simp only [gos, gob, Nat.reduceBEq, if_true, reduceIte, reduceCtorEq, Nat.reduceLT, Nat.reduceEqDiff, Nat.reduceAdd, Nat.reduceSub, Int.reduceLT, Int.reduceLE, Int.reduceBEq, Int.reduceBNe, Int.reduceToNat, Int.reduceAdd, Int.reduceSub, Int.reduceMul, Int.reduceDiv, Int.reduceMod, Int.reducePow, Int.toNat_natCast, Nat.sub_zero, goq])); rw [build_struct (ps := [(0, .string ⟨#[110, 99]⟩), (1, .string (str (hex (bytes4 ac)))), (2, .bool false)]) (cs := (encP ⟨nNc, hex (bytes4 ac), false⟩).toArray) rfl]; refine hK _ _ ?_; clear hK K
        refine going ?_
        refine draw_op fun K hK => ?_; refine calls_to (refhex_spec P pa pk ap (by omega) hP) ?_; rintro v A ⟨rfl, rfl⟩; (try simp only [List.nil_append, List.cons_append]); (repeat refine pend ?_); refine hK _ _ ?_; clear hK K
        refine going ?_
        refine draw_quiet (by simp only [List.getElem?_toArray, List.getElem?_cons_succ, List.getElem?_cons_zero]; rfl) fun K hK => ?_; (try simp only [gos, gob, Nat.reduceBEq, if_true, reduceIte, reduceCtorEq, Nat.reduceLT, Nat.reduceEqDiff, Nat.reduceAdd, Nat.reduceSub, Int.reduceLT, Int.reduceLE, Int.reduceBEq, Int.reduceBNe, Int.reduceToNat, Int.reduceAdd, Int.reduceSub, Int.reduceMul, Int.reduceDiv, Int.reduceMod, Int.reducePow, Int.toNat_natCast, Nat.sub_zero, goq]); (try (simp (disch := omega) only [gow, gobw]; try simp only [gos, gob, Nat.reduceBEq, if_true, reduceIte, reduceCtorEq, Nat.reduceLT, Nat.reduceEqDiff, Nat.reduceAdd, Nat.reduceSub, Int.reduceLT, Int.reduceLE, Int.reduceBEq, Int.reduceBNe, Int.reduceToNat, Int.reduceAdd, Int.reduceSub, Int.reduceMul, Int.reduceDiv, Int.reduceMod, Int.reducePow, Int.toNat_natCast, Nat.sub_zero, goq])); rw [build_struct (ps := [(0, .string ⟨#[114, 101, 115, 112, 111, 110, 115, 101]⟩), (1, .string (str (hex ap))), (2, .bool true)]) (cs := (encP ⟨nResp, hex ap, true⟩).toArray) rfl]; refine hK _ _ ?_; clear hK K
        refine going ?_
        refine draw_op fun K hK => ?_; refine build_els (n := 8) (e := 37) (s := 3) (hs := inferInstance) [encP ⟨nUser, au, true⟩, encP ⟨nRealm, ar, true⟩, encP ⟨nNonce, an, true⟩, encP ⟨nUri, ai, true⟩, encP ⟨nQop, nAuth, false⟩, encP ⟨nNc, hex (bytes4 ac), false⟩, encP ⟨nCnonce, ak, true⟩, encP ⟨nResp, hex ap, true⟩] (by rfl) rfl (by decide) (by decide) (by decide) (by intro r hr; simp only [List.mem_cons, List.not_mem_nil, or_false] at hr; rcases hr with rfl | rfl | rfl | rfl | rfl | rfl | rfl | rfl <;> rfl) (fun b2 C2 ho2 => ?_); (repeat refine pend ?_); refine hK _ _ ?_; clear hK K
        have hX2 : OwnR C2 (some ⟨b2, 0, none⟩) 8 [(⟨nUser, au, true⟩ : Par), ⟨nRealm, ar, true⟩, ⟨nNonce, an, true⟩, ⟨nUri, ai, true⟩, ⟨nQop, nAuth, false⟩, ⟨nNc, hex (bytes4 ac), false⟩, ⟨nCnonce, ak, true⟩, ⟨nResp, hex ap, true⟩] := ho2
        clear ho2
        rw [show Value.slice (some ⟨b2, 0, none⟩) 8 8 = .slice (some ⟨b2, 0, none⟩) ([(⟨nUser, au, true⟩ : Par), ⟨nRealm, ar, true⟩, ⟨nNonce, an, true⟩, ⟨nUri, ai, true⟩, ⟨nQop, nAuth, false⟩, ⟨nNc, hex (bytes4 ac), false⟩, ⟨nCnonce, ak, true⟩, ⟨nResp, hex ap, true⟩] : List Par).length 8 from rfl]
        have hl0 : ([(⟨nUser, au, true⟩ : Par), ⟨nRealm, ar, true⟩, ⟨nNonce, an, true⟩, ⟨nUri, ai, true⟩, ⟨nQop, nAuth, false⟩, ⟨nNc, hex (bytes4 ac), false⟩, ⟨nCnonce, ak, true⟩, ⟨nResp, hex ap, true⟩] : List Par).length = 8 := rfl
        generalize ([(⟨nUser, au, true⟩ : Par), ⟨nRealm, ar, true⟩, ⟨nNonce, an, true⟩, ⟨nUri, ai, true⟩, ⟨nQop, nAuth, false⟩, ⟨nNc, hex (bytes4 ac), false⟩, ⟨nCnonce, ak, true⟩, ⟨nResp, hex ap, true⟩] : List Par) = l0 at *
        generalize (some ⟨b2, 0, none⟩ : Option Addr) = a2 at *
        refine going ?_
        refine then_mid (fun D L S => ∃ (X3 : Chunk) (a3 : Option Addr) (k3 : Nat), OwnR X3 a3 k3 (l0 ++ opqP ao) ∧ D = [] ∧ L = [(4, .slice a3 (l0 ++ opqP ao).length k3), (1, .pointer (some ⟨b1, 0, none⟩))] ∧ S = [X3, [(b1, .cells (encA ⟨au, ar, an, ai, ak, ao, ac, ap⟩ pa pk).toArray 65 (0, 0))], F, P]) ?_ ?_
        · by_cases hs : ao = []
          · have ho : opqP ao = [] := if_pos hs
            rw [ho, List.append_nil, bne_eq_false_iff_eq.2 hs]
            refine going ?_
            exact mid ⟨C2, a2, 8, hX2, rfl, rfl, rfl⟩
          · have ho : opqP ao = [⟨nOpaque, ao, true⟩] := if_neg hs
            rw [ho, bne_iff_ne.2 hs]
            refine going ?_
            refine run_op fun K hK => ?_; rw [build_struct (ps := [(0, .string ⟨#[111, 112, 97, 113, 117, 101]⟩), (1, (.string (str ao))), (2, .bool true)]) (cs := (encP ⟨nOpaque, ao, true⟩).toArray) rfl]; refine hK _ _ ?_; clear hK K
            refine going ?_
            refine run_op fun K hK => ?_; refine build_el1 (e := 37) (s := 3) (hs := inferInstance) (vs := encP (⟨nOpaque, ao, true⟩ : Par)) (by rfl) (by decide) (by decide) rfl (fun b5 C5 ho5 => ?_); refine hK _ _ ?_; clear hK K
            refine run_op fun K hK => ?_; refine append_own (e := 37) (s := 3) (hs := inferInstance) (by rfl) (by decide) hX2 (.inr (by (repeat (first | with_reducible exact Pick.head _ _ | with_reducible apply Pick.tail)))) (ho5.rd (by (repeat (first | with_reducible assumption | with_reducible exact List.mem_cons_self .. | with_reducible apply List.mem_cons_of_mem)))) (cell_P _) (by simp only [maxLen]; omega) (by omega) (fun X5 a5 k5 hX5 => ?_); refine hK _ _ ?_; clear hK K
            have e1 : (l0).length + 1 = (l0 ++ [(⟨nOpaque, ao, true⟩ : Par)]).length := by simp
            have e2 : (l0).flatMap encP ++ encP (⟨nOpaque, ao, true⟩ : Par) = (l0 ++ [(⟨nOpaque, ao, true⟩ : Par)]).flatMap encP := by simp
            rw [e1, e2] at hX5
            rw [e1]
            clear e1 e2
            refine going ?_
            exact mid ⟨X5, a5, k5, hX5, rfl, rfl, rfl⟩
        rintro D L S ⟨X3, a3, k3, hX3, rfl, rfl, rfl⟩
        have hl3 : (l0 ++ opqP ao).length ≤ 9 := by rw [List.length_append]; unfold opqP; split <;> simp <;> omega
        generalize l0 ++ opqP ao = l1 at *
        refine going ?_
        refine run_op fun K hK => ?_; rw [build_struct (ps := [(0, .string ⟨#[97, 108, 103, 111, 114, 105, 116, 104, 109]⟩), (1, (.string ⟨#[83, 72, 65, 45, 50, 53, 54]⟩)), (2, .bool false)]) (cs := (encP ⟨nAlg, nSum, false⟩).toArray) rfl]; refine hK _ _ ?_; clear hK K
        refine going ?_
        refine run_op fun K hK => ?_; refine build_el1 (e := 37) (s := 3) (hs := inferInstance) (vs := encP (⟨nAlg, nSum, false⟩ : Par)) (by rfl) (by decide) (by decide) rfl (fun b6 C6 ho6 => ?_); refine hK _ _ ?_; clear hK K
        refine run_op fun K hK => ?_; refine append_own (e := 37) (s := 3) (hs := inferInstance) (by rfl) (by decide) hX3 (.inr (by (repeat (first | with_reducible exact Pick.head _ _ | with_reducible apply Pick.tail)))) (ho6.rd (by (repeat (first | with_reducible assumption | with_reducible exact List.mem_cons_self .. | with_reducible apply List.mem_cons_of_mem)))) (cell_P _) (by simp only [maxLen]; omega) (by omega) (fun X6 a6 k6 hX6 => ?_); refine hK _ _ ?_; clear hK K
        have e1 : (l1).length + 1 = (l1 ++ [(⟨nAlg, nSum, false⟩ : Par)]).length := by simp
        have e2 : (l1).flatMap encP ++ encP (⟨nAlg, nSum, false⟩ : Par) = (l1 ++ [(⟨nAlg, nSum, false⟩ : Par)]).flatMap encP := by simp
        rw [e1, e2] at hX6
        rw [e1]
        clear e1 e2
        rw [← hcp] at hX6 ⊢
        refine run_op fun K hK => ?_; refine calls_to (rprint_spec hX6 hcl hcb) ?_; rintro v A ⟨rfl, rfl⟩; (try simp only [List.nil_append, List.cons_append]); refine hK _ _ ?_; clear hK K; refine going ?_
        refine back_cells (vs := [.string (str (printE (anPar ⟨au, ar, an, ai, ak, ao, ac, ap⟩)).1), .int .i64 (printE (anPar ⟨au, ar, an, ai, ak, ao, ac, ap⟩)).2]) [P] ⟨rfl, rfl⟩
      · rw [bne_iff_ne.2 hz3, if_pos (by rw [decide_eq_false hz3]; rfl)]
        refine going ?_
        refine back_cells (vs := [.string (str []), .int .i64 4]) [P] ⟨rfl, rfl⟩

end Go.Proofs.Ytfoppclmjmpjiaa

/- The statement DigestAnswers. Conditions: as each says. -/
set_option linter.unusedSimpArgs false
set_option linter.unusedVariables false
namespace Go.Proofs.Ytfoppclmjmpjiaa
open Go Go.Ost Go.Sha

theorem rcut_spec {H : Chunk} {a : Option Addr} {cap : Nat} (p : List UInt8) (hpc : p.length ≤ cap) (hr : Rd 1 [H] a p.length (p.map b8)) (n : Nat) (hn : n ≤ 1000) (hm : p.length ≤ 9223372036854775807) :
    Meets Try.prog 30 [.slice a p.length cap, .int .i64 n] [H] (New8 5 (p.take n) [H]) := by
  refine spec_intro Try.func30 rfl (by kernel_rfl) (by rw [Try.ntmps30]; simp) fun F => ?_; rw [Try.ntmps30, Try.results30]
  refine going ?_
  refine run_op fun K hK => ?_; refine build8 ([]) (by decide) rfl (rfl) (fun b5 C5 ho5 => ?_); refine hK _ _ ?_; clear hK K
  refine going ?_
  have hX : (if ((n : Int) < (p.length : Int)) then (n : Int) else p.length).toNat = (p.take n).length := by rw [List.length_take]; split <;> omega
  rw [hX]
  have hq := rd_cut1 hr (l := 0) (h' := (p.take n).length) (m := cap) (by omega) (by rw [List.length_take]; omega) (by rw [List.length_take]; omega)
  rw [List.drop_zero, Nat.sub_zero, show p.take (p.take n).length = p.take n from by rw [List.length_take]; by_cases h : n ≤ p.length; rw [Nat.min_eq_left h]; rw [Nat.min_eq_right (by omega), List.take_length, List.take_of_length_le (by omega)]] at hq
  refine run_op fun K hK => ?_; refine app8 (ho5) (by (repeat (first | with_reducible exact Pick.head _ _ | with_reducible apply Pick.tail))) (hq.mem (by (repeat (first | with_reducible assumption | with_reducible exact List.mem_cons_self .. | with_reducible apply List.mem_cons_of_mem)))) (by rw [List.length_take]; omega) (fun C9 a9 cap9 ho9 => ?_); refine hK _ _ ?_; clear hK K
  (try simp only [List.nil_append, Nat.zero_add] at ho9 ⊢)
  refine going ?_
  refine back_tmp ([C9, H]) ?_; exact ⟨_, _, _, rfl, ho9, rfl⟩

theorem an_of {C : Chunk} {us : List Value} (h : RowW C [.str, .str, .str, .str, .str, .str, .int .u32, .bytes] us) : ∃ (a : An) (pa : Option Addr) (pk : Nat), us = encA a pa pk ∧ a.pf.length ≤ pk ∧ pk ≤ maxLen ∧ Rd 1 [C] pa a.pf.length (a.pf.map b8) := by
  match us, h with
  | [a, b, c, d, e, f, g, i], ⟨⟨la, ha, _⟩, ⟨lb, hb, _⟩, ⟨lc, hc, _⟩, ⟨ld, hd, _⟩, ⟨le, he, _⟩, ⟨lf, hf, _⟩, ⟨z, hz, hw⟩, ⟨pa, pk, bs, hi, h1, h2, h3⟩, _⟩ =>
    have hz0 : 0 ≤ z ∧ z ≤ 4294967295 := by simp only [Lit.wf, Bool.and_eq_true, decide_eq_true_eq] at hw; exact ⟨hw.1, hw.2⟩
    exact ⟨⟨la, lb, lc, ld, le, lf, BitVec.ofNat 32 z.toNat, bs⟩, pa, pk, by
      have hx : Value.int .u32 z = b32 (BitVec.ofNat 32 z.toNat) := by simp only [b32, BitVec.toNat_ofNat]; congr 1; omega
      rw [ha, hb, hc, hd, he, hf, hz, hi, hx], h1, h2, h3⟩

/-! ### What is printed is read again -/

theorem digit_in : ∀ k < 16, dv (digits.getD k 0) = k := by decide +kernel
theorem uhF_hex : ∀ l : List UInt8, uhF (hex l) = some l
  | [] => rfl
  | b :: l => by
    have hb := b.toNat_lt
    have e : hex (b :: l) = digits.getD (b.toNat / 16) 0 :: digits.getD (b.toNat % 16) 0 :: hex l := rfl
    rw [e, uhF, digit_in _ (by omega), digit_in _ (by omega), if_neg (by omega), uhF_hex l]
    show some (UInt8.ofNat _ :: l) = _
    congr 2
    rw [show 16 * ((b.toNat / 16 : Nat) : Int).toNat + ((b.toNat % 16 : Nat) : Int).toNat = b.toNat from by omega]
    simp
theorem uh_hex (l : List UInt8) : uhE (hex l) = (l, 0) := by
  unfold uhE
  rw [if_neg (by rw [hex_len]; omega), uhF_hex]
theorem num_hex (x : W) : numE (hex (bytes4 x)) = (x, true) := by
  unfold numE
  rw [uh_hex, hex_len]
  have hw : numW (bytes4 x) = x := by
    have h := x.isLt
    rw [← num_same]
    apply BitVec.eq_of_toNat_eq
    rw [BitVec.toNat_ofNat]
    show ((((0 * 256 + (UInt8.ofNat (x.toNat / 16777216)).toNat) * 256 + (UInt8.ofNat (x.toNat / 65536)).toNat) * 256 + (UInt8.ofNat (x.toNat / 256)).toNat) * 256 + (UInt8.ofNat x.toNat).toNat) % 2 ^ 32 = _
    simp only [UInt8.toNat_ofNat']
    omega
  rw [hw]; rfl
theorem pa_good (a : An) (hok : anOk a = true) : paL (anPar a) = (a, 0) := by
  obtain ⟨u, r, n, uri, cn, o, nc, pf⟩ := a
  unfold anOk at hok
  simp only [Bool.and_eq_true] at hok
  obtain ⟨hs1, hs2, hs3⟩ := hok
  have hc : anPar ⟨u, r, n, uri, cn, o, nc, pf⟩ = [(⟨nUser, u, true⟩ : Par), ⟨nRealm, r, true⟩, ⟨nNonce, n, true⟩, ⟨nUri, uri, true⟩, ⟨nQop, nAuth, false⟩, ⟨nNc, hex (bytes4 nc), false⟩, ⟨nCnonce, cn, true⟩, ⟨nResp, hex pf, true⟩] ++ opqP o ++ [⟨nAlg, nSum, false⟩] := rfl
  have key : ∀ l : List Par, hasB l nUser = true → gotP l nUser = ⟨nUser, u, true⟩ → hasB l nRealm = true → gotP l nRealm = ⟨nRealm, r, true⟩ → hasB l nNonce = true → gotP l nNonce = ⟨nNonce, n, true⟩ → hasB l nUri = true → gotP l nUri = ⟨nUri, uri, true⟩ → hasB l nQop = true → gotP l nQop = ⟨nQop, nAuth, false⟩ → hasB l nNc = true → gotP l nNc = ⟨nNc, hex (bytes4 nc), false⟩ → hasB l nCnonce = true → gotP l nCnonce = ⟨nCnonce, cn, true⟩ → hasB l nResp = true → gotP l nResp = ⟨nResp, hex pf, true⟩ → hasB l nAlg = true → gotP l nAlg = ⟨nAlg, nSum, false⟩ → (gotP l nOpaque).v = o → (hasB l nOpaque = true → (gotP l nOpaque).q = true) → paL l = (⟨u, r, n, uri, cn, o, nc, pf⟩, 0) := by
    intro l a0 b0 a1 b1 a2 b2 a3 b3 a4 b4 a5 b5 a6 b6 a7 b7 a8 b8v o1 o2
    have hf : paF l = (false, false) := by
      unfold paF comF
      have g : ∀ (m v : List UInt8) (q : Bool), hasB l m = true → gotP l m = ⟨m, v, q⟩ → getF l m q (false, false) = (false, false) := by
        intro m v q h1 h2
        unfold getF
        rw [h1, h2]; simp
      have f : ∀ b : Bool, b = true → fineF b (false, false) = (false, false) := by
        intro b h; rw [h]; rfl
      rw [g _ _ _ a0 b0, g _ _ _ a1 b1, g _ _ _ a2 b2, f _ (by rw [b2]; exact hs1), g _ _ _ a3 b3, g _ _ _ a6 b6, f _ (by rw [b6]; exact hs2)]
      have m1 : mayF l nOpaque true (false, false) = (false, false) := by
        unfold mayF
        split
        · rename_i h; unfold getF; rw [h, o2 h]; rfl
        · rfl
      rw [m1, g _ _ _ a4 b4, f _ (by rw [b4]; exact beq_self_eq_true _), g _ _ _ a8 b8v, f _ (by rw [b8v]; exact beq_self_eq_true _), g _ _ _ a5 b5, f _ (by rw [b5, num_hex]), g _ _ _ a7 b7]
      exact f _ (by unfold proofB; rw [b7, uh_hex]; simpa using hs3)
    unfold paL anL
    rw [hf, if_neg (by decide), b0, b1, b2, b3, b5, b6, b7, o1, num_hex, uh_hex]
  rw [hc]
  cases o with
  | nil => exact key _ (by kernel_rfl) (by kernel_rfl) (by kernel_rfl) (by kernel_rfl) (by kernel_rfl) (by kernel_rfl) (by kernel_rfl) (by kernel_rfl) (by kernel_rfl) (by kernel_rfl) (by kernel_rfl) (by kernel_rfl) (by kernel_rfl) (by kernel_rfl) (by kernel_rfl) (by kernel_rfl) (by kernel_rfl) (by kernel_rfl) (by kernel_rfl) (fun h => absurd h (show ¬ (false = true) by decide))
  | cons a o =>
    have ho : opqP (a :: o) = [⟨nOpaque, a :: o, true⟩] := if_neg (by simp)
    rw [ho]
    exact key _ (by kernel_rfl) (by kernel_rfl) (by kernel_rfl) (by kernel_rfl) (by kernel_rfl) (by kernel_rfl) (by kernel_rfl) (by kernel_rfl) (by kernel_rfl) (by kernel_rfl) (by kernel_rfl) (by kernel_rfl) (by kernel_rfl) (by kernel_rfl) (by kernel_rfl) (by kernel_rfl) (by kernel_rfl) (by kernel_rfl) (by kernel_rfl) (fun _ => by kernel_rfl)
theorem pa_back {a : An} (h : (anText a).2 = 0) : paE (anText a).1 = (a, 0) ∧ (anText a).1.length ≤ 4096 := by
  unfold anText at h ⊢
  cases hs : anOk a with
  | false => rw [if_pos hs] at h; cases h
  | true =>
    have hs' : ¬ anOk a = false := by rw [hs]; simp
    rw [if_neg hs'] at h
    (first | rw [if_neg hs'] | rw [if_neg (show ¬ (true = false) by decide)])
    refine ⟨?_, print_len h⟩
    unfold paE
    rw [parse_print h, if_neg (by simp)]
    exact pa_good a hs

set_option maxHeartbeats 4000000 in
theorem sameans_spec (a : An) {P Q : Chunk} {pa qa : Option Addr} {pk qk : Nat} (hP : Rd 1 [P] pa a.pf.length (a.pf.map b8)) (hQ : Rd 1 [Q] qa a.pf.length (a.pf.map b8)) :
    Meets Try.prog 34 [.agg (encA a pa pk).toArray, .agg (encA a qa qk).toArray] [P, Q] fun v A => v = .bool true ∧ A = [P, Q] := by
  obtain ⟨u, r, n, uri, cn, o, nc, pf⟩ := a
  refine spec_intro Try.func34 rfl (by kernel_rfl) (by rw [Try.ntmps34]; simp) fun F => ?_; rw [Try.ntmps34, Try.results34]
  refine going ?_
  refine run_op fun K hK => ?_; refine box_new fun b2 => ?_; (try simp only [Value.cells]); refine hK _ _ ?_; clear hK K
  refine run_op fun K hK => ?_; refine box_new fun b3 => ?_; (try simp only [Value.cells]); refine hK _ _ ?_; clear hK K
  refine going ?_
  refine run_op fun K hK => ?_; rw [show b32 nc = Value.int .u32 (nc.toNat : Int) from rfl]; (try simp only [gos, gob, Nat.reduceBEq, if_true, reduceIte, reduceCtorEq, Nat.reduceLT, Nat.reduceEqDiff, Nat.reduceAdd, Nat.reduceSub, Int.reduceLT, Int.reduceLE, Int.reduceBEq, Int.reduceBNe, Int.reduceToNat, Int.reduceAdd, Int.reduceSub, Int.reduceMul, Int.reduceDiv, Int.reduceMod, Int.reducePow, Int.toNat_natCast, Nat.sub_zero]); (try (simp (disch := omega) only [gow, gobw]; try simp only [gos, gob, Nat.reduceBEq, if_true, reduceIte, reduceCtorEq, Nat.reduceLT, Nat.reduceEqDiff, Nat.reduceAdd, Nat.reduceSub, Int.reduceLT, Int.reduceLE, Int.reduceBEq, Int.reduceBNe, Int.reduceToNat, Int.reduceAdd, Int.reduceSub, Int.reduceMul, Int.reduceDiv, Int.reduceMod, Int.reducePow, Int.toNat_natCast, Nat.sub_zero])); refine hK _ _ ?_; clear hK K
  refine going ?_
  refine run_op fun K hK => ?_; refine calls_to (same_spec hP hQ) ?_; rintro v A ⟨rfl, rfl⟩; (try simp only [List.nil_append, List.cons_append]); refine hK _ _ ?_; clear hK K; refine going ?_
  refine back_tmp [P, Q] ?_; exact ⟨rfl, rfl⟩

set_option maxHeartbeats 8000000 in
theorem DigestAnswers_law (C : Chunk) (_ : True) (us : List Value) (hus : RowW C [.str, .str, .str, .str, .str, .str, .int .u32, .bytes] us) :
    Meets Try.prog 8 [.agg us.toArray] [C] fun v A => v = .bool true ∧ A = [C] := by
  obtain ⟨⟨u0, r0, n0, i0, k0, o0, nc, p0⟩, pa, pk, rfl, hk1, hk2, hP0⟩ := an_of hus
  simp only at hk1 hP0
  refine spec_intro Try.func8 rfl (by kernel_rfl) (by rw [Try.ntmps8]; simp) fun F => ?_; rw [Try.ntmps8, Try.results8]
  refine going ?_
  refine run_op fun K hK => ?_; refine box_new fun b1 => ?_; (try simp only [Value.cells]); refine hK _ _ ?_; clear hK K
  refine going ?_
  refine run_op fun K hK => ?_; refine calls_to (awake_spec) ?_; rintro v A ⟨rfl, rfl⟩; (try simp only [List.nil_append, List.cons_append]); refine hK _ _ ?_; clear hK K; refine going ?_
  refine code_dr [[], [0], [0, 1], [], [3], [0, 1, 2, 3, 4], [], [6], [0, 1, 2, 3, 4, 5, 6, 7], [], [9], [0, 1, 2, 3, 4, 5, 6, 7, 8, 9, 10], [0, 1, 2, 3, 4, 6, 7, 9, 10], [0, 1, 2, 3, 4, 5, 6, 7, 8, 9, 10, 11, 12], [0, 1, 2, 3, 4, 5, 6, 7, 8, 9, 10, 11, 12, 13], [0, 1, 2, 3, 4, 5, 6, 7, 8, 9, 10, 11, 12, 13, 14], [0, 1, 2, 3, 4, 5, 6, 7, 8, 9, 10, 11, 12, 13, 14, 15], [0, 1, 2, 3, 4, 5, 6, 7, 8, 9, 10, 11, 12, 13, 14, 15, 16], [0, 1, 2, 3, 4, 5, 6, 7, 8, 9, 10, 11, 12, 13, 14, 15, 16, 17], [0, 1, 2, 3, 4, 5, 6, 7, 8, 9, 10, 11, 12, 13, 14, 15, 16, 17, 18]] [(0, false, []), (1, false, []), (3, false, []), (4, false, []), (6, false, []), (7, false, []), (9, false, []), (10, false, []), (2, true, [4, 7, 10]), (12, false, []), (5, true, [7, 10]), (8, true, [10]), (11, true, []), (13, true, []), (14, false, []), (15, true, []), (16, false, []), (17, true, []), (18, false, []), (19, true, [])] ?_
  refine going ?_
  refine draw_op fun K hK => ?_; refine calls_to (cuttext_spec u0 1500) ?_; rintro v A ⟨rfl, rfl⟩; (try simp only [List.nil_append, List.cons_append]); (repeat refine pend ?_); refine hK _ _ ?_; clear hK K
  refine going ?_
  refine draw_op fun K hK => ?_; refine calls_to (cuttext_spec r0 1500) ?_; rintro v A ⟨rfl, rfl⟩; (try simp only [List.nil_append, List.cons_append]); (repeat refine pend ?_); refine hK _ _ ?_; clear hK K
  refine going ?_
  refine draw_op fun K hK => ?_; refine calls_to (cuttext_spec i0 1500) ?_; rintro v A ⟨rfl, rfl⟩; (try simp only [List.nil_append, List.cons_append]); (repeat refine pend ?_); refine hK _ _ ?_; clear hK K
  refine going ?_
  refine draw_op fun K hK => ?_; refine calls_to (cuttext_spec o0 100) ?_; rintro v A ⟨rfl, rfl⟩; (try simp only [List.nil_append, List.cons_append]); (repeat refine pend ?_); refine hK _ _ ?_; clear hK K
  refine going ?_
  (try (refine draw_op fun K hK => ?_; (first | refine store_box trivial (by (repeat (first | with_reducible exact Upd.one | with_reducible apply Upd.next))) ?_ | refine store_one trivial (by (repeat (first | with_reducible exact Upd.one | with_reducible apply Upd.next))) (by simp) ?_); (repeat refine pend ?_); refine hK _ _ ?_; clear hK K; refine going ?_))
  (try (refine draw_op fun K hK => ?_; (first | refine store_box trivial (by (repeat (first | with_reducible exact Upd.one | with_reducible apply Upd.next))) ?_ | refine store_one trivial (by (repeat (first | with_reducible exact Upd.one | with_reducible apply Upd.next))) (by simp) ?_); (repeat refine pend ?_); refine hK _ _ ?_; clear hK K; refine going ?_))
  (try (refine draw_op fun K hK => ?_; (first | refine store_box trivial (by (repeat (first | with_reducible exact Upd.one | with_reducible apply Upd.next))) ?_ | refine store_one trivial (by (repeat (first | with_reducible exact Upd.one | with_reducible apply Upd.next))) (by simp) ?_); (repeat refine pend ?_); refine hK _ _ ?_; clear hK K; refine going ?_))
  (try (refine draw_op fun K hK => ?_; (first | refine store_box trivial (by (repeat (first | with_reducible exact Upd.one | with_reducible apply Upd.next))) ?_ | refine store_one trivial (by (repeat (first | with_reducible exact Upd.one | with_reducible apply Upd.next))) (by simp) ?_); (repeat refine pend ?_); refine hK _ _ ?_; clear hK K; refine going ?_))
  (try simp only [List.setIfInBounds_toArray, List.set_cons_succ, List.set_cons_zero, List.getElem_toArray, List.getElem_cons_succ, List.getElem_cons_zero])
  refine code_dr [[], [0], [0, 1], [], [3], [0, 1, 2, 3, 4], [], [6], [0, 1, 2, 3, 4, 5, 6, 7], [0, 1, 2, 3, 4, 6, 7], [0, 1, 2, 3, 4, 5, 6, 7, 8, 9], [0, 1, 2, 3, 4, 5, 6, 7, 8, 9, 10], [0, 1, 2, 3, 4, 5, 6, 7, 8, 9, 10, 11], [0, 1, 2, 3, 4, 5, 6, 7, 8, 9, 10, 11, 12], [0, 1, 2, 3, 4, 5, 6, 7, 8, 9, 10, 11, 12, 13]] [(0, false, []), (1, false, []), (3, false, []), (4, false, []), (6, false, []), (7, false, []), (2, true, [4, 7]), (9, false, []), (5, true, [7]), (8, true, []), (10, true, []), (11, false, []), (12, true, []), (13, false, []), (14, true, [])] ?_
  refine going ?_
  refine draw_op fun K hK => ?_; refine calls_to (cuttext_spec n0 70) ?_; rintro v A ⟨rfl, rfl⟩; (try simp only [List.nil_append, List.cons_append]); (repeat refine pend ?_); refine hK _ _ ?_; clear hK K
  refine going ?_
  refine draw_op fun K hK => ?_; refine calls_to (cuttext_spec k0 70) ?_; rintro v A ⟨rfl, rfl⟩; (try simp only [List.nil_append, List.cons_append]); (repeat refine pend ?_); refine hK _ _ ?_; clear hK K
  refine going ?_
  refine draw_op fun K hK => ?_; refine calls_to (rcut_spec p0 hk1 hP0 40 (by decide) (by simp only [maxLen] at hk2; omega)) ?_; rintro v A ⟨Q, qa, qk, rfl, hQ, rfl⟩; (try simp only [List.nil_append, List.cons_append]); (repeat refine pend ?_); refine hK _ _ ?_; clear hK K
  refine going ?_
  (try (refine draw_op fun K hK => ?_; (first | refine store_box trivial (by (repeat (first | with_reducible exact Upd.one | with_reducible apply Upd.next))) ?_ | refine store_one trivial (by (repeat (first | with_reducible exact Upd.one | with_reducible apply Upd.next))) (by simp) ?_); (repeat refine pend ?_); refine hK _ _ ?_; clear hK K; refine going ?_))
  (try (refine draw_op fun K hK => ?_; (first | refine store_box trivial (by (repeat (first | with_reducible exact Upd.one | with_reducible apply Upd.next))) ?_ | refine store_one trivial (by (repeat (first | with_reducible exact Upd.one | with_reducible apply Upd.next))) (by simp) ?_); (repeat refine pend ?_); refine hK _ _ ?_; clear hK K; refine going ?_))
  (try (refine draw_op fun K hK => ?_; (first | refine store_box trivial (by (repeat (first | with_reducible exact Upd.one | with_reducible apply Upd.next))) ?_ | refine store_one trivial (by (repeat (first | with_reducible exact Upd.one | with_reducible apply Upd.next))) (by simp) ?_); (repeat refine pend ?_); refine hK _ _ ?_; clear hK K; refine going ?_))
  (try simp only [List.setIfInBounds_toArray, List.set_cons_succ, List.set_cons_zero, List.getElem_toArray, List.getElem_cons_succ, List.getElem_cons_zero])
  have lu : (u0.take 1500).length ≤ 1500 := by rw [List.length_take]; omega
  generalize u0.take 1500 = u at *
  have lr : (r0.take 1500).length ≤ 1500 := by rw [List.length_take]; omega
  generalize r0.take 1500 = r at *
  have luri : (i0.take 1500).length ≤ 1500 := by rw [List.length_take]; omega
  generalize i0.take 1500 = uri at *
  have lo : (o0.take 100).length ≤ 100 := by rw [List.length_take]; omega
  generalize o0.take 100 = o at *
  have ln : (n0.take 70).length ≤ 70 := by rw [List.length_take]; omega
  generalize n0.take 70 = n at *
  have lcn : (k0.take 70).length ≤ 70 := by rw [List.length_take]; omega
  generalize k0.take 70 = cn at *
  have lpf : (p0.take 40).length ≤ 40 := by rw [List.length_take]; omega
  generalize p0.take 40 = pf at *
  have hQr : Rd 1 [Q] qa pf.length (pf.map b8) := hQ.rd (List.mem_cons_self ..)
  refine run_op fun K hK => ?_; refine load_all (vs := encA ⟨u, r, n, uri, cn, o, nc, pf⟩ qa qk) (by (repeat (first | with_reducible exact Lies.one | with_reducible apply Lies.next))) rfl ?_; refine hK _ _ ?_; clear hK K
  refine going ?_
  refine run_op fun K hK => ?_; refine calls_to (antext_spec (a := ⟨u, r, n, uri, cn, o, nc, pf⟩) (by show u.length ≤ _; omega) (by show r.length ≤ _; omega) (by show n.length ≤ _; omega) (by show uri.length ≤ _; omega) (by show cn.length ≤ _; omega) (by show o.length ≤ _; omega) (by show pf.length ≤ _; omega) hQr) ?_; rintro v A ⟨rfl, rfl⟩; (try simp only [List.nil_append, List.cons_append]); refine hK _ _ ?_; clear hK K; refine going ?_
  refine run_op fun K hK => ?_; refine load_all (vs := encA ⟨u, r, n, uri, cn, o, nc, pf⟩ qa qk) (by (repeat (first | with_reducible exact Lies.one | with_reducible apply Lies.next))) rfl ?_; refine hK _ _ ?_; clear hK K
  refine going ?_
  refine run_op fun K hK => ?_; refine calls_to (rantext_spec (a := ⟨u, r, n, uri, cn, o, nc, pf⟩) (by show u.length ≤ _; omega) (by show r.length ≤ _; omega) (by show n.length ≤ _; omega) (by show uri.length ≤ _; omega) (by show cn.length ≤ _; omega) (by show o.length ≤ _; omega) (by show pf.length ≤ _; omega) hQr) ?_; rintro v A ⟨rfl, rfl⟩; (try simp only [List.nil_append, List.cons_append]); refine hK _ _ ?_; clear hK K; refine going ?_
  by_cases h0 : (anText ⟨u, r, n, uri, cn, o, nc, pf⟩).2 = 0
  · obtain ⟨hpb, hpl⟩ := pa_back h0
    have hps := pans_spec (anText ⟨u, r, n, uri, cn, o, nc, pf⟩).1 (by omega)
    rw [hpb] at hps
    rw [h0]
    refine going ?_
    refine run_op fun K hK => ?_; refine calls_to (hps) ?_; rintro v A ⟨R, ra, rk, rfl, hR, rfl⟩; (try simp only [List.nil_append, List.cons_append]); refine hK _ _ ?_; clear hK K; refine going ?_
    refine run_op fun K hK => ?_; refine alloc_as (encA a0 none 0).toArray rfl fun b7 => ?_; refine hK _ _ ?_; clear hK K
    refine run_op fun K hK => ?_; refine store_all (vs := encA ⟨u, r, n, uri, cn, o, nc, pf⟩ ra rk) rfl (cell_A _ _ _) (by (repeat (first | with_reducible exact Upd.one | with_reducible apply Upd.next))) (by rfl) ?_; refine hK _ _ ?_; clear hK K
    refine going ?_
    refine run_op fun K hK => ?_; refine load_all (vs := encA ⟨u, r, n, uri, cn, o, nc, pf⟩ ra rk) (by (repeat (first | with_reducible exact Lies.one | with_reducible apply Lies.next))) rfl ?_; refine hK _ _ ?_; clear hK K
    refine going ?_
    refine run_op fun K hK => ?_; refine load_all (vs := encA ⟨u, r, n, uri, cn, o, nc, pf⟩ qa qk) (by (repeat (first | with_reducible exact Lies.one | with_reducible apply Lies.next))) rfl ?_; refine hK _ _ ?_; clear hK K
    refine going ?_
    refine run_op fun K hK => ?_; refine calls_to (sameans_spec ⟨u, r, n, uri, cn, o, nc, pf⟩ (P := R) (Q := Q) (hR.rd (List.mem_cons_self ..)) hQr) ?_; rintro v A ⟨rfl, rfl⟩; (try simp only [List.nil_append, List.cons_append]); refine hK _ _ ?_; clear hK K; refine going ?_
    refine back_tmp [C] ?_; exact ⟨rfl, rfl⟩
  · rw [bne_iff_ne.2 h0]
    refine going ?_
    refine back_tmp [C] ?_; exact ⟨rfl, rfl⟩

end Go.Proofs.Ytfoppclmjmpjiaa
