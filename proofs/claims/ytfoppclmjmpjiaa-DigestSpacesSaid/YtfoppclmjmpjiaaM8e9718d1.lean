/- Texts in a row: the walk's rules and contracts, as each says. Conditions: as each says. -/
import Derived.Test.YtfoppclmjmpjiaaM3a18551e
import Derived.Test.YtfoppclmjmpjiaaM5b0d9824
import Derived.Test.YtfoppclmjmpjiaaM1bd2b66d
import Derived.Test.YtfoppclmjmpjiaaM8f6a7144
/- Digits read, by the document. Conditions: as each says. -/
set_option linter.unusedSimpArgs false
set_option linter.unusedVariables false
namespace Go.Proofs.Ytfoppclmjmpjiaa
open Go Go.Ost Go.Sha

theorem dv_at : ∀ j < 16, dv (digits.getD j 0) = j := by decide +kernel
theorem dv_no {c : UInt8} (h : ∀ j < 16, digits.getD j 0 ≠ c) : dv c = -1 := by
  have key : ∀ l : List UInt8, (∀ x ∈ l, x ≠ c) → Lib.indexByte l c = -1 := by
    intro l
    induction l with
    | nil => intro _; rfl
    | cons b l ih =>
      intro h
      have e : Lib.indexByte (b :: l) c = if (b == c) = true then (0 : Int) else if (Lib.indexByte l c == -1) = true then -1 else Lib.indexByte l c + 1 := rfl
      rw [e, if_neg (by simpa using h b (List.mem_cons_self ..)), ih fun x hx => h x (List.mem_cons_of_mem _ hx)]; rfl
  refine key digits fun x hx => ?_
  obtain ⟨j, hj⟩ := List.mem_iff_getElem?.1 hx
  have hlt := (List.getElem?_eq_some_iff.1 hj).1
  have := h j hlt
  rw [List.getD_eq_getElem?_getD, hj] at this
  exact this
theorem uhF_snoc {a b : UInt8} (ha : 0 ≤ dv a) (hb : 0 ≤ dv b) : ∀ (k : Nat) (t l : List UInt8), t.length ≤ k → uhF t = some l → uhF (t ++ [a, b]) = some (l ++ [UInt8.ofNat (16 * (dv a).toNat + (dv b).toNat)])
  | _, [], l, _, h => by
    simp [uhF] at h; subst h
    show (if dv a < 0 ∨ dv b < 0 then none else _) = _
    rw [if_neg (by omega)]; rfl
  | _, [x], l, _, h => by simp [uhF] at h
  | 0, x :: y :: t, l, hk, h => by simp at hk
  | k + 1, x :: y :: t, l, hk, h => by
    simp only [uhF] at h
    show (if dv x < 0 ∨ dv y < 0 then none else _) = _
    split at h
    · cases h
    · rename_i hxy
      rw [if_neg hxy]
      cases hr : uhF t with
      | none => rw [hr] at h; cases h
      | some m =>
        rw [hr] at h; cases h
        have ih := uhF_snoc ha hb k t m (by simp only [List.length_cons] at hk; omega) hr
        rw [List.append_eq] at *
        rw [ih]; rfl
theorem uhF_no {c : UInt8} (hc : dv c < 0) : ∀ (k : Nat) (s : List UInt8), s.length ≤ k → c ∈ s → uhF s = none
  | _, [], _, h => by cases h
  | _, [x], _, h => rfl
  | 0, x :: y :: t, hk, h => by simp at hk
  | k + 1, x :: y :: t, hk, h => by
    rw [uhF]
    rcases List.mem_cons.1 h with rfl | h
    · rw [if_pos (.inl hc)]
    · rcases List.mem_cons.1 h with rfl | h
      · rw [if_pos (.inr hc)]
      · rw [uhF_no hc k t (by simp only [List.length_cons] at hk; omega) h]
        split <;> rfl

set_option maxHeartbeats 4000000 in
theorem runhex_spec (s : List UInt8) (hs : s.length ≤ 100000) : Meets Try.prog 70 [.string (str s)] []
    fun v A => ∃ X a k, v = .tuple #[.slice a (uhE s).1.length k, .int .i64 (uhE s).2] ∧ Own8 5 X a (uhE s).1.length k (uhE s).1 ∧ A = [X] := by
  have eD : Value.string ⟨#[48, 49, 50, 51, 52, 53, 54, 55, 56, 57, 97, 98, 99, 100, 101, 102]⟩ = .string (str digits) := rfl
  have hdl : digits.length = 16 := rfl
  refine spec_intro Try.func70 rfl (by kernel_rfl) (by rw [Try.ntmps70]; simp) fun F => ?_; rw [Try.ntmps70, Try.results70]
  refine code_nil ?_
  refine going ?_
  by_cases h2 : s.length % 2 = 0
  · rw [bne_eq_false_iff_eq.2 (show (s.length : Int) % 2 = 0 by omega)]
    refine going ?_
    refine loop_i (fun q D L S => ∃ (i : Nat) (out : List UInt8) (X : Chunk) (xa : Option Addr) (xc : Nat), i ≤ s.length ∧ out.length ≤ i ∧
      ((i % 2 = 0 ∧ uhF (s.take i) = some out) ∨ (i % 2 = 1 ∧ ∃ o1, uhF (s.take (i - 1)) = some o1 ∧ 0 ≤ dv (s.getD (i - 1) 0) ∧ out = o1 ++ [UInt8.ofNat (16 * (dv (s.getD (i - 1) 0)).toNat)])) ∧
      Own8 5 X xa out.length xc out ∧ q = s.length - i ∧ D = [] ∧ L = [(5, .int .i64 i), (4, .slice xa out.length xc), (0, .string (str s))] ∧ S = [X, F])
      ⟨0, [], [], none, 0, by omega, by simp, .inl ⟨rfl, rfl⟩, own_nil, rfl, rfl, rfl, rfl⟩ ?_
    rintro q D L S ⟨i, out, X, xa, xc, hi, hol, hcase, hX, rfl, rfl, rfl, rfl⟩
    refine going ?_
    refine if_d (fun hc => ?_) (fun hc => ?_)
    · have hil : i < s.length := by omega
      have hmem : s.getD i 0 ∈ s := by
        rw [List.getD_eq_getElem?_getD, List.getElem?_eq_getElem hil]; exact List.getElem_mem hil
      have htk : s.take (i + 1) = s.take i ++ [s.getD i 0] := by
        rw [List.take_add_one, List.getD_eq_getElem?_getD, List.getElem?_eq_getElem hil]; rfl
      refine going ?_
      refine loop_i (fun q D L S => ∃ (n : Nat) (w : Int), n ≤ 16 ∧ ((w = -1 ∧ ∀ j < n, digits.getD j 0 ≠ s.getD i 0) ∨ (w = dv (s.getD i 0) ∧ 0 ≤ w)) ∧ q = 16 - n ∧ D = [] ∧
        L = [(7, .int .i64 n), (6, .int .i64 w), (5, .int .i64 i), (4, .slice xa out.length xc), (0, .string (str s))] ∧ S = [X, F])
        ⟨0, -1, by omega, .inl ⟨rfl, fun j hj => absurd hj (Nat.not_lt_zero j)⟩, rfl, rfl, rfl, rfl⟩ ?_
      rintro q D L S ⟨n, w, hn, hw, rfl, rfl, rfl, rfl⟩
      refine going ?_
      refine if_d (fun hc => ?_) (fun hc => ?_)
      · have hnl : n < 16 := by omega
        have hdat := dv_at n hnl
        refine going ?_
        refine code_dr [[], [0], [], [], [2, 3], [0, 1, 2, 3, 4]] [(0, false, []), (1, false, []), (2, false, []), (3, false, []), (4, false, []), (5, false, [])] ?_
        refine going ?_
        refine draw_quiet (by simp only [List.getElem?_toArray, List.getElem?_cons_succ, List.getElem?_cons_zero]; rfl) fun K hK => ?_; (try simp only [gos, gob, Nat.reduceBEq, if_true, reduceIte, reduceCtorEq, Nat.reduceLT, Nat.reduceEqDiff, Nat.reduceAdd, Nat.reduceSub, Int.reduceLT, Int.reduceLE, Int.reduceBEq, Int.reduceBNe, Int.reduceToNat, Int.reduceAdd, Int.reduceSub, Int.reduceMul, Int.reduceDiv, Int.reduceMod, Int.reducePow, Int.toNat_natCast, Nat.sub_zero, goq]); (try (simp (disch := omega) only [gow, gobw]; try simp only [gos, gob, Nat.reduceBEq, if_true, reduceIte, reduceCtorEq, Nat.reduceLT, Nat.reduceEqDiff, Nat.reduceAdd, Nat.reduceSub, Int.reduceLT, Int.reduceLE, Int.reduceBEq, Int.reduceBNe, Int.reduceToNat, Int.reduceAdd, Int.reduceSub, Int.reduceMul, Int.reduceDiv, Int.reduceMod, Int.reducePow, Int.toNat_natCast, Nat.sub_zero, goq])); rw [eD, sidx (by omega) (by show (n : Int) < (16 : Nat); omega)]; refine hK _ _ ?_; clear hK K
        (try rw [show ((n : Int)).toNat = n from by omega])
        refine going ?_
        cases he : (digits.getD n 0 == s.getD i 0) with
        | true =>
          have heq := eq_of_beq he
          (try rw [he])
          (try rw [show (((digits.getD n 0).toNat : Int) == ((s.getD i 0).toNat : Int)) = true from by rw [heq]; simp])
          refine going ?_
          exact again ⟨n + 1, n, by omega, .inr ⟨by rw [← heq, hdat], by omega⟩, rfl, rfl, rfl, rfl⟩
        | false =>
          have hne := beq_eq_false_iff_ne.1 he
          (try rw [he])
          refine going ?_
          refine again ⟨n + 1, w, by omega, ?_, rfl, rfl, rfl, rfl⟩
          rcases hw with ⟨h1, h3⟩ | h1
          · refine .inl ⟨h1, fun j hj => ?_⟩
            rcases Nat.lt_or_ge j n with h | h
            · exact h3 j h
            · obtain rfl : j = n := by omega
              exact hne
          · exact .inr h1
      · obtain rfl : n = 16 := by omega
        have hwd : w = dv (s.getD i 0) := by
          rcases hw with ⟨h1, h3⟩ | ⟨h1, _⟩
          · rw [h1, dv_no h3]
          · exact h1
        have hdr := dv_range (s.getD i 0)
        clear hw
        generalize hcc : s.getD i 0 = cc at *
        refine going ?_
        by_cases hw0 : 0 ≤ w
        · rw [decide_eq_false (show ¬ w < 0 by omega)]
          refine going ?_
          by_cases hev : i % 2 = 0
          · obtain ⟨_, hu⟩ | ⟨h, _⟩ := hcase
            · rw [beq_iff_eq.2 (show (i : Int) % 2 = 0 by omega)]
              refine going ?_
              have e1 : Value.int .u8 (16 * w) = b8 (UInt8.ofNat (16 * (dv cc).toNat)) := by
                simp only [b8, UInt8.toNat_ofNat']
                congr 1; omega
              rw [e1]
              refine run_op fun K hK => ?_; refine build8 ([UInt8.ofNat (16 * (dv cc).toNat)]) (by decide) rfl (rfl) (fun b7 C7 ho7 => ?_); refine hK _ _ ?_; clear hK K
              refine going ?_
              refine run_op fun K hK => ?_; refine app8 (hX) (by (repeat (first | with_reducible exact Pick.head _ _ | with_reducible apply Pick.tail))) ((ho7.rd (List.mem_cons_self ..)).mem (by (repeat (first | with_reducible assumption | with_reducible exact List.mem_cons_self .. | with_reducible apply List.mem_cons_of_mem)))) (by omega) (fun C9 a9 cap9 ho9 => ?_); refine hK _ _ ?_; clear hK K
              rw [show out.length + 1 = (out ++ [UInt8.ofNat (16 * (dv cc).toNat)]).length from by simp] at ho9 ⊢
              refine going ?_
              exact again ⟨i + 1, out ++ [UInt8.ofNat (16 * (dv cc).toNat)], C9, a9, cap9, by omega, by simp; omega, .inr ⟨by omega, out, by rw [Nat.add_sub_cancel]; exact hu, by rw [Nat.add_sub_cancel, hcc]; omega, by rw [Nat.add_sub_cancel, hcc]⟩, ho9, rfl, rfl, rfl, rfl⟩
            · omega
          · obtain ⟨h, _⟩ | ⟨_, o1, hu, hv0, hout⟩ := hcase
            · omega
            have hr1 := dv_range (s.getD (i - 1) 0)
            have htk2 : s.take (i + 1) = s.take (i - 1) ++ [s.getD (i - 1) 0, cc] := by
              have e1 : s.take i = s.take (i - 1) ++ [s.getD (i - 1) 0] := by
                have h1 : i - 1 < s.length := by omega
                have h3 : i = i - 1 + 1 := by omega
                rw [show s.take i = s.take (i - 1 + 1) from by rw [← h3], List.take_add_one, List.getD_eq_getElem?_getD, List.getElem?_eq_getElem h1]; rfl
              rw [htk, e1]; simp
            have hsn := uhF_snoc (a := s.getD (i - 1) 0) (b := cc) hv0 (by omega) _ _ _ (Nat.le_refl _) hu
            rw [← htk2] at hsn
            generalize dv (s.getD (i - 1) 0) = v1 at *
            have hol1 : out.length = o1.length + 1 := by rw [hout]; simp
            have hgo : out.getD o1.length 0 = UInt8.ofNat (16 * v1.toNat) := by rw [hout]; simp
            have hset : out.set o1.length (UInt8.ofNat (16 * v1.toNat + (dv cc).toNat)) = o1 ++ [UInt8.ofNat (16 * v1.toNat + (dv cc).toNat)] := by rw [hout]; simp
            rw [beq_eq_false_iff_ne.2 (show (i : Int) % 2 ≠ 0 by omega)]
            refine going ?_
            (try rw [show ((out.length : Int) - 1).toNat = o1.length from by omega])
            (try rw [hgo, show b8 (UInt8.ofNat (16 * v1.toNat)) = .int .u8 (16 * v1) from by simp only [b8, UInt8.toNat_ofNat']; congr 1; omega])
            refine going ?_
            (try rw [show ((out.length : Int) - 1).toNat = o1.length from by omega])
            have e1 : Value.int .u8 (16 * v1 + w) = b8 (UInt8.ofNat (16 * v1.toNat + (dv cc).toNat)) := by
              simp only [b8, UInt8.toNat_ofNat']
              congr 1; omega
            refine run_op fun K hK => ?_; rw [e1]; refine own_store8 hX (by (repeat (first | with_reducible exact Pick.head _ _ | with_reducible apply Pick.tail))) (by omega) (fun X2 hX2 => ?_); refine hK _ _ ?_; clear hK K
            rw [hset, show out.length = (o1 ++ [UInt8.ofNat (16 * v1.toNat + (dv cc).toNat)]).length from by rw [hol1]; simp] at hX2
            rw [show Value.slice xa out.length xc = .slice xa (o1 ++ [UInt8.ofNat (16 * v1.toNat + (dv cc).toNat)]).length xc from by rw [hol1]; simp]
            refine going ?_
            exact again ⟨i + 1, o1 ++ [UInt8.ofNat (16 * v1.toNat + (dv cc).toNat)], X2, xa, xc, by omega, by rw [List.length_append, List.length_singleton]; omega, .inl ⟨by omega, hsn⟩, hX2, rfl, rfl, rfl, rfl⟩
        · have hno : uhE s = ([], 5) := by
            unfold uhE
            rw [if_neg (by omega), uhF_no (c := cc) (by omega) _ s (Nat.le_refl _) hmem]
          rw [decide_eq_true (show w < 0 by omega), hno]
          refine code_nil ?_
          refine going ?_
          refine back_cells (vs := [.slice none 0 0, .int .i64 5]) [[]] ⟨[], none, 0, rfl, own_nil, rfl⟩
    · obtain rfl : i = s.length := by omega
      rw [List.take_length] at hcase
      have hfin : uhE s = (out, 0) := by
        rcases hcase with ⟨_, h⟩ | ⟨h, _⟩
        · unfold uhE; rw [if_neg (by omega), h]
        · omega
      rw [hfin]
      refine going ?_
      refine back_cells (vs := [.slice xa out.length xc, .int .i64 0]) [X] ⟨X, xa, xc, rfl, hX, rfl⟩
  · have hodd : uhE s = ([], 2) := by unfold uhE; rw [if_pos h2]
    rw [hodd, bne_iff_ne.2 (show (s.length : Int) % 2 ≠ 0 by omega)]
    refine going ?_
    refine back_cells (vs := [.slice none 0 0, .int .i64 2]) [[]] ⟨[], none, 0, rfl, own_nil, rfl⟩

theorem same_spec {X Y : Chunk} {xa ya : Option Addr} {xc yc : Nat} {p : List UInt8} (hX : Rd 1 [X] xa p.length (p.map b8)) (hY : Rd 1 [Y] ya p.length (p.map b8)) : Meets Try.prog 66 [.slice xa p.length xc, .slice ya p.length yc] [X, Y]
    fun v A => v = .bool true ∧ A = [X, Y] := by
  refine spec_intro Try.func66 rfl (by kernel_rfl) (by rw [Try.ntmps66]; simp) fun F => ?_; rw [Try.ntmps66, Try.results66]
  refine going ?_
  refine run_op fun K hK => ?_; refine conv_bytes_string (hX.mem (by (repeat (first | with_reducible assumption | with_reducible exact List.mem_cons_self .. | with_reducible apply List.mem_cons_of_mem)))) ?_; refine hK _ _ ?_; clear hK K
  refine going ?_
  refine run_op fun K hK => ?_; refine conv_bytes_string (hY.mem (by (repeat (first | with_reducible assumption | with_reducible exact List.mem_cons_self .. | with_reducible apply List.mem_cons_of_mem)))) ?_; refine hK _ _ ?_; clear hK K
  refine going ?_
  refine back_tmp [X, Y] ?_; exact ⟨by simp, rfl⟩

end Go.Proofs.Ytfoppclmjmpjiaa

/- An answer's header, in the document. Conditions: as each says. -/
set_option linter.unusedSimpArgs false
set_option linter.unusedVariables false
namespace Go.Proofs.Ytfoppclmjmpjiaa
open Go Go.Ost Go.Sha

instance tprAnT : TPlaces Try.prog 65 [(0, 1), (1, 1), (2, 1), (3, 1), (4, 1), (5, 1), (6, 1), (7, 1)] := ⟨by kernel_rfl⟩
set_option maxHeartbeats 8000000 in
theorem rantext_spec (a : An) (h1 : a.u.length ≤ 4000) (h2 : a.r.length ≤ 4000) (h3 : a.n.length ≤ 4000) (h4 : a.uri.length ≤ 4000) (h5 : a.cn.length ≤ 4000) (h6 : a.o.length ≤ 4000) (h7 : a.pf.length ≤ 1000)
    {P : Chunk} {pa : Option Addr} {pk : Nat} (hP : Rd 1 [P] pa a.pf.length (a.pf.map b8)) : Meets Try.prog 32 [.agg (encA a pa pk).toArray] [P]
    fun v A => v = .tuple #[.string (str (anText a).1), .int .i64 (anText a).2] ∧ A = [P] := by
  have hcl := an_len a
  have hcb := an_bound h1 h2 h3 h4 h5 h6 h7
  obtain ⟨au, ar, an, ai, ak, ao, ac, ap⟩ := a
  simp only at h1 h2 h3 h4 h5 h6 h7 hP
  have hx64 := ac.isLt
  have hct : anText ⟨au, ar, an, ai, ak, ao, ac, ap⟩ = if (sizB an && (sizB ak && decide ((ap.length : Int) = 32))) = false then ([], 4) else printE (anPar ⟨au, ar, an, ai, ak, ao, ac, ap⟩) := rfl
  have hcp : anPar ⟨au, ar, an, ai, ak, ao, ac, ap⟩ = [(⟨nUser, au, true⟩ : Par), ⟨nRealm, ar, true⟩, ⟨nNonce, an, true⟩, ⟨nUri, ai, true⟩, ⟨nQop, nAuth, false⟩, ⟨nNc, hex (bytes4 ac), false⟩, ⟨nCnonce, ak, true⟩, ⟨nResp, hex ap, true⟩] ++ opqP ao ++ [⟨nAlg, nSum, false⟩] := rfl
  rw [hct]
  refine spec_intro Try.func32 rfl (by kernel_rfl) (by rw [Try.ntmps32]; simp) fun F => ?_; rw [Try.ntmps32, Try.results32]
  refine going ?_
  refine run_op fun K hK => ?_; refine box_new fun b1 => ?_; (try simp only [Value.cells]); refine hK _ _ ?_; clear hK K
  refine going ?_
  refine run_op fun K hK => ?_; refine calls_to (some_spec an) ?_; rintro v A ⟨rfl, rfl⟩; (try simp only [List.nil_append, List.cons_append]); refine hK _ _ ?_; clear hK K; refine going ?_
  cases hz1 : sizB an with
  | false =>
    rw [if_pos (by rfl)]
    refine going ?_
    refine back_cells (vs := [.string (str []), .int .i64 4]) [P] ⟨rfl, rfl⟩
  | true =>
    refine going ?_
    refine run_op fun K hK => ?_; refine calls_to (some_spec ak) ?_; rintro v A ⟨rfl, rfl⟩; (try simp only [List.nil_append, List.cons_append]); refine hK _ _ ?_; clear hK K; refine going ?_
    cases hz2 : sizB ak with
    | false =>
      rw [if_pos (by rfl)]
      refine going ?_
      refine back_cells (vs := [.string (str []), .int .i64 4]) [P] ⟨rfl, rfl⟩
    | true =>
      refine going ?_
      by_cases hz3 : (ap.length : Int) = 32
      · rw [bne_eq_false_iff_eq.2 hz3, if_neg (by rw [decide_eq_true hz3]; simp)]
        refine going ?_
        refine code_dr [[], [0], [0, 1], [], [3], [3, 4], [], [6], [6, 7], [], [9], [9, 10], [], [], [13], [13, 14], [13, 14, 15], [13, 14, 15, 16], [13, 14, 15, 16, 17], [], [19], [19, 20], [], [22], [13, 14, 15, 16, 17, 22, 23], [13, 14, 15, 16, 17, 22, 23, 24], [0, 1, 2, 3, 4, 5, 6, 7, 8, 9, 10, 11, 12, 13, 14, 15, 16, 17, 18, 19, 20, 21, 22, 23, 24, 25], [0, 1, 2, 3, 4, 5, 6, 7, 8, 9, 10, 11, 12, 13, 14, 15, 16, 17, 18, 19, 20, 21, 22, 23, 24, 25, 26]] [(0, false, []), (1, false, []), (2, false, []), (3, false, []), (4, false, []), (5, false, []), (6, false, []), (7, false, []), (8, false, []), (9, false, []), (10, false, []), (11, false, []), (12, false, []), (13, false, []), (14, false, []), (15, false, []), (19, false, []), (20, false, []), (21, false, []), (22, false, []), (23, false, []), (16, true, [1, 4, 7, 10, 20, 23]), (17, true, [1, 4, 7, 10, 20, 23]), (18, false, []), (24, true, [1, 4, 7, 10, 20]), (25, false, []), (26, true, []), (27, true, [])] ?_
        refine going ?_
        refine draw_quiet (by simp only [List.getElem?_toArray, List.getElem?_cons_succ, List.getElem?_cons_zero]; rfl) fun K hK => ?_; (try simp only [gos, gob, Nat.reduceBEq, if_true, reduceIte, reduceCtorEq, Nat.reduceLT, Nat.reduceEqDiff, Nat.reduceAdd, Nat.reduceSub, Int.reduceLT, Int.reduceLE, Int.reduceBEq, Int.reduceBNe, Int.reduceToNat, Int.reduceAdd, Int.reduceSub, Int.reduceMul, Int.reduceDiv, Int.reduceMod, Int.reducePow, Int.toNat_natCast, Nat.sub_zero, goq]); (try (simp (disch := omega) only [gow, gobw]; try simp only [gos, gob, Nat.reduceBEq, if_true, reduceIte, reduceCtorEq, Nat.reduceLT, Nat.reduceEqDiff, Nat.reduceAdd, Nat.reduceSub, Int.reduceLT, Int.reduceLE, Int.reduceBEq, Int.reduceBNe, Int.reduceToNat, Int.reduceAdd, Int.reduceSub, Int.reduceMul, Int.reduceDiv, Int.reduceMod, Int.reducePow, Int.toNat_natCast, Nat.sub_zero, goq])); rw [build_struct (ps := [(0, .string ⟨#[117, 115, 101, 114, 110, 97, 109, 101]⟩), (1, .string (str au)), (2, .bool true)]) (cs := (encP ⟨nUser, au, true⟩).toArray) rfl]; refine hK _ _ ?_; clear hK K
        refine going ?_
        refine draw_quiet (by simp only [List.getElem?_toArray, List.getElem?_cons_succ, List.getElem?_cons_zero]; rfl) fun K hK => ?_; (try simp only [gos, gob, Nat.reduceBEq, if_true, reduceIte, reduceCtorEq, Nat.reduceLT, Nat.reduceEqDiff, Nat.reduceAdd, Nat.reduceSub, Int.reduceLT, Int.reduceLE, Int.reduceBEq, Int.reduceBNe, Int.reduceToNat, Int.reduceAdd, Int.reduceSub, Int.reduceMul, Int.reduceDiv, Int.reduceMod, Int.reducePow, Int.toNat_natCast, Nat.sub_zero, goq]); (try (simp (disch := omega) only [gow, gobw]; try simp only [gos, gob, Nat.reduceBEq, if_true, reduceIte, reduceCtorEq, Nat.reduceLT, Nat.reduceEqDiff, Nat.reduceAdd, Nat.reduceSub, Int.reduceLT, Int.reduceLE, Int.reduceBEq, Int.reduceBNe, Int.reduceToNat, Int.reduceAdd, Int.reduceSub, Int.reduceMul, Int.reduceDiv, Int.reduceMod, Int.reducePow, Int.toNat_natCast, Nat.sub_zero, goq])); rw [build_struct (ps := [(0, .string ⟨#[114, 101, 97, 108, 109]⟩), (1, .string (str ar)), (2, .bool true)]) (cs := (encP ⟨nRealm, ar, true⟩).toArray) rfl]; refine hK _ _ ?_; clear hK K
        refine going ?_
        refine draw_quiet (by simp only [List.getElem?_toArray, List.getElem?_cons_succ, List.getElem?_cons_zero]; rfl) fun K hK => ?_; (try simp only [gos, gob, Nat.reduceBEq, if_true, reduceIte, reduceCtorEq, Nat.reduceLT, Nat.reduceEqDiff, Nat.reduceAdd, Nat.reduceSub, Int.reduceLT, Int.reduceLE, Int.reduceBEq, Int.reduceBNe, Int.reduceToNat, Int.reduceAdd, Int.reduceSub, Int.reduceMul, Int.reduceDiv, Int.reduceMod, Int.reducePow, Int.toNat_natCast, Nat.sub_zero, goq]); (try (simp (disch := omega) only [gow, gobw]; try simp only [gos, gob, Nat.reduceBEq, if_true, reduceIte, reduceCtorEq, Nat.reduceLT, Nat.reduceEqDiff, Nat.reduceAdd, Nat.reduceSub, Int.reduceLT, Int.reduceLE, Int.reduceBEq, Int.reduceBNe, Int.reduceToNat, Int.reduceAdd, Int.reduceSub, Int.reduceMul, Int.reduceDiv, Int.reduceMod, Int.reducePow, Int.toNat_natCast, Nat.sub_zero, goq])); rw [build_struct (ps := [(0, .string ⟨#[110, 111, 110, 99, 101]⟩), (1, .string (str an)), (2, .bool true)]) (cs := (encP ⟨nNonce, an, true⟩).toArray) rfl]; refine hK _ _ ?_; clear hK K
        refine going ?_
        refine draw_quiet (by simp only [List.getElem?_toArray, List.getElem?_cons_succ, List.getElem?_cons_zero]; rfl) fun K hK => ?_; (try simp only [gos, gob, Nat.reduceBEq, if_true, reduceIte, reduceCtorEq, Nat.reduceLT, Nat.reduceEqDiff, Nat.reduceAdd, Nat.reduceSub, Int.reduceLT, Int.reduceLE, Int.reduceBEq, Int.reduceBNe, Int.reduceToNat, Int.reduceAdd, Int.reduceSub, Int.reduceMul, Int.reduceDiv, Int.reduceMod, Int.reducePow, Int.toNat_natCast, Nat.sub_zero, goq]); (try (simp (disch := omega) only [gow, gobw]; try simp only [gos, gob, Nat.reduceBEq, if_true, reduceIte, reduceCtorEq, Nat.reduceLT, Nat.reduceEqDiff, Nat.reduceAdd, Nat.reduceSub, Int.reduceLT, Int.reduceLE, Int.reduceBEq, Int.reduceBNe, Int.reduceToNat, Int.reduceAdd, Int.reduceSub, Int.reduceMul, Int.reduceDiv, Int.reduceMod, Int.reducePow, Int.toNat_natCast, Nat.sub_zero, goq])); rw [build_struct (ps := [(0, .string ⟨#[117, 114, 105]⟩), (1, .string (str ai)), (2, .bool true)]) (cs := (encP ⟨nUri, ai, true⟩).toArray) rfl]; refine hK _ _ ?_; clear hK K
        refine going ?_
        refine draw_quiet (by simp only [List.getElem?_toArray, List.getElem?_cons_succ, List.getElem?_cons_zero]; rfl) fun K hK => ?_; (try simp only [gos, gob, Nat.reduceBEq, if_true, reduceIte, reduceCtorEq, Nat.reduceLT, Nat.reduceEqDiff, Nat.reduceAdd, Nat.reduceSub, Int.reduceLT, Int.reduceLE, Int.reduceBEq, Int.reduceBNe, Int.reduceToNat, Int.reduceAdd, Int.reduceSub, Int.reduceMul, Int.reduceDiv, Int.reduceMod, Int.reducePow, Int.toNat_natCast, Nat.sub_zero, goq]); (try (simp (disch := omega) only [gow, gobw]; try simp only [gos, gob, Nat.reduceBEq, if_true, reduceIte, reduceCtorEq, Nat.reduceLT, Nat.reduceEqDiff, Nat.reduceAdd, Nat.reduceSub, Int.reduceLT, Int.reduceLE, Int.reduceBEq, Int.reduceBNe, Int.reduceToNat, Int.reduceAdd, Int.reduceSub, Int.reduceMul, Int.reduceDiv, Int.reduceMod, Int.reducePow, Int.toNat_natCast, Nat.sub_zero, goq])); rw [build_struct (ps := [(0, .string ⟨#[113, 111, 112]⟩), (1, .string ⟨#[97, 117, 116, 104]⟩), (2, .bool false)]) (cs := (encP ⟨nQop, nAuth, false⟩).toArray) rfl]; refine hK _ _ ?_; clear hK K
        refine going ?_
        refine draw_quiet (by simp only [List.getElem?_toArray, List.getElem?_cons_succ, List.getElem?_cons_zero]; rfl) fun K hK => ?_; (try simp only [gos, gob, Nat.reduceBEq, if_true, reduceIte, reduceCtorEq, Nat.reduceLT, Nat.reduceEqDiff, Nat.reduceAdd, Nat.reduceSub, Int.reduceLT, Int.reduceLE, Int.reduceBEq, Int.reduceBNe, Int.reduceToNat, Int.reduceAdd, Int.reduceSub, Int.reduceMul, Int.reduceDiv, Int.reduceMod, Int.reducePow, Int.toNat_natCast, Nat.sub_zero, goq]); (try (simp (disch := omega) only [gow, gobw]; try simp only [gos, gob, Nat.reduceBEq, if_true, reduceIte, reduceCtorEq, Nat.reduceLT, Nat.reduceEqDiff, Nat.reduceAdd, Nat.reduceSub, Int.reduceLT, Int.reduceLE, Int.reduceBEq, Int.reduceBNe, Int.reduceToNat, Int.reduceAdd, Int.reduceSub, Int.reduceMul, Int.reduceDiv, Int.reduceMod, Int.reducePow, Int.toNat_natCast, Nat.sub_zero, goq])); rw [build_struct (ps := [(0, .string ⟨#[99, 110, 111, 110, 99, 101]⟩), (1, .string (str ak)), (2, .bool true)]) (cs := (encP ⟨nCnonce, ak, true⟩).toArray) rfl]; refine hK _ _ ?_; clear hK K
        refine going ?_
        have hbb := refbytes_spec ac.toNat 4 (by omega) (by decide)
        rw [bytes4_be] at hbb
        refine draw_op fun K hK => ?_; refine calls_to (hbb) ?_; rintro v A ⟨B, ba, bk, rfl, hB, rfl⟩; (try simp only [List.nil_append, List.cons_append]); (repeat refine pend ?_); refine hK _ _ ?_; clear hK K
        refine going ?_
        refine draw_op fun K hK => ?_; refine calls_to (refhex_spec B ba bk (bytes4 ac) (by rw [show (bytes4 ac).length = 4 from rfl]; decide) (hB.rd (List.mem_cons_self ..))) ?_; rintro v A ⟨rfl, rfl⟩; (try simp only [List.nil_append, List.cons_append]); (repeat refine pend ?_); refine hK _ _ ?_; clear hK K
        refine going ?_
        refine draw_quiet (by simp only [List.getElem?_toArray, List.getElem?_cons_succ, List.getElem?_cons_zero]; rfl) fun K hK => ?_; (try simp only [gos, gob, Nat.reduceBEq, if_true, reduceIte, reduceCtorEq, Nat.reduceLT, Nat.reduceEqDiff, Nat.reduceAdd, Nat.reduceSub, Int.reduceLT, Int.reduceLE, Int.reduceBEq, Int.reduceBNe, Int.reduceToNat, Int.reduceAdd, Int.reduceSub, Int.reduceMul, Int.reduceDiv, Int.reduceMod, Int.reducePow, Int.toNat_natCast, Nat.sub_zero, goq]); (try (simp (disch := omega) only [gow, gobw]; try simp only [gos, gob, Nat.reduceBEq, if_true, reduceIte, reduceCtorEq, Nat.reduceLT, Nat.reduceEqDiff, Nat.reduceAdd, Nat.reduceSub, Int.reduceLT, Int.reduceLE, Int.reduceBEq, Int.reduceBNe, Int.reduceToNat, Int.reduceAdd, Int.reduceSub, Int.reduceMul, Int.reduceDiv, Int.reduceMod, Int.reducePow, Int.toNat_natCast, Nat.sub_zero, goq])); rw [build_struct (ps := [(0, .string ⟨#[110, 99]⟩), (1, .string (str (hex (bytes4 ac)))), (2, .bool false)]) (cs := (encP ⟨nNc, hex (bytes4 ac), false⟩).toArray) rfl]; refine hK _ _ ?_; clear hK K
        refine going ?_
        refine draw_op fun K hK => ?_; refine calls_to (refhex_spec P pa pk ap (by omega) hP) ?_; rintro v A ⟨rfl, rfl⟩; (try simp only [List.nil_append, List.cons_append]); (repeat refine pend ?_); refine hK _ _ ?_; clear hK K
        refine going ?_
        refine draw_quiet (by simp only [List.getElem?_toArray, List.getElem?_cons_succ, List.getElem?_cons_zero]; rfl) fun K hK => ?_; (try simp only [gos, gob, Nat.reduceBEq, if_true, reduceIte, reduceCtorEq, Nat.reduceLT, Nat.reduceEqDiff, Nat.reduceAdd, Nat.reduceSub, Int.reduceLT, Int.reduceLE, Int.reduceBEq, Int.reduceBNe, Int.reduceToNat, Int.reduceAdd, Int.reduceSub, Int.reduceMul, Int.reduceDiv, Int.reduceMod, Int.reducePow, Int.toNat_natCast, Nat.sub_zero, goq]); (try (simp (disch := omega) only [gow, gobw]; try simp only [gos, gob, Nat.reduceBEq, if_true, reduceIte, reduceCtorEq, Nat.reduceLT, Nat.reduceEqDiff, Nat.reduceAdd, Nat.reduceSub, Int.reduceLT, Int.reduceLE, Int.reduceBEq, Int.reduceBNe, Int.reduceToNat, Int.reduceAdd, Int.reduceSub, Int.reduceMul, Int.reduceDiv, Int.reduceMod, Int.reducePow, Int.toNat_natCast, Nat.sub_zero, goq])); rw [build_struct (ps := [(0, .string ⟨#[114, 101, 115, 112, 111, 110, 115, 101]⟩), (1, .string (str (hex ap))), (2, .bool true)]) (cs := (encP ⟨nResp, hex ap, true⟩).toArray) rfl]; refine hK _ _ ?_; clear hK K
        refine going ?_
        refine draw_op fun K hK => ?_; refine build_els (n := 8) (e := 37) (s := 3) (hs := inferInstance) [encP ⟨nUser, au, true⟩, encP ⟨nRealm, ar, true⟩, encP ⟨nNonce, an, true⟩, encP ⟨nUri, ai, true⟩, encP ⟨nQop, nAuth, false⟩, encP ⟨nNc, hex (bytes4 ac), false⟩, encP ⟨nCnonce, ak, true⟩, encP ⟨nResp, hex ap, true⟩] (by rfl) rfl (by decide) (by decide) (by decide) (by intro r hr; simp only [List.mem_cons, List.not_mem_nil, or_false] at hr; rcases hr with rfl | rfl | rfl | rfl | rfl | rfl | rfl | rfl <;> rfl) (fun b2 C2 ho2 => ?_); (repeat refine pend ?_); refine hK _ _ ?_; clear hK K
        have hX2 : OwnR C2 (some ⟨b2, 0, none⟩) 8 [(⟨nUser, au, true⟩ : Par), ⟨nRealm, ar, true⟩, ⟨nNonce, an, true⟩, ⟨nUri, ai, true⟩, ⟨nQop, nAuth, false⟩, ⟨nNc, hex (bytes4 ac), false⟩, ⟨nCnonce, ak, true⟩, ⟨nResp, hex ap, true⟩] := ho2
        clear ho2
        rw [show Value.slice (some ⟨b2, 0, none⟩) 8 8 = .slice (some ⟨b2, 0, none⟩) ([(⟨nUser, au, true⟩ : Par), ⟨nRealm, ar, true⟩, ⟨nNonce, an, true⟩, ⟨nUri, ai, true⟩, ⟨nQop, nAuth, false⟩, ⟨nNc, hex (bytes4 ac), false⟩, ⟨nCnonce, ak, true⟩, ⟨nResp, hex ap, true⟩] : List Par).length 8 from rfl]
        have hl0 : ([(⟨nUser, au, true⟩ : Par), ⟨nRealm, ar, true⟩, ⟨nNonce, an, true⟩, ⟨nUri, ai, true⟩, ⟨nQop, nAuth, false⟩, ⟨nNc, hex (bytes4 ac), false⟩, ⟨nCnonce, ak, true⟩, ⟨nResp, hex ap, true⟩] : List Par).length = 8 := rfl
        generalize ([(⟨nUser, au, true⟩ : Par), ⟨nRealm, ar, true⟩, ⟨nNonce, an, true⟩, ⟨nUri, ai, true⟩, ⟨nQop, nAuth, false⟩, ⟨nNc, hex (bytes4 ac), false⟩, ⟨nCnonce, ak, true⟩, ⟨nResp, hex ap, true⟩] : List Par) = l0 at *
        generalize (some ⟨b2, 0, none⟩ : Option Addr) = a2 at *
        refine going ?_
        refine then_mid (fun D L S => ∃ (X3 : Chunk) (a3 : Option Addr) (k3 : Nat), OwnR X3 a3 k3 (l0 ++ opqP ao) ∧ D = [] ∧ L = [(4, .slice a3 (l0 ++ opqP ao).length k3), (1, .pointer (some ⟨b1, 0, none⟩))] ∧ S = [X3, [(b1, .cells (encA ⟨au, ar, an, ai, ak, ao, ac, ap⟩ pa pk).toArray 65 (0, 0))], F, P]) ?_ ?_
        · by_cases hs : ao = []
          · have ho : opqP ao = [] := if_pos hs
            rw [ho, List.append_nil, bne_eq_false_iff_eq.2 hs]
            refine going ?_
            exact mid ⟨C2, a2, 8, hX2, rfl, rfl, rfl⟩
          · have ho : opqP ao = [⟨nOpaque, ao, true⟩] := if_neg hs
            rw [ho, bne_iff_ne.2 hs]
            refine going ?_
            refine run_op fun K hK => ?_; rw [build_struct (ps := [(0, .string ⟨#[111, 112, 97, 113, 117, 101]⟩), (1, (.string (str ao))), (2, .bool true)]) (cs := (encP ⟨nOpaque, ao, true⟩).toArray) rfl]; refine hK _ _ ?_; clear hK K
            refine going ?_
            refine run_op fun K hK => ?_; refine build_el1 (e := 37) (s := 3) (hs := inferInstance) (vs := encP (⟨nOpaque, ao, true⟩ : Par)) (by rfl) (by decide) (by decide) rfl (fun b5 C5 ho5 => ?_); refine hK _ _ ?_; clear hK K
            refine run_op fun K hK => ?_; refine append_own (e := 37) (s := 3) (hs := inferInstance) (by rfl) (by decide) hX2 (.inr (by (repeat (first | with_reducible exact Pick.head _ _ | with_reducible apply Pick.tail)))) (ho5.rd (by (repeat (first | with_reducible assumption | with_reducible exact List.mem_cons_self .. | with_reducible apply List.mem_cons_of_mem)))) (cell_P _) (by simp only [maxLen]; omega) (by omega) (fun X5 a5 k5 hX5 => ?_); refine hK _ _ ?_; clear hK K
            have e1 : (l0).length + 1 = (l0 ++ [(⟨nOpaque, ao, true⟩ : Par)]).length := by simp
            have e2 : (l0).flatMap encP ++ encP (⟨nOpaque, ao, true⟩ : Par) = (l0 ++ [(⟨nOpaque, ao, true⟩ : Par)]).flatMap encP := by simp
            rw [e1, e2] at hX5
            rw [e1]
            clear e1 e2
            refine going ?_
            exact mid ⟨X5, a5, k5, hX5, rfl, rfl, rfl⟩
        rintro D L S ⟨X3, a3, k3, hX3, rfl, rfl, rfl⟩
        have hl3 : (l0 ++ opqP ao).length ≤ 9 := by rw [List.length_append]; unfold opqP; split <;> simp <;> omega
        generalize l0 ++ opqP ao = l1 at *
        refine going ?_
        refine run_op fun K hK => ?_; rw [build_struct (ps := [(0, .string ⟨#[97, 108, 103, 111, 114, 105, 116, 104, 109]⟩), (1, (.string ⟨#[83, 72, 65, 45, 50, 53, 54]⟩)), (2, .bool false)]) (cs := (encP ⟨nAlg, nSum, false⟩).toArray) rfl]; refine hK _ _ ?_; clear hK K
        refine going ?_
        refine run_op fun K hK => ?_; refine build_el1 (e := 37) (s := 3) (hs := inferInstance) (vs := encP (⟨nAlg, nSum, false⟩ : Par)) (by rfl) (by decide) (by decide) rfl (fun b6 C6 ho6 => ?_); refine hK _ _ ?_; clear hK K
        refine run_op fun K hK => ?_; refine append_own (e := 37) (s := 3) (hs := inferInstance) (by rfl) (by decide) hX3 (.inr (by (repeat (first | with_reducible exact Pick.head _ _ | with_reducible apply Pick.tail)))) (ho6.rd (by (repeat (first | with_reducible assumption | with_reducible exact List.mem_cons_self .. | with_reducible apply List.mem_cons_of_mem)))) (cell_P _) (by simp only [maxLen]; omega) (by omega) (fun X6 a6 k6 hX6 => ?_); refine hK _ _ ?_; clear hK K
        have e1 : (l1).length + 1 = (l1 ++ [(⟨nAlg, nSum, false⟩ : Par)]).length := by simp
        have e2 : (l1).flatMap encP ++ encP (⟨nAlg, nSum, false⟩ : Par) = (l1 ++ [(⟨nAlg, nSum, false⟩ : Par)]).flatMap encP := by simp
        rw [e1, e2] at hX6
        rw [e1]
        clear e1 e2
        rw [← hcp] at hX6 ⊢
        refine run_op fun K hK => ?_; refine calls_to (rprint_spec hX6 hcl hcb) ?_; rintro v A ⟨rfl, rfl⟩; (try simp only [List.nil_append, List.cons_append]); refine hK _ _ ?_; clear hK K; refine going ?_
        refine back_cells (vs := [.string (str (printE (anPar ⟨au, ar, an, ai, ak, ao, ac, ap⟩)).1), .int .i64 (printE (anPar ⟨au, ar, an, ai, ak, ao, ac, ap⟩)).2]) [P] ⟨rfl, rfl⟩
      · rw [bne_iff_ne.2 hz3, if_pos (by rw [decide_eq_false hz3]; rfl)]
        refine going ?_
        refine back_cells (vs := [.string (str []), .int .i64 4]) [P] ⟨rfl, rfl⟩

end Go.Proofs.Ytfoppclmjmpjiaa

/- The statement DigestAnswers. Conditions: as each says. -/
set_option linter.unusedSimpArgs false
set_option linter.unusedVariables false
namespace Go.Proofs.Ytfoppclmjmpjiaa
open Go Go.Ost Go.Sha

theorem rcut_spec {H : Chunk} {a : Option Addr} {cap : Nat} (p : List UInt8) (hpc : p.length ≤ cap) (hr : Rd 1 [H] a p.length (p.map b8)) (n : Nat) (hn : n ≤ 1000) (hm : p.length ≤ 9223372036854775807) :
    Meets Try.prog 30 [.slice a p.length cap, .int .i64 n] [H] (New8 5 (p.take n) [H]) := by
  refine spec_intro Try.func30 rfl (by kernel_rfl) (by rw [Try.ntmps30]; simp) fun F => ?_; rw [Try.ntmps30, Try.results30]
  refine going ?_
  refine run_op fun K hK => ?_; refine build8 ([]) (by decide) rfl (rfl) (fun b5 C5 ho5 => ?_); refine hK _ _ ?_; clear hK K
  refine going ?_
  have hX : (if ((n : Int) < (p.length : Int)) then (n : Int) else p.length).toNat = (p.take n).length := by rw [List.length_take]; split <;> omega
  rw [hX]
  have hq := rd_cut1 hr (l := 0) (h' := (p.take n).length) (m := cap) (by omega) (by rw [List.length_take]; omega) (by rw [List.length_take]; omega)
  rw [List.drop_zero, Nat.sub_zero, show p.take (p.take n).length = p.take n from by rw [List.length_take]; by_cases h : n ≤ p.length; rw [Nat.min_eq_left h]; rw [Nat.min_eq_right (by omega), List.take_length, List.take_of_length_le (by omega)]] at hq
  refine run_op fun K hK => ?_; refine app8 (ho5) (by (repeat (first | with_reducible exact Pick.head _ _ | with_reducible apply Pick.tail))) (hq.mem (by (repeat (first | with_reducible assumption | with_reducible exact List.mem_cons_self .. | with_reducible apply List.mem_cons_of_mem)))) (by rw [List.length_take]; omega) (fun C9 a9 cap9 ho9 => ?_); refine hK _ _ ?_; clear hK K
  (try simp only [List.nil_append, Nat.zero_add] at ho9 ⊢)
  refine going ?_
  refine back_tmp ([C9, H]) ?_; exact ⟨_, _, _, rfl, ho9, rfl⟩

theorem an_of {C : Chunk} {us : List Value} (h : RowW C [.str, .str, .str, .str, .str, .str, .int .u32, .bytes] us) : ∃ (a : An) (pa : Option Addr) (pk : Nat), us = encA a pa pk ∧ a.pf.length ≤ pk ∧ pk ≤ maxLen ∧ Rd 1 [C] pa a.pf.length (a.pf.map b8) := by
  match us, h with
  | [a, b, c, d, e, f, g, i], ⟨⟨la, ha, _⟩, ⟨lb, hb, _⟩, ⟨lc, hc, _⟩, ⟨ld, hd, _⟩, ⟨le, he, _⟩, ⟨lf, hf, _⟩, ⟨z, hz, hw⟩, ⟨pa, pk, bs, hi, h1, h2, h3⟩, _⟩ =>
    have hz0 : 0 ≤ z ∧ z ≤ 4294967295 := by simp only [Lit.wf, Bool.and_eq_true, decide_eq_true_eq] at hw; exact ⟨hw.1, hw.2⟩
    exact ⟨⟨la, lb, lc, ld, le, lf, BitVec.ofNat 32 z.toNat, bs⟩, pa, pk, by
      have hx : Value.int .u32 z = b32 (BitVec.ofNat 32 z.toNat) := by simp only [b32, BitVec.toNat_ofNat]; congr 1; omega
      rw [ha, hb, hc, hd, he, hf, hz, hi, hx], h1, h2, h3⟩

/-! ### What is printed is read again -/

theorem digit_in : ∀ k < 16, dv (digits.getD k 0) = k := by decide +kernel
theorem uhF_hex : ∀ l : List UInt8, uhF (hex l) = some l
  | [] => rfl
  | b :: l => by
    have hb := b.toNat_lt
    have e : hex (b :: l) = digits.getD (b.toNat / 16) 0 :: digits.getD (b.toNat % 16) 0 :: hex l := rfl
    rw [e, uhF, digit_in _ (by omega), digit_in _ (by omega), if_neg (by omega), uhF_hex l]
    show some (UInt8.ofNat _ :: l) = _
    congr 2
    rw [show 16 * ((b.toNat / 16 : Nat) : Int).toNat + ((b.toNat % 16 : Nat) : Int).toNat = b.toNat from by omega]
    simp
theorem uh_hex (l : List UInt8) : uhE (hex l) = (l, 0) := by
  unfold uhE
  rw [if_neg (by rw [hex_len]; omega), uhF_hex]
theorem num_hex (x : W) : numE (hex (bytes4 x)) = (x, true) := by
  unfold numE
  rw [uh_hex, hex_len]
  have hw : numW (bytes4 x) = x := by
    have h := x.isLt
    rw [← num_same]
    apply BitVec.eq_of_toNat_eq
    rw [BitVec.toNat_ofNat]
    show ((((0 * 256 + (UInt8.ofNat (x.toNat / 16777216)).toNat) * 256 + (UInt8.ofNat (x.toNat / 65536)).toNat) * 256 + (UInt8.ofNat (x.toNat / 256)).toNat) * 256 + (UInt8.ofNat x.toNat).toNat) % 2 ^ 32 = _
    simp only [UInt8.toNat_ofNat']
    omega
  rw [hw]; rfl
theorem pa_good (a : An) (hok : anOk a = true) : paL (anPar a) = (a, 0) := by
  obtain ⟨u, r, n, uri, cn, o, nc, pf⟩ := a
  unfold anOk at hok
  simp only [Bool.and_eq_true] at hok
  obtain ⟨hs1, hs2, hs3⟩ := hok
  have hc : anPar ⟨u, r, n, uri, cn, o, nc, pf⟩ = [(⟨nUser, u, true⟩ : Par), ⟨nRealm, r, true⟩, ⟨nNonce, n, true⟩, ⟨nUri, uri, true⟩, ⟨nQop, nAuth, false⟩, ⟨nNc, hex (bytes4 nc), false⟩, ⟨nCnonce, cn, true⟩, ⟨nResp, hex pf, true⟩] ++ opqP o ++ [⟨nAlg, nSum, false⟩] := rfl
  have key : ∀ l : List Par, hasB l nUser = true → gotP l nUser = ⟨nUser, u, true⟩ → hasB l nRealm = true → gotP l nRealm = ⟨nRealm, r, true⟩ → hasB l nNonce = true → gotP l nNonce = ⟨nNonce, n, true⟩ → hasB l nUri = true → gotP l nUri = ⟨nUri, uri, true⟩ → hasB l nQop = true → gotP l nQop = ⟨nQop, nAuth, false⟩ → hasB l nNc = true → gotP l nNc = ⟨nNc, hex (bytes4 nc), false⟩ → hasB l nCnonce = true → gotP l nCnonce = ⟨nCnonce, cn, true⟩ → hasB l nResp = true → gotP l nResp = ⟨nResp, hex pf, true⟩ → hasB l nAlg = true → gotP l nAlg = ⟨nAlg, nSum, false⟩ → (gotP l nOpaque).v = o → (hasB l nOpaque = true → (gotP l nOpaque).q = true) → paL l = (⟨u, r, n, uri, cn, o, nc, pf⟩, 0) := by
    intro l a0 b0 a1 b1 a2 b2 a3 b3 a4 b4 a5 b5 a6 b6 a7 b7 a8 b8v o1 o2
    have hf : paF l = (false, false) := by
      unfold paF comF
      have g : ∀ (m v : List UInt8) (q : Bool), hasB l m = true → gotP l m = ⟨m, v, q⟩ → getF l m q (false, false) = (false, false) := by
        intro m v q h1 h2
        unfold getF
        rw [h1, h2]; simp
      have f : ∀ b : Bool, b = true → fineF b (false, false) = (false, false) := by
        intro b h; rw [h]; rfl
      rw [g _ _ _ a0 b0, g _ _ _ a1 b1, g _ _ _ a2 b2, f _ (by rw [b2]; exact hs1), g _ _ _ a3 b3, g _ _ _ a6 b6, f _ (by rw [b6]; exact hs2)]
      have m1 : mayF l nOpaque true (false, false) = (false, false) := by
        unfold mayF
        split
        · rename_i h; unfold getF; rw [h, o2 h]; rfl
        · rfl
      rw [m1, g _ _ _ a4 b4, f _ (by rw [b4]; exact beq_self_eq_true _), g _ _ _ a8 b8v, f _ (by rw [b8v]; exact beq_self_eq_true _), g _ _ _ a5 b5, f _ (by rw [b5, num_hex]), g _ _ _ a7 b7]
      exact f _ (by unfold proofB; rw [b7, uh_hex]; simpa using hs3)
    unfold paL anL
    rw [hf, if_neg (by decide), b0, b1, b2, b3, b5, b6, b7, o1, num_hex, uh_hex]
  rw [hc]
  cases o with
  | nil => exact key _ (by kernel_rfl) (by kernel_rfl) (by kernel_rfl) (by kernel_rfl) (by kernel_rfl) (by kernel_rfl) (by kernel_rfl) (by kernel_rfl) (by kernel_rfl) (by kernel_rfl) (by kernel_rfl) (by kernel_rfl) (by kernel_rfl) (by kernel_rfl) (by kernel_rfl) (by kernel_rfl) (by kernel_rfl) (by kernel_rfl) (by kernel_rfl) (fun h => absurd h (show ¬ (false = true) by decide))
  | cons a o =>
    have ho : opqP (a :: o) = [⟨nOpaque, a :: o, true⟩] := if_neg (by simp)
    rw [ho]
    exact key _ (by kernel_rfl) (by kernel_rfl) (by kernel_rfl) (by kernel_rfl) (by kernel_rfl) (by kernel_rfl) (by kernel_rfl) (by kernel_rfl) (by kernel_rfl) (by kernel_rfl) (by kernel_rfl) (by kernel_rfl) (by kernel_rfl) (by kernel_rfl) (by kernel_rfl) (by kernel_rfl) (by kernel_rfl) (by kernel_rfl) (by kernel_rfl) (fun _ => by kernel_rfl)
theorem pa_back {a : An} (h : (anText a).2 = 0) : paE (anText a).1 = (a, 0) ∧ (anText a).1.length ≤ 4096 := by
  unfold anText at h ⊢
  cases hs : anOk a with
  | false => rw [if_pos hs] at h; cases h
  | true =>
    have hs' : ¬ anOk a = false := by rw [hs]; simp
    rw [if_neg hs'] at h
    (first | rw [if_neg hs'] | rw [if_neg (show ¬ (true = false) by decide)])
    refine ⟨?_, print_len h⟩
    unfold paE
    rw [parse_print h, if_neg (by simp)]
    exact pa_good a hs

set_option maxHeartbeats 4000000 in
theorem sameans_spec (a : An) {P Q : Chunk} {pa qa : Option Addr} {pk qk : Nat} (hP : Rd 1 [P] pa a.pf.length (a.pf.map b8)) (hQ : Rd 1 [Q] qa a.pf.length (a.pf.map b8)) :
    Meets Try.prog 34 [.agg (encA a pa pk).toArray, .agg (encA a qa qk).toArray] [P, Q] fun v A => v = .bool true ∧ A = [P, Q] := by
  obtain ⟨u, r, n, uri, cn, o, nc, pf⟩ := a
  refine spec_intro Try.func34 rfl (by kernel_rfl) (by rw [Try.ntmps34]; simp) fun F => ?_; rw [Try.ntmps34, Try.results34]
  refine going ?_
  refine run_op fun K hK => ?_; refine box_new fun b2 => ?_; (try simp only [Value.cells]); refine hK _ _ ?_; clear hK K
  refine run_op fun K hK => ?_; refine box_new fun b3 => ?_; (try simp only [Value.cells]); refine hK _ _ ?_; clear hK K
  refine going ?_
  refine run_op fun K hK => ?_; rw [show b32 nc = Value.int .u32 (nc.toNat : Int) from rfl]; (try simp only [gos, gob, Nat.reduceBEq, if_true, reduceIte, reduceCtorEq, Nat.reduceLT, Nat.reduceEqDiff, Nat.reduceAdd, Nat.reduceSub, Int.reduceLT, Int.reduceLE, Int.reduceBEq, Int.reduceBNe, Int.reduceToNat, Int.reduceAdd, Int.reduceSub, Int.reduceMul, Int.reduceDiv, Int.reduceMod, Int.reducePow, Int.toNat_natCast, Nat.sub_zero]); (try (simp (disch := omega) only [gow, gobw]; try simp only [gos, gob, Nat.reduceBEq, if_true, reduceIte, reduceCtorEq, Nat.reduceLT, Nat.reduceEqDiff, Nat.reduceAdd, Nat.reduceSub, Int.reduceLT, Int.reduceLE, Int.reduceBEq, Int.reduceBNe, Int.reduceToNat, Int.reduceAdd, Int.reduceSub, Int.reduceMul, Int.reduceDiv, Int.reduceMod, Int.reducePow, Int.toNat_natCast, Nat.sub_zero])); refine hK _ _ ?_; clear hK K
  refine going ?_
  refine run_op fun K hK => ?_; refine calls_to (same_spec hP hQ) ?_; rintro v A ⟨rfl, rfl⟩; (try simp only [List.nil_append, List.cons_append]); refine hK _ _ ?_; clear hK K; refine going ?_
  refine back_tmp [P, Q] ?_; exact ⟨rfl, rfl⟩

set_option maxHeartbeats 8000000 in
theorem DigestAnswers_law (C : Chunk) (_ : True) (us : List Value) (hus : RowW C [.str, .str, .str, .str, .str, .str, .int .u32, .bytes] us) :
    Meets Try.prog 8 [.agg us.toArray] [C] fun v A => v = .bool true ∧ A = [C] := by
  obtain ⟨⟨u0, r0, n0, i0, k0, o0, nc, p0⟩, pa, pk, rfl, hk1, hk2, hP0⟩ := an_of hus
  simp only at hk1 hP0
  refine spec_intro Try.func8 rfl (by kernel_rfl) (by rw [Try.ntmps8]; simp) fun F => ?_; rw [Try.ntmps8, Try.results8]
  refine going ?_
  refine run_op fun K hK => ?_; refine box_new fun b1 => ?_; (try simp only [Value.cells]); refine hK _ _ ?_; clear hK K
  refine going ?_
  refine run_op fun K hK => ?_; refine calls_to (awake_spec) ?_; rintro v A ⟨rfl, rfl⟩; (try simp only [List.nil_append, List.cons_append]); refine hK _ _ ?_; clear hK K; refine going ?_
  refine code_dr [[], [0], [0, 1], [], [3], [0, 1, 2, 3, 4], [], [6], [0, 1, 2, 3, 4, 5, 6, 7], [], [9], [0, 1, 2, 3, 4, 5, 6, 7, 8, 9, 10], [0, 1, 2, 3, 4, 6, 7, 9, 10], [0, 1, 2, 3, 4, 5, 6, 7, 8, 9, 10, 11, 12], [0, 1, 2, 3, 4, 5, 6, 7, 8, 9, 10, 11, 12, 13], [0, 1, 2, 3, 4, 5, 6, 7, 8, 9, 10, 11, 12, 13, 14], [0, 1, 2, 3, 4, 5, 6, 7, 8, 9, 10, 11, 12, 13, 14, 15], [0, 1, 2, 3, 4, 5, 6, 7, 8, 9, 10, 11, 12, 13, 14, 15, 16], [0, 1, 2, 3, 4, 5, 6, 7, 8, 9, 10, 11, 12, 13, 14, 15, 16, 17], [0, 1, 2, 3, 4, 5, 6, 7, 8, 9, 10, 11, 12, 13, 14, 15, 16, 17, 18]] [(0, false, []), (1, false, []), (3, false, []), (4, false, []), (6, false, []), (7, false, []), (9, false, []), (10, false, []), (2, true, [4, 7, 10]), (12, false, []), (5, true, [7, 10]), (8, true, [10]), (11, true, []), (13, true, []), (14, false, []), (15, true, []), (16, false, []), (17, true, []), (18, false, []), (19, true, [])] ?_
  refine going ?_
  refine draw_op fun K hK => ?_; refine calls_to (cuttext_spec u0 1500) ?_; rintro v A ⟨rfl, rfl⟩; (try simp only [List.nil_append, List.cons_append]); (repeat refine pend ?_); refine hK _ _ ?_; clear hK K
  refine going ?_
  refine draw_op fun K hK => ?_; refine calls_to (cuttext_spec r0 1500) ?_; rintro v A ⟨rfl, rfl⟩; (try simp only [List.nil_append, List.cons_append]); (repeat refine pend ?_); refine hK _ _ ?_; clear hK K
  refine going ?_
  refine draw_op fun K hK => ?_; refine calls_to (cuttext_spec i0 1500) ?_; rintro v A ⟨rfl, rfl⟩; (try simp only [List.nil_append, List.cons_append]); (repeat refine pend ?_); refine hK _ _ ?_; clear hK K
  refine going ?_
  refine draw_op fun K hK => ?_; refine calls_to (cuttext_spec o0 100) ?_; rintro v A ⟨rfl, rfl⟩; (try simp only [List.nil_append, List.cons_append]); (repeat refine pend ?_); refine hK _ _ ?_; clear hK K
  refine going ?_
  (try (refine draw_op fun K hK => ?_; (first | refine store_box trivial (by (repeat (first | with_reducible exact Upd.one | with_reducible apply Upd.next))) ?_ | refine store_one trivial (by (repeat (first | with_reducible exact Upd.one | with_reducible apply Upd.next))) (by simp) ?_); (repeat refine pend ?_); refine hK _ _ ?_; clear hK K; refine going ?_))
  (try (refine draw_op fun K hK => ?_; (first | refine store_box trivial (by (repeat (first | with_reducible exact Upd.one | with_reducible apply Upd.next))) ?_ | refine store_one trivial (by (repeat (first | with_reducible exact Upd.one | with_reducible apply Upd.next))) (by simp) ?_); (repeat refine pend ?_); refine hK _ _ ?_; clear hK K; refine going ?_))
  (try (refine draw_op fun K hK => ?_; (first | refine store_box trivial (by (repeat (first | with_reducible exact Upd.one | with_reducible apply Upd.next))) ?_ | refine store_one trivial (by (repeat (first | with_reducible exact Upd.one | with_reducible apply Upd.next))) (by simp) ?_); (repeat refine pend ?_); refine hK _ _ ?_; clear hK K; refine going ?_))
  (try (refine draw_op fun K hK => ?_; (first | refine store_box trivial (by (repeat (first | with_reducible exact Upd.one | with_reducible apply Upd.next))) ?_ | refine store_one trivial (by (repeat (first | with_reducible exact Upd.one | with_reducible apply Upd.next))) (by simp) ?_); (repeat refine pend ?_); refine hK _ _ ?_; clear hK K; refine going ?_))
  (try simp only [List.setIfInBounds_toArray, List.set_cons_succ, List.set_cons_zero, List.getElem_toArray, List.getElem_cons_succ, List.getElem_cons_zero])
  refine code_dr [[], [0], [0, 1], [], [3], [0, 1, 2, 3, 4], [], [6], [0, 1, 2, 3, 4, 5, 6, 7], [0, 1, 2, 3, 4, 6, 7], [0, 1, 2, 3, 4, 5, 6, 7, 8, 9], [0, 1, 2, 3, 4, 5, 6, 7, 8, 9, 10], [0, 1, 2, 3, 4, 5, 6, 7, 8, 9, 10, 11], [0, 1, 2, 3, 4, 5, 6, 7, 8, 9, 10, 11, 12], [0, 1, 2, 3, 4, 5, 6, 7, 8, 9, 10, 11, 12, 13]] [(0, false, []), (1, false, []), (3, false, []), (4, false, []), (6, false, []), (7, false, []), (2, true, [4, 7]), (9, false, []), (5, true, [7]), (8, true, []), (10, true, []), (11, false, []), (12, true, []), (13, false, []), (14, true, [])] ?_
  refine going ?_
  refine draw_op fun K hK => ?_; refine calls_to (cuttext_spec n0 70) ?_; rintro v A ⟨rfl, rfl⟩; (try simp only [List.nil_append, List.cons_append]); (repeat refine pend ?_); refine hK _ _ ?_; clear hK K
  refine going ?_
  refine draw_op fun K hK => ?_; refine calls_to (cuttext_spec k0 70) ?_; rintro v A ⟨rfl, rfl⟩; (try simp only [List.nil_append, List.cons_append]); (repeat refine pend ?_); refine hK _ _ ?_; clear hK K
  refine going ?_
  refine draw_op fun K hK => ?_; refine calls_to (rcut_spec p0 hk1 hP0 40 (by decide) (by simp only [maxLen] at hk2; omega)) ?_; rintro v A ⟨Q, qa, qk, rfl, hQ, rfl⟩; (try simp only [List.nil_append, List.cons_append]); (repeat refine pend ?_); refine hK _ _ ?_; clear hK K
  refine going ?_
  (try (refine draw_op fun K hK => ?_; (first | refine store_box trivial (by (repeat (first | with_reducible exact Upd.one | with_reducible apply Upd.next))) ?_ | refine store_one trivial (by (repeat (first | with_reducible exact Upd.one | with_reducible apply Upd.next))) (by simp) ?_); (repeat refine pend ?_); refine hK _ _ ?_; clear hK K; refine going ?_))
  (try (refine draw_op fun K hK => ?_; (first | refine store_box trivial (by (repeat (first | with_reducible exact Upd.one | with_reducible apply Upd.next))) ?_ | refine store_one trivial (by (repeat (first | with_reducible exact Upd.one | with_reducible apply Upd.next))) (by simp) ?_); (repeat refine pend ?_); refine hK _ _ ?_; clear hK K; refine going ?_))
  (try (refine draw_op fun K hK => ?_; (first | refine store_box trivial (by (repeat (first | with_reducible exact Upd.one | with_reducible apply Upd.next))) ?_ | refine store_one trivial (by (repeat (first | with_reducible exact Upd.one | with_reducible apply Upd.next))) (by simp) ?_); (repeat refine pend ?_); refine hK _ _ ?_; clear hK K; refine going ?_))
  (try simp only [List.setIfInBounds_toArray, List.set_cons_succ, List.set_cons_zero, List.getElem_toArray, List.getElem_cons_succ, List.getElem_cons_zero])
  have lu : (u0.take 1500).length ≤ 1500 := by rw [List.length_take]; omega
  generalize u0.take 1500 = u at *
  have lr : (r0.take 1500).length ≤ 1500 := by rw [List.length_take]; omega
  generalize r0.take 1500 = r at *
  have luri : (i0.take 1500).length ≤ 1500 := by rw [List.length_take]; omega
  generalize i0.take 1500 = uri at *
  have lo : (o0.take 100).length ≤ 100 := by rw [List.length_take]; omega
  generalize o0.take 100 = o at *
  have ln : (n0.take 70).length ≤ 70 := by rw [List.length_take]; omega
  generalize n0.take 70 = n at *
  have lcn : (k0.take 70).length ≤ 70 := by rw [List.length_take]; omega
  generalize k0.take 70 = cn at *
  have lpf : (p0.take 40).length ≤ 40 := by rw [List.length_take]; omega
  generalize p0.take 40 = pf at *
  have hQr : Rd 1 [Q] qa pf.length (pf.map b8) := hQ.rd (List.mem_cons_self ..)
  refine run_op fun K hK => ?_; refine load_all (vs := encA ⟨u, r, n, uri, cn, o, nc, pf⟩ qa qk) (by (repeat (first | with_reducible exact Lies.one | with_reducible apply Lies.next))) rfl ?_; refine hK _ _ ?_; clear hK K
  refine going ?_
  refine run_op fun K hK => ?_; refine calls_to (antext_spec (a := ⟨u, r, n, uri, cn, o, nc, pf⟩) (by show u.length ≤ _; omega) (by show r.length ≤ _; omega) (by show n.length ≤ _; omega) (by show uri.length ≤ _; omega) (by show cn.length ≤ _; omega) (by show o.length ≤ _; omega) (by show pf.length ≤ _; omega) hQr) ?_; rintro v A ⟨rfl, rfl⟩; (try simp only [List.nil_append, List.cons_append]); refine hK _ _ ?_; clear hK K; refine going ?_
  refine run_op fun K hK => ?_; refine load_all (vs := encA ⟨u, r, n, uri, cn, o, nc, pf⟩ qa qk) (by (repeat (first | with_reducible exact Lies.one | with_reducible apply Lies.next))) rfl ?_; refine hK _ _ ?_; clear hK K
  refine going ?_
  refine run_op fun K hK => ?_; refine calls_to (rantext_spec (a := ⟨u, r, n, uri, cn, o, nc, pf⟩) (by show u.length ≤ _; omega) (by show r.length ≤ _; omega) (by show n.length ≤ _; omega) (by show uri.length ≤ _; omega) (by show cn.length ≤ _; omega) (by show o.length ≤ _; omega) (by show pf.length ≤ _; omega) hQr) ?_; rintro v A ⟨rfl, rfl⟩; (try simp only [List.nil_append, List.cons_append]); refine hK _ _ ?_; clear hK K; refine going ?_
  by_cases h0 : (anText ⟨u, r, n, uri, cn, o, nc, pf⟩).2 = 0
  · obtain ⟨hpb, hpl⟩ := pa_back h0
    have hps := pans_spec (anText ⟨u, r, n, uri, cn, o, nc, pf⟩).1 (by omega)
    rw [hpb] at hps
    rw [h0]
    refine going ?_
    refine run_op fun K hK => ?_; refine calls_to (hps) ?_; rintro v A ⟨R, ra, rk, rfl, hR, rfl⟩; (try simp only [List.nil_append, List.cons_append]); refine hK _ _ ?_; clear hK K; refine going ?_
    refine run_op fun K hK => ?_; refine alloc_as (encA a0 none 0).toArray rfl fun b7 => ?_; refine hK _ _ ?_; clear hK K
    refine run_op fun K hK => ?_; refine store_all (vs := encA ⟨u, r, n, uri, cn, o, nc, pf⟩ ra rk) rfl (cell_A _ _ _) (by (repeat (first | with_reducible exact Upd.one | with_reducible apply Upd.next))) (by rfl) ?_; refine hK _ _ ?_; clear hK K
    refine going ?_
    refine run_op fun K hK => ?_; refine load_all (vs := encA ⟨u, r, n, uri, cn, o, nc, pf⟩ ra rk) (by (repeat (first | with_reducible exact Lies.one | with_reducible apply Lies.next))) rfl ?_; refine hK _ _ ?_; clear hK K
    refine going ?_
    refine run_op fun K hK => ?_; refine load_all (vs := encA ⟨u, r, n, uri, cn, o, nc, pf⟩ qa qk) (by (repeat (first | with_reducible exact Lies.one | with_reducible apply Lies.next))) rfl ?_; refine hK _ _ ?_; clear hK K
    refine going ?_
    refine run_op fun K hK => ?_; refine calls_to (sameans_spec ⟨u, r, n, uri, cn, o, nc, pf⟩ (P := R) (Q := Q) (hR.rd (List.mem_cons_self ..)) hQr) ?_; rintro v A ⟨rfl, rfl⟩; (try simp only [List.nil_append, List.cons_append]); refine hK _ _ ?_; clear hK K; refine going ?_
    refine back_tmp [C] ?_; exact ⟨rfl, rfl⟩
  · rw [bne_iff_ne.2 h0]
    refine going ?_
    refine back_tmp [C] ?_; exact ⟨rfl, rfl⟩

end Go.Proofs.Ytfoppclmjmpjiaa

/- The statement DigestSpaces: what stands about the signs, plainly; the gaps. Conditions: as each says. -/
set_option linter.unusedSimpArgs false
set_option linter.unusedVariables false
namespace Go.Proofs.Ytfoppclmjmpjiaa
open Go Go.Ost

def gapT : List (List UInt8) := [[], [32], [9], [32, 32, 9]]
def gapE (gs : List UInt8) (i : Nat) : List UInt8 := if i < gs.length then gapT.getD ((gs.getD i 0).toNat % 4) [] else []
theorem gapT_ok : ∀ k < 4, (gapT.getD k []).all blank = true ∧ (gapT.getD k []).length ≤ 3 := by decide
theorem gap_blank (gs : List UInt8) (i : Nat) : (gapE gs i).all blank = true ∧ (gapE gs i).length ≤ 3 := by
  unfold gapE
  split
  · exact gapT_ok _ (Nat.mod_lt _ (by decide))
  · exact ⟨rfl, by simp⟩
def up1 (c : UInt8) : UInt8 := if 97 ≤ c.toNat ∧ c.toNat ≤ 122 then UInt8.ofNat (c.toNat - 32) else c
def upL (s : List UInt8) : List UInt8 := s.map up1
theorem up_len (s : List UInt8) : (upL s).length = s.length := by unfold upL; simp
theorem up_toNat (c : UInt8) : (up1 c).toNat = if 97 ≤ c.toNat ∧ c.toNat ≤ 122 then c.toNat - 32 else c.toNat := by
  unfold up1
  split
  · rw [UInt8.toNat_ofNat']; omega
  · rfl
theorem up_tc {c : UInt8} (h : tcB c = true) : tcB (up1 c) = true := by
  by_cases hc : 97 ≤ c.toNat ∧ c.toNat ≤ 122
  · have hu := up_toNat c
    rw [if_pos hc] at hu
    unfold tcB
    rw [hu, decide_eq_false (show ¬ (97 ≤ c.toNat - 32 ∧ c.toNat - 32 ≤ 122) by omega), decide_eq_true (show 65 ≤ c.toNat - 32 ∧ c.toNat - 32 ≤ 90 by omega)]
    rfl
  · rw [show up1 c = c from if_neg hc]; exact h
theorem low_up (c : UInt8) : low1 (up1 c) = low1 c := by
  have hu := up_toNat c
  unfold low1
  by_cases hc : 97 ≤ c.toNat ∧ c.toNat ≤ 122
  · rw [if_pos hc] at hu
    rw [if_pos (by rw [hu]; omega), if_neg (by omega), hu]
    apply UInt8.toNat_inj.1
    rw [UInt8.toNat_ofNat']
    omega
  · rw [show up1 c = c from if_neg hc]
theorem up_all {s : List UInt8} (h : tokB s = true) : tokB (upL s) = true := by
  unfold tokB at h ⊢
  rw [Bool.and_eq_true, List.all_eq_true] at h
  rw [Bool.and_eq_true, List.all_eq_true, up_len]
  refine ⟨fun c hc => ?_, h.2⟩
  obtain ⟨d, hd, rfl⟩ := List.mem_map.1 hc
  exact up_tc (h.1 d hd)
theorem low_upL (s : List UInt8) : lowL (upL s) = lowL s := by
  unfold lowL upL
  rw [List.map_map]
  exact List.map_congr_left fun c _ => low_up c
/-- A parameter as it is written there. -/
def itS (gs : List UInt8) (i : Nat) (p : Par) : It := ⟨p, upL p.n, gapE gs (4 * i), gapE gs (4 * i + 1), gapE gs (4 * i + 2), gapE gs (4 * i + 3)⟩
theorem good_S (gs : List UInt8) (i : Nat) {p : Par} (h : goodP p = true) : (itS gs i p).ok := by
  have h0 := good_it h
  exact ⟨h0.p, up_all h0.nm, by show lowL (upL p.n) = p.n; rw [low_upL]; exact h0.low, (gap_blank gs _).1, (gap_blank gs _).1, (gap_blank gs _).1, (gap_blank gs _).1⟩
def textS : List It → List UInt8
  | [] => []
  | x :: l => bodyI x ++ tailI l
theorem tail_snoc (x : It) : ∀ l : List It, tailI (l ++ [x]) = tailI l ++ (x.ga ++ 44 :: (x.gb ++ bodyI x))
  | [] => by simp [tailI]
  | y :: l => by
    show y.ga ++ 44 :: (y.gb ++ (bodyI y ++ tailI (l ++ [x]))) = _
    rw [tail_snoc x l]; simp [tailI]
theorem text_snoc (x : It) (l : List It) : textS (l ++ [x]) = textS l ++ ((if 0 < l.length then x.ga ++ 44 :: x.gb else []) ++ bodyI x) := by
  cases l with
  | nil => simp [textS, tailI]
  | cons y l =>
    show bodyI y ++ tailI (l ++ [x]) = _
    rw [tail_snoc, if_pos (by simp)]; simp [textS]
theorem print_good {p : Par} (h : (printE [p]).2 = 0) : goodP p = true := by
  unfold printE at h
  split at h
  · cases h
  · rename_i h1
    simpa using h1
theorem print_err {l : List Par} (h : (printE l).2 ≠ 0) : (printE l).1 = [] := by
  unfold printE at h ⊢
  split
  · rfl
  rename_i h1
  rw [if_neg h1] at h
  split
  · rfl
  rename_i h2
  rw [if_neg h2] at h
  split
  · rfl
  · rename_i h3
    rw [if_neg h3] at h; exact (h rfl).elim
/-- 'dIGEST' -/
def dig0 : List UInt8 := [100, 73, 71, 69, 83, 84]
theorem space_parse (its : List It) (hok : ∀ x ∈ its, x.ok) (hg : ∀ x ∈ its, goodP x.p = true) (hlen : (dig0 ++ 32 :: 32 :: textS its).length ≤ 4096) (hjl : (hdr ++ joinP (its.map It.p)).length ≤ 4096) :
    (parseE (dig0 ++ 32 :: 32 :: textS its)).2 = (printE (its.map It.p)).2 ∧ ((printE (its.map It.p)).2 = 0 → (parseE (dig0 ++ 32 :: 32 :: textS its)).1 = its.map It.p) := by
  have ht := tok_app (a := dig0) (r := 32 :: 32 :: textS its) (by decide) (by show (!tcB 32) = true; decide)
  have hsch : lowL dig0 = scheme := by decide
  cases its with
  | nil =>
    have e1 : parseE (dig0 ++ 32 :: 32 :: textS []) = ([], 4) := by kernel_rfl
    have e2 : printE (([] : List It).map It.p) = ([], 4) := by decide +kernel
    rw [e1, e2]
    exact ⟨rfl, fun h => by cases h⟩
  | cons x l =>
    have hx := hok x (List.mem_cons_self ..)
    have hb := list_back l x hx fun y hy => hok y (List.mem_cons_of_mem _ hy)
    have hn := tok_all hx.nm
    have hr : restE (dig0 ++ 32 :: 32 :: textS (x :: l)) = bodyI x ++ tailI l := by
      unfold restE
      rw [ht.2, sign_yes]
      show List.dropWhile _ (32 :: (bodyI x ++ tailI l)) = _
      rw [List.dropWhile_cons, if_pos (beq_self_eq_true _)]
      unfold bodyI
      rw [List.append_assoc]
      cases hnm : x.nm with
      | nil => exact (hn.2 hnm).elim
      | cons c r =>
        rw [hnm, List.all_cons, Bool.and_eq_true] at hn
        have hc32 : c ≠ 32 := fun e => by rw [e] at hn; exact absurd hn.1.1 (by decide)
        rw [List.cons_append, List.dropWhile_cons, if_neg (by simpa using hc32)]
    have hall : (decide (0 < ((x :: l).map It.p).length) && ((x :: l).map It.p).all goodP) = true := by
      rw [Bool.and_eq_true, List.all_eq_true]
      refine ⟨by simp, fun p hp => ?_⟩
      obtain ⟨y, hy, rfl⟩ := List.mem_map.1 hp
      exact hg y hy
    have e1 : parseE (dig0 ++ 32 :: 32 :: textS (x :: l)) = if cntE ((x :: l).map It.p) ≠ 0 then ([], cntE ((x :: l).map It.p)) else ((x :: l).map It.p, 0) := by
      unfold parseE
      rw [if_neg (by omega), if_neg (by rw [ht.1, ht.2, sign_yes, hsch]; simp), hr, hb]
      simp only
      rw [if_neg (by simp)]
      rfl
    have e2 : printE ((x :: l).map It.p) = if cntE ((x :: l).map It.p) ≠ 0 then ([], cntE ((x :: l).map It.p)) else (hdr ++ joinP ((x :: l).map It.p), 0) := by
      unfold printE
      rw [if_neg (by rw [hall]; simp), if_neg (by omega)]
    rw [e1, e2]
    by_cases hc : cntE ((x :: l).map It.p) = 0
    · rw [if_neg (fun h => h hc), if_neg (fun h => h hc)]
      exact ⟨rfl, fun _ => rfl⟩
    · rw [if_pos hc, if_pos hc]
      exact ⟨rfl, fun h => (hc h).elim⟩

set_option maxHeartbeats 1000000 in
theorem gap_spec (b3 : Nat) {C : Chunk} {ga : Option Addr} {gk : Nat} {gs : List UInt8} (hG : Rd 1 [C] ga gs.length (gs.map b8)) (i : Nat) :
    Meets Try.prog 26 [.int .i64 i, .pointer (some ⟨b3, 0, none⟩)] [bx b3 (.slice ga gs.length gk) 30, C]
    fun v A => v = .string (str (gapE gs i)) ∧ A = [bx b3 (.slice ga gs.length gk) 30, C] := by
  unfold gapE
  refine spec_intro Try.func26 rfl (by kernel_rfl) (by rw [Try.ntmps26]; simp) fun F => ?_; rw [Try.ntmps26, Try.results26]
  refine going ?_
  by_cases hi : i < gs.length
  · rw [if_pos hi, decide_eq_false (show ¬ (gs.length : Int) ≤ i by omega)]
    refine going ?_
    refine run_op fun K hK => ?_; refine build1 rfl [.string (str []), .string (str [32]), .string (str [9]), .string (str [32, 32, 9])] (by decide) rfl rfl (by simp [Value.cell1]) (fun b88 C88 ho88 => ?_); refine hK _ _ ?_; clear hK K
    refine going ?_
    have hc := (gs.getD i 0).toNat_lt
    rw [show b8 (gs.getD i 0) = Value.int .u8 ((gs.getD i 0).toNat : Int) from rfl]
    refine going ?_
    have hm : (gs.getD i 0).toNat % 4 < 4 := Nat.mod_lt _ (by decide)
    (try rw [show (((gs.getD i 0).toNat : Int) % 4) = (((gs.getD i 0).toNat % 4 : Nat) : Int) from by omega])
    generalize (gs.getD i 0).toNat % 4 = m at *
    have hx : ([.string (str []), .string (str [32]), .string (str [9]), .string (str [32, 32, 9])] : List Value)[m]? = some (.string (str (gapT.getD m []))) := by
      match m, hm with
      | 0, _ => rfl
      | 1, _ => rfl
      | 2, _ => rfl
      | 3, _ => rfl
    (try refine going ?_)
    rw [show (⟨b88, 0 + ((m : Int)).toNat * 1, none⟩ : Addr) = elA (some ⟨b88, 0, none⟩) m from by simp only [elA, Option.getD_some, add_mk]; congr 1; omega]
    refine run_op fun K hK => ?_; refine load_owa ho88 hx (by (repeat (first | with_reducible assumption | with_reducible exact List.mem_cons_self .. | with_reducible apply List.mem_cons_of_mem))) ?_; refine hK _ _ ?_; clear hK K
    refine going ?_
    refine back_tmp [bx b3 (.slice ga gs.length gk) 30, C] ?_; exact ⟨rfl, rfl⟩
  · rw [if_neg hi, decide_eq_true (show (gs.length : Int) ≤ i by omega)]
    refine going ?_
    refine back_tmp [bx b3 (.slice ga gs.length gk) 30, C] ?_; exact ⟨rfl, rfl⟩

end Go.Proofs.Ytfoppclmjmpjiaa

/- The statement DigestSpaces. Conditions: as each says. -/
set_option linter.unusedSimpArgs false
set_option linter.unusedVariables false
namespace Go.Proofs.Ytfoppclmjmpjiaa
open Go Go.Ost

theorem row_bytes {C : Chunk} {v : Value} {zs : List Int} (h : Ost.Row C .u8 v zs) : ∃ a cap, ∃ bs : List UInt8, v = .slice a bs.length cap ∧ bs.length ≤ cap ∧ cap ≤ maxLen ∧ Rd 1 [C] a bs.length (bs.map b8) := by
  obtain ⟨hwf, a, len, cap, rfl, hle, hmax, hl, hc⟩ := h
  refine ⟨a, cap, zs.map fun z => UInt8.ofNat z.toNat, by simp [hl], by simp [hl]; omega, hmax, by simp, fun hne => ?_⟩
  have hpos : 0 < len := by
    rw [← hl]; cases zs with
    | nil => simp at hne
    | cons z l => simp
  obtain ⟨b, o, cs, e, m, rfl, hm, hcs⟩ := hc hpos
  refine ⟨b, o, cs, e, m, rfl, .here hm, fun i hi => ?_⟩
  simp only [List.length_map] at hi
  rw [hcs i (by omega)]
  have hz := hwf (zs.getD i 0) (by
    rw [List.getD, List.getElem?_eq_getElem hi]; exact List.getElem_mem _)
  have hz2 : 0 ≤ zs.getD i 0 ∧ zs.getD i 0 ≤ 255 := by
    simp only [Lit.wf, Bool.and_eq_true, decide_eq_true_eq] at hz
    exact ⟨hz.1, hz.2⟩
  simp only [List.getElem?_map, List.getElem?_eq_getElem hi, Option.map_some]
  rw [List.getD, List.getElem?_eq_getElem hi] at hz2 ⊢
  simp only [Option.getD_some] at hz2 ⊢
  simp only [b8, UInt8.toNat_ofNat']
  congr 2; omega


def alphU : List UInt8 := [65, 66, 67, 68, 69, 70, 71, 72, 73, 74, 75, 76, 77, 78, 79, 80, 81, 82, 83, 84, 85, 86, 87, 88, 89, 90]
theorem alphU_at : ∀ k < 26, (alphU.drop k).take 1 = [UInt8.ofNat (k + 65)] := by decide
theorem up_next (s : List UInt8) (i : Nat) (h : i < s.length) : upL (s.take (i + 1)) = upL (s.take i) ++ [up1 (s.getD i 0)] := by
  unfold upL
  rw [List.take_add_one, List.map_append, List.getD_eq_getElem?_getD, List.getElem?_eq_getElem h]
  simp
theorem val_len2 (p : Par) : (valI p).length ≤ 2 * p.v.length + 2 := by
  unfold valI
  split
  · unfold quo
    have := esc_len p.v
    rw [List.length_cons, List.length_append, List.length_singleton]; omega
  · omega

set_option maxHeartbeats 8000000 in
theorem DigestSpaces_law (C : Chunk) (_ : True) (v : Value) (rows : List (List Value)) (hv : RowsK C [.str, .str, .bool] v rows) (g : Value) (zs : List Int) (hg : Ost.Row C .u8 g zs) :
    Meets Try.prog 6 [v, g] [C] fun v A => v = .bool true ∧ A = [C] := by
  have hs := encP_len
  obtain ⟨ops, a, cap, rfl, hcap, hmax, hrd⟩ := pars_of hv
  obtain ⟨ga, gk, gs, rfl, hgk, hgm, hG⟩ := row_bytes hg
  have s8 : Value.string ⟨#[100, 73, 71, 69, 83, 84, 32, 32]⟩ = .string (str (dig0 ++ 32 :: 32 :: textS [])) := rfl
  have s44 : Value.string ⟨#[44]⟩ = .string (str [44]) := rfl
  have s61 : Value.string ⟨#[61]⟩ = .string (str [61]) := rfl
  have sal : Value.string ⟨#[65, 66, 67, 68, 69, 70, 71, 72, 73, 74, 75, 76, 77, 78, 79, 80, 81, 82, 83, 84, 85, 86, 87, 88, 89, 90]⟩ = .string (str alphU) := rfl
  refine spec_intro Try.func6 rfl (by kernel_rfl) (by rw [Try.ntmps6]; simp) fun F => ?_; rw [Try.ntmps6, Try.results6]
  refine going ?_
  refine run_op fun K hK => ?_; refine box_new fun b3 => ?_; (try simp only [Value.cells]); refine hK _ _ ?_; clear hK K
  refine going ?_
  refine run_op fun K hK => ?_; refine calls_to (awake_spec) ?_; rintro v A ⟨rfl, rfl⟩; (try simp only [List.nil_append, List.cons_append]); refine hK _ _ ?_; clear hK K; refine going ?_
  rw [s8]
  refine code_nil ?_
  refine block_mid (fun D L S => ∃ (its : List It) (X : Chunk) (xa : Option Addr) (xk : Nat), its.length ≤ 6 ∧ (∀ x ∈ its, x.ok ∧ goodP x.p = true ∧ x.p.n.length ≤ 9 ∧ x.p.v.length ≤ 30) ∧ (textS its).length ≤ 1200 ∧ OwnR X xa xk (its.map It.p) ∧ D = [] ∧
    L = [(5, .slice xa (its.map It.p).length xk), (6, .string (str (dig0 ++ 32 :: 32 :: textS its)))] ∧ S = [X, bx b3 (.slice ga gs.length gk) 30, F, C]) ?_ ?_
  · refine loop_i (fun q D L S => ∃ (i : Nat) (its : List It) (X : Chunk) (xa : Option Addr) (xk : Nat), i ≤ ops.length ∧ i ≤ 6 ∧ its.length ≤ i ∧ (∀ x ∈ its, x.ok ∧ goodP x.p = true ∧ x.p.n.length ≤ 9 ∧ x.p.v.length ≤ 30) ∧ (textS its).length ≤ 200 * i ∧ OwnR X xa xk (its.map It.p) ∧ q = ops.length - i ∧ D = [] ∧
      L = [(25, .int .i64 i), (24, .int .i64 ops.length), (23, .slice a ops.length cap), (5, .slice xa (its.map It.p).length xk), (6, .string (str (dig0 ++ 32 :: 32 :: textS its))), (7, .func (.func 26) #[] #[.pointer (some ⟨b3, 0, none⟩)])] ∧ S = [X, bx b3 (.slice ga gs.length gk) 30, F, C])
      ⟨0, [], [], none, 0, by omega, by omega, by simp, (fun x hx => by cases hx), by simp [textS], own_nil, rfl, rfl, rfl, rfl⟩ ?_
    rintro q D L S ⟨i, its, X, xa, xk, hi, hi6, hil, hits, htl, hX, rfl, rfl, rfl, rfl⟩
    have hml : (its.map It.p).length ≤ 6 := by rw [List.length_map]; omega
    refine going ?_
    refine if_d (fun hc => ?_) (fun hc => ?_)
    · have hlt : i < ops.length := by omega
      have hx : ops[i]? = some ops[i] := List.getElem?_eq_getElem hlt
      generalize ops[i] = o at *
      obtain ⟨n0, v0, qq⟩ := o
      refine going ?_
      refine run_op fun K hK => ?_; rw [el_at hrd (by omega) (by omega) (by decide), Int.toNat_natCast]; refine hK _ _ ?_; clear hK K
      refine run_op fun K hK => ?_; refine load_rd_agg hrd hs hx (by decide) (by (repeat (first | with_reducible assumption | with_reducible exact List.mem_cons_self .. | with_reducible apply List.mem_cons_of_mem))) ?_; refine hK _ _ ?_; clear hK K
      refine run_op fun K hK => ?_; refine alloc_as (encP p0).toArray rfl fun b9 => ?_; refine hK _ _ ?_; clear hK K
      refine going ?_
      refine run_op fun K hK => ?_; refine store_all (vs := encP ⟨n0, v0, qq⟩) rfl (cell_P _) (by (repeat (first | with_reducible exact Upd.one | with_reducible apply Upd.next))) (by rfl) ?_; refine hK _ _ ?_; clear hK K
      refine going ?_
      by_cases h6 : (6 : Int) ≤ i
      · rw [decide_eq_true h6]
        refine going ?_
        exact mid ⟨its, X, xa, xk, by omega, hits, by omega, hX, rfl, rfl, rfl⟩
      · rw [decide_eq_false h6]
        refine going ?_
        refine code_dr [[], [0], [0, 1], [], [3], [0, 1, 2, 3, 4], [0, 1, 2, 3, 4], [0, 1, 2, 3, 4, 5, 6], [0, 1, 2, 3, 4, 5, 6, 7], [0, 1, 2, 3, 4, 5, 6, 7, 8]] [(0, false, []), (1, false, []), (3, false, []), (4, false, []), (2, true, [4]), (6, false, []), (5, true, []), (7, true, []), (8, false, []), (9, true, [])] ?_
        refine going ?_
        refine draw_op fun K hK => ?_; refine calls_to (cuttext_spec n0 9) ?_; rintro v A ⟨rfl, rfl⟩; (try simp only [List.nil_append, List.cons_append]); (repeat refine pend ?_); refine hK _ _ ?_; clear hK K
        refine going ?_
        refine draw_op fun K hK => ?_; refine calls_to (cuttext_spec v0 30) ?_; rintro v A ⟨rfl, rfl⟩; (try simp only [List.nil_append, List.cons_append]); (repeat refine pend ?_); refine hK _ _ ?_; clear hK K
        refine going ?_
        (try (refine draw_op fun K hK => ?_; (first | refine store_box trivial (by (repeat (first | with_reducible exact Upd.one | with_reducible apply Upd.next))) ?_ | refine store_one trivial (by (repeat (first | with_reducible exact Upd.one | with_reducible apply Upd.next))) (by simp) ?_); (repeat refine pend ?_); refine hK _ _ ?_; clear hK K; refine going ?_))
        (try (refine draw_op fun K hK => ?_; (first | refine store_box trivial (by (repeat (first | with_reducible exact Upd.one | with_reducible apply Upd.next))) ?_ | refine store_one trivial (by (repeat (first | with_reducible exact Upd.one | with_reducible apply Upd.next))) (by simp) ?_); (repeat refine pend ?_); refine hK _ _ ?_; clear hK K; refine going ?_))
        (try simp only [List.setIfInBounds_toArray, List.set_cons_succ, List.set_cons_zero, List.getElem_toArray, List.getElem_cons_succ, List.getElem_cons_zero])
        have l1 : (n0.take 9).length ≤ 9 := by rw [List.length_take]; omega
        have l2 : (v0.take 30).length ≤ 30 := by rw [List.length_take]; omega
        generalize n0.take 9 = n at *
        generalize v0.take 30 = v at *
        clear hx
        refine run_op fun K hK => ?_; refine load_all (vs := encP ⟨n, v, qq⟩) (by (repeat (first | with_reducible exact Lies.one | with_reducible apply Lies.next))) rfl ?_; refine hK _ _ ?_; clear hK K
        refine run_op fun K hK => ?_; refine build_el1 (e := 37) (s := 3) (hs := inferInstance) (vs := encP ⟨n, v, qq⟩) (by rfl) (by decide) (by decide) rfl (fun b1 C1 ho1 => ?_); refine hK _ _ ?_; clear hK K
        have hO1 : OwnR C1 (some ⟨b1, 0, none⟩) 1 [⟨n, v, qq⟩] := by have h := ho1; rw [← List.append_nil (encP ⟨n, v, qq⟩)] at h; exact h
        have hpr := rprint_spec hO1 (by show 1 ≤ 20; decide) (by intro p hp; simp only [List.mem_cons, List.not_mem_nil, or_false] at hp; subst hp; show n.length + v.length ≤ _; omega)
        rw [show ([(⟨n, v, qq⟩ : Par)] : List Par).length = 1 from rfl] at hpr
        refine going ?_
        refine run_op fun K hK => ?_; refine calls_to (hpr) ?_; rintro v A ⟨rfl, rfl⟩; (try simp only [List.nil_append, List.cons_append]); refine hK _ _ ?_; clear hK K; refine going ?_
        clear hpr hO1 ho1
        by_cases hok : (printE [⟨n, v, qq⟩]).2 = 0
        · have hgood := print_good hok
          rw [hok]
          clear hok
          refine going ?_
          refine then_mid (fun D L S => D = [] ∧ L = [(12, .string (str (valI ⟨n, v, qq⟩))), (8, .int .i64 i), (9, .pointer (some ⟨b9, 0, none⟩)), (25, .int .i64 i), (24, .int .i64 ops.length), (23, .slice a ops.length cap), (5, .slice xa (its.map It.p).length xk), (6, .string (str (dig0 ++ 32 :: 32 :: textS its))), (7, .func (.func 26) #[] #[.pointer (some ⟨b3, 0, none⟩)])] ∧
            S = [X, rpB b9 ⟨n, v, qq⟩, bx b3 (.slice ga gs.length gk) 30, F, C]) ?_ ?_
          · cases qq with
            | true =>
              refine going ?_
              refine run_op fun K hK => ?_; refine calls_to (rquote_spec v (by omega)) ?_; rintro v A ⟨rfl, rfl⟩; (try simp only [List.nil_append, List.cons_append]); refine hK _ _ ?_; clear hK K; refine going ?_
              have hvq : (quoE v).1 = valI ⟨n, v, true⟩ := by
                have := good_val hgood
                exact this
              rw [hvq]
              exact mid ⟨rfl, rfl, rfl⟩
            | false =>
              refine going ?_
              exact mid ⟨rfl, rfl, rfl⟩
          rintro D L S ⟨rfl, rfl, rfl⟩
          have hS := good_S gs i hgood
          have hvl := val_len2 ⟨n, v, qq⟩
          simp only at hvl
          have g0 := (gap_blank gs (4 * i)).2
          have g1 := (gap_blank gs (4 * i + 1)).2
          have g2 := (gap_blank gs (4 * i + 2)).2
          have g3 := (gap_blank gs (4 * i + 3)).2
          have hdl : (dig0 ++ 32 :: 32 :: textS its).length ≤ 1208 := by rw [List.length_append, List.length_cons, List.length_cons]; have : dig0.length = 6 := rfl; omega
          have hts := text_snoc (itS gs i ⟨n, v, qq⟩) its
          have hbd : bodyI (itS gs i ⟨n, v, qq⟩) = upL n ++ (gapE gs (4 * i + 2) ++ 61 :: (gapE gs (4 * i + 3) ++ valI ⟨n, v, qq⟩)) := rfl
          rw [show (itS gs i ⟨n, v, qq⟩).ga = gapE gs (4 * i) from rfl, show (itS gs i ⟨n, v, qq⟩).gb = gapE gs (4 * i + 1) from rfl, hbd] at hts
          generalize valI ⟨n, v, qq⟩ = w at *
          have q0 := gap_spec (gk := gk) b3 hG (4 * i)
          have q1 := gap_spec (gk := gk) b3 hG (4 * i + 1)
          have q2 := gap_spec (gk := gk) b3 hG (4 * i + 2)
          have q3 := gap_spec (gk := gk) b3 hG (4 * i + 3)
          rw [show (((4 * i : Nat) : Int)) = 4 * (i : Int) from by omega] at q0
          rw [show (((4 * i + 1 : Nat) : Int)) = 4 * (i : Int) + 1 from by omega] at q1
          rw [show (((4 * i + 2 : Nat) : Int)) = 4 * (i : Int) + 2 from by omega] at q2
          rw [show (((4 * i + 3 : Nat) : Int)) = 4 * (i : Int) + 3 from by omega] at q3
          generalize gapE gs (4 * i) = G0 at *
          generalize gapE gs (4 * i + 1) = G1 at *
          generalize gapE gs (4 * i + 2) = G2 at *
          generalize gapE gs (4 * i + 3) = G3 at *
          generalize hT : dig0 ++ 32 :: 32 :: textS its = T at *
          (with_reducible refine code_seq ?_); refine then_mid (fun D L S => ∃ T2 : List UInt8, T2 = T ++ (if 0 < its.length then G0 ++ 44 :: G1 else []) ∧ D = [] ∧ L = [(6, .string (str T2)), (12, .string (str w)), (8, .int .i64 i), (9, .pointer (some ⟨b9, 0, none⟩)), (25, .int .i64 i), (24, .int .i64 ops.length), (23, .slice a ops.length cap), (5, .slice xa (its.map It.p).length xk), (7, .func (.func 26) #[] #[.pointer (some ⟨b3, 0, none⟩)])] ∧
            S = [X, rpB b9 ⟨n, v, qq⟩, bx b3 (.slice ga gs.length gk) 30, F, C]) ?_ ?_
          · refine going ?_
            by_cases h0 : 0 < its.length
            · rw [decide_eq_true (show (0 : Int) < ((its.map It.p).length : Nat) by rw [List.length_map]; omega)]
              refine going ?_
              refine run_op fun K hK => ?_; refine calls_to (q0) ?_; rintro v A ⟨rfl, rfl⟩; (try simp only [List.nil_append, List.cons_append]); refine hK _ _ ?_; clear hK K; refine going ?_
              rw [s44]
              refine run_op fun K hK => ?_; rw [str_add (by rw [List.length_singleton]; omega)]; refine hK _ _ ?_; clear hK K
              refine going ?_
              refine run_op fun K hK => ?_; refine calls_to (q1) ?_; rintro v A ⟨rfl, rfl⟩; (try simp only [List.nil_append, List.cons_append]); refine hK _ _ ?_; clear hK K; refine going ?_
              refine run_op fun K hK => ?_; rw [str_add (by rw [List.length_append, List.length_singleton]; omega)]; refine hK _ _ ?_; clear hK K
              refine going ?_
              refine run_op fun K hK => ?_; rw [str_add (by rw [List.length_append, List.length_append, List.length_singleton]; omega)]; refine hK _ _ ?_; clear hK K
              refine going ?_
              exact mid ⟨T ++ (G0 ++ [44] ++ G1), by rw [if_pos h0]; simp, rfl, rfl, rfl⟩
            · rw [decide_eq_false (show ¬ (0 : Int) < ((its.map It.p).length : Nat) by rw [List.length_map]; omega)]
              refine going ?_
              exact mid ⟨T, by rw [if_neg h0, List.append_nil], rfl, rfl, rfl⟩
          rintro D L S ⟨T2, hT2, rfl, rfl, rfl⟩
          have hT2l : T2.length ≤ 1300 := by
            rw [hT2, List.length_append]
            split
            · rw [List.length_append, List.length_cons]; omega
            · simp; omega
          refine going ?_
          rw [show Value.string ⟨#[]⟩ = .string (str (upL (n.take 0))) from rfl]
          refine loop_i (fun q D L S => ∃ k : Nat, k ≤ n.length ∧ q = n.length - k ∧ D = [] ∧ L = [(14, .int .i64 k), (13, .string (str (upL (n.take k)))), (6, .string (str T2)), (12, .string (str w)), (8, .int .i64 i), (9, .pointer (some ⟨b9, 0, none⟩)), (25, .int .i64 i), (24, .int .i64 ops.length), (23, .slice a ops.length cap), (5, .slice xa (its.map It.p).length xk), (7, .func (.func 26) #[] #[.pointer (some ⟨b3, 0, none⟩)])] ∧
            S = [X, rpB b9 ⟨n, v, qq⟩, bx b3 (.slice ga gs.length gk) 30, F, C])
            ⟨0, by omega, rfl, rfl, rfl, rfl⟩ ?_
          rintro q D L S ⟨k, hk, rfl, rfl, rfl, rfl⟩
          have hul : (upL (n.take k)).length ≤ 9 := by rw [up_len, List.length_take]; omega
          refine going ?_
          refine if_d (fun hc => ?_) (fun hc => ?_)
          · have hkl : k < n.length := by omega
            have hnx := up_next n k hkl
            have hc1 := cut_one n k hkl
            have hlt := (n.getD k 0).toNat_lt
            refine going ?_
            by_cases h1 : (97 : Int) ≤ (n.getD k 0).toNat
            · rw [decide_eq_true h1]
              refine going ?_
              by_cases h2 : ((n.getD k 0).toNat : Int) ≤ 122
              · rw [decide_eq_true h2]
                refine going ?_
                rw [show b8 (n.getD k 0) = Value.int .u8 ((n.getD k 0).toNat : Int) from rfl]
                refine going ?_
                obtain ⟨m, hm, hm2⟩ : ∃ m : Nat, ((n.getD k 0).toNat : Int) - 97 = m ∧ m < 26 := ⟨(n.getD k 0).toNat - 97, by omega, by omega⟩
                have huw : up1 (n.getD k 0) = UInt8.ofNat (m + 65) := by
                  unfold up1
                  rw [if_pos ⟨by omega, by omega⟩]
                  congr 1; omega
                (try rw [hm])
                refine going ?_
                refine run_op fun K hK => ?_
                rw [sal, str_cut (by omega) (by omega) (by show _ ≤ (26 : Int); omega), show ((m : Int) + 1).toNat - ((m : Int)).toNat = 1 from by omega, show ((m : Int)).toNat = m from by omega, alphU_at m hm2]
                refine hK _ _ ?_; clear hK K
                refine going ?_
                refine run_op fun K hK => ?_; rw [str_add (by rw [List.length_singleton]; omega)]; refine hK _ _ ?_; clear hK K
                rw [show upL (n.take k) ++ [UInt8.ofNat (m + 65)] = upL (n.take (k + 1)) from by rw [hnx, huw]]
                refine going ?_
                exact again ⟨k + 1, by omega, rfl, rfl, rfl, rfl⟩
              · rw [decide_eq_false h2]
                refine going ?_
                rw [hc1]
                refine run_op fun K hK => ?_; rw [str_add (by rw [List.length_singleton]; omega)]; refine hK _ _ ?_; clear hK K
                rw [show upL (n.take k) ++ [n.getD k 0] = upL (n.take (k + 1)) from by rw [hnx, show up1 (n.getD k 0) = n.getD k 0 from if_neg (by omega)]]
                refine going ?_
                exact again ⟨k + 1, by omega, rfl, rfl, rfl, rfl⟩
            · rw [decide_eq_false h1]
              refine going ?_
              rw [hc1]
              refine run_op fun K hK => ?_; rw [str_add (by rw [List.length_singleton]; omega)]; refine hK _ _ ?_; clear hK K
              rw [show upL (n.take k) ++ [n.getD k 0] = upL (n.take (k + 1)) from by rw [hnx, show up1 (n.getD k 0) = n.getD k 0 from if_neg (by omega)]]
              refine going ?_
              exact again ⟨k + 1, by omega, rfl, rfl, rfl, rfl⟩
          · obtain rfl : k = n.length := by omega
            rw [List.take_length] at hul ⊢
            generalize hup : upL n = U at *
            refine going ?_
            refine run_op fun K hK => ?_; refine calls_to (q2) ?_; rintro v A ⟨rfl, rfl⟩; (try simp only [List.nil_append, List.cons_append]); refine hK _ _ ?_; clear hK K; refine going ?_
            refine run_op fun K hK => ?_; rw [str_add (by omega)]; refine hK _ _ ?_; clear hK K
            refine going ?_
            rw [s61]
            refine run_op fun K hK => ?_; rw [str_add (by rw [List.length_append, List.length_singleton]; omega)]; refine hK _ _ ?_; clear hK K
            refine going ?_
            refine run_op fun K hK => ?_; refine calls_to (q3) ?_; rintro v A ⟨rfl, rfl⟩; (try simp only [List.nil_append, List.cons_append]); refine hK _ _ ?_; clear hK K; refine going ?_
            refine run_op fun K hK => ?_; rw [str_add (by rw [List.length_append, List.length_append, List.length_singleton]; omega)]; refine hK _ _ ?_; clear hK K
            refine going ?_
            refine run_op fun K hK => ?_; rw [str_add (by rw [List.length_append, List.length_append, List.length_append, List.length_singleton]; omega)]; refine hK _ _ ?_; clear hK K
            refine going ?_
            refine run_op fun K hK => ?_; rw [str_add (by rw [List.length_append, List.length_append, List.length_append, List.length_append, List.length_singleton]; omega)]; refine hK _ _ ?_; clear hK K
            refine going ?_
            have hTn : T2 ++ (U ++ G2 ++ [61] ++ G3 ++ w) = dig0 ++ 32 :: 32 :: textS (its ++ [itS gs i ⟨n, v, qq⟩]) := by
              rw [hts, hT2, ← hT]; simp
            rw [hTn]
            refine run_op fun K hK => ?_; refine load_all (vs := encP ⟨n, v, qq⟩) (by (repeat (first | with_reducible exact Lies.one | with_reducible apply Lies.next))) rfl ?_; refine hK _ _ ?_; clear hK K
            refine run_op fun K hK => ?_; refine build_el1 (e := 37) (s := 3) (hs := inferInstance) (vs := encP ⟨n, v, qq⟩) (by rfl) (by decide) (by decide) rfl (fun b1 C1 ho1 => ?_); refine hK _ _ ?_; clear hK K
            refine run_op fun K hK => ?_; refine append_own (e := 37) (s := 3) (hs := inferInstance) (by rfl) (by decide) hX (.inr (by (repeat (first | with_reducible exact Pick.head _ _ | with_reducible apply Pick.tail)))) (ho1.rd (by (repeat (first | with_reducible assumption | with_reducible exact List.mem_cons_self .. | with_reducible apply List.mem_cons_of_mem)))) (cell_P _) (by simp only [maxLen]; omega) (by omega) (fun C3 a3 k3 ho3 => ?_); refine hK _ _ ?_; clear hK K
            have e1 : (its.map It.p).length + 1 = ((its ++ [itS gs i ⟨n, v, qq⟩]).map It.p).length := by simp
            have e2 : (its.map It.p).flatMap encP ++ encP ⟨n, v, qq⟩ = ((its ++ [itS gs i ⟨n, v, qq⟩]).map It.p).flatMap encP := by rw [List.map_append, List.flatMap_append]; simp [itS]
            rw [e1, e2] at ho3
            rw [e1]
            refine going ?_
            refine again ⟨i + 1, its ++ [itS gs i ⟨n, v, qq⟩], C3, a3, k3, by omega, by omega, by rw [List.length_append, List.length_singleton]; omega, ?_, ?_, ho3, rfl, rfl, rfl, rfl⟩
            · intro x hx
              rcases List.mem_append.1 hx with hx | hx
              · exact hits x hx
              · simp only [List.mem_cons, List.not_mem_nil, or_false] at hx
                subst hx
                exact ⟨hS, hgood, l1, l2⟩
            · rw [hts, List.length_append, List.length_append, List.length_append, List.length_append, List.length_cons, List.length_append]
              have : (if 0 < its.length then G0 ++ 44 :: G1 else [] : List UInt8).length ≤ 7 := by
                split
                · rw [List.length_append, List.length_cons]; omega
                · simp
              omega
        · rw [bne_iff_ne.2 hok]
          refine going ?_
          exact again ⟨i + 1, its, X, xa, xk, by omega, by omega, by omega, hits, by omega, hX, rfl, rfl, rfl, rfl⟩
    · refine going ?_
      exact mid ⟨its, X, xa, xk, by omega, hits, by omega, hX, rfl, rfl, rfl⟩
  rintro D L S ⟨its, X, xa, xk, hil, hits, htl, hX, rfl, rfl, rfl⟩
  have hml : (its.map It.p).length ≤ 6 := by rw [List.length_map]; omega
  have hlen : (dig0 ++ 32 :: 32 :: textS its).length ≤ 4096 := by rw [List.length_append, List.length_cons, List.length_cons]; have : dig0.length = 6 := rfl; omega
  have hpb : ∀ p ∈ its.map It.p, p.n.length ≤ 9 ∧ p.v.length ≤ 30 := by
    intro p hp
    obtain ⟨x, hx, rfl⟩ := List.mem_map.1 hp
    exact (hits x hx).2.2
  have hpb2 : ∀ p ∈ its.map It.p, p.n.length + p.v.length ≤ 5000 := fun p hp => by have := hpb p hp; omega
  have hjl : (hdr ++ joinP (its.map It.p)).length ≤ 4096 := by
    have key : ∀ (l : List Par) (f : Par → List UInt8), (∀ p ∈ l, (f p).length ≤ 100) → (l.flatMap f).length ≤ l.length * 100 := by
      intro l f
      induction l with
      | nil => intro _; simp
      | cons p l ih =>
        intro h
        rw [List.flatMap_cons, List.length_append, List.length_cons]
        have h1 := h p (List.mem_cons_self ..)
        have h2 := ih fun q hq => h q (List.mem_cons_of_mem _ hq)
        rw [Nat.add_mul]; omega
    have htx : ∀ p ∈ its.map It.p, (textP p).length ≤ 90 := fun p hp => by
      have := text_len p
      have := hpb p hp
      omega
    have a1 := key ((its.map It.p).take 1) textP fun p hp => Nat.le_trans (htx p (List.mem_of_mem_take hp)) (by decide)
    have a2 := key ((its.map It.p).drop 1) (fun p => [44, 32] ++ textP p) fun p hp => by
      have := htx p (List.mem_of_mem_drop hp)
      rw [List.length_append]
      show 2 + _ ≤ _
      omega
    rw [List.length_take] at a1
    rw [List.length_drop] at a2
    unfold joinP
    rw [List.length_append, List.length_append]
    have : hdr.length = 7 := rfl
    omega
  obtain ⟨hq1, hq2⟩ := space_parse its (fun x hx => (hits x hx).1) (fun x hx => (hits x hx).2.1) hlen hjl
  have hps := parse_spec (dig0 ++ 32 :: 32 :: textS its) (by omega)
  generalize dig0 ++ 32 :: 32 :: textS its = T at *
  generalize its.map It.p = l at *
  refine going ?_
  refine run_op fun K hK => ?_; refine calls_to (hps) ?_; rintro v A ⟨W, wa, wk, rfl, hW, rfl⟩; (try simp only [List.nil_append, List.cons_append]); refine hK _ _ ?_; clear hK K; refine going ?_
  refine run_op fun K hK => ?_; refine calls_to (rprint_spec hX (by omega) hpb2) ?_; rintro v A ⟨rfl, rfl⟩; (try simp only [List.nil_append, List.cons_append]); refine hK _ _ ?_; clear hK K; refine going ?_
  rw [hq1]
  by_cases h0 : (printE l).2 = 0
  · have hpl := hq2 h0
    rw [hpl] at hW ⊢
    rw [h0]
    refine going ?_
    refine run_op fun K hK => ?_; refine calls_to (back_spec hW (by omega)) ?_; rintro v A ⟨V, va, vk, rfl, hV, rfl⟩; (try simp only [List.nil_append, List.cons_append]); refine hK _ _ ?_; clear hK K; refine going ?_
    refine run_op fun K hK => ?_; refine calls_to (equal_spec hV hX (by omega)) ?_; rintro v A ⟨rfl, rfl⟩; (try simp only [List.nil_append, List.cons_append]); refine hK _ _ ?_; clear hK K; refine going ?_
    refine back_tmp [C] ?_; exact ⟨rfl, rfl⟩
  · rw [bne_iff_ne.2 h0, print_err h0]
    refine going ?_
    (try rw [beq_self_eq_true])
    (try refine going ?_)
    (try rw [bne_iff_ne.2 h0])
    (try refine going ?_)
    refine back_tmp [C] ?_; exact ⟨by simp [h0], rfl⟩

end Go.Proofs.Ytfoppclmjmpjiaa
