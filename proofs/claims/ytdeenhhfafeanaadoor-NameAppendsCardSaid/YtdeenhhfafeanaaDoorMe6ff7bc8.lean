/- Texts in a row: the walk's rules and contracts, as each says. Conditions: as each says. -/
import Derived.RangeFuncRecord
import Derived.RangeFuncCalls
import Derived.TacticsIn
import Derived.WalkKit
import Derived.RangeFuncNested
/- Signs of texts as plain data: how they are read of bytes, and written. Conditions: as each says. -/
set_option linter.unusedSimpArgs false
set_option linter.unusedVariables false
namespace Go.Nam

def top : Int := 1114111
def sgn (r : Int) : Bool := decide (0 ≤ r) && decide (r ≤ 1114111) && (decide (r < 55296) || decide (57343 < r))
def isTail (c : UInt8) : Bool := decide (128 ≤ c.toNat) && decide (c.toNat ≤ 191)
/-- Bytes behind the first. -/
def tails : Nat → Nat → List UInt8 → Option Nat
  | 0, r, _ => some r
  | _ + 1, _, [] => none
  | k + 1, r, c :: l => if isTail c then tails k (r * 64 + (c.toNat - 128)) l else none
def fsize (c : Nat) : Nat := if c < 128 then 1 else if 194 ≤ c ∧ c ≤ 223 then 2 else if 224 ≤ c ∧ c ≤ 239 then 3 else if 240 ≤ c ∧ c ≤ 244 then 4 else 0
def fval (c : Nat) : Nat := if c < 128 then c else if c ≤ 223 then c - 192 else if c ≤ 239 then c - 224 else c - 240
def okR (n r : Nat) : Bool := !(decide (n = 3) && decide (r < 2048) || decide (n = 4) && decide (r < 65536) || decide (55296 ≤ r) && decide (r ≤ 57343) || decide (1114111 < r))
/-- The sign in front, and how many bytes it has. -/
def dec : List UInt8 → Int × Nat
  | [] => (-1, 1)
  | c :: l => if fsize c.toNat = 0 then (-1, 1) else
    match tails (fsize c.toNat - 1) (fval c.toNat) l with
    | none => (-1, 1)
    | some r => if okR (fsize c.toNat) r then ((r : Int), fsize c.toNat) else (-1, 1)

theorem tails_bd : ∀ (k r : Nat) (l : List UInt8) (q : Nat), tails k r l = some q → r * 64 ^ k ≤ q ∧ q < (r + 1) * 64 ^ k
  | 0, r, l, q, h => by simp only [tails, Option.some.injEq] at h; omega
  | k + 1, r, [], q, h => by cases h
  | k + 1, r, c :: l, q, h => by
    simp only [tails] at h
    split at h
    · rename_i hc
      simp only [isTail, Bool.and_eq_true, decide_eq_true_eq] at hc
      have ih := tails_bd k _ l q h
      have e : (64 : Nat) ^ (k + 1) = 64 * 64 ^ k := by rw [Nat.pow_succ, Nat.mul_comm]
      generalize (64 : Nat) ^ k = w at *
      rw [e]
      have h1 : r * (64 * w) = (r * 64) * w := by rw [Nat.mul_assoc]
      have h2 : (r + 1) * (64 * w) = ((r + 1) * 64) * w := by rw [Nat.mul_assoc]
      rw [h1, h2]
      constructor
      · exact Nat.le_trans (Nat.mul_le_mul_right w (by omega)) ih.1
      · exact Nat.lt_of_lt_of_le ih.2 (Nat.mul_le_mul_right w (by omega))
    · cases h
theorem tails_len : ∀ (k r : Nat) (l : List UInt8) (q : Nat), tails k r l = some q → k ≤ l.length
  | 0, r, l, q, h => Nat.zero_le _
  | k + 1, r, [], q, h => by cases h
  | k + 1, r, c :: l, q, h => by
    simp only [tails] at h
    split at h
    · have := tails_len k _ l q h
      simp only [List.length_cons]; omega
    · cases h
theorem tails_short : ∀ (k r : Nat) (l : List UInt8), l.length < k → tails k r l = none := fun k r l h => by
  cases hq : tails k r l with
  | none => rfl
  | some q => have := tails_len k r l q hq; omega
theorem tails_app : ∀ (k r : Nat) (l t : List UInt8) (q : Nat), tails k r l = some q → tails k r (l ++ t) = some q
  | 0, r, l, t, q, h => by cases l <;> exact h
  | k + 1, r, [], t, q, h => by cases h
  | k + 1, r, c :: l, t, q, h => by
    simp only [tails, List.cons_append] at h ⊢
    split at h
    · rename_i hc; rw [if_pos hc]; exact tails_app k _ l t q h
    · cases h

theorem dec_pos (s : List UInt8) : 1 ≤ (dec s).2 := by
  unfold dec
  split
  · exact Nat.le_refl _
  · split
    · exact Nat.le_refl _
    · split
      · exact Nat.le_refl _
      · split
        · simp only; omega
        · exact Nat.le_refl _
theorem dec_len (c : UInt8) (l : List UInt8) : (dec (c :: l)).2 ≤ l.length + 1 := by
  simp only [dec]
  split
  · simp
  · split
    · simp
    · rename_i r hr
      split
      · have := tails_len _ _ _ _ hr; simp only; omega
      · simp
theorem dec_le4 (s : List UInt8) : (dec s).2 ≤ 4 := by
  unfold dec
  split
  · decide
  · rename_i c l
    have : fsize c.toNat ≤ 4 := by unfold fsize; repeat' split
                                   all_goals omega
    split
    · decide
    · split
      · decide
      · split
        · exact this
        · decide
theorem dec_rng (s : List UInt8) : -1 ≤ (dec s).1 ∧ (dec s).1 ≤ 1114111 := by
  unfold dec
  split
  · decide
  · split
    · decide
    · split
      · decide
      · split
        · rename_i h
          simp only [okR, Bool.not_eq_true', Bool.or_eq_false_iff, decide_eq_false_iff_not] at h
          simp only; omega
        · decide
theorem dec_app (s t : List UInt8) (h : 0 ≤ (dec s).1) : dec (s ++ t) = dec s := by
  cases s with
  | nil => exact absurd h (by decide)
  | cons c l =>
    simp only [dec, List.cons_append] at h ⊢
    split
    · rfl
    · rename_i hz
      rw [if_neg hz] at h
      split at h
      · exact absurd h (by decide)
      · rename_i r hr
        rw [tails_app _ _ _ t _ hr]

/-! ### As the four forms have it -/

def lo (i : Nat) : Nat := match i with | 0 => 0 | 1 => 192 | 2 => 224 | _ => 240
def hi (i : Nat) : Nat := match i with | 0 => 127 | 1 => 223 | 2 => 239 | _ => 247
def mk (i : Nat) : UInt8 := match i with | 0 => 128 | 1 => 224 | 2 => 240 | _ => 248
def ld (i : Nat) : UInt8 := match i with | 0 => 0 | 1 => 192 | 2 => 224 | _ => 240
def ls (i : Nat) : Int := match i with | 0 => 0 | 1 => 128 | 2 => 2048 | _ => 65536
def inr (i : Nat) (c : UInt8) : Bool := decide (lo i ≤ c.toNat) && decide (c.toNat ≤ hi i)

theorem all8 (p : UInt8 → Bool) (h : (List.range 256).all (fun n => p (UInt8.ofNat n)) = true) (c : UInt8) : p c = true := by
  have := List.all_eq_true.1 h c.toNat (by have := c.toNat_lt; simp; exact this)
  rwa [UInt8.ofNat_toNat] at this
theorem form_match (i : Nat) (h : i < 4) (c : UInt8) : (c &&& mk i != ld i) = !inr i c := by
  match i, h with
  | 0, _ => exact eq_of_beq (all8 (fun c => (c &&& mk 0 != ld 0) == !inr 0 c) (by decide +kernel) c)
  | 1, _ => exact eq_of_beq (all8 (fun c => (c &&& mk 1 != ld 1) == !inr 1 c) (by decide +kernel) c)
  | 2, _ => exact eq_of_beq (all8 (fun c => (c &&& mk 2 != ld 2) == !inr 2 c) (by decide +kernel) c)
  | 3, _ => exact eq_of_beq (all8 (fun c => (c &&& mk 3 != ld 3) == !inr 3 c) (by decide +kernel) c)
  | i + 4, h => omega
theorem form_val (i : Nat) (h : i < 4) (c : UInt8) (hc : inr i c = true) : (c &&& ~~~(mk i)).toNat = c.toNat - lo i := by
  match i, h with
  | 0, _ => have := all8 (fun c => !inr 0 c || (c &&& ~~~(mk 0)).toNat == c.toNat - lo 0) (by decide +kernel) c; rw [hc] at this; simpa using this
  | 1, _ => have := all8 (fun c => !inr 1 c || (c &&& ~~~(mk 1)).toNat == c.toNat - lo 1) (by decide +kernel) c; rw [hc] at this; simpa using this
  | 2, _ => have := all8 (fun c => !inr 2 c || (c &&& ~~~(mk 2)).toNat == c.toNat - lo 2) (by decide +kernel) c; rw [hc] at this; simpa using this
  | 3, _ => have := all8 (fun c => !inr 3 c || (c &&& ~~~(mk 3)).toNat == c.toNat - lo 3) (by decide +kernel) c; rw [hc] at this; simpa using this
  | i + 4, h => omega
theorem tail_match (c : UInt8) : (c &&& ~~~(63 : UInt8) != 128) = !isTail c :=
  eq_of_beq (all8 (fun c => (c &&& ~~~(63 : UInt8) != 128) == !isTail c) (by decide +kernel) c)
theorem tail_val (c : UInt8) (hc : isTail c = true) : (c &&& 63).toNat = c.toNat - 128 := by
  have := all8 (fun c => !isTail c || (c &&& 63).toNat == c.toNat - 128) (by decide +kernel) c
  rw [hc] at this; simpa using this

theorem form_dec (i : Nat) (h : i < 4) (c : UInt8) (l : List UInt8) (hc : inr i c = true) :
    dec (c :: l) = match tails i (c.toNat - lo i) l with | none => (-1, 1) | some r => if decide (ls i ≤ (r : Int)) && sgn r then ((r : Int), i + 1) else (-1, 1) := by
  simp only [inr, Bool.and_eq_true, decide_eq_true_eq] at hc
  match i, h with
  | 0, _ =>
    simp only [lo, hi, Nat.zero_le, true_and, Nat.sub_zero] at hc ⊢
    have e1 : fsize c.toNat = 1 := by unfold fsize; rw [if_pos (by omega)]
    have e2 : fval c.toNat = c.toNat := by unfold fval; rw [if_pos (by omega)]
    have e3 : okR 1 c.toNat = true := by simp [okR]; omega
    have e4 : (decide (ls 0 ≤ (c.toNat : Int)) && sgn c.toNat) = true := by simp [ls, sgn]; omega
    simp only [dec, e1, e2]
    rw [if_neg (by omega)]
    rw [show (1 - 1 : Nat) = 0 from rfl]
    simp only [tails, e3, e4, if_true]
  | 1, _ =>
    simp only [lo, hi] at hc ⊢
    by_cases h2 : 194 ≤ c.toNat
    · have e1 : fsize c.toNat = 2 := by unfold fsize; rw [if_neg (by omega), if_pos (by omega)]
      have e2 : fval c.toNat = c.toNat - 192 := by unfold fval; rw [if_neg (by omega), if_pos (by omega)]
      simp only [dec, e1, e2]
      rw [if_neg (by omega)]
      cases hr : tails (2 - 1) (c.toNat - 192) l with
      | none => rfl
      | some r =>
        have hb := tails_bd _ _ _ _ hr
        simp only [Nat.reduceSub, Nat.pow_one] at hb
        simp only
        rw [if_pos (by simp [okR]; omega), if_pos (by simp [ls, sgn]; omega)]
    · have e1 : fsize c.toNat = 0 := by unfold fsize; rw [if_neg (by omega), if_neg (by omega), if_neg (by omega), if_neg (by omega)]
      simp only [dec, e1, if_true]
      cases hr : tails 1 (c.toNat - 192) l with
      | none => rfl
      | some r =>
        have hb := tails_bd _ _ _ _ hr
        simp only [Nat.pow_one] at hb
        simp only
        rw [if_neg (by simp [ls]; omega)]
  | 2, _ =>
    simp only [lo, hi] at hc ⊢
    have e1 : fsize c.toNat = 3 := by unfold fsize; rw [if_neg (by omega), if_neg (by omega), if_pos (by omega)]
    have e2 : fval c.toNat = c.toNat - 224 := by unfold fval; rw [if_neg (by omega), if_neg (by omega), if_pos (by omega)]
    simp only [dec, e1, e2]
    rw [if_neg (by omega)]
    cases hr : tails (3 - 1) (c.toNat - 224) l with
    | none => rfl
    | some r =>
      have hb := tails_bd _ _ _ _ hr
      simp only [Nat.reduceSub, Nat.reducePow] at hb
      simp only
      have e3 : okR 3 r = (decide (ls 2 ≤ (r : Int)) && sgn r) := by
        rw [Bool.eq_iff_iff]
        simp [okR, ls, sgn]; omega
      rw [e3]
  | 3, _ =>
    simp only [lo, hi] at hc ⊢
    by_cases h2 : c.toNat ≤ 244
    · have e1 : fsize c.toNat = 4 := by unfold fsize; rw [if_neg (by omega), if_neg (by omega), if_neg (by omega), if_pos (by omega)]
      have e2 : fval c.toNat = c.toNat - 240 := by unfold fval; rw [if_neg (by omega), if_neg (by omega), if_neg (by omega)]
      simp only [dec, e1, e2]
      rw [if_neg (by omega)]
      cases hr : tails (4 - 1) (c.toNat - 240) l with
      | none => rfl
      | some r =>
        have hb := tails_bd _ _ _ _ hr
        simp only [Nat.reduceSub, Nat.reducePow] at hb
        simp only
        have e3 : okR 4 r = (decide (ls 3 ≤ (r : Int)) && sgn r) := by
          rw [Bool.eq_iff_iff]
          simp [okR, ls, sgn]; omega
        rw [e3]
    · have e1 : fsize c.toNat = 0 := by unfold fsize; rw [if_neg (by omega), if_neg (by omega), if_neg (by omega), if_neg (by omega)]
      simp only [dec, e1, if_true]
      cases hr : tails 3 (c.toNat - 240) l with
      | none => rfl
      | some r =>
        have hb := tails_bd _ _ _ _ hr
        simp only [Nat.reducePow] at hb
        simp only
        rw [if_neg (by simp [ls, sgn]; omega)]
  | i + 4, h => omega
theorem form_none (c : UInt8) (l : List UInt8) (h : ∀ i, i < 4 → inr i c = true → l.length < i) : dec (c :: l) = (-1, 1) := by
  have key : ∀ i, i < 4 → inr i c = true → dec (c :: l) = (-1, 1) := fun i hi hc => by
    rw [form_dec i hi c l hc, tails_short _ _ _ (h i hi hc)]
  by_cases h0 : inr 0 c = true
  · exact key 0 (by omega) h0
  by_cases h1 : inr 1 c = true
  · exact key 1 (by omega) h1
  by_cases h2 : inr 2 c = true
  · exact key 2 (by omega) h2
  by_cases h3 : inr 3 c = true
  · exact key 3 (by omega) h3
  have e1 : fsize c.toNat = 0 := by
    simp [inr, lo, hi] at h0 h1 h2 h3
    have := c.toNat_lt
    unfold fsize; rw [if_neg (by omega), if_neg (by omega), if_neg (by omega), if_neg (by omega)]
  simp only [dec, e1, if_true]
theorem inr_one {i j : Nat} (hi : i < 4) (hj : j < 4) {c : UInt8} (h1 : inr i c = true) (h2 : inr j c = true) : i = j := by
  simp only [inr, Bool.and_eq_true, decide_eq_true_eq] at h1 h2
  match i, hi with
  | 0, _ => match j, hj with
    | 0, _ => rfl
    | 1, _ => simp [lo, Nam.hi] at h1 h2; omega
    | 2, _ => simp [lo, Nam.hi] at h1 h2; omega
    | 3, _ => simp [lo, Nam.hi] at h1 h2; omega
    | j + 4, h => omega
  | 1, _ => match j, hj with
    | 0, _ => simp [lo, Nam.hi] at h1 h2; omega
    | 1, _ => rfl
    | 2, _ => simp [lo, Nam.hi] at h1 h2; omega
    | 3, _ => simp [lo, Nam.hi] at h1 h2; omega
    | j + 4, h => omega
  | 2, _ => match j, hj with
    | 0, _ => simp [lo, Nam.hi] at h1 h2; omega
    | 1, _ => simp [lo, Nam.hi] at h1 h2; omega
    | 2, _ => rfl
    | 3, _ => simp [lo, Nam.hi] at h1 h2; omega
    | j + 4, h => omega
  | 3, _ => match j, hj with
    | 0, _ => simp [lo, Nam.hi] at h1 h2; omega
    | 1, _ => simp [lo, Nam.hi] at h1 h2; omega
    | 2, _ => simp [lo, Nam.hi] at h1 h2; omega
    | 3, _ => rfl
    | j + 4, h => omega
  | i + 4, h => omega

/-! ### Bytes of a sign -/

def enc (r : Int) : List UInt8 :=
  if sgn r = false then [239, 191, 189]
  else if r < 128 then [UInt8.ofNat r.toNat]
  else if r < 2048 then [UInt8.ofNat (192 + r.toNat / 64), UInt8.ofNat (128 + r.toNat % 64)]
  else if r < 65536 then [UInt8.ofNat (224 + r.toNat / 4096), UInt8.ofNat (128 + r.toNat / 64 % 64), UInt8.ofNat (128 + r.toNat % 64)]
  else [UInt8.ofNat (240 + r.toNat / 262144), UInt8.ofNat (128 + r.toNat / 4096 % 64), UInt8.ofNat (128 + r.toNat / 64 % 64), UInt8.ofNat (128 + r.toNat % 64)]
theorem enc_len (r : Int) : 1 ≤ (enc r).length ∧ (enc r).length ≤ 4 := by
  unfold enc
  split
  · constructor <;> simp only [List.length_cons, List.length_nil] <;> omega
  · split
    · constructor <;> simp only [List.length_cons, List.length_nil] <;> omega
    · split
      · constructor <;> simp only [List.length_cons, List.length_nil] <;> omega
      · split
        · constructor <;> simp only [List.length_cons, List.length_nil] <;> omega
        · constructor <;> simp only [List.length_cons, List.length_nil] <;> omega
theorem tl_at (n r k : Nat) (l : List UInt8) (h : n < 64) : tails (k + 1) r (UInt8.ofNat (128 + n) :: l) = tails k (r * 64 + n) l := by
  have e : (UInt8.ofNat (128 + n)).toNat = 128 + n := by rw [UInt8.toNat_ofNat']; omega
  simp only [tails, isTail, e]
  rw [if_pos (by simp; omega), show 128 + n - 128 = n from by omega]
theorem dec_enc {r : Int} (h : sgn r = true) (l : List UInt8) : dec (enc r ++ l) = (r, (enc r).length) := by
  have h' := h
  simp only [sgn, Bool.and_eq_true, Bool.or_eq_true, decide_eq_true_eq] at h'
  obtain ⟨n, rfl⟩ : ∃ n : Nat, r = n := ⟨r.toNat, by omega⟩
  unfold enc
  rw [if_neg (by rw [h]; simp)]
  simp only [Int.toNat_natCast]
  by_cases h1 : (n : Int) < 128
  · rw [if_pos h1]
    have e : (UInt8.ofNat n).toNat = n := by rw [UInt8.toNat_ofNat']; omega
    rw [List.cons_append, List.nil_append, form_dec 0 (by omega) _ l (by simp [inr, lo, hi, e]; omega), e]
    simp only [tails, lo, Nat.sub_zero]
    rw [if_pos (by rw [h]; simp [ls])]
    rfl
  · rw [if_neg h1]
    by_cases h2 : (n : Int) < 2048
    · rw [if_pos h2]
      have e : (UInt8.ofNat (192 + n / 64)).toNat = 192 + n / 64 := by rw [UInt8.toNat_ofNat']; omega
      rw [List.cons_append, List.cons_append, List.nil_append, form_dec 1 (by omega) _ _ (by simp [inr, lo, hi, e]; omega), e, tl_at _ _ _ _ (by omega)]
      simp only [tails, lo]
      rw [show (192 + n / 64 - 192) * 64 + n % 64 = n from by omega, if_pos (by rw [h]; simp [ls]; omega)]
      rfl
    · rw [if_neg h2]
      by_cases h3 : (n : Int) < 65536
      · rw [if_pos h3]
        have e : (UInt8.ofNat (224 + n / 4096)).toNat = 224 + n / 4096 := by rw [UInt8.toNat_ofNat']; omega
        rw [List.cons_append, List.cons_append, List.cons_append, List.nil_append, form_dec 2 (by omega) _ _ (by simp [inr, lo, hi, e]; omega), e, tl_at _ _ _ _ (by omega), tl_at _ _ _ _ (by omega)]
        simp only [tails, lo]
        rw [show ((224 + n / 4096 - 224) * 64 + n / 64 % 64) * 64 + n % 64 = n from by omega, if_pos (by rw [h]; simp [ls]; omega)]
        rfl
      · rw [if_neg h3]
        have e : (UInt8.ofNat (240 + n / 262144)).toNat = 240 + n / 262144 := by rw [UInt8.toNat_ofNat']; omega
        rw [List.cons_append, List.cons_append, List.cons_append, List.cons_append, List.nil_append, form_dec 3 (by omega) _ _ (by simp [inr, lo, hi, e]; omega), e, tl_at _ _ _ _ (by omega), tl_at _ _ _ _ (by omega), tl_at _ _ _ _ (by omega)]
        simp only [tails, lo]
        rw [show (((240 + n / 262144 - 240) * 64 + n / 4096 % 64) * 64 + n / 64 % 64) * 64 + n % 64 = n from by omega, if_pos (by rw [h]; simp [ls]; omega)]
        rfl
theorem dec_sgn {s : List UInt8} (h : 0 ≤ (dec s).1) : sgn (dec s).1 = true := by
  unfold dec at h ⊢
  split at h
  · exact absurd h (by decide)
  · split at h
    · exact absurd h (by decide)
    · rename_i hz
      rw [if_neg hz]
      split at h
      · exact absurd h (by decide)
      · split at h
        · rename_i ho
          rw [if_pos ho]
          simp only [okR, Bool.not_eq_true', Bool.or_eq_false_iff, Bool.and_eq_false_iff, decide_eq_false_iff_not] at ho
          simp only [sgn, Bool.and_eq_true, Bool.or_eq_true, decide_eq_true_eq]
          omega
        · exact absurd h (by decide)

end Go.Nam

/- Texts as plain data: their signs, prepared texts, escaped ones. Conditions: as each says. -/
set_option linter.unusedSimpArgs false
set_option linter.unusedVariables false
namespace Go.Nam

/-- The signs of a text. -/
def rs : List UInt8 → List Int
  | [] => []
  | c :: l => (dec (c :: l)).1 :: rs ((c :: l).drop (dec (c :: l)).2)
termination_by s => s.length
decreasing_by
  have := dec_pos (c :: l)
  simp only [List.length_drop, List.length_cons]; omega
/-- The same, each with its place. -/
def sg : Nat → List UInt8 → List (Nat × Int)
  | _, [] => []
  | a, c :: l => (a, (dec (c :: l)).1) :: sg (a + (dec (c :: l)).2) ((c :: l).drop (dec (c :: l)).2)
termination_by _ s => s.length
decreasing_by
  have := dec_pos (c :: l)
  simp only [List.length_drop, List.length_cons]; omega
theorem rs_nil : rs [] = [] := by rw [rs]
theorem rs_step {s : List UInt8} (h : s ≠ []) : rs s = (dec s).1 :: rs (s.drop (dec s).2) := by
  cases s with
  | nil => exact absurd rfl h
  | cons c l => rw [rs]
theorem sg_nil (a : Nat) : sg a [] = [] := by rw [sg]
theorem sg_step {s : List UInt8} (a : Nat) (h : s ≠ []) : sg a s = (a, (dec s).1) :: sg (a + (dec s).2) (s.drop (dec s).2) := by
  cases s with
  | nil => exact absurd rfl h
  | cons c l => rw [sg]
theorem drop_lt {s : List UInt8} (h : s ≠ []) : (s.drop (dec s).2).length < s.length := by
  have := dec_pos s
  have : 0 < s.length := List.length_pos_iff.2 h
  rw [List.length_drop]; omega
theorem dec_lens {s : List UInt8} (h : s ≠ []) : (dec s).2 ≤ s.length := by
  cases s with
  | nil => exact absurd rfl h
  | cons c l => exact dec_len c l
theorem sg_rs : ∀ (n a : Nat) (s : List UInt8), s.length ≤ n → (sg a s).map (·.2) = rs s
  | 0, a, s, h => by
    have : s = [] := List.length_eq_zero_iff.1 (by omega)
    subst this; rw [sg_nil, rs_nil]; rfl
  | n + 1, a, s, h => by
    by_cases hs : s = []
    · subst hs; rw [sg_nil, rs_nil]; rfl
    · have := drop_lt hs
      rw [sg_step a hs, rs_step hs, List.map_cons, sg_rs n _ _ (by omega)]
theorem sg_len (a : Nat) (s : List UInt8) : (sg a s).length = (rs s).length := by rw [← sg_rs _ a s (Nat.le_refl _), List.length_map]
theorem rs_len : ∀ (n : Nat) (s : List UInt8), s.length ≤ n → (rs s).length ≤ s.length
  | 0, s, h => by
    have : s = [] := List.length_eq_zero_iff.1 (by omega)
    subst this; rw [rs_nil]; exact Nat.le_refl _
  | n + 1, s, h => by
    by_cases hs : s = []
    · subst hs; rw [rs_nil]; exact Nat.le_refl _
    · have := drop_lt hs
      rw [rs_step hs, List.length_cons]
      have := rs_len n (s.drop (dec s).2) (by omega)
      omega

theorem rs_app : ∀ (n : Nat) (s t : List UInt8), s.length ≤ n → (∀ r ∈ rs s, 0 ≤ r) → rs (s ++ t) = rs s ++ rs t
  | 0, s, t, h, _ => by
    have : s = [] := List.length_eq_zero_iff.1 (by omega)
    subst this; rw [rs_nil]; rfl
  | n + 1, s, t, h, hv => by
    by_cases hs : s = []
    · subst hs; rw [rs_nil]; rfl
    · have hd := drop_lt hs
      have hl := dec_lens hs
      rw [rs_step hs] at hv ⊢
      have h0 := hv _ (List.mem_cons_self ..)
      rw [rs_step (by simp [hs]), dec_app s t h0, List.drop_append_of_le_length hl, rs_app n _ t (by omega) (fun r hr => hv r (List.mem_cons_of_mem _ hr))]
      rfl
theorem rs_enc {r : Int} (h : sgn r = true) (t : List UInt8) : rs (enc r ++ t) = r :: rs t := by
  have hl := enc_len r
  rw [rs_step (by intro e; have := congrArg List.length e; rw [List.length_append, List.length_nil] at this; omega), dec_enc h]
  simp
theorem rs_flat : ∀ L : List Int, (∀ r ∈ L, sgn r = true) → rs (L.flatMap enc) = L
  | [], _ => rs_nil
  | r :: L, h => by
    rw [List.flatMap_cons, rs_enc (h r (List.mem_cons_self ..)), rs_flat L fun x hx => h x (List.mem_cons_of_mem _ hx)]
theorem rs_sgn : ∀ (n : Nat) (s : List UInt8), s.length ≤ n → ∀ r ∈ rs s, 0 ≤ r → sgn r = true
  | 0, s, h, r, hr, _ => by
    have : s = [] := List.length_eq_zero_iff.1 (by omega)
    subst this; rw [rs_nil] at hr; cases hr
  | n + 1, s, h, r, hr, h0 => by
    by_cases hs : s = []
    · subst hs; rw [rs_nil] at hr; cases hr
    · have hd := drop_lt hs
      rw [rs_step hs] at hr
      rcases List.mem_cons.1 hr with rfl | hr
      · exact dec_sgn h0
      · exact rs_sgn n _ (by omega) r hr h0
theorem rs_rng : ∀ (n : Nat) (s : List UInt8), s.length ≤ n → ∀ r ∈ rs s, -1 ≤ r ∧ r ≤ 1114111
  | 0, s, h, r, hr => by
    have : s = [] := List.length_eq_zero_iff.1 (by omega)
    subst this; rw [rs_nil] at hr; cases hr
  | n + 1, s, h, r, hr => by
    by_cases hs : s = []
    · subst hs; rw [rs_nil] at hr; cases hr
    · have hd := drop_lt hs
      rw [rs_step hs] at hr
      rcases List.mem_cons.1 hr with rfl | hr
      · exact dec_rng s
      · exact rs_rng n _ (by omega) r hr

/-! ### Prepared texts -/

def within (r : Int) : List (Int × Int) → Bool
  | [] => false
  | p :: l => (decide (p.1 ≤ r) && decide (r ≤ p.2)) || within r l
def blanks : List (Int × Int) := [(160, 160), (5760, 5760), (8192, 8202), (8239, 8239), (8287, 8287), (12288, 12288)]
def nothing : List (Int × Int) := [(173, 173), (8203, 8205), (8288, 8288), (65024, 65039), (65279, 65279)]
def barred : List (Int × Int) := [(0, 31), (127, 159), (8232, 8233), (8234, 8238), (8294, 8297), (57344, 63743), (983040, 1114111), (65529, 65533), (64976, 65007)]
def blankB (r : Int) : Bool := within r blanks
def goesB (r : Int) : Bool := within r nothing
def barsB (r : Int) : Bool := within r barred || decide (65534 ≤ r % 65536)
def keep1 (r : Int) : List Int := if blankB r then [32] else if goesB r then [] else [r]
def keep (l : List Int) : List Int := l.flatMap keep1
def prep (s : List UInt8) : List UInt8 × Int := if (rs s).any (fun r => decide (r < 0)) then ([], 4) else if (keep (rs s)).any barsB then ([], 5) else ((keep (rs s)).flatMap enc, 0)
/-- As the document has it: sign by sign. -/
def prepL : List Int → Option (List UInt8)
  | [] => some []
  | r :: l => if blankB r then (prepL l).map (32 :: ·) else if goesB r then prepL l else if barsB r then none else (prepL l).map (enc r ++ ·)
theorem enc32 : enc 32 = [32] := by decide
theorem prepL_keep : ∀ l : List Int, prepL l = if (keep l).any barsB then none else some ((keep l).flatMap enc)
  | [] => rfl
  | r :: l => by
    have ih := prepL_keep l
    have e : keep (r :: l) = keep1 r ++ keep l := rfl
    rw [e, prepL, List.any_append, List.flatMap_append, ih]
    unfold keep1
    cases blankB r with
    | true =>
      simp only [if_true]
      rw [show List.any [(32 : Int)] barsB = false from by decide, Bool.false_or]
      cases (keep l).any barsB with
      | true => rfl
      | false => simp only [List.flatMap_cons, List.flatMap_nil, enc32]; rfl
    | false =>
      cases goesB r with
      | true => simp
      | false =>
        simp only [List.any_cons, List.any_nil, Bool.or_false, Bool.false_eq_true, if_false]
        cases barsB r with
        | true => rfl
        | false =>
          cases (keep l).any barsB with
          | true => rfl
          | false => simp

theorem keep_app (a b : List Int) : keep (a ++ b) = keep a ++ keep b := List.flatMap_append ..
theorem keep1_keep (r : Int) : ∀ x ∈ keep1 r, keep1 x = [x] ∧ (x = r ∨ x = 32) := by
  intro x hx
  unfold keep1 at hx
  cases hb : blankB r with
  | true => rw [hb] at hx; simp at hx; subst hx; exact ⟨by decide, .inr rfl⟩
  | false =>
    rw [hb] at hx
    cases hg : goesB r with
    | true => rw [hg] at hx; simp at hx
    | false =>
      rw [hg] at hx; simp at hx; subst hx
      refine ⟨?_, .inl rfl⟩
      unfold keep1; rw [hb, hg]; rfl
theorem keep_keep : ∀ l : List Int, keep (keep l) = keep l := by
  have key : ∀ m : List Int, (∀ x ∈ m, keep1 x = [x]) → keep m = m := by
    intro m
    induction m with
    | nil => intro _; rfl
    | cons x m ih =>
      intro h
      show keep1 x ++ keep m = x :: m
      rw [h x (List.mem_cons_self ..), ih fun y hy => h y (List.mem_cons_of_mem _ hy)]; rfl
  intro l
  refine key _ fun x hx => ?_
  obtain ⟨r, _, hr⟩ := List.mem_flatMap.1 hx
  exact (keep1_keep r x hr).1
theorem keep_sgn {l : List Int} (h : ∀ r ∈ l, sgn r = true) : ∀ r ∈ keep l, sgn r = true := by
  intro x hx
  obtain ⟨r, hr1, hr2⟩ := List.mem_flatMap.1 hx
  rcases (keep1_keep r x hr2).2 with rfl | rfl
  · exact h _ hr1
  · decide
theorem any_neg {l : List Int} : l.any (fun r => decide (r < 0)) = false ↔ ∀ r ∈ l, 0 ≤ r := by
  rw [List.any_eq_false]
  constructor
  · intro h r hr; have := h r hr; simpa using this
  · intro h r hr; have := h r hr; simpa using this
theorem sgn_nonneg {r : Int} (h : sgn r = true) : 0 ≤ r := by
  simp only [sgn, Bool.and_eq_true, decide_eq_true_eq] at h; exact h.1.1

/-- What is prepared stays as it is. -/
theorem prep_prep (s : List UInt8) : prep (prep s).1 = ((prep s).1, 0) ∧ ((prep s).2 = 0 ∨ (prep s).1 = []) := by
  have hnil : prep [] = ([], 0) := by unfold prep; rw [rs_nil]; rfl
  by_cases h1 : (rs s).any (fun r => decide (r < 0)) = true
  · have e : prep s = ([], 4) := by unfold prep; rw [if_pos h1]
    rw [e]; exact ⟨hnil, .inr rfl⟩
  · have h1' : (rs s).any (fun r => decide (r < 0)) = false := by simpa using h1
    by_cases h2 : (keep (rs s)).any barsB = true
    · have e : prep s = ([], 5) := by unfold prep; rw [if_neg h1, if_pos h2]
      rw [e]; exact ⟨hnil, .inr rfl⟩
    · have e : prep s = ((keep (rs s)).flatMap enc, 0) := by unfold prep; rw [if_neg h1, if_neg h2]
      rw [e]
      refine ⟨?_, .inl rfl⟩
      have hs : ∀ r ∈ keep (rs s), sgn r = true := keep_sgn fun r hr => rs_sgn _ s (Nat.le_refl _) r hr (any_neg.1 h1' r hr)
      show prep ((keep (rs s)).flatMap enc) = ((keep (rs s)).flatMap enc, 0)
      unfold prep
      rw [rs_flat _ hs, keep_keep, if_neg, if_neg h2]
      rw [any_neg.2 fun r hr => sgn_nonneg (hs r hr)]; simp
theorem prep_0 {s : List UInt8} : (prep s).2 = 0 ↔ ((rs s).any (fun r => decide (r < 0)) = false ∧ (keep (rs s)).any barsB = false) := by
  unfold prep
  cases (rs s).any (fun r => decide (r < 0)) with
  | true => simp
  | false =>
    cases (keep (rs s)).any barsB with
    | true => simp
    | false => simp
theorem prep_4 {s : List UInt8} : (prep s).2 = 4 ↔ (rs s).any (fun r => decide (r < 0)) = true := by
  unfold prep
  cases (rs s).any (fun r => decide (r < 0)) with
  | true => simp
  | false =>
    cases (keep (rs s)).any barsB with
    | true => simp
    | false => simp
/-- Texts in a row. -/
theorem prep_joins (a b : List UInt8) : ((prep a).2 = 0 ∧ (prep b).2 = 0 → prep (a ++ b) = ((prep a).1 ++ (prep b).1, 0)) ∧
    (¬ ((prep a).2 = 0 ∧ (prep b).2 = 0) → (prep a).2 = 4 ∨ (prep b).2 = 4 ∨ (prep (a ++ b)).2 = 5) := by
  by_cases ha : (rs a).any (fun r => decide (r < 0)) = true
  · have := prep_4.2 ha
    exact ⟨fun h => by omega, fun _ => .inl this⟩
  by_cases hb : (rs b).any (fun r => decide (r < 0)) = true
  · have := prep_4.2 hb
    exact ⟨fun h => by omega, fun _ => .inr (.inl this)⟩
  have ha' : (rs a).any (fun r => decide (r < 0)) = false := by simpa using ha
  have hb' : (rs b).any (fun r => decide (r < 0)) = false := by simpa using hb
  have e := rs_app _ a b (Nat.le_refl _) (any_neg.1 ha')
  have hab : ¬ (rs (a ++ b)).any (fun r => decide (r < 0)) = true := by rw [e, List.any_append, ha', hb']; simp
  unfold prep
  rw [if_neg ha, if_neg hb, if_neg hab, e, keep_app, List.any_append]
  cases (keep (rs a)).any barsB with
  | true => simp
  | false =>
    cases (keep (rs b)).any barsB with
    | true => simp
    | false => simp

def sized (s : List UInt8) (most : Nat) : List UInt8 × Int := if (prep s).2 ≠ 0 then ([], (prep s).2) else if (prep s).1 = [] then ([], 2) else if most < (prep s).1.length then ([], 3) else ((prep s).1, 0)
def plain1 (c : UInt8) : Bool := (decide (97 ≤ c.toNat) && decide (c.toNat ≤ 122)) || (decide (48 ≤ c.toNat) && decide (c.toNat ≤ 57)) || c == 45 || c == 95
def plain (s : List UInt8) : Bool := s.all plain1 && (decide (1 ≤ s.length) && decide (s.length ≤ 32))
theorem plain_dec (c : UInt8) (l : List UInt8) (h : c.toNat < 128) : dec (c :: l) = ((c.toNat : Int), 1) := by
  rw [form_dec 0 (by omega) c l (by simp [inr, lo, hi]; omega)]
  simp only [tails, lo, Nat.sub_zero]
  rw [if_pos (by simp [ls, sgn]; omega)]
theorem plain_one (c : UInt8) (h : plain1 c = true) : c.toNat < 128 ∧ keep1 (c.toNat : Int) = [(c.toNat : Int)] ∧ barsB (c.toNat : Int) = false ∧ enc (c.toNat : Int) = [c] := by
  have := all8 (fun c => !plain1 c || (decide (c.toNat < 128) && (keep1 (c.toNat : Int) == [(c.toNat : Int)] && (barsB (c.toNat : Int) == false && enc (c.toNat : Int) == [c])))) (by decide +kernel) c
  rw [h] at this
  simpa using this
theorem plain_rs : ∀ s : List UInt8, (∀ c ∈ s, plain1 c = true) → rs s = s.map (fun c => (c.toNat : Int)) ∧ keep (rs s) = rs s ∧ (rs s).any barsB = false ∧ (rs s).flatMap enc = s
  | [], _ => by rw [rs_nil]; exact ⟨rfl, rfl, rfl, rfl⟩
  | c :: l, h => by
    obtain ⟨h1, h2, h3, h4⟩ := plain_one c (h c (List.mem_cons_self ..))
    obtain ⟨i1, i2, i3, i4⟩ := plain_rs l fun x hx => h x (List.mem_cons_of_mem _ hx)
    have e : rs (c :: l) = (c.toNat : Int) :: rs l := by rw [rs_step (by simp), plain_dec c l h1]; rfl
    rw [e]
    refine ⟨by rw [i1]; rfl, ?_, by rw [List.any_cons, h3, i3]; rfl, by rw [List.flatMap_cons, h4, i4]; rfl⟩
    show keep1 (c.toNat : Int) ++ keep (rs l) = _
    rw [h2, i2]; rfl
theorem plain_sized {s : List UInt8} (h : plain s = true) : sized s 32 = (s, 0) := by
  simp only [plain, Bool.and_eq_true, List.all_eq_true, decide_eq_true_eq] at h
  obtain ⟨h1, h2, h3⟩ := h
  obtain ⟨i1, i2, i3, i4⟩ := plain_rs s h1
  have e : prep s = (s, 0) := by
    unfold prep
    rw [if_neg, i2, if_neg, i4]
    · rw [i3]; simp
    · rw [any_neg.2]
      · simp
      · intro r hr; rw [i1] at hr
        obtain ⟨c, _, rfl⟩ := List.mem_map.1 hr
        omega
  unfold sized
  rw [e, if_neg (by simp), if_neg (by intro e; simp only at e; subst e; simp at h2), if_neg (by simp only; omega)]

/-! ### Escaped texts -/

def esc1 (c : UInt8) : List UInt8 := if c = 44 then [61, 50, 67] else if c = 61 then [61, 51, 68] else [c]
def esc (s : List UInt8) : List UInt8 := s.flatMap esc1
/-- Back: the bytes, and whether there was a comma; none: a lone sign. -/
def un : List UInt8 → Option (List UInt8 × Bool)
  | [] => some ([], false)
  | c :: l => if c = 61 then
      if l.take 2 = [50, 67] then (un (l.drop 2)).map fun p => (44 :: p.1, p.2)
      else if l.take 2 = [51, 68] then (un (l.drop 2)).map fun p => (61 :: p.1, p.2)
      else none
    else if c = 44 then (un l).map fun p => (p.1, true)
    else (un l).map fun p => (c :: p.1, p.2)
termination_by s => s.length
decreasing_by all_goals (simp only [List.length_drop, List.length_cons]; omega)
theorem un_nil : un [] = some ([], false) := by rw [un]
theorem un_cons (c : UInt8) (l : List UInt8) : un (c :: l) = if c = 61 then
      if l.take 2 = [50, 67] then (un (l.drop 2)).map fun p => (44 :: p.1, p.2)
      else if l.take 2 = [51, 68] then (un (l.drop 2)).map fun p => (61 :: p.1, p.2)
      else none
    else if c = 44 then (un l).map fun p => (p.1, true)
    else (un l).map fun p => (c :: p.1, p.2) := by rw [un]
def unesc (s : List UInt8) : List UInt8 × Int := match un s with | none => ([], 4) | some p => if p.2 then ([], 5) else (p.1, 0)
theorem un_esc : ∀ s : List UInt8, un (esc s) = some (s, false)
  | [] => un_nil
  | c :: l => by
    have ih := un_esc l
    have e : esc (c :: l) = esc1 c ++ esc l := rfl
    rw [e]
    unfold esc1
    by_cases h1 : c = 44
    · subst h1
      rw [if_pos rfl, List.cons_append, un_cons, if_pos rfl]
      simp [ih]
    · rw [if_neg h1]
      by_cases h2 : c = 61
      · subst h2
        rw [if_pos rfl, List.cons_append, un_cons, if_pos rfl]
        simp [ih]
      · rw [if_neg h2, List.cons_append, List.nil_append, un_cons, if_neg h2, if_neg h1, ih]; rfl
theorem esc_un : ∀ (n : Nat) (s o : List UInt8), s.length ≤ n → un s = some (o, false) → esc o = s
  | n, [], o, _, h => by rw [un_nil] at h; cases h; rfl
  | 0, c :: l, o, hl, h => by simp at hl
  | n + 1, c :: l, o, hl, h => by
    rw [List.length_cons] at hl
    rw [un_cons] at h
    have two : ∀ x y : UInt8, l.take 2 = [x, y] → l = x :: y :: l.drop 2 := by
      intro x y hx
      have := List.take_append_drop 2 l
      rw [hx] at this; exact this.symm
    by_cases h1 : c = 61
    · subst h1
      rw [if_pos rfl] at h
      split at h
      · rename_i ht
        rw [Option.map_eq_some_iff] at h
        obtain ⟨⟨p, k⟩, hp, he⟩ := h
        cases he
        rw [two _ _ ht]
        show esc1 44 ++ esc p = _
        rw [esc_un n (l.drop 2) p (by rw [List.length_drop]; omega) hp]
        rfl
      · split at h
        · rename_i ht
          rw [Option.map_eq_some_iff] at h
          obtain ⟨⟨p, k⟩, hp, he⟩ := h
          cases he
          rw [two _ _ ht]
          show esc1 61 ++ esc p = _
          rw [esc_un n (l.drop 2) p (by rw [List.length_drop]; omega) hp]
          rfl
        · cases h
    · rw [if_neg h1] at h
      by_cases h2 : c = 44
      · rw [if_pos h2, Option.map_eq_some_iff] at h
        obtain ⟨p, _, he⟩ := h
        cases he
      · rw [if_neg h2, Option.map_eq_some_iff] at h
        obtain ⟨⟨p, k⟩, hp, he⟩ := h
        cases he
        show esc1 c ++ esc p = _
        rw [esc_un n l p (by omega) hp]
        unfold esc1
        rw [if_neg h2, if_neg h1]; rfl
theorem unesc_esc (s : List UInt8) : unesc (esc s) = (s, 0) := by unfold unesc; rw [un_esc]; rfl
theorem esc_unesc {s : List UInt8} (h : (unesc s).2 = 0) : esc (unesc s).1 = s := by
  unfold unesc at h ⊢
  cases hu : un s with
  | none => rw [hu] at h; cases h
  | some p =>
    obtain ⟨o, k⟩ := p
    rw [hu] at h
    cases k with
    | true => cases h
    | false => exact esc_un _ s o (Nat.le_refl _) hu

end Go.Nam

/- A logic of chunks of memory over the walk's calculus: what a piece of code does to the blocks that it is handed, whatever else there is. Conditions: none. -/
set_option linter.unusedSimpArgs false
set_option linter.unusedVariables false
namespace Go.Ost
open Go

/-! ### States -/

abbrev Chunk := List (Nat × Obj)
abbrev State := List Chunk
abbrev Env := List (Nat × Value)

/-- The blocks of a state lie in the world, no two of one number. -/
structure Hold (w : World) (S : State) : Prop where
  nd : (S.flatten.map (·.1)).Nodup
  get : ∀ b o, (b, o) ∈ S.flatten → w.heap[b]? = some o

structure Ext (w w' : World) : Prop where
  os : w'.os = w.os
  tape : w'.tape = w.tape
  output : w'.output = w.output
  size : w.heap.size ≤ w'.heap.size

theorem Ext.refl (w : World) : Ext w w := ⟨rfl, rfl, rfl, Nat.le_refl _⟩
theorem Ext.trans {a b c : World} (h : Ext a b) (k : Ext b c) : Ext a c :=
  ⟨k.os.trans h.os, k.tape.trans h.tape, k.output.trans h.output, Nat.le_trans h.size k.size⟩

theorem Hold.perm {w : World} {S T : State} (h : Hold w S) (p : S.flatten.Perm T.flatten) : Hold w T :=
  ⟨(p.map _).nodup_iff.1 h.nd, fun b o hm => h.get b o (p.mem_iff.2 hm)⟩
theorem Hold.sub {w : World} {S T : State} (h : Hold w S) (p : T.flatten.Sublist S.flatten) : Hold w T :=
  ⟨(p.map _).nodup h.nd, fun b o hm => h.get b o (p.subset hm)⟩
theorem Hold.lt {w : World} {S : State} (h : Hold w S) {b : Nat} {o : Obj} (hm : (b, o) ∈ S.flatten) : b < w.heap.size :=
  (Array.getElem?_eq_some_iff.1 (h.get b o hm)).1

/-- A chunk is taken out of a state. -/
inductive Pick : Chunk → State → State → Prop
  | head (c : Chunk) (S : State) : Pick c (c :: S) S
  | tail {c : Chunk} {S T : State} (d : Chunk) (h : Pick c S T) : Pick c (d :: S) (d :: T)

theorem Pick.perm {c : Chunk} {S T : State} (h : Pick c S T) : S.flatten.Perm (c :: T).flatten := by
  induction h with
  | head => exact List.Perm.refl _
  | tail d h ih =>
    simp only [List.flatten_cons] at *
    refine (List.Perm.append_left d ih).trans ?_
    rw [← List.append_assoc, ← List.append_assoc]
    exact List.Perm.append_right _ List.perm_append_comm

/-- Some chunks are taken out of a state; what is left. -/
inductive Take : State → State → State → Prop
  | nil (S : State) : Take [] S S
  | cons {c : Chunk} {A S T F : State} (h : Pick c S T) (k : Take A T F) : Take (c :: A) S F

theorem Take.perm {A S F : State} (h : Take A S F) : S.flatten.Perm (A ++ F).flatten := by
  induction h with
  | nil => exact List.Perm.refl _
  | cons h k ih =>
    refine h.perm.trans ?_
    simp only [List.flatten_cons, List.cons_append]
    exact List.Perm.append_left _ ih

/-- The chunks T are among those of S. -/
inductive Among : State → State → Prop
  | nil (S : State) : Among [] S
  | cons {c : Chunk} {T S S' : State} (h : Pick c S S') (k : Among T S') : Among (c :: T) S

theorem Among.refl : ∀ S : State, Among S S
  | [] => .nil _
  | c :: S => .cons (.head c S) (Among.refl S)

theorem Among.hold {T S : State} (h : Among T S) {w : World} (hw : Hold w S) : Hold w T := by
  suffices hs : ∃ R : State, S.flatten.Perm (T ++ R).flatten by
    obtain ⟨R, hR⟩ := hs
    refine (hw.perm hR).sub ?_
    rw [List.flatten_append]
    exact List.sublist_append_left _ _
  induction h with
  | nil S => exact ⟨S, List.Perm.refl _⟩
  | cons h k ih =>
    obtain ⟨R, hR⟩ := ih (hw.perm h.perm |>.sub (by simp))
    refine ⟨R, h.perm.trans ?_⟩
    simp only [List.flatten_cons, List.cons_append]
    exact List.Perm.append_left _ hR

/-- A block lies in a state. -/
inductive Lies (b : Nat) (o : Obj) : State → Prop
  | here {C : Chunk} {S : State} (h : (b, o) ∈ C) : Lies b o (C :: S)
  | next {C : Chunk} {S : State} (h : Lies b o S) : Lies b o (C :: S)

theorem Lies.mem {b : Nat} {o : Obj} {S : State} (h : Lies b o S) : (b, o) ∈ S.flatten := by
  induction h with
  | here h => exact List.mem_append_left _ h
  | next _ ih => exact List.mem_append_right _ ih
theorem Lies.one {b : Nat} {o : Obj} {S : State} : Lies b o ([(b, o)] :: S) := .here (.head _)
theorem Lies.get {b : Nat} {o : Obj} {S : State} (h : Lies b o S) {w : World} (hw : Hold w S) : w.heap[b]? = some o := hw.get b o h.mem

/-- Block b of a state becomes o'. -/
inductive Upd (b : Nat) (o o' : Obj) : State → State → Prop
  | one {S : State} : Upd b o o' ([(b, o)] :: S) ([(b, o')] :: S)
  | many {C D : Chunk} {S : State} : Upd b o o' ((C ++ (b, o) :: D) :: S) ((C ++ (b, o') :: D) :: S)
  | next {C : Chunk} {S T : State} (h : Upd b o o' S T) : Upd b o o' (C :: S) (C :: T)

theorem Upd.split {b : Nat} {o o' : Obj} {S T : State} (h : Upd b o o' S T) : ∃ A B : Chunk, S.flatten = A ++ (b, o) :: B ∧ T.flatten = A ++ (b, o') :: B := by
  induction h with
  | @one S => exact ⟨[], S.flatten, by simp, by simp⟩
  | @many C D S => exact ⟨C, D ++ S.flatten, by simp, by simp⟩
  | @next C _ _ _ ih => obtain ⟨A, B, h1, h2⟩ := ih; exact ⟨C ++ A, B, by simp [h1], by simp [h2]⟩
theorem Upd.get {b : Nat} {o o' : Obj} {S T : State} (h : Upd b o o' S T) {w : World} (hw : Hold w S) : w.heap[b]? = some o := by
  obtain ⟨A, B, h1, _⟩ := h.split
  exact hw.get b o (by rw [h1]; simp)
theorem Upd.hold {b : Nat} {o o' : Obj} {S T : State} (h : Upd b o o' S T) {w w' : World} (hw : Hold w S)
    (h1 : w'.heap[b]? = some o') (h2 : ∀ k, k ≠ b → w'.heap[k]? = w.heap[k]?) : Hold w' T := by
  obtain ⟨A, B, e1, e2⟩ := h.split
  have nd := hw.nd
  rw [e1] at nd
  refine ⟨by rw [e2]; simpa using nd, fun c p hm => ?_⟩
  rw [e2] at hm
  have hne : ∀ q, (c, q) ∈ A ++ B → c ≠ b := by
    intro q hq hc
    subst hc
    simp only [List.map_append, List.map_cons] at nd
    have hn := (List.perm_middle.nodup_iff.1 nd)
    rw [List.nodup_cons] at hn
    refine hn.1 ?_
    rw [← List.map_append]
    exact List.mem_map.2 ⟨_, hq, rfl⟩
  rcases List.mem_append.1 hm with hA | hB
  · rw [h2 c (hne p (List.mem_append_left _ hA))]
    exact hw.get c p (by rw [e1]; exact List.mem_append_left _ hA)
  · rcases List.mem_cons.1 hB with he | hB
    · cases he; exact h1
    · rw [h2 c (hne p (List.mem_append_right _ hB))]
      exact hw.get c p (by rw [e1]; exact List.mem_append_right _ (List.mem_cons_of_mem _ hB))

/-- A new block. -/
theorem Hold.new {w w' : World} {S : State} (h : Hold w S) {o : Obj} (h1 : w'.heap = w.heap.push o) : Hold w' ([(w.heap.size, o)] :: S) := by
  refine ⟨?_, fun b p hm => ?_⟩
  · simp only [List.flatten_cons, List.map_append, List.map_cons, List.map_nil, List.cons_append, List.nil_append, List.nodup_cons]
    refine ⟨fun hm => ?_, h.nd⟩
    obtain ⟨⟨b, p⟩, hp, hb⟩ := List.mem_map.1 hm
    have := h.lt hp
    simp only at hb
    omega
  · rw [h1, Array.getElem?_push]
    rcases List.mem_cons.1 hm with he | hm
    · cases he; simp
    · have := h.lt hm
      rw [if_neg (by omega)]
      exact h.get b p hm

/-! ### What the temporaries hold -/

def lookT : Env → Nat → Option Value
  | [], _ => none
  | (d, v) :: l, t => if t = d then some v else lookT l t

theorem lookT_hit {d : Nat} {v : Value} {l : Env} : lookT ((d, v) :: l) d = some v := by simp [lookT]
theorem lookT_miss {d t : Nat} {v : Value} {l : Env} (h : (t == d) = false) : lookT ((d, v) :: l) t = lookT l t := by
  simp only [lookT]; rw [if_neg (by simpa using h)]

def markD (r : Nat) : Deferred := { target := .collected r, args := #[] }

structure Agree (n : Nat) (L : Env) (D : List Nat) (a : Act) : Prop where
  size : a.tmps.size = n
  get : ∀ t v, lookT L t = some v → a.tmps[t]? = some v
  marks : a.defers = D.map markD

def putT (n : Nat) (dst : Option Tmp) (v : Value) (L : Env) : Env :=
  match dst with
  | some d => if d < n then (d, v) :: L else L
  | none => L

theorem Agree.put {n : Nat} {L : Env} {D : List Nat} {a : Act} (h : Agree n L D a) (dst : Option Tmp) (v : Value) : Agree n (putT n dst v L) D (a.put dst v) := by
  cases dst with
  | none => exact h
  | some d =>
    simp only [Ost.putT, Act.put]
    split
    · rename_i hd
      refine ⟨by simp [h.size], fun t u ht => ?_, h.marks⟩
      simp only [lookT] at ht
      split at ht
      · cases ht; subst_vars; simp [h.size, hd]
      · rename_i hne
        rw [Array.getElem?_setIfInBounds_ne (Ne.symm hne)]
        exact h.get t u ht
    · rename_i hd
      refine ⟨by simp [h.size], fun t u ht => ?_, h.marks⟩
      rw [Array.getElem?_setIfInBounds_ne]
      · exact h.get t u ht
      · intro e; subst e
        have := (Array.getElem?_eq_some_iff.1 (h.get _ _ ht)).1
        rw [h.size] at this
        exact hd this

def evT (L : Env) : Operand → Option Value
  | .tmp t => lookT L t
  | .const v => some v
  | .global g => some (.pointer (some ⟨g, 0, none⟩))
  | .func f => some (.func (.func f) #[] #[])

theorem Agree.ev {n : Nat} {L : Env} {D : List Nat} {a : Act} (h : Agree n L D a) {x : Operand} {v : Value} (hx : evT L x = some v) : a.eval x = v := by
  cases x with
  | tmp t =>
    simp only [Ost.evT] at hx
    simp [Act.eval, h.get t v hx]
  | const u => cases hx; rfl
  | global g => cases hx; rfl
  | func f => cases hx; rfl

/-- Knows is known of the temporaries. -/
def Knows : Env → Env → Prop
  | [], _ => True
  | (d, v) :: l, L => lookT L d = some v ∧ Knows l L
theorem Knows.look {l L : Env} (h : Knows l L) : ∀ t v, lookT l t = some v → lookT L t = some v := by
  induction l with
  | nil => intro t v ht; simp [Ost.lookT] at ht
  | cons x l ih =>
    obtain ⟨d, u⟩ := x
    intro t v ht
    simp only [Ost.lookT] at ht
    split at ht
    · cases ht; subst_vars; exact h.1
    · exact ih h.2 t v ht
theorem Agree.less {n : Nat} {L l : Env} {D : List Nat} {a : Act} (h : Agree n L D a) (hl : Knows l L) : Agree n l D a :=
  ⟨h.size, fun t v ht => h.get t v (hl.look t v ht), h.marks⟩

end Go.Ost

/- The steps of a piece of code over chunks of memory: what each operation, region, loop and function asks and gives. Conditions: none. -/
set_option linter.unusedSimpArgs false
set_option linter.unusedVariables false
namespace Go.Ost
open Go

variable {P : Program}

abbrev FW (ro : Option Nat) : Fence := { Fence.wide with round := ro }
theorem fw_fn (ro : Option Nat) (f : FuncId) : (FW ro).fn f := trivial
theorem fw_depth (ro : Option Nat) : (FW ro).depth = none := rfl
theorem fw_room (ro : Option Nat) (k : Nat) : (FW ro).room k := fun _ h => by cases h

/-! ### What an operation asks -/

/- (Structures, not definitions: nothing unfolds them by itself.) -/
structure PureW (P : Program) (m : Sem Value) (κ : Value → Prop) : Prop where
  out : ∃ v, (∀ w, m.run P w = .ok v w) ∧ κ v
structure ReadW (P : Program) (m : Sem Value) (S : State) (κ : Value → Prop) : Prop where
  out : ∃ v, (∀ w, Hold w S → m.run P w = .ok v w) ∧ κ v
structure ValW (P : Program) (m : Sem Value) (S : State) (κ : Value → State → Prop) : Prop where
  out : ∀ w, Hold w S → ∃ v w' S', m.run P w = .ok v w' ∧ Ext w w' ∧ Hold w' S' ∧ κ v S'
structure UnitW (P : Program) (m : Sem Unit) (S : State) (κ : State → Prop) : Prop where
  out : ∀ w, Hold w S → ∃ w' S', m.run P w = .ok () w' ∧ Ext w w' ∧ Hold w' S' ∧ κ S'
/-- How a call that was made ends. -/
def EndsW (w : World) (κ : Value → State → Prop) : Ending → World → Prop := fun e w' => ∃ v S', e = .returned v ∧ Ext w w' ∧ Hold w' S' ∧ κ v S'
def GoesW (P : Program) (w : World) (κ : Value → State → Prop) : Next → World → Prop
  | .value v, w' => ∃ S', Ext w w' ∧ Hold w' S' ∧ κ v S'
  | .skip, w' => ∃ S', Ext w w' ∧ Hold w' S' ∧ κ undef S'
  | .enter f args, w' => CallsIn (FW none) 0 P f args w' (EndsW w κ)
  | .round l f tmps assign body, w' => RoundIn (FW none) 0 P l f tmps assign body w' (EndsW w κ)
  | _, _ => False
def NextW (P : Program) (m : Sem Next) (S : State) (κ : Value → State → Prop) : Prop :=
  ∀ w, Hold w S → ∃ r w', m.run P w = .ok r w' ∧ GoesW P w κ r w'

theorem PureW.read {m : Sem Value} {κ : Value → Prop} (h : PureW P m κ) (S : State) : ReadW P m S κ := let ⟨v, a, b⟩ := h.out; ⟨v, fun w _ => a w, b⟩
theorem ReadW.val {m : Sem Value} {S : State} {κ : Value → State → Prop} (h : ReadW P m S fun v => κ v S) : ValW P m S κ :=
  let ⟨v, a, b⟩ := h.out; ⟨fun w hw => ⟨v, w, S, a w hw, Ext.refl w, hw, b⟩⟩
theorem ValW.next {m : Sem Value} {S : State} {κ : Value → State → Prop} (h : ValW P m S κ) : NextW P (do pure (.value (← m))) S κ := fun w hw => by
  obtain ⟨v, w', S', hr, he, hh, hk⟩ := h.out w hw
  refine ⟨.value v, w', ?_, S', he, hh, hk⟩
  simp [Sem.run_bind, hr, Result.andThen]
theorem UnitW.next {m : Sem Unit} {S : State} {κ : Value → State → Prop} (h : UnitW P m S (κ undef)) : NextW P (do m; pure .skip) S κ := fun w hw => by
  obtain ⟨w', S', hr, he, hh, hk⟩ := h.out w hw
  refine ⟨.skip, w', ?_, S', he, hh, hk⟩
  simp [Sem.run_bind, hr, Result.andThen]

/-- A function is called, by its number. -/
structure CallsW (P : Program) (f : FuncId) (args : Array Value) (S : State) (κ : Value → State → Prop) : Prop where
  out : NextW P (callFunc f args) S κ
/-- A loop's body is called, by the loop's record. -/
structure YieldW (P : Program) (l : Nat) (args : Array Value) (S : State) (κ : Value → State → Prop) : Prop where
  out : ∀ w, Hold w S → YieldAt (FW none) 0 P l args w (EndsW w κ)

theorem CallsW.next {f : FuncId} {args : Array Value} {S : State} {κ : Value → State → Prop} (h : CallsW P f args S κ) : NextW P (callFunc f args) S κ := h.out
theorem CallsW.mk' {f : FuncId} {args : Array Value} {S : State} {κ : Value → State → Prop}
    (h1 : (match P.funcs[f]? with | some fn => fn.name != "runtime.NumGoroutine" && fn.body.isSome | none => false) = true)
    (h2 : ∀ w, Hold w S → CallsIn (FW none) 0 P f args w (EndsW w κ)) : CallsW P f args S κ := ⟨fun w hw => by
  split at h1
  · rename_i fn hf
    simp only [Bool.and_eq_true, bne_iff_ne, ne_eq] at h1
    refine ⟨.enter f args, w, ?_, h2 w hw⟩
    obtain ⟨hn, hb⟩ := h1
    obtain ⟨c, hc⟩ := Option.isSome_iff_exists.1 hb
    simp [callFunc, program, Sem.run_bind, Sem.run, hf, hn, hc, Result.andThen]
  · cases h1⟩
theorem NextW.mono {m : Sem Next} {S : State} {κ κ' : Value → State → Prop} (h : NextW P m S κ) (hk : ∀ v S, κ v S → κ' v S) : NextW P m S κ' := fun w hw => by
  obtain ⟨r, w', h1, h2⟩ := h w hw
  refine ⟨r, w', h1, ?_⟩
  have em : ∀ (e : Ending) (w'' : World), EndsW w κ e w'' → EndsW w κ' e w'' := fun e w'' ⟨v, S', a, b, c, d⟩ => ⟨v, S', a, b, c, hk _ _ d⟩
  cases r <;> simp only [GoesW] at h2 ⊢ <;> first | exact CallsIn.mono h2 em | exact RoundIn.mono h2 em | (let ⟨S', a, b, c⟩ := h2; exact ⟨S', a, b, hk _ _ c⟩) | exact h2.elim
theorem YieldW.next {l : Nat} {args : Array Value} {S : State} {κ : Value → State → Prop} (h : YieldW P l args S κ) : NextW P (Instr.yield l args) S κ := fun w hw => by
  obtain ⟨fn, tmps, assign, body, hr, hR⟩ := h.out w hw
  exact ⟨_, w, hr, hR⟩

/-- A function's value is called. -/
def FnW (P : Program) (f : Value) (args : List Value) (S : State) (κ : Value → State → Prop) : Prop :=
  match f with
  | .func (.func g) first captured => CallsW P g (first.toList ++ args ++ captured.toList).toArray S κ
  | .func (.yield l) first _ => YieldW P l (first.toList ++ args).toArray S κ
  | _ => False

theorem FnW.next {f : Value} {args : List Value} {S : State} {κ : Value → State → Prop} (h : FnW P f args S κ) :
    NextW P (do let d ← Deferred.ofValue f args.toArray; invoke d.target d.args) S κ := by
  unfold FnW at h
  split at h
  · rename_i g first captured
    have e : (do let d ← Deferred.ofValue (.func (.func g) first captured) args.toArray; invoke d.target d.args : Sem Next) = callFunc g (first.toList ++ args ++ captured.toList).toArray := by
      simp only [Deferred.ofValue, invoke, bind, pure, Sem.bind]
      congr 1
      apply Array.ext'
      simp
    rw [e]; exact h.next
  · rename_i l first captured
    have e : (do let d ← Deferred.ofValue (.func (.yield l) first captured) args.toArray; invoke d.target d.args : Sem Next) = Instr.yield l (first.toList ++ args).toArray := by
      simp only [Deferred.ofValue, invoke, bind, pure, Sem.bind]
      congr 1
      apply Array.ext'
      simp
    rw [e]; exact h.next
  · exact h.elim

/-- A builtin is called. -/
def BuiltinW (P : Program) (b : Builtin) (ats : Array TypeId) (t : TypeId) (args : List Value) (S : State) (κ : Value → State → Prop) : Prop :=
  match b, args with
  | .min, _ => PureW P (Builtin.min_ ats t args.toArray) fun v => κ v S
  | .max, _ => PureW P (Builtin.max_ ats t args.toArray) fun v => κ v S
  | .len, [.slice a n c] => PureW P (Builtin.len_ ats t #[.slice a n c]) fun v => κ v S
  | .len, [.string s] => PureW P (Builtin.len_ ats t #[.string s]) fun v => κ v S
  | .len, [.map r] => ReadW P (Builtin.len_ ats t #[.map r]) S fun v => κ v S
  | .cap, _ => PureW P (Builtin.cap_ ats t args.toArray) fun v => κ v S
  | .append, _ => ValW P (Builtin.append_ ats t args.toArray) S κ
  | .copy, _ => ValW P (Builtin.copy_ ats t args.toArray) S κ
  | .clear, _ => ValW P (Builtin.clear_ ats t args.toArray) S κ
  | .delete, _ => ValW P (Builtin.delete_ ats t args.toArray) S κ
  | .unsafeSliceData, _ => ValW P (Builtin.unsafeSliceData_ ats t args.toArray) S κ
  | .unsafeString, _ => ValW P (Builtin.unsafeString_ ats t args.toArray) S κ
  | _, _ => False

theorem BuiltinW.next {b : Builtin} {ats : Array TypeId} {t : TypeId} {cs : Array Bool} {args : List Value} {S : State} {κ : Value → State → Prop}
    (h : BuiltinW P b ats t args S κ) : NextW P (builtin b ats t cs args.toArray) S κ := by
  unfold BuiltinW at h
  split at h
  · exact (h.read S).val.next
  · exact (h.read S).val.next
  · exact (h.read S).val.next
  · exact (h.read S).val.next
  · exact h.val.next
  · exact (h.read S).val.next
  · exact h.next
  · exact h.next
  · exact h.next
  · exact h.next
  · exact h.next
  · exact h.next
  · exact h.elim

def withV (x : Option Value) (κ : Value → Prop) : Prop :=
  match x with
  | some v => κ v
  | none => False
def evL (L : Env) : List Operand → Option (List Value)
  | [] => some []
  | x :: l =>
    match evT L x, evL L l with
    | some v, some vs => some (v :: vs)
    | _, _ => none
def withL (x : Option (List Value)) (κ : List Value → Prop) : Prop :=
  match x with
  | some v => κ v
  | none => False
def evO (L : Env) : Option Operand → Option (Option Value)
  | none => some none
  | some x =>
    match evT L x with
    | some v => some (some v)
    | none => none
def withO (x : Option (Option Value)) (κ : Option Value → Prop) : Prop :=
  match x with
  | some v => κ v
  | none => False
def withB (v : Value) (κ : Bool → Prop) : Prop :=
  match v with
  | .bool b => κ b
  | _ => False
def evP (L : Env) : List (Nat × Operand) → Option (List (Nat × Value))
  | [] => some []
  | (i, x) :: l =>
    match evT L x, evP L l with
    | some v, some vs => some ((i, v) :: vs)
    | _, _ => none
def withP (x : Option (List (Nat × Value))) (κ : List (Nat × Value) → Prop) : Prop :=
  match x with
  | some v => κ v
  | none => False

/-- 'x is no nil': a pointer, a function. -/
def NilW (v : Value) (κ : Value → Prop) : Prop :=
  match v with
  | .pointer (some a) => κ (.pointer (some a))
  | .func (.func f) a b => κ (.func (.func f) a b)
  | .func (.yield f) a b => κ (.func (.yield f) a b)
  | _ => False

def ConvW (P : Program) (s d : TypeId) (v : Value) (S : State) (κ : Value → State → Prop) : Prop :=
  match v with
  | .int k n => PureW P (convert s d (.int k n)) fun v => κ v S
  | v => ValW P (convert s d v) S κ

/-- ONE OPERATION. -/
def stepW (P : Program) (op : Op) (t : TypeId) (L : Env) (S : State) (κ : Value → State → Prop) : Prop :=
  match op with
  | .move x | .assign x => withV (evT L x) fun v => κ v S
  | .pick c a b => withV (evT L c) fun v => withB v fun g => withV (evT L (if g then a else b)) fun u => κ u S
  | .alloc e => ValW P (Instr.alloc e true (.tuple #[])) S κ
  | .box e x => withV (evT L x) fun v => ValW P (Instr.box e v) S κ
  | .build u ps => withP (evP L ps.toList) fun vs => PureW P (Instr.build u vs.toArray) fun v => κ v S
  | .buildSlice u n ps => withP (evP L ps.toList) fun vs => ValW P (Instr.buildSlice u n vs.toArray) S κ
  | .load u x => withV (evT L x) fun a => ReadW P (Instr.loadAt u a) S fun v => κ v S
  | .store u x y => withV (evT L x) fun a => withV (evT L y) fun v => UnitW P (Instr.storeAt u a v) S (κ undef)
  | .nilCheck x => withV (evT L x) fun v => NilW v fun v => κ v S
  | .binOp o u x y _ => withV (evT L x) fun a => withV (evT L y) fun b => PureW P (do eqGuard o u x y a b; binOp o u a b) fun v => κ v S
  | .unOp o _ x => withV (evT L x) fun a => PureW P (Op.unary o a) fun v => κ v S
  | .convert s d x => withV (evT L x) fun v => ConvW P s d v S κ
  | .makeInterface u x => withV (evT L x) fun v => PureW P (Instr.makeInterface u v) fun v => κ v S
  | .makeFunc fn a b => withL (evL L a.toList) fun va => withL (evL L b.toList) fun vb => κ (.func fn va.toArray vb.toArray) S
  | .makeMap u r => withO (evO L r) fun v => ValW P (Instr.makeMap u v) S κ
  | .makeSlice u x y => withV (evT L x) fun a => withV (evT L y) fun b => ValW P (Instr.makeSlice u a b) S κ
  | .slice u x lo hi mx => withV (evT L x) fun v => withO (evO L lo) fun a => withO (evO L hi) fun b => withO (evO L mx) fun c => PureW P (Instr.sliceAt u v a b c) fun v => κ v S
  | .sliceToArrayPointer u x => withV (evT L x) fun v => PureW P (Instr.arrayAt u v) fun v => κ v S
  | .fieldAddr u x f => withV (evT L x) fun v => PureW P (Instr.fieldAt u v f) fun v => κ v S
  | .field u x f => withV (evT L x) fun v => PureW P (Instr.field u v f) fun v => κ v S
  | .indexAddr u x i => withV (evT L x) fun v => withV (evT L i) fun j => PureW P (Instr.indexAt u v j) fun v => κ v S
  | .index u x i => withV (evT L x) fun v => withV (evT L i) fun j => PureW P (Instr.index u v j) fun v => κ v S
  | .lookup u x i ok => withV (evT L x) fun v => withV (evT L i) fun j => ReadW P (Instr.lookup u v j ok) S fun v => κ v S
  | .mapUpdate u m k x | .insert u m k x => withV (evT L m) fun a => withV (evT L k) fun b => withV (evT L x) fun c => UnitW P (Instr.mapUpdate u a b c) S (κ undef)
  | .mapEntry u m k => withV (evT L m) fun a => withV (evT L k) fun b => ValW P (Instr.mapEntry u a b) S κ
  | .entryStore u m s x => withV (evT L m) fun a => withV (evT L s) fun b => withV (evT L x) fun c => UnitW P (Instr.entryStore u a b c) S (κ undef)
  | .range u x => withV (evT L x) fun v => ValW P (Instr.range u v) S κ
  | .next it s => withV (evT L it) fun v => ValW P (Instr.next v s t) S κ
  | .entry it => withV (evT L it) fun v => ValW P (Instr.entry v) S κ
  | .typeAssert x u v ok => withV (evT L x) fun a => PureW P (Instr.typeAssert a u v ok) fun v => κ v S
  | .extract x i => withV (evT L x) fun a => PureW P (Instr.extract a i) fun v => κ v S
  | .call c => withL (evL L c.args.toList) fun vs =>
    match c.callee with
    | .value f => withV (evT L f) fun fv => FnW P fv vs S κ
    | .builtin b => BuiltinW P b c.argTypes t vs S κ
    | .invoke _ _ => False
  | _ => False

theorem withV_out {L : Env} {x : Operand} {κ : Value → Prop} (h : withV (evT L x) κ) : ∃ v, evT L x = some v ∧ κ v := by
  cases hx : evT L x with
  | none => rw [hx] at h; exact h.elim
  | some v => rw [hx] at h; exact ⟨v, rfl, h⟩
theorem withO_out {L : Env} {x : Option Operand} {ρ : Operand → Value} (hρ : ∀ x v, evT L x = some v → ρ x = v) {κ : Option Value → Prop} (h : withO (evO L x) κ) : κ (x.map ρ) := by
  cases x with
  | none => exact h
  | some x =>
    simp only [evO] at h
    cases hx : evT L x with
    | none => rw [hx] at h; exact h.elim
    | some v => rw [hx] at h; simp only [Option.map_some, hρ x v hx]; exact h
theorem evL_out {L : Env} {ρ : Operand → Value} (hρ : ∀ x v, evT L x = some v → ρ x = v) : ∀ (l : List Operand) (vs : List Value), evL L l = some vs → l.map ρ = vs
  | [], vs, h => by simp only [evL] at h; cases h; rfl
  | x :: l, vs, h => by
    simp only [evL] at h
    cases hx : evT L x with
    | none => simp [hx] at h
    | some v =>
      cases hl : evL L l with
      | none => simp [hx, hl] at h
      | some us =>
        simp only [hx, hl, Option.some.injEq] at h
        subst h
        simp [hρ x v hx, evL_out hρ l us hl]
theorem evP_out {L : Env} {ρ : Operand → Value} (hρ : ∀ x v, evT L x = some v → ρ x = v) : ∀ (l : List (Nat × Operand)) (vs : List (Nat × Value)), evP L l = some vs → (l.map fun (i, x) => (i, ρ x)) = vs
  | [], vs, h => by simp only [evP] at h; cases h; rfl
  | (i, x) :: l, vs, h => by
    simp only [evP] at h
    cases hx : evT L x with
    | none => simp [hx] at h
    | some v =>
      cases hl : evP L l with
      | none => simp [hx, hl] at h
      | some us =>
        simp only [hx, hl, Option.some.injEq] at h
        subst h
        simp [hρ x v hx, evP_out hρ l us hl]

theorem step_next {o : Oper} {L : Env} {S : State} {κ : Value → State → Prop} {ρ : Operand → Value} (hρ : ∀ x v, evT L x = some v → ρ x = v)
    (h : stepW P o.op o.type L S κ) : NextW P (execOp ρ o) S κ := by
  obtain ⟨dst, op, t, pos, after, guard⟩ := o
  have pureN : ∀ {v : Value} {S : State}, κ v S → NextW P (pure (.value v)) S κ := fun {v S} hk w hw => ⟨.value v, w, rfl, S, Ext.refl w, hw, hk⟩
  cases op <;> simp only [stepW] at h <;> simp only [execOp]
  case move x => obtain ⟨v, hx, h⟩ := withV_out h; rw [hρ x v hx]; exact pureN h
  case assign x => obtain ⟨v, hx, h⟩ := withV_out h; rw [hρ x v hx]; exact pureN h
  case pick c a b =>
    obtain ⟨v, hx, h⟩ := withV_out h
    cases v <;> first | exact h.elim | skip
    rename_i g
    simp only [withB] at h
    obtain ⟨u, hu, h⟩ := withV_out h
    have hu' := hρ _ _ hu
    rw [hρ c _ hx]
    intro w hw
    refine ⟨.value u, w, ?_, S, Ext.refl w, hw, h⟩
    cases g <;> simp_all [asBool, Sem.run_bind, Result.andThen]
  case alloc e => exact h.next
  case box e x => obtain ⟨v, hx, h⟩ := withV_out h; rw [hρ x v hx]; exact h.next
  case build u ps =>
    cases hp : evP L ps.toList with
    | none => rw [hp] at h; exact h.elim
    | some vs =>
      rw [hp] at h
      have e : (ps.map fun (i, x) => (i, ρ x)) = vs.toArray := Array.ext' (by simpa using evP_out hρ _ _ hp)
      rw [e]; exact (PureW.read h S).val.next
  case buildSlice u n ps =>
    cases hp : evP L ps.toList with
    | none => rw [hp] at h; exact h.elim
    | some vs =>
      rw [hp] at h
      have e : (ps.map fun (i, x) => (i, ρ x)) = vs.toArray := Array.ext' (by simpa using evP_out hρ _ _ hp)
      rw [e]; exact h.next
  case load u x => obtain ⟨v, hx, h⟩ := withV_out h; rw [hρ x v hx]; exact h.val.next
  case store u x y =>
    obtain ⟨v, hx, h⟩ := withV_out h; obtain ⟨v', hy, h⟩ := withV_out h
    rw [hρ x v hx, hρ y v' hy]; exact h.next
  case nilCheck x =>
    obtain ⟨v, hx, h⟩ := withV_out h; rw [hρ x v hx]
    unfold NilW at h
    split at h
    · exact pureN h
    · exact pureN h
    · exact pureN h
    · exact h.elim
  case binOp o u x y yt =>
    obtain ⟨v, hx, h⟩ := withV_out h; obtain ⟨v', hy, h⟩ := withV_out h
    rw [hρ x v hx, hρ y v' hy]; exact (PureW.read h S).val.next
  case unOp o u x => obtain ⟨v, hx, h⟩ := withV_out h; rw [hρ x v hx]; exact (PureW.read h S).val.next
  case convert s d x =>
    obtain ⟨v, hx, h⟩ := withV_out h; rw [hρ x v hx]
    unfold ConvW at h
    split at h
    · exact (PureW.read h S).val.next
    · exact h.next
  case sliceToArrayPointer u x => obtain ⟨v, hx, h⟩ := withV_out h; rw [hρ x v hx]; exact (PureW.read h S).val.next
  case makeInterface u x => obtain ⟨v, hx, h⟩ := withV_out h; rw [hρ x v hx]; exact (PureW.read h S).val.next
  case makeFunc fn a b =>
    cases ha : evL L a.toList with
    | none => rw [ha] at h; exact h.elim
    | some va =>
      rw [ha] at h
      simp only [withL] at h
      cases hb : evL L b.toList with
      | none => rw [hb] at h; exact h.elim
      | some vb =>
        rw [hb] at h
        have ea : a.map ρ = va.toArray := Array.ext' (by simpa using evL_out hρ _ _ ha)
        have eb : b.map ρ = vb.toArray := Array.ext' (by simpa using evL_out hρ _ _ hb)
        rw [ea, eb]
        exact ReadW.val (m := Instr.makeFunc fn va.toArray vb.toArray) ⟨_, fun w _ => rfl, h⟩ |>.next
  case makeMap u r => exact (withO_out (κ := fun v => ValW P (Instr.makeMap u v) S κ) hρ h).next
  case makeSlice u x y =>
    obtain ⟨v, hx, h⟩ := withV_out h; obtain ⟨v', hy, h⟩ := withV_out h
    rw [hρ x v hx, hρ y v' hy]; exact h.next
  case slice u x lo hi mx =>
    obtain ⟨v, hx, h⟩ := withV_out h; rw [hρ x v hx]
    have h := withO_out hρ h
    have h := withO_out hρ h
    have h := withO_out hρ h
    exact (PureW.read h S).val.next
  case fieldAddr u x f => obtain ⟨v, hx, h⟩ := withV_out h; rw [hρ x v hx]; exact (PureW.read h S).val.next
  case field u x f => obtain ⟨v, hx, h⟩ := withV_out h; rw [hρ x v hx]; exact (PureW.read h S).val.next
  case indexAddr u x y =>
    obtain ⟨v, hx, h⟩ := withV_out h; obtain ⟨v', hy, h⟩ := withV_out h
    rw [hρ x v hx, hρ y v' hy]; exact (PureW.read h S).val.next
  case index u x y =>
    obtain ⟨v, hx, h⟩ := withV_out h; obtain ⟨v', hy, h⟩ := withV_out h
    rw [hρ x v hx, hρ y v' hy]; exact (PureW.read h S).val.next
  case lookup u x y ok =>
    obtain ⟨v, hx, h⟩ := withV_out h; obtain ⟨v', hy, h⟩ := withV_out h
    rw [hρ x v hx, hρ y v' hy]; exact h.val.next
  case mapUpdate u m k x =>
    obtain ⟨v, hx, h⟩ := withV_out h; obtain ⟨v', hy, h⟩ := withV_out h; obtain ⟨v'', hz, h⟩ := withV_out h
    rw [hρ _ v hx, hρ _ v' hy, hρ _ v'' hz]; exact h.next
  case insert u m k x =>
    obtain ⟨v, hx, h⟩ := withV_out h; obtain ⟨v', hy, h⟩ := withV_out h; obtain ⟨v'', hz, h⟩ := withV_out h
    rw [hρ _ v hx, hρ _ v' hy, hρ _ v'' hz]; exact h.next
  case mapEntry u m k =>
    obtain ⟨v, hx, h⟩ := withV_out h; obtain ⟨v', hy, h⟩ := withV_out h
    rw [hρ _ v hx, hρ _ v' hy]; exact h.next
  case entryStore u m k x =>
    obtain ⟨v, hx, h⟩ := withV_out h; obtain ⟨v', hy, h⟩ := withV_out h; obtain ⟨v'', hz, h⟩ := withV_out h
    rw [hρ _ v hx, hρ _ v' hy, hρ _ v'' hz]; exact h.next
  case range u x => obtain ⟨v, hx, h⟩ := withV_out h; rw [hρ x v hx]; exact h.next
  case next it s => obtain ⟨v, hx, h⟩ := withV_out h; rw [hρ _ v hx]; exact h.next
  case entry it => obtain ⟨v, hx, h⟩ := withV_out h; rw [hρ _ v hx]; exact h.next
  case typeAssert x u v ok => obtain ⟨v, hx, h⟩ := withV_out h; rw [hρ _ v hx]; exact (PureW.read h S).val.next
  case extract x i => obtain ⟨v, hx, h⟩ := withV_out h; rw [hρ _ v hx]; exact (PureW.read h S).val.next
  case call c =>
    cases hp : evL L c.args.toList with
    | none => rw [hp] at h; exact h.elim
    | some vs =>
      rw [hp] at h
      simp only [withL] at h
      have e : c.args.map ρ = vs.toArray := Array.ext' (by simpa using evL_out hρ _ _ hp)
      unfold resolve
      rw [e]
      cases hc : c.callee with
      | value f =>
        rw [hc] at h
        obtain ⟨fv, hf, h⟩ := withV_out h
        simp only [hρ f fv hf]
        exact h.next
      | builtin b =>
        rw [hc] at h
        exact BuiltinW.next h
      | invoke r m => rw [hc] at h; exact h.elim
  all_goals exact h.elim

end Go.Ost

/- The rules of statements and of functions over chunks of memory. Conditions: none. -/
set_option linter.unusedSimpArgs false
set_option linter.unusedVariables false
namespace Go.Ost
open Go

variable {P : Program} {n : Nat} {ro : Option Nat}

abbrev Cont := Exit → List Nat → Env → State → Prop

def KQ (n : Nat) (K : Cont) (w : World) : Exit → Act → World → Prop :=
  fun e a' w' => ∃ D L S, K e D L S ∧ Agree n L D a' ∧ Ext w w' ∧ Hold w' S

/-- From these marks, this knowledge of the temporaries, these chunks the code comes to where K holds. -/
structure CodeW (P : Program) (n : Nat) (ro : Option Nat) (c : Code) (K : Cont) (D : List Nat) (L : Env) (S : State) : Prop where
  out : ∀ a w, Agree n L D a → Hold w S → c.wpIn (FW ro) 0 P (KQ n K w) a w

theorem KQ.ext {K : Cont} {w w' : World} (h : Ext w w') {e : Exit} {a : Act} {v : World} (hq : KQ n K w' e a v) : KQ n K w e a v :=
  let ⟨D, L, S, k, ag, ex, ho⟩ := hq; ⟨D, L, S, k, ag, h.trans ex, ho⟩

theorem code_less {c : Code} {K : Cont} {D : List Nat} {L L' : Env} {S S' : State} (hL : Knows L' L) (hS : Among S' S) (h : CodeW P n ro c K D L' S') : CodeW P n ro c K D L S :=
  ⟨fun a w ha hw => h.out a w (ha.less hL) (hS.hold hw)⟩

theorem code_mono {c : Code} {K K' : Cont} {D : List Nat} {L : Env} {S : State} (h : CodeW P n ro c K D L S) (hk : ∀ e D L S, K e D L S → K' e D L S) : CodeW P n ro c K' D L S :=
  ⟨fun a w ha hw => wpIn_mono (h.out a w ha hw) fun _ _ _ ⟨D, L, S, k, r⟩ => ⟨D, L, S, hk _ _ _ _ k, r⟩⟩

theorem code_skip {K : Cont} {D : List Nat} {L : Env} {S : State} (h : K .normal D L S) : CodeW P n ro .skip K D L S :=
  ⟨fun _ w ha hw => wpIn_skip ⟨D, L, S, h, ha, Ext.refl w, hw⟩⟩
theorem code_label {K : Cont} {D : List Nat} {L : Env} {S : State} {l : Nat} (h : K .normal D L S) : CodeW P n ro (.label l) K D L S :=
  ⟨fun _ w ha hw => wpIn_label ⟨D, L, S, h, ha, Ext.refl w, hw⟩⟩
theorem code_exit {K : Cont} {D : List Nat} {L : Env} {S : State} {id : Nat} (h : K (.exit id) D L S) : CodeW P n ro (.exit id) K D L S :=
  ⟨fun _ w ha hw => wpIn_exit ⟨D, L, S, h, ha, Ext.refl w, hw⟩⟩
theorem code_ret {K : Cont} {D : List Nat} {L : Env} {S : State} (h : K .ret D L S) : CodeW P n ro .ret K D L S :=
  ⟨fun _ w ha hw => wpIn_ret ⟨D, L, S, h, ha, Ext.refl w, hw⟩⟩

def Cont.then (next : List Nat → Env → State → Prop) (K : Cont) : Cont
  | .normal, D, L, S => next D L S
  | e, D, L, S => K e D L S

theorem code_seq {x y : Code} {K : Cont} {D : List Nat} {L : Env} {S : State} (h : CodeW P n ro x (Cont.then (CodeW P n ro y K) K) D L S) : CodeW P n ro (.seq x y) K D L S :=
  ⟨fun a w ha hw => wpIn_seq (wpIn_mono (h.out a w ha hw) fun e a' w' hq => by
    obtain ⟨D, L, S, k, ag, ex, ho⟩ := hq
    cases e <;> first | exact wpIn_mono (CodeW.out k a' w' ag ho) (fun _ _ _ h => h.ext ex) | exact ⟨D, L, S, k, ag, ex, ho⟩)⟩
/-- The same, what comes next under a name. -/
theorem code_seq_k {x y : Code} {K : Cont} {D : List Nat} {L : Env} {S : State}
    (h : ∀ N : List Nat → Env → State → Prop, (∀ D L S, CodeW P n ro y K D L S → N D L S) → CodeW P n ro x (Cont.then N K) D L S) : CodeW P n ro (.seq x y) K D L S :=
  code_seq (h _ fun _ _ _ h => h)

theorem code_cond {c : Operand} {x y : Code} {K : Cont} {D : List Nat} {L : Env} {S : State} {b : Bool} (hc : evT L c = some (.bool b))
    (ht : b = true → CodeW P n ro x K D L S) (hf : b = false → CodeW P n ro y K D L S) : CodeW P n ro (.cond c x y) K D L S :=
  ⟨fun a w ha hw => wpIn_cond_split (ha.ev hc) (fun h => (ht h).out a w ha hw) (fun h => (hf h).out a w ha hw)⟩
theorem code_true {c : Operand} {x y : Code} {K : Cont} {D : List Nat} {L : Env} {S : State} (hc : evT L c = some (.bool true))
    (ht : CodeW P n ro x K D L S) : CodeW P n ro (.cond c x y) K D L S := code_cond hc (fun _ => ht) (fun h => by cases h)
theorem code_false {c : Operand} {x y : Code} {K : Cont} {D : List Nat} {L : Env} {S : State} (hc : evT L c = some (.bool false))
    (hf : CodeW P n ro y K D L S) : CodeW P n ro (.cond c x y) K D L S := code_cond hc (fun h => by cases h) (fun _ => hf)

def Cont.block (id : Nat) (K : Cont) : Cont
  | .exit id', D, L, S => if id' = id then K .normal D L S else K (.exit id') D L S
  | e, D, L, S => K e D L S

theorem code_block {id : Nat} {c : Code} {K : Cont} {D : List Nat} {L : Env} {S : State} (h : CodeW P n ro c (K.block id) D L S) : CodeW P n ro (.block id c) K D L S :=
  ⟨fun a w ha hw => wpIn_block (wpIn_mono (h.out a w ha hw) fun e a' w' hq => by
    obtain ⟨D, L, S, k, r⟩ := hq
    cases e <;> simp only [Exit.inBlock] <;> first | exact ⟨D, L, S, k, r⟩ | skip
    simp only [Cont.block] at k
    split at k
    · rw [if_pos ‹_›]; exact ⟨D, L, S, k, r⟩
    · rw [if_neg ‹_›]; exact ⟨D, L, S, k, r⟩)⟩

def Cont.noGoto (K : Cont) : Cont
  | .goto _, _, _, _ => False
  | e, D, L, S => K e D L S

/-- A piece of code that holds labels, to none of which anything jumps. -/
theorem code_scope {c : Code} {K : Cont} {D : List Nat} {L : Env} {S : State} (h : CodeW P n ro c K.noGoto D L S) : CodeW P n ro (.scope c) K D L S := by
  refine ⟨fun a w ha hw b k cs hro hb hr => ?_⟩
  obtain ⟨e, a₁, w₁, hq, harr⟩ := h.out a w ha hw b (.inScope c :: k) cs hro hb hr
  have s0 : step P (lone (b.atR a (.code (.scope c) :: k)) cs w) = .next (lone (b.atR a (.code c :: .inScope c :: k)) cs w) :=
    step_lone_go (by simp [stepG, stepG.exec, Frame.atR])
  have s1 : ∀ (a : Act) (w : World), step P (lone (b.atR a (.inScope c :: k)) cs w) = .next (lone (b.atR a k) cs w) :=
    fun a w => step_lone_go (by simp [stepG, stepG.exec, Frame.atR])
  have f0 : (lone (b.atR a (.code (.scope c) :: k)) cs w).fenced P (FW ro) := fenced_calm hb hr rfl
  obtain ⟨D, L, S, hk, r⟩ := hq
  cases e with
  | normal => exact ⟨.normal, a₁, w₁, ⟨D, L, S, hk, r⟩, .head f0 s0 (StepsIn.trans harr (.one (fenced_calm (fr := b.atR a₁ (.inScope c :: k)) hb hr rfl) (s1 a₁ w₁)))⟩
  | exit id =>
    refine ⟨.exit id, a₁, w₁, ⟨D, L, S, hk, r⟩, ?_⟩
    have e2 : exitTo id (.inScope c :: k) = exitTo id k := by simp [exitTo]
    refine ArrivesIn.of_steps (.one f0 s0) ?_
    unfold ArrivesIn at harr ⊢
    simp only at harr ⊢
    rw [e2] at harr
    exact harr
  | goto l => exact hk.elim
  | ret => exact ⟨.ret, a₁, w₁, ⟨D, L, S, hk, r⟩, ArrivesIn.of_steps (.one f0 s0) harr⟩
  | panic ch => exact ⟨.panic ch, a₁, w₁, ⟨D, L, S, hk, r⟩, ArrivesIn.of_steps (.one f0 s0) harr⟩
  | outgrown => exact ⟨.outgrown, a₁, w₁, ⟨D, L, S, hk, r⟩, ArrivesIn.of_steps (e := .outgrown) (a := a₁) (w := w₁) (b := b) (k := k) (.one f0 s0) harr⟩

/-- The loop goes round once more. -/
structure Again (I : Nat → List Nat → Env → State → Prop) (m : Nat) (D : List Nat) (L : Env) (S : State) : Prop where
  out : ∃ m' L'' S'', m' < m ∧ I m' D L'' S'' ∧ Knows L'' L ∧ Among S'' S

/-- A loop: what holds at its head, by a number that each round lowers. -/
theorem code_loop {c : Code} {K : Cont} {D : List Nat} {L : Env} {S : State} (I : Nat → List Nat → Env → State → Prop) (h0 : ∃ m L0 S0, I m D L0 S0 ∧ Knows L0 L ∧ Among S0 S)
    (round : ∀ m D L S, I m D L S → CodeW P n ro c (Cont.then (Again I m) K) D L S) : CodeW P n ro (.loop c) K D L S := by
  refine ⟨fun a w ha hw b k cs hro hb hr => ?_⟩
  have key : ∀ m (a : Act) (w : World) D L S, I m D L S → Agree n L D a → Hold w S →
      ∃ e a' w', KQ n K w e a' w' ∧ ArrivesIn (Machine.fenced P (FW ro)) P (lone (b.atR a (.code c :: .inLoop c :: k)) cs w) b k cs e a' w' := by
    intro m
    induction m using Nat.strongRecOn with
    | _ m ih =>
      intro a w D L S hI ha hw
      obtain ⟨e, a₁, w₁, hq, harr⟩ := (round m D L S hI).out a w ha hw b (.inLoop c :: k) cs hro hb hr
      obtain ⟨D₁, L₁, S₁, hk, hag, hex, hho⟩ := hq
      cases e with
      | normal =>
        obtain ⟨m', L'', S'', hlt, hI', hL, hS⟩ := Again.out hk
        obtain ⟨e₂, a₂, w₂, hq₂, harr₂⟩ := ih m' hlt a₁ w₁ D₁ L'' S'' hI' (hag.less hL) (hS.hold hho)
        exact ⟨e₂, a₂, w₂, hq₂.ext hex, .of_steps (StepsIn.trans harr (.one (fenced_calm (fr := b.atR a₁ (.inLoop c :: k)) hb hr rfl) stepR_inLoop)) harr₂⟩
      | exit id => exact ⟨_, a₁, w₁, ⟨D₁, L₁, S₁, hk, hag, hex, hho⟩, .pass (x := .inLoop c) rfl (fun _ _ => .inl (by simp)) harr⟩
      | goto l => exact ⟨_, a₁, w₁, ⟨D₁, L₁, S₁, hk, hag, hex, hho⟩, .pass (x := .inLoop c) rfl (fun _ _ => .inl (by simp)) harr⟩
      | ret => exact ⟨_, a₁, w₁, ⟨D₁, L₁, S₁, hk, hag, hex, hho⟩, .pass (x := .inLoop c) rfl (fun _ _ => .inl (by simp)) harr⟩
      | panic ch => exact ⟨_, a₁, w₁, ⟨D₁, L₁, S₁, hk, hag, hex, hho⟩, .pass (x := .inLoop c) rfl (fun _ _ => .inl (by simp)) harr⟩
      | outgrown => exact ⟨_, a₁, w₁, ⟨D₁, L₁, S₁, hk, hag, hex, hho⟩, .pass (x := .inLoop c) rfl (fun _ _ => .inl (by simp)) harr⟩
  obtain ⟨m, L0, S0, h0, hL0, hS0⟩ := h0
  obtain ⟨e, a', w', hq, harr⟩ := key m a w D L0 S0 h0 (ha.less hL0) (hS0.hold hw)
  exact ⟨e, a', w', hq, .of_steps (.one (fenced_calm hb hr rfl) stepR_loop) harr⟩

/-! ### Regions -/

/-- What an operation's guard says: carried out or passed over. -/
def guardW (ops : Array Oper) (o : Oper) (L : Env) (A B : Prop) : Prop :=
  match o.guard with
  | none => A
  | some (j, want) =>
    match (ops[j]?).bind (·.dst) with
    | none => False
    | some d => withV (lookT L d) fun v => match v with | .bool b => if b = want then A else B | .tuple _ => B | _ => False

/-- The operations of a region, one behind the other. -/
def runW (P : Program) (n : Nat) (ops : Array Oper) (K : Env → State → Prop) : List Oper → Env → State → Prop
  | [], L, S => K L S
  | o :: l, L, S => guardW ops o L (stepW P o.op o.type L S fun v S' => runW P n ops K l (putT n o.dst v L) S') (runW P n ops K l (putT n o.dst undef L) S)

theorem stepW_mono {op : Op} {t : TypeId} {L : Env} {S : State} {κ κ' : Value → State → Prop} (hk : ∀ v S, κ v S → κ' v S) (h : stepW P op t L S κ) : stepW P op t L S κ' := by
  have withV_mono : ∀ {x : Option Value} {p q : Value → Prop}, (∀ v, p v → q v) → withV x p → withV x q := fun {x p q} hpq h => by cases x <;> first | exact h.elim | exact hpq _ h
  have withL_mono : ∀ {x : Option (List Value)} {p q : List Value → Prop}, (∀ v, p v → q v) → withL x p → withL x q := fun {x p q} hpq h => by cases x <;> first | exact h.elim | exact hpq _ h
  have withO_mono : ∀ {x : Option (Option Value)} {p q : Option Value → Prop}, (∀ v, p v → q v) → withO x p → withO x q := fun {x p q} hpq h => by cases x <;> first | exact h.elim | exact hpq _ h
  have withP_mono : ∀ {x : Option (List (Nat × Value))} {p q : List (Nat × Value) → Prop}, (∀ v, p v → q v) → withP x p → withP x q := fun {x p q} hpq h => by cases x <;> first | exact h.elim | exact hpq _ h
  have pure_mono : ∀ {m : Sem Value} {p q : Value → Prop}, (∀ v, p v → q v) → PureW P m p → PureW P m q := fun hpq ⟨v, a, b⟩ => ⟨v, a, hpq _ b⟩
  have read_mono : ∀ {m : Sem Value} {S : State} {p q : Value → Prop}, (∀ v, p v → q v) → ReadW P m S p → ReadW P m S q := fun hpq ⟨v, a, b⟩ => ⟨v, a, hpq _ b⟩
  have val_mono : ∀ {m : Sem Value} {S : State}, ValW P m S κ → ValW P m S κ' := fun h => ⟨fun w hw => let ⟨v, w', S', a, b, c, d⟩ := h.out w hw; ⟨v, w', S', a, b, c, hk _ _ d⟩⟩
  have unit_mono : ∀ {m : Sem Unit} {S : State}, UnitW P m S (κ undef) → UnitW P m S (κ' undef) := fun h => ⟨fun w hw => let ⟨w', S', a, b, c, d⟩ := h.out w hw; ⟨w', S', a, b, c, hk _ _ d⟩⟩
  have ends_mono : ∀ {w : World} (e : Ending) (w' : World), EndsW w κ e w' → EndsW w κ' e w' := fun e w' ⟨v, S', a, b, c, d⟩ => ⟨v, S', a, b, c, hk _ _ d⟩
  have nil_mono : ∀ {v : Value} {p q : Value → Prop}, (∀ v, p v → q v) → NilW v p → NilW v q := fun {v p q} hpq h => by
    unfold NilW at *; split at h <;> first | exact hpq _ h | exact h.elim
  have k1 : ∀ (S : State) v, κ v S → κ' v S := fun S v => hk v S
  cases op <;> simp only [stepW] at h ⊢
  case move x => exact withV_mono (k1 _) h
  case assign x => exact withV_mono (k1 _) h
  case pick c a b => exact withV_mono (fun v hv => by cases v <;> first | exact hv.elim | exact withV_mono (k1 _) hv) h
  case alloc e => exact val_mono h
  case box e x => exact withV_mono (fun v => val_mono) h
  case build u ps => exact withP_mono (fun v => pure_mono (k1 _)) h
  case buildSlice u n ps => exact withP_mono (fun v => val_mono) h
  case load u x => exact withV_mono (fun v => read_mono (k1 _)) h
  case store u x y => exact withV_mono (fun v => withV_mono fun v => unit_mono) h
  case nilCheck x => exact withV_mono (fun v => nil_mono (k1 _)) h
  case binOp o u x y yt => exact withV_mono (fun v => withV_mono fun v => pure_mono (k1 _)) h
  case unOp o u x => exact withV_mono (fun v => pure_mono (k1 _)) h
  case convert s d x =>
    refine withV_mono (fun v hv => ?_) h
    unfold ConvW at *
    split at hv
    · exact pure_mono (k1 _) hv
    · exact val_mono hv
  case sliceToArrayPointer u x => exact withV_mono (fun v => pure_mono (k1 _)) h
  case makeInterface u x => exact withV_mono (fun v => pure_mono (k1 _)) h
  case makeFunc fn a b => exact withL_mono (fun v => withL_mono fun v => hk _ _) h
  case makeMap u r => exact withO_mono (fun v => val_mono) h
  case makeSlice u x y => exact withV_mono (fun v => withV_mono fun v => val_mono) h
  case slice u x lo hi mx => exact withV_mono (fun v => withO_mono fun v => withO_mono fun v => withO_mono fun v => pure_mono (k1 _)) h
  case fieldAddr u x f => exact withV_mono (fun v => pure_mono (k1 _)) h
  case field u x f => exact withV_mono (fun v => pure_mono (k1 _)) h
  case indexAddr u x y => exact withV_mono (fun v => withV_mono fun v => pure_mono (k1 _)) h
  case index u x y => exact withV_mono (fun v => withV_mono fun v => pure_mono (k1 _)) h
  case lookup u x y ok => exact withV_mono (fun v => withV_mono fun v => read_mono (k1 _)) h
  case mapUpdate u m k x => exact withV_mono (fun v => withV_mono fun v => withV_mono fun v => unit_mono) h
  case insert u m k x => exact withV_mono (fun v => withV_mono fun v => withV_mono fun v => unit_mono) h
  case mapEntry u m k => exact withV_mono (fun v => withV_mono fun v => val_mono) h
  case entryStore u m k x => exact withV_mono (fun v => withV_mono fun v => withV_mono fun v => unit_mono) h
  case range u x => exact withV_mono (fun v => val_mono) h
  case next it s => exact withV_mono (fun v => val_mono) h
  case entry it => exact withV_mono (fun v => val_mono) h
  case typeAssert x u v ok => exact withV_mono (fun v => pure_mono (k1 _)) h
  case extract x i => exact withV_mono (fun v => pure_mono (k1 _)) h
  case call c =>
    refine withL_mono (fun vs hv => ?_) h
    cases hc : c.callee with
    | value f =>
      simp only [hc] at hv ⊢
      refine withV_mono (fun fv hf => ?_) hv
      unfold FnW at *
      split at hf
      · exact ⟨hf.out.mono hk⟩
      · refine ⟨fun w hw => ?_⟩
        obtain ⟨fn, tmps, asg, bd, hr, hR⟩ := hf.out w hw
        exact ⟨fn, tmps, asg, bd, hr, hR.mono ends_mono⟩
      · exact hf.elim
    | builtin b =>
      simp only [hc] at hv ⊢
      unfold BuiltinW at *
      split at hv <;> first | exact hv.elim | exact pure_mono (k1 _) hv | exact read_mono (k1 _) hv | exact val_mono hv
    | invoke r m => simp only [hc] at hv
  all_goals exact h.elim

theorem upon_next {o : Oper} {a : Act} {w : World} {nx : Act → World → Prop} {Q : Exit → Act → World → Prop} {S : State} {κ : Value → State → Prop} {m : Sem Next}
    (h : NextW P m S κ) (hw : Hold w S) (hk : ∀ v S' w', κ v S' → Ext w w' → Hold w' S' → nx (a.put o.dst v) w') : o.uponIn (FW ro) 0 P a nx Q (m.run P w) := by
  obtain ⟨r, w', hr, hg⟩ := h w hw
  rw [hr]
  cases r <;> simp only [GoesW] at hg
  case value v => obtain ⟨S', he, hh, k⟩ := hg; exact hk v S' w' k he hh
  case skip => obtain ⟨S', he, hh, k⟩ := hg; exact hk undef S' w' k he hh
  case enter f args =>
    refine ⟨fun h => (by cases h), hg.mono fun e w'' he => ?_⟩
    obtain ⟨v, S', rfl, he, hh, k⟩ := he
    exact hk v S' w'' k he hh
  case round l f tmps as bd =>
    refine ⟨fun h => (by cases h), hg.mono fun e w'' he => ?_⟩
    obtain ⟨v, S', rfl, he, hh, k⟩ := he
    exact hk v S' w'' k he hh

theorem step_not_defer {op : Op} {t : TypeId} {L : Env} {S : State} {κ : Value → State → Prop} (h : stepW P op t L S κ) : ∀ c, op ≠ .defer c := by
  intro c e; subst e; exact h

/-- One operation, as the walk has it. -/
theorem oper_in {o : Oper} {a : Act} {w : World} {nx : Act → World → Prop} {Q : Exit → Act → World → Prop} {L : Env} {D : List Nat} {S : State} {κ : Value → State → Prop}
    (h : stepW P o.op o.type L S κ) (ha : Agree n L D a) (hw : Hold w S) (hk : ∀ v S' w', κ v S' → Ext w w' → Hold w' S' → nx (a.put o.dst v) w') : o.wpIn (FW ro) 0 P a w nx Q := by
  refine ⟨fun _ _ => trivial, ?_⟩
  rw [Oper.semAt_eq _ _ _ (step_not_defer h)]
  exact upon_next (step_next (fun x v hx => ha.ev hx) h) hw hk

theorem guard_cases {ops : Array Oper} {o : Oper} {L : Env} {D : List Nat} {a : Act} {A B : Prop} (ha : Agree n L D a) (h : guardW ops o L A B) :
    (Region.wanted o (yielded ops a.tmps) = true ∧ A) ∨ (Region.wanted o (yielded ops a.tmps) = false ∧ B) := by
  unfold guardW at h
  cases hg : o.guard with
  | none => rw [hg] at h; exact .inl ⟨by simp [Region.wanted, hg], h⟩
  | some g =>
    obtain ⟨j, want⟩ := g
    rw [hg] at h
    simp only at h
    cases hd : (ops[j]?).bind (·.dst) with
    | none => rw [hd] at h; exact h.elim
    | some d =>
      rw [hd] at h
      simp only at h
      cases hv : lookT L d with
      | none => rw [hv] at h; exact h.elim
      | some v =>
        rw [hv] at h
        have ht := ha.get d v hv
        cases v <;> first | exact h.elim | skip
        case bool b =>
          simp only [withV] at h
          split at h
          · subst_vars; exact .inl ⟨by simp [Region.wanted, hg, yielded, hd, ht], h⟩
          · rename_i hne; exact .inr ⟨by simp [Region.wanted, hg, yielded, hd, ht, hne], h⟩
        case tuple vs => exact .inr ⟨by simp [Region.wanted, hg, yielded, hd, ht], h⟩

theorem run_in {ops : Array Oper} {K : Cont} {D : List Nat} : ∀ (l : List Oper) (L : Env) (S : State), runW P n ops (K .normal D) l L S →
    ∀ (a : Act) (w : World), Agree n L D a → Hold w S → wpListIn (FW ro) 0 P ops (KQ n K w) l a w := by
  intro l
  induction l with
  | nil => intro L S h a w ha hw; exact ⟨D, L, S, h, ha, Ext.refl w, hw⟩
  | cons o l ih =>
    intro L S h a w ha hw
    have mono : ∀ {w w' : World} {a : Act} {l : List Oper}, Ext w w' → wpListIn (FW ro) 0 P ops (KQ n K w') l a w' → wpListIn (FW ro) 0 P ops (KQ n K w) l a w' := by
      intro w w' a l he h
      have hq : ∀ e a v, KQ n K w' e a v → KQ n K w e a v := fun _ _ _ h => h.ext he
      clear ih
      have gen : ∀ (l : List Oper) (a : Act) (v : World), wpListIn (FW ro) 0 P ops (KQ n K w') l a v → wpListIn (FW ro) 0 P ops (KQ n K w) l a v := by
        intro l
        induction l with
        | nil => intro a v h; exact hq _ _ _ h
        | cons o l ih =>
          intro a v h
          simp only [wpListIn] at h ⊢
          split at h
          · rw [if_pos ‹_›]
            refine ⟨h.1, ?_⟩
            have h2 := h.2
            generalize (o.semAt (FW ro).round a.eval).run P v = r at *
            cases r with
            | ok x v' =>
              cases x <;> simp only [Oper.uponIn] at h2 ⊢ <;>
                first
                  | exact ih _ _ h2
                  | exact ⟨h2.1, CallsIn.mono h2.2 (fun e w'' he => by cases e <;> first | exact ih _ _ he | exact hq _ _ _ he | exact (let ⟨a, w, q⟩ := he; ⟨a, w, hq _ _ _ q⟩))⟩
                  | exact ⟨h2.1, RowsIn.mono h2.2 (fun _ _ he => ih _ _ he)⟩
                  | exact ⟨h2.1, RoundIn.mono h2.2 (fun e w'' he => by cases e <;> first | exact ih _ _ he | exact hq _ _ _ he | exact (let ⟨a, w, q⟩ := he; ⟨a, w, hq _ _ _ q⟩))⟩
            | halt x v' => cases x <;> simp only [Oper.uponIn] at h2 ⊢ <;> exact hq _ _ _ h2
          · rw [if_neg ‹_›]
            exact ⟨h.1, ih _ _ h.2⟩
      exact gen l a w' h
    simp only [runW] at h
    simp only [wpListIn]
    rcases guard_cases ha h with ⟨hw1, h⟩ | ⟨hw1, h⟩
    · rw [if_pos hw1]
      exact oper_in h ha hw fun v S' w' hk he hh => mono he (ih _ _ hk _ _ (ha.put _ _) hh)
    · rw [if_neg (by simp [hw1])]
      exact ⟨fun _ _ => trivial, ih _ _ h _ _ (ha.put _ _) hw⟩

theorem code_region {id : Nat} {ops : Array Oper} {K : Cont} {D : List Nat} {L : Env} {S : State} (h : runW P n ops (K .normal D) ops.toList L S) :
    CodeW P n ro (.region id ops false) K D L S :=
  ⟨fun a w ha hw => wpIn_region_list (run_in _ _ _ h a w ha hw)⟩

/-- One operation, what comes behind it under a name. -/
theorem run_cons {ops : Array Oper} {K : Env → State → Prop} {o : Oper} {l : List Oper} {L : Env} {S : State}
    (h : ∀ N : Env → State → Prop, (∀ L S, runW P n ops K l L S → N L S) → guardW ops o L (stepW P o.op o.type L S fun v S' => N (putT n o.dst v L) S') (N (putT n o.dst undef L) S)) :
    runW P n ops K (o :: l) L S := h _ fun _ _ h => h
theorem run_nil {ops : Array Oper} {K : Env → State → Prop} {L : Env} {S : State} (h : K L S) : runW P n ops K [] L S := h
theorem code_reg {id : Nat} {l : List Oper} {K : Cont} {D : List Nat} {L : Env} {S : State} (h : runW P n l.toArray (K .normal D) l L S) :
    CodeW P n ro (.region id l.toArray false) K D L S := code_region (by simpa using h)

end Go.Ost

/- Functions, their contracts, and ranges over functions, over chunks of memory. Conditions: none. -/
set_option linter.unusedSimpArgs false
set_option linter.unusedVariables false
namespace Go.Ost
open Go

variable {P : Program} {n : Nat} {ro : Option Nat}

def callable (P : Program) (f : FuncId) : Bool := match P.funcs[f]? with | some fn => fn.name != "runtime.NumGoroutine" && fn.body.isSome | none => false

/-- A function's contract: from the chunks A, whatever else there is, to a result and chunks of which R holds, and all else as it was. -/
structure Meets (P : Program) (f : FuncId) (args : List Value) (A : State) (R : Value → State → Prop) : Prop where
  able : callable P f = true
  out : ∀ (F : Chunk) (w : World), Hold w (F :: A) → CallsIn (FW none) 0 P f args.toArray w
    (EndsW w fun v S => ∃ A', S = F :: A' ∧ R v A')

theorem Meets.mono {f : FuncId} {args : List Value} {A : State} {R R' : Value → State → Prop} (h : Meets P f args A R) (hr : ∀ v A', R v A' → R' v A') : Meets P f args A R' :=
  ⟨h.1, fun F w hw => (h.2 F w hw).mono fun e w' ⟨v, S, a, b, c, A', d, r⟩ => ⟨v, S, a, b, c, A', d, hr _ _ r⟩⟩

theorem calls_spec {f : FuncId} {args : List Value} {S A G : State} {R κ : Value → State → Prop} (h : Meets P f args A R) (ht : Take A S G)
    (k : ∀ v A', R v A' → κ v (A' ++ G)) : CallsW P f args.toArray S κ := by
  refine CallsW.mk' h.1 fun w hw => (h.2 G.flatten w (hw.perm (ht.perm.trans ?_))).mono ?_
  · simp only [List.flatten_append, List.flatten_cons]; exact List.perm_append_comm
  · rintro e w' ⟨v, S', rfl, he, hh, A', rfl, r⟩
    refine ⟨v, A' ++ G, rfl, he, hh.perm ?_, k v A' r⟩
    simp only [List.flatten_append, List.flatten_cons]; exact List.perm_append_comm

/-- The blocks for the rounds' deferred calls. -/
def marksOf (D : List Nat) : State := D.map fun r => [(r, Obj.deferred (some []))]

def resW (P : Program) : List ResultVar → Env → State → (List Value → Prop) → Prop
  | [], _, _, κ => κ []
  | .tmp t :: r, L, S, κ => withV (lookT L t) fun v => resW P r L S fun vs => κ (v :: vs)
  | .cell a t :: r, L, S, κ => withV (lookT L a) fun p => ReadW P (Instr.loadAt t p) S fun v => resW P r L S fun vs => κ (v :: vs)

def tupled : List Value → Value
  | [v] => v
  | vs => .tuple vs.toArray

def RetK (P : Program) (rs : List ResultVar) (R : Value → State → Prop) (F : Chunk) : Cont
  | .normal, D, L, S | .ret, D, L, S => ∃ S1, Take (marksOf D) S S1 ∧ resW P rs L S1 fun vs => ∃ A', R (tupled vs) A' ∧ Among (F :: A') S1
  | _, _, _, _ => False

def argsL : Nat → List Value → Env
  | _, [] => []
  | i, v :: l => (i, v) :: argsL (i + 1) l

theorem ret_tmp {P : Program} {R : Value → State → Prop} {F : Chunk} {t : Nat} {L : Env} {S : State} {v : Value} (A' : State) (hv : lookT L t = some v) (hR : R v A') (hs : Among (F :: A') S) :
    RetK P [.tmp t] R F .ret [] L S := ⟨S, .nil S, by simp only [resW, hv, withV]; exact ⟨A', hR, hs⟩⟩
theorem ret_tmp_n {P : Program} {R : Value → State → Prop} {F : Chunk} {t : Nat} {L : Env} {S : State} {v : Value} (A' : State) (hv : lookT L t = some v) (hR : R v A') (hs : Among (F :: A') S) :
    RetK P [.tmp t] R F .normal [] L S := ⟨S, .nil S, by simp only [resW, hv, withV]; exact ⟨A', hR, hs⟩⟩
theorem ret_none {P : Program} {R : Value → State → Prop} {F : Chunk} {L : Env} {S : State} (A' : State) (hR : R (.tuple #[]) A') (hs : Among (F :: A') S) :
    RetK P [] R F .ret [] L S := ⟨S, .nil S, A', hR, hs⟩
theorem ret_none_n {P : Program} {R : Value → State → Prop} {F : Chunk} {L : Env} {S : State} (A' : State) (hR : R (.tuple #[]) A') (hs : Among (F :: A') S) :
    RetK P [] R F .normal [] L S := ⟨S, .nil S, A', hR, hs⟩

theorem look_argsL : ∀ (l : List Value) (i t : Nat) (v : Value), lookT (argsL i l) t = some v → i ≤ t ∧ l[t - i]? = some v
  | [], i, t, v, h => by simp [argsL, lookT] at h
  | u :: l, i, t, v, h => by
    simp only [argsL, lookT] at h
    split at h
    · subst_vars; cases h; simp
    · have := look_argsL l (i + 1) t v h
      refine ⟨by omega, ?_⟩
      rw [show t - i = (t - (i + 1)) + 1 from by omega, List.getElem?_cons_succ]
      exact this.2

def resOne (tmps : Array Value) : ResultVar → Sem Value
  | .tmp t => pure (tmps.getD t undef)
  | .cell b t => do loadVar t (← asAddr (tmps.getD b undef))

theorem resW_run {a : Act} {L : Env} {D : List Nat} {S : State} (ha : Agree n L D a) : ∀ (rs : List ResultVar) (κ : List Value → Prop), resW P rs L S κ →
    ∃ vs, (∀ w, Hold w S → (rs.mapM (resOne a.tmps)).run P w = .ok vs w) ∧ κ vs
  | [], κ, h => ⟨[], fun w _ => rfl, h⟩
  | .tmp t :: r, κ, h => by
    simp only [resW] at h
    cases hv : lookT L t with
    | none => rw [hv] at h; exact h.elim
    | some v =>
      rw [hv] at h
      obtain ⟨vs, h1, h2⟩ := resW_run ha r _ h
      refine ⟨v :: vs, fun w hw => ?_, h2⟩
      have h3 := ha.get t v hv
      have hg : a.tmps.getD t undef = v := by simp [h3]
      rw [List.mapM_cons]
      simp only [Sem.run_bind, resOne, hg, Sem.run_pure, Result.andThen, h1 w hw]
  | .cell b t :: r, κ, h => by
    simp only [resW] at h
    cases hp : lookT L b with
    | none => rw [hp] at h; exact h.elim
    | some p =>
      rw [hp] at h
      obtain ⟨v, h3, h⟩ := h.out
      obtain ⟨vs, h1, h2⟩ := resW_run ha r _ h
      refine ⟨v :: vs, fun w hw => ?_, h2⟩
      have hb := ha.get b p hp
      have h4 := h3 w hw
      have e : (asAddr p).run P w = (Instr.sureAddr p).run P w ∨ ∃ h w', (Instr.sureAddr p).run P w = .halt h w' := by
        unfold Instr.sureAddr asAddr
        cases p <;> first | exact .inr ⟨_, _, rfl⟩ | skip
        rename_i a; cases a <;> first | exact .inr ⟨_, _, rfl⟩ | exact .inl rfl
      have hg : a.tmps.getD b undef = p := by simp [hb]
      rw [List.mapM_cons]
      simp only [Sem.run_bind, resOne, hg]
      unfold Instr.loadAt at h4
      rw [Sem.run_bind] at h4
      rcases e with e | ⟨x, w', e⟩
      · rw [e]
        cases hs : (Instr.sureAddr p).run P w with
        | ok ad w1 =>
          rw [hs] at h4
          simp only [Result.andThen] at h4 ⊢
          rw [h4]
          simp only [Result.andThen, h1 w hw, Sem.run_pure]
        | halt x w1 => rw [hs] at h4; simp [Result.andThen] at h4
      · rw [e] at h4; simp [Result.andThen] at h4

theorem marks_shut {F : Fence} {m : Nat} {fn : Func} {tmps : Array Value} {R : Ending → World → Prop} : ∀ (D : List Nat) (T : State) (w0 w : World), Ext w0 w → Hold w (marksOf D ++ T) →
    (∀ w', Ext w0 w' → Hold w' T → ∃ v, (results fn tmps).run P w' = .ok v w' ∧ R (.returned v) w') → LeavesInM F m P fn tmps R (D.map markD) .returning w
  | [], T, w0, w, he, hw, h => by
    simp only [List.map_nil, LeavesInM, LeavesIn]
    exact h w he (by simpa [marksOf] using hw)
  | r :: D, T, w0, w, he, hw, h => by
    simp only [List.map_cons, LeavesInM]
    refine ⟨by simp, .inl ⟨r, w.putObj r (.deferred none), rfl, ?_, ?_⟩⟩
    · exact run_takeDeferred (hw.get r _ (by simp [marksOf]))
    · have hlt : r < w.heap.size := hw.lt (b := r) (o := .deferred (some [])) (by simp [marksOf])
      have hw' : Hold (w.putObj r (.deferred none)) ([(r, .deferred none)] :: (marksOf D ++ T)) :=
        (Upd.one (S := marksOf D ++ T)).hold (w := w) (by simpa [marksOf] using hw) (World.putObj_heap_same hlt) (fun k hk => World.putObj_heap_other hk)
      exact marks_shut D T w0 _ (he.trans ⟨rfl, rfl, rfl, by simp⟩) (hw'.sub (by simp)) h

theorem tupled_size (vs : List Value) : (if h : vs.toArray.size = 1 then vs.toArray[0] else .tuple vs.toArray) = tupled vs := by
  match vs with
  | [] => simp [tupled]
  | [v] => simp [tupled]
  | u :: v :: l => simp [tupled]

/-- A function's contract, from its body. -/
theorem spec_intro {f : FuncId} {fn : Func} {c : Code} {args : List Value} {A : State} {R : Value → State → Prop} (hf : P.funcs[f]? = some fn) (hb : fn.body = some c)
    (hn : (fn.name != "runtime.NumGoroutine") = true) (hl : args.length ≤ fn.ntmps) (h : ∀ F : Chunk, CodeW P fn.ntmps none c (RetK P fn.results.toList R F) [] (argsL 0 args) (F :: A)) : Meets P f args A R := by
  refine ⟨by simp [callable, hf, hb]; simpa using hn, fun F w hw => ?_⟩
  refine callsIn_of_wp_marks hf hb trivial (wpIn_mono ((h F).out { tmps := args.toArray ++ Array.replicate (fn.ntmps - args.toArray.size) undef, defers := [] } w ?_ hw) ?_)
  · refine ⟨by simp; omega, fun t v ht => ?_, rfl⟩
    have := look_argsL args 0 t v ht
    simp only [Nat.sub_zero] at this
    have hlt := (List.getElem?_eq_some_iff.1 this.2).1
    rw [Array.getElem?_append_left (by simpa using hlt)]
    simpa using this.2
  · intro e a w' hq
    obtain ⟨D, L, S, hk, hag, he, hh⟩ := hq
    have fin : (∃ S1, Take (marksOf D) S S1 ∧ resW P fn.results.toList L S1 fun vs => ∃ A', R (tupled vs) A' ∧ Among (F :: A') S1) →
        LeavesInM (FW none) 0 P fn a.tmps (EndsW w fun v S => ∃ A', S = F :: A' ∧ R v A') a.defers .returning w' := by
      rintro ⟨S1, ht, hr⟩
      rw [hag.marks]
      obtain ⟨vs, h1, A', hR, hs⟩ := resW_run hag _ _ hr
      refine marks_shut D S1 w w' he (hh.perm ht.perm) fun w'' he' hw'' => ⟨tupled vs, ?_, tupled vs, F :: A', rfl, he', hs.hold hw'', A', rfl, hR⟩
      have e0 : results fn a.tmps = (do let vs ← fn.results.mapM (resOne a.tmps); pure (if h : vs.size = 1 then vs[0] else .tuple vs)) := by
        unfold results
        have e : (fun (x : ResultVar) => (match x with | .tmp t => pure (a.tmps.getD t undef) | .cell b t => do loadVar t (← asAddr (a.tmps.getD b undef)) : Sem Value)) = resOne a.tmps := by
          funext x; cases x <;> rfl
        rw [← e]
        rfl
      rw [e0]
      have e1 : ∀ g : ResultVar → Sem Value, (fn.results.mapM g).run P w'' = ((fn.results.toList.mapM g).run P w'').andThen (fun l w => .ok l.toArray w) := by
        intro g
        rw [← Array.toArray_toList (xs := fn.results)]
        simp only [List.mapM_toArray]
        cases hx : (fn.results.toList.mapM g).run P w'' <;> simp_all [Result.andThen, Sem.run_map]
      simp only [Sem.run_bind]
      rw [e1, h1 w'' hw'']
      simp only [Result.andThen]
      rw [← tupled_size]
      rfl
    cases e with
    | normal => exact fin hk
    | ret => exact fin hk
    | exit id => exact hk.elim
    | goto l => exact hk.elim
    | panic ch => exact hk.elim
    | outgrown => exact hk.elim

end Go.Ost
