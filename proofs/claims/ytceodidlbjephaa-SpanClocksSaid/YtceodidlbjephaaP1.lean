/- The plain laws of ticks, waits and bounds: numbers alone. Conditions: as each says. -/
set_option linter.unusedSimpArgs false
set_option linter.unusedVariables false
namespace Go.Span

def top : Int := 1099511627776
def tk (n : Int) : Int := if top < n then top else n
theorem tk_bd (n : Int) (h : 0 ≤ n) : 0 ≤ tk n ∧ tk n ≤ 1099511627776 := by unfold tk top; split <;> omega
theorem tk_self {n : Int} (h : n ≤ 1099511627776) : tk n = n := by unfold tk top; split <;> omega
def add (a b : Int) : Int := tk (tk a + tk b)
def sub (a b : Int) : Int := if tk a < tk b then 0 else tk a - tk b
def mn (a b : Int) : Int := if b < a then b else a

/-- n doubled so often. -/
def dbl (n : Int) : Nat → Int
  | 0 => tk n
  | k + 1 => add (dbl n k) (dbl n k)

theorem dbl_bd (n : Int) (h : 0 ≤ n) : ∀ k, 0 ≤ dbl n k ∧ dbl n k ≤ 1099511627776
  | 0 => tk_bd n h
  | k + 1 => by
    have := dbl_bd n h k
    have h1 := tk_bd (dbl n k) this.1
    have := tk_bd (tk (dbl n k) + tk (dbl n k)) (by omega)
    exact this
theorem dbl_succ (n : Int) (h : 0 ≤ n) (k : Nat) : dbl n (k + 1) = mn (2 * dbl n k) top := by
  have := dbl_bd n h k
  have e : dbl n (k + 1) = tk (dbl n k + dbl n k) := by simp only [dbl, add, tk_self this.2]
  rw [e]; unfold tk mn top; split <;> split <;> omega
theorem tk_dbl (n : Int) (h : 0 ≤ n) (k : Nat) : tk (2 * dbl n k) = dbl n (k + 1) := by
  rw [dbl_succ n h]
  generalize dbl n k = x
  rfl
theorem dbl_end (n : Int) (h : 0 ≤ n) (i k : Nat) (hi : i ≤ k) (h3 : ¬ dbl n i < 1099511627776) (hb : dbl n i ≤ 1099511627776) (ht : ∀ d, dbl n i = top → dbl n (i + d) = top) : dbl n i = dbl n k := by
  have e : dbl n i = top := by unfold top; omega
  have := ht (k - i) e
  rw [show i + (k - i) = k from by omega] at this
  rw [this, e]
theorem dbl_le (n : Int) (h : 0 ≤ n) (k : Nat) : dbl n k ≤ dbl n (k + 1) := by
  rw [dbl_succ n h]
  have := dbl_bd n h k
  unfold mn top; split <;> omega
theorem dbl_mono (n : Int) (h : 0 ≤ n) (k : Nat) : ∀ d, dbl n k ≤ dbl n (k + d)
  | 0 => Int.le_refl _
  | d + 1 => Int.le_trans (dbl_mono n h k d) (dbl_le n h (k + d))
theorem dbl_top (n : Int) (h : 0 ≤ n) (k : Nat) (ht : dbl n k = top) : ∀ d, dbl n (k + d) = top
  | 0 => ht
  | d + 1 => by
    show dbl n (k + d + 1) = top
    rw [dbl_succ n h, dbl_top n h k ht d]; unfold mn top; split <;> omega
theorem dbl_zero (n : Int) (h : tk n = 0) : ∀ k, dbl n k = 0
  | 0 => h
  | k + 1 => by simp only [dbl, add, dbl_zero n h k]; rfl
/-- Doubled k times, one at the least. -/
theorem dbl_low (n : Int) (h : 1 ≤ tk n) (h0 : 0 ≤ n) : ∀ k : Nat, k ≤ 40 → (2 ^ k : Int) ≤ dbl n k
  | 0, _ => by simpa [dbl] using h
  | k + 1, hk => by
    have ih := dbl_low n h h0 k (by omega)
    rw [dbl_succ n h0]
    have hp : (2 : Int) ^ (k + 1) = 2 * 2 ^ k := by rw [Int.pow_succ]; omega
    have hq : (2 : Int) ^ (k + 1) ≤ 2 ^ 40 := by have := Nat.pow_le_pow_right (n := 2) (by omega) hk; exact_mod_cast this
    have e : (2 : Int) ^ 40 = 1099511627776 := by decide
    unfold mn top; split <;> omega
theorem dbl_40 (n : Int) (h : 1 ≤ tk n) (h0 : 0 ≤ n) : dbl n 40 = top := by
  have h1 := dbl_low n h h0 40 (Nat.le_refl _)
  have h2 := dbl_bd n h0 40
  have e : (2 : Int) ^ 40 = 1099511627776 := by decide
  unfold top; omega
theorem dbl_cap (n : Int) (h0 : 0 ≤ n) (k : Nat) (hk : 40 ≤ k) : dbl n k = dbl n 40 := by
  by_cases h : tk n = 0
  · rw [dbl_zero n h, dbl_zero n h]
  · have h1 := tk_bd n h0
    obtain ⟨d, rfl⟩ : ∃ d, k = 40 + d := ⟨k - 40, by omega⟩
    rw [dbl_40 n (by omega) h0, dbl_top n h0 40 (dbl_40 n (by omega) h0)]

/-- The wait behind k failures. -/
def wt (base most : Int) (k : Nat) : Int := mn (dbl base k) (tk most)

theorem wt_bd (b m : Int) (hb : 0 ≤ b) (hm : 0 ≤ m) (k : Nat) : 0 ≤ wt b m k ∧ wt b m k ≤ tk m ∧ wt b m k ≤ 1099511627776 := by
  have h1 := dbl_bd b hb k
  have h2 := tk_bd m hm
  unfold wt mn; split <;> omega
theorem wt_cap (b m : Int) (hb : 0 ≤ b) (k : Nat) (hk : 40 ≤ k) : wt b m k = wt b m 40 := by unfold wt; rw [dbl_cap b hb k hk]
theorem wt_min (b m : Int) (hb : 0 ≤ b) (k : Nat) : wt b m (min k 40) = wt b m k := by
  by_cases h : k ≤ 40
  · rw [Nat.min_eq_left h]
  · rw [Nat.min_eq_right (by omega), wt_cap b m hb k (by omega)]
theorem wt_mono (b m : Int) (hb : 0 ≤ b) (k d : Nat) : wt b m k ≤ wt b m (k + d) := by
  have := dbl_mono b hb k d
  unfold wt mn; split <;> split <;> omega
theorem wt_most (b m : Int) (hb : 1 ≤ b) (hm : 0 ≤ m) (k : Nat) (hk : 40 ≤ k) : wt b m k = tk m := by
  rw [wt_cap b m (by omega) k hk]
  have h2 := tk_bd m hm
  have : 1 ≤ tk b := by unfold tk top; split <;> omega
  unfold wt; rw [dbl_40 b this (by omega)]; unfold mn top; split <;> omega
theorem wt_pos (b m : Int) (hb : 1 ≤ b) (hm : 1 ≤ m) (k : Nat) : 1 ≤ wt b m k := by
  have h1 : 1 ≤ tk b := by unfold tk top; split <;> omega
  have h2 : 1 ≤ tk m := by unfold tk top; split <;> omega
  have h3 := dbl_mono b (by omega) 0 k
  rw [Nat.zero_add] at h3
  have : dbl b 0 = tk b := rfl
  unfold wt mn; split <;> omega

/-- The waits behind 1 .. n failures. -/
def sm (b m : Int) : Nat → Int
  | 0 => 0
  | n + 1 => sm b m n + wt b m (n + 1)

theorem sm_pos (b m : Int) (hb : 0 ≤ b) (hm : 0 ≤ m) : ∀ n, 0 ≤ sm b m n
  | 0 => Int.le_refl _
  | n + 1 => by have := sm_pos b m hb hm n; have := wt_bd b m hb hm (n + 1); simp only [sm]; omega
theorem sm_mono (b m : Int) (hb : 0 ≤ b) (hm : 0 ≤ m) (n : Nat) : ∀ d, sm b m n ≤ sm b m (n + d)
  | 0 => Int.le_refl _
  | d + 1 => by have := sm_mono b m hb hm n d; have := wt_bd b m hb hm (n + d + 1); show _ ≤ sm b m (n + d + 1); simp only [sm]; omega
theorem sm_le (b m : Int) (hb : 0 ≤ b) (hm : 0 ≤ m) : ∀ n : Nat, sm b m n ≤ n * tk m
  | 0 => by simp [sm]
  | n + 1 => by
    have := sm_le b m hb hm n; have := wt_bd b m hb hm (n + 1)
    simp only [sm]
    rw [show ((n + 1 : Nat) : Int) * tk m = n * tk m + tk m from by rw [Int.natCast_add, Int.add_mul]; simp]
    omega
theorem sm_from (b m : Int) (k : Nat) (he : ∀ j, k < j → wt b m j = tk m) : ∀ d : Nat, sm b m (k + d) = sm b m k + d * tk m
  | 0 => by simp
  | d + 1 => by
    have ih := sm_from b m k he d
    show sm b m (k + d) + wt b m (k + d + 1) = _
    rw [ih, he (k + d + 1) (by omega)]
    rw [show ((d + 1 : Nat) : Int) * tk m = d * tk m + tk m from by rw [Int.natCast_add, Int.add_mul]; simp]
    omega

/-- The same, as ticks. -/
def tg (b m : Int) : Nat → Int
  | 0 => 0
  | n + 1 => add (tg b m n) (wt b m (n + 1))
theorem tg_bd (b m : Int) (hb : 0 ≤ b) (hm : 0 ≤ m) : ∀ n, 0 ≤ tg b m n ∧ tg b m n ≤ 1099511627776
  | 0 => by simp [tg]
  | n + 1 => by
    have h1 := tg_bd b m hb hm n
    have h2 := wt_bd b m hb hm (n + 1)
    have h3 := tk_bd _ h1.1
    have h4 := tk_bd _ h2.1
    exact tk_bd _ (by omega)
theorem tg_sm (b m : Int) (hb : 0 ≤ b) (hm : 0 ≤ m) : ∀ n, sm b m n ≤ 1099511627776 → tg b m n = sm b m n
  | 0, _ => rfl
  | n + 1, h => by
    have h2 := wt_bd b m hb hm (n + 1)
    have h3 := sm_pos b m hb hm n
    simp only [sm] at h
    rw [tg, tg_sm b m hb hm n (by omega), sm]
    unfold add
    rw [tk_self (n := sm b m n) (by omega), tk_self (n := wt b m (n + 1)) (by omega), tk_self (by omega)]

/-- n is the greatest number of failures in t ticks. -/
def Is (b m t : Int) (n : Nat) : Prop := sm b m n < t ∧ t ≤ sm b m (n + 1)

def mx (x : Int) : Int := if x < 1 then 1 else x
theorem mx_pos (x : Int) : 1 ≤ mx x := by unfold mx; split <;> omega
theorem mx_le (x : Int) (h : x ≤ 1099511627776) : mx x ≤ 1099511627776 := by unfold mx; split <;> omega

theorem Is.stop {b m t : Int} {n : Nat} (h : sm b m n < t) (hw : t - sm b m n ≤ wt b m (n + 1)) : Is b m t n := ⟨h, by simp only [sm]; omega⟩
theorem wt_stay {b m : Int} (hb : 0 ≤ b) (hm : 0 ≤ m) {k : Nat} (h : wt b m (k + 1) = tk m) : ∀ j, k < j → wt b m j = tk m := by
  intro j hj
  have h1 := wt_mono b m hb (k + 1) (j - (k + 1))
  rw [show k + 1 + (j - (k + 1)) = j from by omega] at h1
  have h2 := wt_bd b m hb hm j
  omega
theorem Is.rest {b m t : Int} {n : Nat} (hb : 0 ≤ b) (hm : 1 ≤ m) (hm2 : m ≤ 1099511627776) (h : sm b m n < t) (hw : wt b m (n + 1) = m) :
    Is b m t (n + ((t - sm b m n - 1) / m).toNat) := by
  have he := wt_stay (b := b) (m := m) hb (by omega) (k := n) (hw.trans (tk_self hm2).symm)
  have h0 : 0 ≤ (t - sm b m n - 1) / m := Int.ediv_nonneg (by omega) (by omega)
  have e1 := sm_from b m n he ((t - sm b m n - 1) / m).toNat
  have e2 := sm_from b m n he (((t - sm b m n - 1) / m).toNat + 1)
  rw [tk_self hm2] at e1 e2
  have hq := Int.mul_ediv_add_emod (t - sm b m n - 1) m
  have hr1 := Int.emod_nonneg (t - sm b m n - 1) (b := m) (by omega)
  have hr2 := Int.emod_lt_of_pos (t - sm b m n - 1) (b := m) (by omega)
  have hn : ((((t - sm b m n - 1) / m).toNat : Nat) : Int) = (t - sm b m n - 1) / m := Int.toNat_of_nonneg h0
  constructor
  · rw [e1, hn, Int.mul_comm]; omega
  · rw [show n + ((t - sm b m n - 1) / m).toNat + 1 = n + (((t - sm b m n - 1) / m).toNat + 1) from by omega, e2]
    rw [Int.natCast_add, hn, Int.add_mul, Int.mul_comm]
    simp only [Int.natCast_one, Int.one_mul]
    omega
theorem Is.pos {b m t : Int} {n : Nat} (hb : 0 ≤ b) (hm : 0 ≤ m) (h : Is b m t n) : 0 < t := by have := sm_pos b m hb hm n; have := h.1; omega

theorem Is.mono {b m t t' : Int} {n n' : Nat} (hb : 0 ≤ b) (hm : 0 ≤ m) (h : Is b m t n) (h' : Is b m t' n') (ht : t ≤ t') : n ≤ n' := by
  rcases Nat.lt_or_ge n' n with hlt | hge
  · have := sm_mono b m hb hm (n' + 1) (n - (n' + 1))
    rw [show n' + 1 + (n - (n' + 1)) = n from by omega] at this
    have := h.1; have := h'.2; omega
  · exact hge


theorem Is.low {b m t : Int} {n : Nat} (hb : 1 ≤ b) (hm : 1 ≤ m) (h : Is b m t n) : (n : Int) + 1 ≤ t := by
  have : ∀ k : Nat, (k : Int) ≤ sm b m k := by
    intro k
    induction k with
    | zero => simp [sm]
    | succ k ih => have := wt_pos b m hb hm (k + 1); simp only [sm]; omega
  have := this n; have := h.1; omega
theorem Is.ge {b m t : Int} {n : Nat} (hb : 0 ≤ b) (hm : 1 ≤ m) (hm2 : m ≤ 1099511627776) (h : Is b m t n) : 1 + (t - 1) / m ≤ (n : Int) + 1 := by
  have h1 := sm_le b m hb (by omega) (n + 1)
  rw [tk_self hm2] at h1
  have h2 := h.2
  have : (t - 1) / m < (n : Int) + 1 := by
    rw [Int.ediv_lt_iff_lt_mul (by omega)]
    rw [Int.natCast_add] at h1
    simp only [Int.natCast_one] at h1
    omega
  omega
theorem Is.le {b m t : Int} {n : Nat} (hb : 1 ≤ b) (hm : 1 ≤ m) (hm2 : m ≤ 1099511627776) (h : Is b m t n) : (n : Int) + 1 ≤ 41 + (t - 1) / m := by
  have hp := h.pos (by omega) (by omega)
  have h0 : 0 ≤ (t - 1) / m := Int.ediv_nonneg (by omega) (by omega)
  by_cases hn : n ≤ 40
  · omega
  · have e := sm_from b m 40 (fun j hj => wt_most b m hb (by omega) j (by omega)) (n - 40)
    rw [tk_self hm2, show 40 + (n - 40) = n from by omega] at e
    have h40 := sm_pos b m (by omega) (by omega) 40
    have h1 := h.1
    have : ((n - 40 : Nat) : Int) ≤ (t - 1) / m := by
      rw [Int.le_ediv_iff_mul_le (by omega)]
      omega
    omega

end Go.Span
