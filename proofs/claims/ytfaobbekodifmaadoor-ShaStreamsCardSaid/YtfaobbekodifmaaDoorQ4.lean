/- The plain law of a Hash that goes on. Conditions: as each says. -/
import Derived.Test.YtfaobbekodifmaaDoorQ1
set_option linter.unusedSimpArgs false
set_option linter.unusedVariables false
namespace Go.Sha

theorem rest_len (T : List UInt8) : (T.drop (64 * (T.length / 64))).length = T.length % 64 := by rw [List.length_drop]; omega
/-- A Hash of all these bytes, some of them read already. -/
theorem whole_more (x y : List UInt8) (hx : x.length % 64 = 0) (s : St) : Go.Sha.whole s (x ++ y) = Go.Sha.whole (Go.Sha.whole s x) y := by
  have key : ∀ (k : Nat) (s : St) (x y : List UInt8), x.length = 64 * k → ∀ j, run (k + j) s (x ++ y) = run j (run k s x) y := by
    intro k
    induction k with
    | zero =>
      intro s x y hx j
      have h0 : x = [] := List.length_eq_zero_iff.1 (by simpa using hx)
      subst h0; simp [run]
    | succ k ih =>
      intro s x y hx j
      rw [show k + 1 + j = (k + j) + 1 from by omega]
      show run (k + j) (Go.Sha.step odd s ((x ++ y).take 64)) ((x ++ y).drop 64) = run j (run k (Go.Sha.step odd s (x.take 64)) (x.drop 64)) y
      rw [List.take_append_of_le_length (by omega), List.drop_append_of_le_length (by omega)]
      exact ih _ _ _ (by rw [List.length_drop]; omega) j
  have h1 : (x ++ y).length / 64 = x.length / 64 + y.length / 64 := by rw [List.length_append]; omega
  unfold Go.Sha.whole
  rw [h1]
  exact key (x.length / 64) s x y (by omega) _
theorem whole_on (x y : List UInt8) (s : St) : Go.Sha.whole s (x ++ y) = Go.Sha.whole (Go.Sha.whole s x) (x.drop (64 * (x.length / 64)) ++ y) := by
  have e : x = x.take (64 * (x.length / 64)) ++ x.drop (64 * (x.length / 64)) := (List.take_append_drop _ _).symm
  have hl : (x.take (64 * (x.length / 64))).length = 64 * (x.length / 64) := by rw [List.length_take]; omega
  have hw : Go.Sha.whole s x = Go.Sha.whole s (x.take (64 * (x.length / 64))) := by
    have h2 : Go.Sha.whole s (x.take (64 * (x.length / 64)) ++ x.drop (64 * (x.length / 64))) = Go.Sha.whole (Go.Sha.whole s (x.take (64 * (x.length / 64)))) (x.drop (64 * (x.length / 64))) := whole_more _ _ (by rw [hl]; omega) s
    rw [← e] at h2
    rw [h2]
    unfold Go.Sha.whole
    rw [rest_len, show x.length % 64 / 64 = 0 from by omega]; rfl
  rw [hw]
  conv => lhs; rw [e, List.append_assoc]
  exact whole_more _ _ (by rw [hl]; omega) s

theorem rest_on (x y : List UInt8) : (x.drop (64 * (x.length / 64)) ++ y).drop (64 * ((x.drop (64 * (x.length / 64)) ++ y).length / 64)) = (x ++ y).drop (64 * ((x ++ y).length / 64)) := by
  have e : x.drop (64 * (x.length / 64)) ++ y = (x ++ y).drop (64 * (x.length / 64)) := (List.drop_append_of_le_length (by omega)).symm
  rw [e, List.drop_drop]
  congr 1
  rw [List.length_drop, List.length_append]
  omega
theorem sum_on (x y : List UInt8) (n : Nat) (hn : n = (x ++ y).length) :
    (Go.Sha.whole (Go.Sha.whole (Go.Sha.whole first x) (x.drop (64 * (x.length / 64)) ++ y)) ((x.drop (64 * (x.length / 64)) ++ y).drop (64 * ((x.drop (64 * (x.length / 64)) ++ y).length / 64)) ++ pad n)).bytes = digest (x ++ y) := by
  rw [rest_on, ← whole_on, ← whole_on, hn]; rfl

end Go.Sha
