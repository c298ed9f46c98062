/- Parts of bytes, cut. Conditions: none. -/
set_option linter.unusedSimpArgs false
set_option linter.unusedVariables false
namespace Go.Sha

/-- The parts, cut. -/
def cutAll (k : Nat) (ls : List (List UInt8)) : List (List UInt8) := (ls.take 6).map (·.take k)
theorem cut_next (k : Nat) (ls : List (List UInt8)) (i : Nat) (hi : i < ls.length) (h6 : i < 6) : cutAll k (ls.take (i + 1)) = cutAll k (ls.take i) ++ [(ls.getD i []).take k] := by
  unfold cutAll
  rw [List.take_take, List.take_take, Nat.min_eq_right (by omega), Nat.min_eq_right (by omega), List.take_add_one, List.getElem?_eq_getElem hi, List.map_append]
  simp [List.getD, hi]
theorem cut_stay (k : Nat) (ls : List (List UInt8)) (i : Nat) (h6 : 6 ≤ i) : cutAll k (ls.take (i + 1)) = cutAll k (ls.take i) := by
  unfold cutAll
  rw [List.take_take, List.take_take, Nat.min_eq_left (by omega), Nat.min_eq_left (by omega)]
theorem cut_len (k : Nat) (ls : List (List UInt8)) : (cutAll k ls).length = min 6 ls.length := by simp [cutAll]
theorem flat_le (k : Nat) : ∀ l : List (List UInt8), (∀ x ∈ l, x.length ≤ k) → l.flatten.length ≤ k * l.length
  | [], _ => by simp
  | x :: l, h => by
    have h1 := h x (List.mem_cons_self ..)
    have h2 := flat_le k l (fun y hy => h y (List.mem_cons_of_mem _ hy))
    rw [List.flatten_cons, List.length_append, List.length_cons, Nat.mul_add]; omega
theorem cut_flat (k : Nat) (hk : k ≤ 1000) (ls : List (List UInt8)) : (cutAll k ls).flatten.length ≤ 6000 := by
  have h := flat_le k (cutAll k ls) (fun x hx => by
    simp only [cutAll, List.mem_map] at hx
    obtain ⟨y, _, rfl⟩ := hx
    rw [List.length_take]; omega)
  have h2 : (cutAll k ls).length ≤ 6 := by rw [cut_len]; omega
  have := Nat.mul_le_mul hk h2
  omega

end Go.Sha
