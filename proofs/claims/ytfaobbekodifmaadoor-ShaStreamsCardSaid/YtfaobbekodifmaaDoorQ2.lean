/- The plain law of a saved Hash: words of bytes, bytes of words. Conditions: as each says. -/
import Derived.Test.YtfaobbekodifmaaDoorQ1
set_option linter.unusedSimpArgs false
set_option linter.unusedVariables false
namespace Go.Sha

theorem bytes4_word (a b c d : UInt8) : bytes4 (word a b c d) = [a, b, c, d] := by
  have ha := a.toNat_lt; have hb := b.toNat_lt; have hc := c.toNat_lt; have hd := d.toNat_lt
  have hw : (word a b c d).toNat = a.toNat * 16777216 + b.toNat * 65536 + c.toNat * 256 + d.toNat := by
    simp only [word, BitVec.toNat_ofNat]; omega
  have e : ∀ (n : Nat) (x : UInt8), n % 256 = x.toNat → UInt8.ofNat n = x := fun n x h => by
    apply UInt8.toNat_inj.1
    rw [UInt8.toNat_ofNat', h]
  simp only [bytes4, hw]
  rw [e _ a (by omega), e _ b (by omega), e _ c (by omega), e _ d (by omega)]
theorem four (bs : List UInt8) (l : Nat) (h : l + 4 ≤ bs.length) : (bs.drop l).take 4 = [bs.getD l 0, bs.getD (l + 1) 0, bs.getD (l + 2) 0, bs.getD (l + 3) 0] := by
  apply List.ext_getElem?
  intro i
  rw [List.getElem?_take]
  match i with
  | 0 => simp [List.getD, List.getElem?_eq_getElem (show l < bs.length by omega)]
  | 1 => simp [List.getD, List.getElem?_eq_getElem (show l + 1 < bs.length by omega)]
  | 2 => simp [List.getD, List.getElem?_eq_getElem (show l + 2 < bs.length by omega)]
  | 3 => simp [List.getD, List.getElem?_eq_getElem (show l + 3 < bs.length by omega)]
  | i + 4 => rw [if_neg (by omega)]; simp
theorem bytes4_at (bs : List UInt8) (l : Nat) (h : l + 4 ≤ bs.length) : bytes4 (wordAt bs l) = (bs.drop l).take 4 := by
  rw [four bs l h, wordAt, bytes4_word]

/-- The first so many words that are loaded. -/
def ld (p : List UInt8) : Nat → List W
  | 0 => List.replicate 8 0
  | i + 1 => (ld p i).set i (wordAt p (4 * i))
theorem ld_len (p : List UInt8) : ∀ i, (ld p i).length = 8
  | 0 => by simp [ld]
  | i + 1 => by simp [ld, ld_len p i]
def ldS (p : List UInt8) : St := ⟨wordAt p 0, wordAt p 4, wordAt p 8, wordAt p 12, wordAt p 16, wordAt p 20, wordAt p 24, wordAt p 28⟩
theorem ld_all (p : List UInt8) : ld p 8 = (ldS p).list := rfl
theorem ldS_bytes (p : List UInt8) (h : 32 ≤ p.length) : (ldS p).bytes = p.take 32 := by
  have e : ∀ l, l + 4 ≤ p.length → p.take (l + 4) = p.take l ++ bytes4 (wordAt p l) := fun l hl => by
    rw [bytes4_at p l hl, List.take_add]
  show bytes4 (wordAt p 0) ++ (bytes4 (wordAt p 4) ++ (bytes4 (wordAt p 8) ++ (bytes4 (wordAt p 12) ++ (bytes4 (wordAt p 16) ++ (bytes4 (wordAt p 20) ++ (bytes4 (wordAt p 24) ++ (bytes4 (wordAt p 28) ++ []))))))) = _
  rw [e 28 (by omega), e 24 (by omega), e 20 (by omega), e 16 (by omega), e 12 (by omega), e 8 (by omega), e 4 (by omega), e 0 (by omega)]
  simp [List.append_assoc]

/-- How many bytes it says there were. -/
def ldN (p : List UInt8) : Nat := (wordAt p 32).toNat * 4294967296 + (wordAt p 36).toNat
theorem ldN_lt (p : List UInt8) : ldN p < 18446744073709551616 := by
  have h1 := (wordAt p 32).isLt; have h2 := (wordAt p 36).isLt
  simp only [ldN]; omega
theorem eight (p : List UInt8) (h : 40 ≤ p.length) : (p.drop 32).take 8 = bytes4 (wordAt p 32) ++ bytes4 (wordAt p 36) := by
  rw [bytes4_at p 32 (by omega), bytes4_at p 36 (by omega), show (8 : Nat) = 4 + 4 from rfl, List.take_add, List.drop_drop]
theorem num_eight (p : List UInt8) (h : 40 ≤ p.length) : num ((p.drop 32).take 8) = ldN p := by
  rw [show (8 : Nat) = 4 + 4 from rfl, List.take_add, List.drop_drop, four p 32 (by omega), four p (32 + 4) (by omega)]
  simp only [num, List.foldl, List.cons_append, List.nil_append, ldN, wordAt, word, BitVec.toNat_ofNat]
  generalize p.getD 32 0 = a; generalize p.getD (32 + 1) 0 = b; generalize p.getD (32 + 2) 0 = c; generalize p.getD (32 + 3) 0 = d
  generalize p.getD 36 0 = e; generalize p.getD (36 + 1) 0 = f; generalize p.getD (36 + 2) 0 = g; generalize p.getD (36 + 3) 0 = i
  have ha := a.toNat_lt; have hb := b.toNat_lt; have hc := c.toNat_lt; have hd := d.toNat_lt
  have he := e.toNat_lt; have hf := f.toNat_lt; have hg := g.toNat_lt; have hi := i.toNat_lt
  omega
theorem be_eight (p : List UInt8) (h : 40 ≤ p.length) : be 8 (ldN p) = (p.drop 32).take 8 := by
  rw [eight p h]
  have h1 := (wordAt p 32).isLt; have h2 := (wordAt p 36).isLt
  have e : ∀ (n m : Nat), n % 256 = m % 256 → UInt8.ofNat n = UInt8.ofNat m := fun n m h => by
    apply UInt8.toNat_inj.1
    rw [UInt8.toNat_ofNat', UInt8.toNat_ofNat', h]
  simp only [ldN]
  generalize (wordAt p 32) = x at h1 ⊢
  generalize (wordAt p 36) = y at h2 ⊢
  show [UInt8.ofNat (_ / 256 ^ 7), UInt8.ofNat (_ / 256 ^ 6), UInt8.ofNat (_ / 256 ^ 5), UInt8.ofNat (_ / 256 ^ 4), UInt8.ofNat (_ / 256 ^ 3), UInt8.ofNat (_ / 256 ^ 2), UInt8.ofNat (_ / 256 ^ 1), UInt8.ofNat (_ / 256 ^ 0)] = _
  simp only [bytes4, List.cons_append, List.nil_append]
  simp only [Nat.reducePow]
  rw [e ((x.toNat * 4294967296 + y.toNat) / 72057594037927936) (x.toNat / 16777216) (by omega),
    e ((x.toNat * 4294967296 + y.toNat) / 281474976710656) (x.toNat / 65536) (by omega),
    e ((x.toNat * 4294967296 + y.toNat) / 1099511627776) (x.toNat / 256) (by omega),
    e ((x.toNat * 4294967296 + y.toNat) / 4294967296) (x.toNat) (by omega),
    e ((x.toNat * 4294967296 + y.toNat) / 16777216) (y.toNat / 16777216) (by omega),
    e ((x.toNat * 4294967296 + y.toNat) / 65536) (y.toNat / 65536) (by omega),
    e ((x.toNat * 4294967296 + y.toNat) / 256) (y.toNat / 256) (by omega),
    e ((x.toNat * 4294967296 + y.toNat) / 1) y.toNat (by omega)]

/-- Why it isn't loaded, or nothing. -/
def ldErr (p : List UInt8) : Nat := if p.length < 40 then 2 else if 2305843009213693952 ≤ ldN p then 3 else if p.length - 40 < ldN p % 64 then 2 else if ldN p % 64 < p.length - 40 then 4 else 0
theorem saved (p : List UInt8) (h : 40 ≤ p.length) : (ldS p).bytes ++ (be 8 (ldN p) ++ p.drop 40) = p := by
  rw [ldS_bytes p (by omega), be_eight p h]
  rw [show p.drop 40 = (p.drop 32).drop 8 from by rw [List.drop_drop], List.take_append_drop, List.take_append_drop]

end Go.Sha
