/- The plain law of a saved Hash, on: what is saved is what was. Conditions: as each says. -/
import Derived.Test.YtfaobbekodifmaaDoorQ2
set_option linter.unusedSimpArgs false
set_option linter.unusedVariables false
namespace Go.Sha

theorem word_bytes4 (x : W) : word (UInt8.ofNat (x.toNat / 16777216)) (UInt8.ofNat (x.toNat / 65536)) (UInt8.ofNat (x.toNat / 256)) (UInt8.ofNat x.toNat) = x := by
  apply BitVec.eq_of_toNat_eq
  simp only [word, BitVec.toNat_ofNat, UInt8.toNat_ofNat']
  have := x.isLt
  omega
theorem wordAt_pre (pre : List UInt8) (x : W) (l : List UInt8) (n : Nat) (hn : pre.length = n) : wordAt (pre ++ (bytes4 x ++ l)) n = x := by
  subst hn
  have e : ∀ j, (pre ++ (bytes4 x ++ l)).getD (pre.length + j) 0 = (bytes4 x ++ l).getD j 0 := fun j => by
    simp only [List.getD]
    rw [List.getElem?_append_right (by omega), show pre.length + j - pre.length = j from by omega]
  have e0 := e 0
  rw [Nat.add_zero] at e0
  unfold wordAt
  rw [e0, e 1, e 2, e 3]
  exact word_bytes4 x
theorem ldS_saved (s : St) (l : List UInt8) : ldS (s.bytes ++ l) = s := by
  have hb : s.bytes ++ l = bytes4 s.a ++ (bytes4 s.b ++ (bytes4 s.c ++ (bytes4 s.d ++ (bytes4 s.e ++ (bytes4 s.f ++ (bytes4 s.g ++ (bytes4 s.h ++ l))))))) := by
    show (bytes4 s.a ++ (bytes4 s.b ++ (bytes4 s.c ++ (bytes4 s.d ++ (bytes4 s.e ++ (bytes4 s.f ++ (bytes4 s.g ++ (bytes4 s.h ++ [])))))))) ++ l = _
    simp only [List.append_assoc, List.append_nil, List.nil_append]
  rw [hb]
  unfold ldS
  have h0 := wordAt_pre [] s.a (bytes4 s.b ++ (bytes4 s.c ++ (bytes4 s.d ++ (bytes4 s.e ++ (bytes4 s.f ++ (bytes4 s.g ++ (bytes4 s.h ++ l))))))) 0 rfl
  have h1 := wordAt_pre (bytes4 s.a) s.b (bytes4 s.c ++ (bytes4 s.d ++ (bytes4 s.e ++ (bytes4 s.f ++ (bytes4 s.g ++ (bytes4 s.h ++ l)))))) 4 rfl
  have h2 := wordAt_pre (bytes4 s.a ++ bytes4 s.b) s.c (bytes4 s.d ++ (bytes4 s.e ++ (bytes4 s.f ++ (bytes4 s.g ++ (bytes4 s.h ++ l))))) 8 rfl
  have h3 := wordAt_pre (bytes4 s.a ++ (bytes4 s.b ++ bytes4 s.c)) s.d (bytes4 s.e ++ (bytes4 s.f ++ (bytes4 s.g ++ (bytes4 s.h ++ l)))) 12 rfl
  have h4 := wordAt_pre (bytes4 s.a ++ (bytes4 s.b ++ (bytes4 s.c ++ bytes4 s.d))) s.e (bytes4 s.f ++ (bytes4 s.g ++ (bytes4 s.h ++ l))) 16 rfl
  have h5 := wordAt_pre (bytes4 s.a ++ (bytes4 s.b ++ (bytes4 s.c ++ (bytes4 s.d ++ bytes4 s.e)))) s.f (bytes4 s.g ++ (bytes4 s.h ++ l)) 20 rfl
  have h6 := wordAt_pre (bytes4 s.a ++ (bytes4 s.b ++ (bytes4 s.c ++ (bytes4 s.d ++ (bytes4 s.e ++ bytes4 s.f))))) s.g (bytes4 s.h ++ l) 24 rfl
  have h7 := wordAt_pre (bytes4 s.a ++ (bytes4 s.b ++ (bytes4 s.c ++ (bytes4 s.d ++ (bytes4 s.e ++ (bytes4 s.f ++ bytes4 s.g)))))) s.h l 28 rfl
  simp only [List.append_assoc, List.nil_append] at h0 h1 h2 h3 h4 h5 h6 h7
  rw [h0, h1, h2, h3, h4, h5, h6, h7]
theorem ldN_saved (s : St) (n : Nat) (hn : n < 18446744073709551616) (l : List UInt8) : ldN (s.bytes ++ (be 8 n ++ l)) = n := by
  have hx : (BitVec.ofNat 32 (n / 4294967296)).toNat = n / 4294967296 := by rw [BitVec.toNat_ofNat]; omega
  have hy : (BitVec.ofNat 32 n).toNat = n % 4294967296 := by rw [BitVec.toNat_ofNat]
  have e : be 8 n = bytes4 (BitVec.ofNat 32 (n / 4294967296)) ++ bytes4 (BitVec.ofNat 32 n) := by
    have e1 : ∀ (a b : Nat), a % 256 = b % 256 → UInt8.ofNat a = UInt8.ofNat b := fun a b h => by
      apply UInt8.toNat_inj.1
      rw [UInt8.toNat_ofNat', UInt8.toNat_ofNat', h]
    show [UInt8.ofNat (n / 256 ^ 7), UInt8.ofNat (n / 256 ^ 6), UInt8.ofNat (n / 256 ^ 5), UInt8.ofNat (n / 256 ^ 4), UInt8.ofNat (n / 256 ^ 3), UInt8.ofNat (n / 256 ^ 2), UInt8.ofNat (n / 256 ^ 1), UInt8.ofNat (n / 256 ^ 0)] = _
    simp only [bytes4, List.cons_append, List.nil_append, hx, hy, Nat.reducePow]
    rw [e1 (n / 72057594037927936) (n / 4294967296 / 16777216) (by omega), e1 (n / 281474976710656) (n / 4294967296 / 65536) (by omega), e1 (n / 1099511627776) (n / 4294967296 / 256) (by omega),
      e1 (n / 16777216) (n % 4294967296 / 16777216) (by omega), e1 (n / 65536) (n % 4294967296 / 65536) (by omega), e1 (n / 256) (n % 4294967296 / 256) (by omega), e1 (n / 1) (n % 4294967296) (by omega)]
  rw [e, List.append_assoc]
  unfold ldN
  rw [wordAt_pre s.bytes _ _ 32 (bytes_len s), ← List.append_assoc, wordAt_pre (s.bytes ++ bytes4 (BitVec.ofNat 32 (n / 4294967296))) _ _ 36 (by rw [List.length_append, bytes_len]; rfl), hx, hy]
  omega
theorem drop_saved (s : St) (n : Nat) (l : List UInt8) : (s.bytes ++ (be 8 n ++ l)).drop 40 = l := by
  rw [← List.append_assoc, List.drop_append_of_le_length (by rw [List.length_append, bytes_len, be_len]; omega), List.drop_of_length_le (by rw [List.length_append, bytes_len, be_len]; omega)]
  rfl
theorem ldErr_saved (s : St) (n : Nat) (hn : n < 2305843009213693952) (l : List UInt8) (hl : l.length = n % 64) : ldErr (s.bytes ++ (be 8 n ++ l)) = 0 := by
  have h1 : (s.bytes ++ (be 8 n ++ l)).length = 40 + l.length := by rw [List.length_append, List.length_append, bytes_len, be_len]; omega
  unfold ldErr
  rw [ldN_saved s n (by omega) l, h1, if_neg (by omega), if_neg (by omega), if_neg (by omega), if_neg (by omega)]

end Go.Sha
