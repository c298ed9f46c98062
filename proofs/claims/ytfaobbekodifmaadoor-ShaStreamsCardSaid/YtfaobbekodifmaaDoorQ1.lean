/- The plain law of SHA-256: words, blocks, sums. Conditions: as each says. -/
set_option linter.unusedSimpArgs false
set_option linter.unusedVariables false
namespace Go.Sha

abbrev W := BitVec 32
def rot (n : Nat) (x : W) : W := (x >>> n) ||| (x <<< (32 - n))
def s0 (x : W) : W := rot 7 x ^^^ rot 18 x ^^^ (x >>> 3)
def s1 (x : W) : W := rot 17 x ^^^ rot 19 x ^^^ (x >>> 10)
def S0 (x : W) : W := rot 2 x ^^^ rot 13 x ^^^ rot 22 x
def S1 (x : W) : W := rot 6 x ^^^ rot 11 x ^^^ rot 25 x
def ch (e f g : W) : W := (e &&& f) ^^^ (~~~e &&& g)
def maj (a b c : W) : W := (a &&& b) ^^^ (a &&& c) ^^^ (b &&& c)

/-- Four bytes, the first is the greatest. -/
def word (a b c d : UInt8) : W := BitVec.ofNat 32 (a.toNat * 16777216 + b.toNat * 65536 + c.toNat * 256 + d.toNat)
def bytes4 (x : W) : List UInt8 := [UInt8.ofNat (x.toNat / 16777216), UInt8.ofNat (x.toNat / 65536), UInt8.ofNat (x.toNat / 256), UInt8.ofNat x.toNat]
def wordAt (bs : List UInt8) (j : Nat) : W := word (bs.getD j 0) (bs.getD (j + 1) 0) (bs.getD (j + 2) 0) (bs.getD (j + 3) 0)

theorem getD_cut (bs : List UInt8) (l k j : Nat) (h : j < k) : ((bs.drop l).take k).getD j 0 = bs.getD (l + j) 0 := by
  simp [List.getD, List.getElem?_take, h]
theorem wordAt_cut (bs : List UInt8) (l k : Nat) (h : 4 ≤ k) : wordAt ((bs.drop l).take k) 0 = wordAt bs l := by
  simp only [wordAt]
  rw [getD_cut _ _ _ _ (by omega), getD_cut _ _ _ _ (by omega), getD_cut _ _ _ _ (by omega), getD_cut _ _ _ _ (by omega)]
  rfl

def nxt (l : List W) (i : Nat) : W := l.getD (i - 16) 0 + s0 (l.getD (i - 15) 0) + l.getD (i - 7) 0 + s1 (l.getD (i - 2) 0)
/-- The first so many words of a block, then nothing. -/
def spr (bs : List UInt8) : Nat → List W
  | 0 => List.replicate 64 0
  | i + 1 => (spr bs i).set i (if i < 16 then wordAt bs (4 * i) else nxt (spr bs i) i)
theorem spr_len (bs : List UInt8) : ∀ i, (spr bs i).length = 64
  | 0 => by simp [spr]
  | i + 1 => by simp [spr, spr_len bs i]

structure St where
  a : W
  b : W
  c : W
  d : W
  e : W
  f : W
  g : W
  h : W
deriving DecidableEq

def turn (k w : W) (s : St) : St :=
  let t1 := s.h + S1 s.e + ch s.e s.f s.g + k + w
  let t2 := S0 s.a + maj s.a s.b s.c
  ⟨t1 + t2, s.a, s.b, s.c, s.d + t1, s.e, s.f, s.g⟩
def turns (ks ws : List W) : Nat → St → St
  | 0, s => s
  | i + 1, s => turn (ks.getD i 0) (ws.getD i 0) (turns ks ws i s)
def St.add (x y : St) : St := ⟨x.a + y.a, x.b + y.b, x.c + y.c, x.d + y.d, x.e + y.e, x.f + y.f, x.g + y.g, x.h + y.h⟩
def step (ks : List W) (s : St) (block : List UInt8) : St := s.add (turns ks (spr block 64) 64 s)
def St.list (s : St) : List W := [s.a, s.b, s.c, s.d, s.e, s.f, s.g, s.h]
def St.bytes (s : St) : List UInt8 := s.list.flatMap bytes4

def odd : List W := [0x428a2f98, 0x71374491, 0xb5c0fbcf, 0xe9b5dba5, 0x3956c25b, 0x59f111f1, 0x923f82a4, 0xab1c5ed5, 0xd807aa98, 0x12835b01, 0x243185be, 0x550c7dc3, 0x72be5d74, 0x80deb1fe, 0x9bdc06a7, 0xc19bf174, 0xe49b69c1, 0xefbe4786, 0x0fc19dc6, 0x240ca1cc, 0x2de92c6f, 0x4a7484aa, 0x5cb0a9dc, 0x76f988da, 0x983e5152, 0xa831c66d, 0xb00327c8, 0xbf597fc7, 0xc6e00bf3, 0xd5a79147, 0x06ca6351, 0x14292967, 0x27b70a85, 0x2e1b2138, 0x4d2c6dfc, 0x53380d13, 0x650a7354, 0x766a0abb, 0x81c2c92e, 0x92722c85, 0xa2bfe8a1, 0xa81a664b, 0xc24b8b70, 0xc76c51a3, 0xd192e819, 0xd6990624, 0xf40e3585, 0x106aa070, 0x19a4c116, 0x1e376c08, 0x2748774c, 0x34b0bcb5, 0x391c0cb3, 0x4ed8aa4a, 0x5b9cca4f, 0x682e6ff3, 0x748f82ee, 0x78a5636f, 0x84c87814, 0x8cc70208, 0x90befffa, 0xa4506ceb, 0xbef9a3f7, 0xc67178f2]
theorem odd_len : odd.length = 64 := rfl
def first : St := ⟨0x6a09e667, 0xbb67ae85, 0x3c6ef372, 0xa54ff53a, 0x510e527f, 0x9b05688c, 0x1f83d9ab, 0x5be0cd19⟩
theorem St.list_len (s : St) : s.list.length = 8 := rfl
/-- The first so many words are added. -/
def mix (s v : St) (i : Nat) : List W := (s.add v).list.take i ++ s.list.drop i
theorem mix_len (s v : St) (i : Nat) (h : i ≤ 8) : (mix s v i).length = 8 := by
  simp only [mix, List.length_append, List.length_take, List.length_drop, St.list_len]; omega
theorem mix_next (s v : St) (i : Nat) (h : i < 8) : (mix s v i).set i ((mix s v i).getD i 0 + v.list.getD i 0) = mix s v (i + 1) := by
  match i, h with
  | 0, _ => rfl
  | 1, _ => rfl
  | 2, _ => rfl
  | 3, _ => rfl
  | 4, _ => rfl
  | 5, _ => rfl
  | 6, _ => rfl
  | 7, _ => rfl

theorem nat_word (a b c d : Nat) (hb : b < 256) (hc : c < 256) (hd : d < 256) : (((a <<< 24 ||| b <<< 16) ||| c <<< 8) ||| d) = a * 16777216 + b * 65536 + c * 256 + d := by
  have e1 : a <<< 24 = (a * 256) <<< 16 := by simp [Nat.shiftLeft_eq]; omega
  have h1 : a <<< 24 ||| b <<< 16 = (a * 256 + b) <<< 16 := by
    have : a <<< 8 + b = a <<< 8 ||| b := Nat.shiftLeft_add_eq_or_of_lt hb a
    rw [show a * 256 + b = a <<< 8 ||| b from by rw [← this, Nat.shiftLeft_eq], Nat.shiftLeft_or_distrib, ← Nat.shiftLeft_add]
  have h2 : (a * 256 + b) <<< 16 ||| c <<< 8 = ((a * 256 + b) * 256 + c) <<< 8 := by
    have : (a * 256 + b) <<< 8 + c = (a * 256 + b) <<< 8 ||| c := Nat.shiftLeft_add_eq_or_of_lt hc _
    rw [show (a * 256 + b) * 256 + c = (a * 256 + b) <<< 8 ||| c from by rw [← this, Nat.shiftLeft_eq], Nat.shiftLeft_or_distrib, ← Nat.shiftLeft_add]
  have h3 : ((a * 256 + b) * 256 + c) <<< 8 ||| d = ((a * 256 + b) * 256 + c) <<< 8 + d := (Nat.shiftLeft_add_eq_or_of_lt hd _).symm
  rw [h1, h2, h3, Nat.shiftLeft_eq]
  omega
theorem word_eq (a b c d : UInt8) : ((BitVec.ofNat 32 a.toNat <<< (24 : Int).toNat ||| BitVec.ofNat 32 b.toNat <<< (16 : Int).toNat) ||| BitVec.ofNat 32 c.toNat <<< (8 : Int).toNat) ||| BitVec.ofNat 32 d.toNat = word a b c d := by
  have ha := a.toNat_lt; have hb := b.toNat_lt; have hc := c.toNat_lt; have hd := d.toNat_lt
  apply BitVec.eq_of_toNat_eq
  have s1 : a.toNat <<< 24 < 2 ^ 32 := by rw [Nat.shiftLeft_eq]; omega
  have s2 : b.toNat <<< 16 < 2 ^ 32 := by rw [Nat.shiftLeft_eq]; omega
  have s3 : c.toNat <<< 8 < 2 ^ 32 := by rw [Nat.shiftLeft_eq]; omega
  show (((BitVec.ofNat 32 a.toNat <<< 24 ||| BitVec.ofNat 32 b.toNat <<< 16) ||| BitVec.ofNat 32 c.toNat <<< 8) ||| BitVec.ofNat 32 d.toNat).toNat = _
  simp only [word, BitVec.toNat_or, BitVec.toNat_shiftLeft, BitVec.toNat_ofNat]
  rw [Nat.mod_eq_of_lt (show a.toNat < 2 ^ 32 by omega), Nat.mod_eq_of_lt (show b.toNat < 2 ^ 32 by omega), Nat.mod_eq_of_lt (show c.toNat < 2 ^ 32 by omega), Nat.mod_eq_of_lt (show d.toNat < 2 ^ 32 by omega),
    Nat.mod_eq_of_lt s1, Nat.mod_eq_of_lt s2, Nat.mod_eq_of_lt s3, nat_word _ _ _ _ (by omega) (by omega) (by omega), Nat.mod_eq_of_lt (by omega)]


/-- Bytes as a number, the first is the greatest, of 64 bits. -/
def num (bs : List UInt8) : Nat := bs.foldl (fun n b => (n * 256 + b.toNat) % 18446744073709551616) 0
theorem num_snoc (bs : List UInt8) (b : UInt8) : num (bs ++ [b]) = (num bs * 256 + b.toNat) % 18446744073709551616 := by simp [num]
theorem num_lt (bs : List UInt8) : num bs < 18446744073709551616 := by
  rcases List.eq_nil_or_concat bs with h | ⟨l, b, h⟩
  · subst h; decide
  · subst h; rw [List.concat_eq_append, num_snoc]; exact Nat.mod_lt _ (by decide)
theorem take_next (bs : List UInt8) (i : Nat) (h : i < bs.length) : bs.take (i + 1) = bs.take i ++ [bs.getD i 0] := by
  rw [List.take_add_one, List.getD, List.getElem?_eq_getElem h]; rfl
theorem num4 (bs : List UInt8) (l : Nat) (h : l + 4 ≤ bs.length) : BitVec.ofNat 32 (num ((bs.drop l).take 4)) = wordAt bs l := by
  have e : (bs.drop l).take 4 = [bs.getD l 0, bs.getD (l + 1) 0, bs.getD (l + 2) 0, bs.getD (l + 3) 0] := by
    apply List.ext_getElem?
    intro i
    rw [List.getElem?_take]
    match i with
    | 0 => simp [List.getD, List.getElem?_eq_getElem (show l < bs.length by omega)]
    | 1 => simp [List.getD, List.getElem?_eq_getElem (show l + 1 < bs.length by omega)]
    | 2 => simp [List.getD, List.getElem?_eq_getElem (show l + 2 < bs.length by omega)]
    | 3 => simp [List.getD, List.getElem?_eq_getElem (show l + 3 < bs.length by omega)]
    | i + 4 => rw [if_neg (by omega)]; simp
  rw [e]
  simp only [num, List.foldl, wordAt, word]
  generalize bs.getD l 0 = a
  generalize bs.getD (l + 1) 0 = b
  generalize bs.getD (l + 2) 0 = c
  generalize bs.getD (l + 3) 0 = d
  have ha := a.toNat_lt; have hb := b.toNat_lt; have hc := c.toNat_lt; have hd := d.toNat_lt
  congr 1
  omega

theorem St.get0 (s : St) : s.list.getD (0 + Int.toNat 0 * 1) 0 = s.a := rfl
theorem St.get1 (s : St) : s.list.getD (0 + Int.toNat 1 * 1) 0 = s.b := rfl
theorem St.get2 (s : St) : s.list.getD (0 + Int.toNat 2 * 1) 0 = s.c := rfl
theorem St.get3 (s : St) : s.list.getD (0 + Int.toNat 3 * 1) 0 = s.d := rfl
theorem St.get4 (s : St) : s.list.getD (0 + Int.toNat 4 * 1) 0 = s.e := rfl
theorem St.get5 (s : St) : s.list.getD (0 + Int.toNat 5 * 1) 0 = s.f := rfl
theorem St.get6 (s : St) : s.list.getD (0 + Int.toNat 6 * 1) 0 = s.g := rfl
theorem St.get7 (s : St) : s.list.getD (0 + Int.toNat 7 * 1) 0 = s.h := rfl
theorem turn_list (k w : W) (s : St) : [s.h + (rot 6 s.e ^^^ rot 11 s.e ^^^ rot 25 s.e) + (s.e &&& s.f ^^^ ~~~s.e &&& s.g) + k + w + ((rot 2 s.a ^^^ rot 13 s.a ^^^ rot 22 s.a) + (s.a &&& s.b ^^^ s.a &&& s.c ^^^ s.b &&& s.c)), s.a, s.b, s.c,
    s.d + (s.h + (rot 6 s.e ^^^ rot 11 s.e ^^^ rot 25 s.e) + (s.e &&& s.f ^^^ ~~~s.e &&& s.g) + k + w), s.e, s.f, s.g] = (turn k w s).list := by
  simp only [turn, St.list, S0, S1, ch, maj]


theorem bytes4_eq (x : W) : [UInt8.ofNat (x >>> (24 : Int).toNat).toNat, UInt8.ofNat (x >>> (16 : Int).toNat).toNat, UInt8.ofNat (x >>> (8 : Int).toNat).toNat, UInt8.ofNat x.toNat] = bytes4 x := by
  have h : ∀ k : Nat, (x >>> k).toNat = x.toNat / 2 ^ k := fun k => by rw [BitVec.toNat_ushiftRight, Nat.shiftRight_eq_div_pow]
  show [UInt8.ofNat (x >>> 24).toNat, UInt8.ofNat (x >>> 16).toNat, UInt8.ofNat (x >>> 8).toNat, UInt8.ofNat x.toNat] = _
  rw [h, h, h]; rfl
theorem bytes_next (s : St) (i : Nat) (h : i < 8) : (s.list.take (i + 1)).flatMap bytes4 = (s.list.take i).flatMap bytes4 ++ bytes4 (s.list.getD i 0) := by
  match i, h with
  | 0, _ => rfl
  | 1, _ => rfl
  | 2, _ => rfl
  | 3, _ => rfl
  | 4, _ => rfl
  | 5, _ => rfl
  | 6, _ => rfl
  | 7, _ => rfl
theorem bytes_len (s : St) : s.bytes.length = 32 := rfl

/-- A number's last so many bytes, the greatest first. -/
def be (k n : Nat) : List UInt8 := (List.range k).map fun i => UInt8.ofNat (n / 256 ^ (k - 1 - i))
theorem be_len (k n : Nat) : (be k n).length = k := by simp [be]
theorem be_get (k n i : Nat) (h : i < k) : (be k n).getD i 0 = UInt8.ofNat (n / 256 ^ (k - 1 - i)) := by simp [be, List.getD, h]
theorem be_next (k n i : Nat) (h : i < k) : (be k n).take (i + 1) = (be k n).take i ++ [UInt8.ofNat (n / 256 ^ (k - 1 - i))] := by
  rw [take_next _ _ (by rw [be_len]; exact h), be_get k n i h]
theorem shift8 (n j : Nat) : ((n : Int) / 2 ^ (8 * j)) = ((n / 256 ^ j : Nat) : Int) := by
  rw [show (256 : Nat) = 2 ^ 8 from rfl, ← Nat.pow_mul]; simp
def zeros (n : Nat) : Nat := (119 - n % 64) % 64
/-- What stands behind a text of so many bytes. -/
def pad (n : Nat) : List UInt8 := 128 :: List.replicate (zeros n) 0 ++ be 8 (8 * n)
theorem rep_next (z : Nat) : (128 :: List.replicate (z + 1) 0 : List UInt8) = (128 :: List.replicate z 0) ++ [0] := by
  rw [List.replicate_succ']; rfl
theorem pad_len (n : Nat) : (pad n).length = 9 + zeros n := by simp [pad, be_len]; omega
theorem pad_whole (n : Nat) : (n + (pad n).length) % 64 = 0 := by
  rw [pad_len, zeros]; omega
theorem take_min (bs : List UInt8) (n : Nat) : bs.take (bs.take n).length = bs.take n := by
  rw [List.length_take]
  rcases Nat.le_total n bs.length with h | h
  · rw [Nat.min_eq_left h]
  · rw [Nat.min_eq_right h, List.take_length, List.take_of_length_le h]
theorem fill_back (B : List UInt8) (j : Nat) (h : j < B.length) : (List.replicate (j + 1) 0 ++ B.drop (j + 1)).set j (B.getD j 0) = List.replicate j 0 ++ B.drop j := by
  rw [List.replicate_succ', List.append_assoc, List.set_append_right _ _ (by simp)]
  simp only [List.length_replicate, Nat.sub_self, List.cons_append, List.nil_append, List.set_cons_zero]
  rw [List.drop_eq_getElem_cons h, List.getD, List.getElem?_eq_getElem h]; rfl
theorem ofNat_mod (v : Nat) : UInt8.ofNat (v % 256) = UInt8.ofNat v := by
  apply UInt8.toNat_inj.1
  rw [UInt8.toNat_ofNat', UInt8.toNat_ofNat']; omega
theorem be_back (k n i : Nat) (h : i < k) : (List.replicate (k - i) 0 ++ (be k n).drop (k - i)).set (k - 1 - i) (UInt8.ofNat (n / 256 ^ i % 256)) = List.replicate (k - (i + 1)) 0 ++ (be k n).drop (k - (i + 1)) := by
  have q := fill_back (be k n) (k - 1 - i) (by rw [be_len]; omega)
  rw [be_get _ _ _ (by omega), show k - 1 - (k - 1 - i) = i from by omega, show k - 1 - i + 1 = k - i from by omega] at q
  rw [ofNat_mod, q, show k - 1 - i = k - (i + 1) from by omega]
theorem bytes4_be (x : W) : be 4 x.toNat = bytes4 x := by
  show [UInt8.ofNat (x.toNat / 256 ^ 3), UInt8.ofNat (x.toNat / 256 ^ 2), UInt8.ofNat (x.toNat / 256 ^ 1), UInt8.ofNat (x.toNat / 256 ^ 0)] = _
  simp [bytes4]
/-- The state behind so many blocks. -/
def run : Nat → St → List UInt8 → St
  | 0, s, _ => s
  | k + 1, s, bs => run k (step odd s (bs.take 64)) (bs.drop 64)
theorem run_next : ∀ (i : Nat) (s : St) (bs : List UInt8), run (i + 1) s bs = step odd (run i s bs) ((bs.drop (64 * i)).take 64)
  | 0, s, bs => rfl
  | i + 1, s, bs => by
    rw [run, run_next i, run]
    rw [List.drop_drop, show 64 + 64 * i = 64 * (i + 1) from by omega]
def whole (s : St) (bs : List UInt8) : St := run (bs.length / 64) s bs
def digest (m : List UInt8) : List UInt8 := (whole first (m ++ pad m.length)).bytes
theorem digest_len (m : List UInt8) : (digest m).length = 32 := rfl


def digits : List UInt8 := [48, 49, 50, 51, 52, 53, 54, 55, 56, 57, 97, 98, 99, 100, 101, 102]
theorem dig1 (k : Nat) (h : k < 16) : (digits.drop k).take 1 = [digits.getD k 0] := by
  have hl : k < digits.length := h
  rw [List.drop_eq_getElem_cons hl, List.getD, List.getElem?_eq_getElem hl]; rfl
/-- Two digits. -/
def hex2 (x : UInt8) : List UInt8 := [digits.getD (x.toNat / 16) 0, digits.getD (x.toNat % 16) 0]
def hex (bs : List UInt8) : List UInt8 := bs.flatMap hex2
theorem hex_next (bs : List UInt8) (i : Nat) (h : i < bs.length) : hex (bs.take (i + 1)) = hex (bs.take i) ++ hex2 (bs.getD i 0) := by
  rw [take_next bs i h]; simp [hex]
theorem hex_len (bs : List UInt8) : (hex bs).length = 2 * bs.length := by
  induction bs with
  | nil => rfl
  | cons x l ih => simp only [hex, List.flatMap_cons, List.length_append, List.length_cons] at ih ⊢; rw [ih]; simp [hex2]; omega

end Go.Sha
