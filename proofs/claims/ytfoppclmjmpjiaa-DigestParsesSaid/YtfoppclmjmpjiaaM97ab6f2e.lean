/- Texts in a row: the walk's rules and contracts, as each says. Conditions: as each says. -/
import Derived.Test.YtfoppclmjmpjiaaMe0df7f36
import Derived.Laws.BytesString
import Derived.Laws.Strings
import Derived.Laws.MakeOwn
import Derived.OrdersIn
/- Words of 32 bits and bytes, as values, and the operations on them. Conditions: as each says. -/
set_option linter.unusedSimpArgs false
set_option linter.unusedVariables false
namespace Go.Ost
open Go

variable {P : Program}

abbrev W32 := BitVec 32
def b32 (x : BitVec 32) : Value := .int .u32 x.toNat
def b8 (x : UInt8) : Value := .int .u8 x.toNat
theorem b8_cell (x : UInt8) : Value.cell1 (b8 x) := trivial
theorem b32_cell (x : BitVec 32) : Value.cell1 (b32 x) := trivial

theorem wrap32_mod (n : Nat) : IntKind.u32.wrap (n : Int) = ((n % 4294967296 : Nat) : Int) := by
  show ((n : Int) % (2 ^ 32 : Int)) = _
  omega
theorem ofInt_nat {k : Nat} (x : BitVec k) : BitVec.ofInt k (x.toNat : Int) = x := by
  apply BitVec.eq_of_toNat_eq
  simp

section words
variable (t : TypeId) (x y : Operand) (a b : BitVec 32) (κ : Value → Prop)
theorem w_add : PureW P (do eqGuard .add t x y (b32 a) (b32 b); binOp .add t (b32 a) (b32 b)) κ = κ (b32 (a + b)) := by
  refine (bin_add t x y .u32 _ _ κ).trans ?_
  rw [← Int.natCast_add, wrap32_mod]; rfl
theorem w_sub : PureW P (do eqGuard .sub t x y (b32 a) (b32 b); binOp .sub t (b32 a) (b32 b)) κ = κ (b32 (a - b)) := by
  refine (bin_sub t x y .u32 _ _ κ).trans ?_
  congr 2
  have h1 := a.isLt
  have h2 := b.isLt
  rw [show ((a.toNat : Int) - b.toNat) = ((4294967296 - b.toNat + a.toNat : Nat) : Int) - 4294967296 from by omega]
  rw [BitVec.toNat_sub]
  show ((_ : Int) % (2 ^ 32 : Int)) = _
  omega
theorem w_bits {o : BinOp} {r : BitVec 32} (h : ∀ w, (Op.intBits o .u32 a.toNat b.toNat).run P w = .ok (.int .u32 (IntKind.u32.wrap r.toNat)) w) (hb : ∀ w, (do eqGuard o t x y (b32 a) (b32 b); binOp o t (b32 a) (b32 b) : Sem Value).run P w = (Op.intBits o .u32 a.toNat b.toNat).run P w) :
    PureW P (do eqGuard o t x y (b32 a) (b32 b); binOp o t (b32 a) (b32 b)) κ = κ (b32 r) :=
  pureW_eq (fun w => by
    rw [hb, h, wrap32_mod]
    have := r.isLt
    rw [Nat.mod_eq_of_lt (by simpa using this)]; rfl) κ
theorem w_and : PureW P (do eqGuard .and t x y (b32 a) (b32 b); binOp .and t (b32 a) (b32 b)) κ = κ (b32 (a &&& b)) :=
  w_bits t x y a b κ (fun w => by
    show Result.ok (Value.int .u32 (IntKind.u32.wrap ((BitVec.ofInt 32 (a.toNat : Int) &&& BitVec.ofInt 32 (b.toNat : Int)).toNat : Int))) w = _
    rw [ofInt_nat, ofInt_nat]) (fun w => by simp [eqGuard, binOp, b32])
theorem w_or : PureW P (do eqGuard .or t x y (b32 a) (b32 b); binOp .or t (b32 a) (b32 b)) κ = κ (b32 (a ||| b)) :=
  w_bits t x y a b κ (fun w => by
    show Result.ok (Value.int .u32 (IntKind.u32.wrap ((BitVec.ofInt 32 (a.toNat : Int) ||| BitVec.ofInt 32 (b.toNat : Int)).toNat : Int))) w = _
    rw [ofInt_nat, ofInt_nat]) (fun w => by simp [eqGuard, binOp, b32])
theorem w_xor : PureW P (do eqGuard .xor t x y (b32 a) (b32 b); binOp .xor t (b32 a) (b32 b)) κ = κ (b32 (a ^^^ b)) :=
  w_bits t x y a b κ (fun w => by
    show Result.ok (Value.int .u32 (IntKind.u32.wrap ((BitVec.ofInt 32 (a.toNat : Int) ^^^ BitVec.ofInt 32 (b.toNat : Int)).toNat : Int))) w = _
    rw [ofInt_nat, ofInt_nat]) (fun w => by simp [eqGuard, binOp, b32])
theorem w_not : PureW P (Op.unary .xor (b32 a)) κ = κ (b32 (~~~a)) :=
  pureW_eq (fun w => by
    have h : BitVec.ofInt 32 4294967295 = BitVec.allOnes 32 := by decide
    show Result.ok (Value.int .u32 (IntKind.u32.wrap ((BitVec.ofInt 32 4294967295 ^^^ BitVec.ofInt 32 (a.toNat : Int)).toNat : Int))) w = _
    rw [ofInt_nat, h, BitVec.allOnes_xor, wrap32_mod, Nat.mod_eq_of_lt (~~~a).isLt]
    rfl) κ
theorem w_shl {j : IntKind} {n : Int} (h0 : 0 ≤ n) (h1 : n ≤ 32) : PureW P (do eqGuard .shl t x y (b32 a) (.int j n); binOp .shl t (b32 a) (.int j n)) κ = κ (b32 (a <<< n.toNat)) :=
  pureW_eq (fun w => by
    have e : min n.toNat IntKind.u32.bits = n.toNat := by show min n.toNat 32 = n.toNat; omega
    have h3 : ¬ n < 0 := by omega
    show (Op.shift .shl .u32 (a.toNat : Int) j n).run P w = _
    rw [Op.shift, if_neg h3, e]
    show Result.ok (Value.int .u32 (IntKind.u32.wrap ((a.toNat : Int) * 2 ^ n.toNat))) w = _
    rw [show ((a.toNat : Int) * 2 ^ n.toNat) = ((a.toNat * 2 ^ n.toNat : Nat) : Int) from by simp, wrap32_mod, ← Nat.shiftLeft_eq]
    rfl) κ
theorem w_shr {j : IntKind} {n : Int} (h0 : 0 ≤ n) (h1 : n ≤ 32) : PureW P (do eqGuard .shr t x y (b32 a) (.int j n); binOp .shr t (b32 a) (.int j n)) κ = κ (b32 (a >>> n.toNat)) :=
  pureW_eq (fun w => by
    have e : min n.toNat IntKind.u32.bits = n.toNat := by show min n.toNat 32 = n.toNat; omega
    have h3 : ¬ n < 0 := by omega
    show (Op.shift .shr .u32 (a.toNat : Int) j n).run P w = _
    rw [Op.shift, if_neg h3, e]
    show Result.ok (Value.int .u32 (Int.fdiv (a.toNat : Int) (2 ^ n.toNat))) w = _
    rw [show Int.fdiv (a.toNat : Int) (2 ^ n.toNat) = ((a.toNat / 2 ^ n.toNat : Nat) : Int) from by
      rw [Int.fdiv_eq_ediv_of_nonneg _ (Int.le_of_lt (Int.pow_pos (by decide)))]
      simp, ← Nat.shiftRight_eq_div_pow]
    rfl) κ
end words

/-! ### Bytes and strings -/

def str (bs : List UInt8) : ByteArray := ⟨bs.toArray⟩
theorem str_inj {a b : List UInt8} (h : str a = str b) : a = b := by
  have := congrArg ByteArray.data h
  simpa [str] using this
theorem push_str (l : List UInt8) : ∀ (r : ByteArray), (l.map fun x => ((x.toNat : Nat) : Int)).foldl (fun r n => r.push (UInt8.ofNat n.toNat)) r = ⟨r.data ++ l.toArray⟩ := by
  induction l with
  | nil => intro r; cases r; simp
  | cons x l ih =>
    intro r
    simp only [List.map_cons, List.foldl_cons]
    rw [ih]
    simp [ByteArray.push]

/-- Bytes, as a string. -/
theorem conv_bytes_string {src dst e : TypeId} [hs : TSlice P src e] [he : TInt P e .u8] [hd : TStr P dst] {S : State} {κ : Value → State → Prop} {a : Option Addr} {len cap : Nat} {bs : List UInt8} (h : Rd 1 S a len (bs.map b8))
    (k : κ (.string (str bs)) S) : ConvW P src dst (.slice a len cap) S κ := by
  refine ⟨fun w hw => ⟨_, w, S, ?_, Ext.refl w, hw, k⟩⟩
  rw [run_convert_bytes_string w src dst e a len cap hs.und he.und hd.und]
  have f := rd_first (P := P) (c := cap) h hw
  cases a with
  | none =>
    have : bs = [] := by
      have h2 := h.2
      cases bs with
      | nil => rfl
      | cons x l => obtain ⟨_, _, _, _, _, h3, _⟩ := h2 (by simp); cases h3
    subst this; rfl
  | some a =>
    simp only [Builtin.firstCells, Nat.mul_one] at f
    rw [run_bytesToString w a len cap (bs.map fun x => ((x.toNat : Nat) : Int)) (by rw [f]; simp [b8, Function.comp_def])]
    rw [push_str]
    congr 2
    simp [str]

theorem run_mark {w : World} {b o : Nat} {cs : Array Value} {e : TypeId} {m : Nat × Nat} (h : w.heap[b]? = some (.cells cs e m)) (hm : Soft cs.size m) :
    ∃ w' m', (markStringish ⟨b, o, none⟩).run P w = .ok () w' ∧ Ext w w' ∧ Soft cs.size m' ∧ w'.heap[b]? = some (.cells cs e m') ∧ ∀ k, k ≠ b → w'.heap[k]? = w.heap[k]? := by
  obtain ⟨lo, hi⟩ := m
  refine ⟨w.freeze { block := b, off := cs.size } 1, if lo == hi then (cs.size, cs.size + 1) else (min lo cs.size, max hi (cs.size + 1)), ?_, ?_, ?_, ?_, ?_⟩
  · have hsh : w.shape? b = some (e, cs.size) := by simp [World.shape?, h]
    simp [markStringish, shape, freeze, Sem.run_bind, Sem.run, hsh, Result.andThen]
  · exact ⟨rfl, rfl, rfl, by simp [World.freeze]⟩
  · unfold Soft at hm ⊢
    split
    · exact .inr (Nat.le_refl _)
    · rename_i hne
      rcases hm with hm | hm
      · exact absurd hm (by simpa using hne)
      · right; simp only at hm ⊢; omega
  · simp only [World.freeze]
    rw [if_neg (by decide)]
    simp only [Array.getElem?_modify, if_true, h, Option.map_some]
  · intro k hk
    simp only [World.freeze]
    rw [if_neg (by decide)]
    simp only [Array.getElem?_modify]
    rw [if_neg (Ne.symm hk)]

/-- Bytes of one's own, named otherwise. -/
theorem conv_same {t e : TypeId} [ht : TSlice P t e] [he : TInt P e .u8] {S G : State} {κ : Value → State → Prop} {C : Chunk} {ad : Addr} {len cap : Nat} {us : List Value} (ho : Own 1 e C (some ad) len cap us) (hp : Pick C S G)
    (hpos : 0 < cap) (k : ∀ C', Own 1 e C' (some ad) len cap us → κ (.slice (some ad) len cap) (C' :: G)) : ConvW P t t (.slice (some ad) len cap) S κ := by
  refine ⟨fun w hw => ?_⟩
  obtain ⟨h1, h2, h3, h4⟩ := ho
  rcases h4 with ⟨h5, _⟩ | ⟨b, o, cs, m, h5, rfl, hs, hbig, hc⟩
  · omega
  · cases h5
    have hCG := hw.perm hp.perm
    obtain ⟨w', m', q1, q2, q3, q4, q5⟩ := run_mark (P := P) (o := o) (hCG.get b (.cells cs e m) (by simp)) hs
    refine ⟨_, w', _, ?_, q2, (Upd.one (S := G)).hold hCG q4 q5, k [(b, .cells cs e m')] ⟨h1, h2, h3, .inr ⟨b, o, cs, m', rfl, rfl, q3, hbig, hc⟩⟩⟩
    simp [convert, Sem.run_bind, run_und ht.und, run_und he.und, Result.andThen, q1]

/-- A string, as bytes of one's own. -/
theorem conv_string_bytes {src dst e : TypeId} [hs : TStr P src] [hd : TSlice P dst e] [he : TInt P e .u8] {S : State} {κ : Value → State → Prop} {bs : List UInt8} (hm : bs.length ≤ maxLen)
    (k : ∀ C a cap, Own 1 e C (some a) bs.length cap (bs.map b8) → κ (.slice (some a) bs.length cap) (C :: S)) : ConvW P src dst (.string (str bs)) S κ := by
  refine ⟨fun w hw => ?_⟩
  have hge := grownCap_ge w bs.length 0 e
  have hcm := grownCap_le_maxLen w bs.length 0 e hm
  obtain ⟨cells, hcells⟩ : ∃ cells : Array Value, cells = (bs.map b8).toArray ++ Array.replicate (grownCap w bs.length 0 e - bs.length) (.int .u8 0) := ⟨_, rfl⟩
  have hw1 : Hold (w.drew.alloc (.cells cells e)) ([(w.heap.size, .cells cells e (0, 0))] :: S) := Hold.new (w := w) hw rfl
  obtain ⟨w', m', q1, q2, q3, q4, q5⟩ := run_mark (P := P) (o := 0) (hw1.get w.heap.size (.cells cells e (0, 0)) (by simp)) (.inl rfl)
  refine ⟨.slice (some ⟨w.heap.size, 0, none⟩) bs.length (grownCap w bs.length 0 e), w', _, ?_, Ext.trans (a := w) (b := w.drew.alloc (.cells cells e)) ⟨rfl, rfl, rfl, by simp⟩ q2, (Upd.one (S := S)).hold hw1 q4 q5, k [(w.heap.size, .cells cells e m')] _ _ ⟨hge, hcm, by simp, .inr ⟨_, 0, cells, m', rfl, rfl, q3, ?_, ?_⟩⟩⟩
  · have e1 : (str bs).data.map (fun b => Value.int .u8 b.toNat) = (bs.map b8).toArray := by simp [str, b8, Function.comp_def]
    have e2 : (str bs).size = bs.length := by simp [str, ByteArray.size]
    have r : (convert src dst (.string (str bs))).run P w = (Conv.stringToBytes e (str bs)).run P w := by
      simp [convert, Sem.run_bind, run_und hs.und, run_und hd.und, run_und he.und, Result.andThen]
    rw [r]
    unfold Conv.stringToBytes
    simp only [Sem.run_bind, e1, e2]
    have c1 : (choose (Question.appendCap bs.length 0 e)).run P w = .ok (grownCap w bs.length 0 e) w.drew := by rw [run_choose_drew]; simp [Question.forced, grownCap]
    have c2 : (newRow e cells).run P w.drew = .ok ⟨w.heap.size, 0, none⟩ (w.drew.alloc (.cells cells e)) := rfl
    rw [c1]
    simp only [Result.andThen]
    rw [← hcells, c2]
    simp only [Result.andThen]
    rw [q1]
    rfl
  · rw [hcells]; simp; omega
  · intro i hi
    rw [hcells, Nat.zero_add, Array.getElem?_append_left (by simpa using hi)]
    simp

/-! ### Conversions of words -/

theorem cq_b8_32 {s d : TypeId} [hs : TInt P s .u8] [hd : TInt P d .u32] {x : UInt8} {κ : Value → Prop} : PureW P (convert s d (b8 x)) κ = κ (b32 (BitVec.ofNat 32 x.toNat)) := by
  show PureW P (convert s d (.int .u8 (x.toNat : Int))) κ = _
  rw [conv_int, wrap32_mod]
  rfl
theorem cq_b32_8 {s d : TypeId} [hs : TInt P s .u32] [hd : TInt P d .u8] {x : W32} {κ : Value → Prop} : PureW P (convert s d (b32 x)) κ = κ (b8 (UInt8.ofNat x.toNat)) := by
  show PureW P (convert s d (.int .u32 (x.toNat : Int))) κ = _
  rw [conv_int]
  have : IntKind.u8.wrap (x.toNat : Int) = ((UInt8.ofNat x.toNat).toNat : Int) := by
    show ((x.toNat : Int) % (2 ^ 8 : Int)) = _
    rw [UInt8.toNat_ofNat']
    omega
  rw [this]; rfl
theorem cq_b32_64 {s d : TypeId} [hs : TInt P s .u32] [hd : TInt P d .u64] {x : W32} {κ : Value → Prop} : PureW P (convert s d (b32 x)) κ = κ (.int .u64 x.toNat) := by
  show PureW P (convert s d (.int .u32 (x.toNat : Int))) κ = _
  rw [conv_int, wrap_u64 (by omega) (by have := x.isLt; omega)]


theorem conv_b8_32 {s d : TypeId} [hs : TInt P s .u8] [hd : TInt P d .u32] {x : UInt8} {S : State} {κ : Value → State → Prop} : ConvW P s d (b8 x) S κ = κ (b32 (BitVec.ofNat 32 x.toNat)) S := by
  show PureW P (convert s d (.int .u8 (x.toNat : Int))) (fun v => κ v S) = _
  rw [conv_int, wrap32_mod]
  rfl
theorem conv_b8_int {s d : TypeId} {k : IntKind} [hs : TInt P s .u8] [hd : TInt P d k] {x : UInt8} {S : State} {κ : Value → State → Prop} (h : k.wrap (x.toNat : Int) = x.toNat) : ConvW P s d (b8 x) S κ = κ (.int k x.toNat) S := by
  show PureW P (convert s d (.int .u8 (x.toNat : Int))) (fun v => κ v S) = _
  rw [conv_int, h]
theorem conv_b32_8 {s d : TypeId} [hs : TInt P s .u32] [hd : TInt P d .u8] {x : W32} {S : State} {κ : Value → State → Prop} : ConvW P s d (b32 x) S κ = κ (b8 (UInt8.ofNat x.toNat)) S := by
  show PureW P (convert s d (.int .u32 (x.toNat : Int))) (fun v => κ v S) = _
  rw [conv_int]
  have : IntKind.u8.wrap (x.toNat : Int) = ((UInt8.ofNat x.toNat).toNat : Int) := by
    show ((x.toNat : Int) % (2 ^ 8 : Int)) = _
    rw [UInt8.toNat_ofNat']
    omega
  rw [this]; rfl
theorem conv_b32_64 {s d : TypeId} [hs : TInt P s .u32] [hd : TInt P d .u64] {x : W32} {S : State} {κ : Value → State → Prop} : ConvW P s d (b32 x) S κ = κ (.int .u64 x.toNat) S := by
  show PureW P (convert s d (.int .u32 (x.toNat : Int))) (fun v => κ v S) = _
  rw [conv_int, wrap_u64 (by omega) (by have := x.isLt; omega)]
theorem conv_64_b32 {s d : TypeId} {j : IntKind} [hs : TInt P s j] [hd : TInt P d .u32] {n : Nat} {S : State} {κ : Value → State → Prop} : ConvW P s d (.int j (n : Int)) S κ = κ (b32 (BitVec.ofNat 32 n)) S := by
  show PureW P (convert s d (.int j (n : Int))) (fun v => κ v S) = _
  rw [conv_int, wrap32_mod]
  rfl

/-! ### Rows of words -/

def rowW (l : List W32) : Array Value := (l.map b32).toArray
theorem rowW_size (l : List W32) : (rowW l).size = l.length := by simp [rowW]
theorem rowW_get (l : List W32) (i : Nat) (h : i < l.length) : (rowW l)[i]? = some (b32 (l.getD i 0)) := by
  simp [rowW, List.getD, h]
theorem rowW_set (l : List W32) (i : Nat) (x : W32) : (rowW l).setIfInBounds i (b32 x) = rowW (l.set i x) := by
  simp [rowW, List.map_set]
theorem load_w {t e : TypeId} {S : State} {κ : Value → Prop} {b o : Nat} {l : List W32} {m : Nat × Nat} [hf : TFlat P t] (hl : Lies b (.cells (rowW l) e m) S) (ho : o < l.length) (k : κ (b32 (l.getD o 0))) :
    ReadW P (Instr.loadAt t (.pointer (some ⟨b, o, none⟩))) S κ := load_one hl (rowW_get l o ho) k
theorem store_w {t e : TypeId} {z : Value} {by_ : Nat} {S S' : State} {κ : State → Prop} {b o : Nat} {l : List W32} {x : W32} [hs : TSized P t z 1 by_] (hu : Upd b (.cells (rowW l) e (0, 0)) (.cells (rowW (l.set o x)) e (0, 0)) S S')
    (ho : o < l.length) (k : κ S') : UnitW P (Instr.storeAt t (.pointer (some ⟨b, o, none⟩)) (b32 x)) S κ :=
  store_one (cs := rowW l) (b32_cell x) (by rw [rowW_set]; exact hu) (by rw [rowW_size]; exact ho) k

theorem load_rw {t e : TypeId} {z : Value} {s by_ : Nat} {S : State} {κ : Value → Prop} {b : Nat} {l : List W32} {m : Nat × Nat} [hf : TDeep P t] [hs : TSized P t z s by_] (hl : Lies b (.cells (rowW l) e m) S) (h : l.length = s) (k : κ (.agg (rowW l))) :
    ReadW P (Instr.loadAt t (.pointer (some ⟨b, 0, none⟩))) S κ := by
  refine load_agg hl (by rw [rowW_size]; omega) ?_
  have : (rowW l).extract 0 (0 + s) = rowW l := by
    apply Array.ext'; simp [rowW, ← h, List.take_of_length_le]
  rw [this]; exact k
theorem setCells_all : ∀ (vs : List Value) (p u r : List Value), u.length = vs.length → setCells (p ++ (u ++ r)).toArray p.length vs = (p ++ (vs ++ r)).toArray
  | [], p, [], r, _ => rfl
  | v :: vs, p, x :: u, r, h => by
    have ih := setCells_all vs (p ++ [v]) u r (by simpa using h)
    rw [setCells]
    have e : (p ++ (x :: u ++ r)).toArray.setIfInBounds p.length v = (p ++ [v] ++ (u ++ r)).toArray := by
      apply Array.ext'; simp
    rw [e, show p.length + 1 = (p ++ [v]).length from by simp, ih]
    simp
theorem store_rw {t e : TypeId} {z : Value} {s by_ : Nat} {S S' : State} {κ : State → Prop} {b : Nat} {l l' : List W32} [hs : TSized P t z s by_] (hu : Upd b (.cells (rowW l) e (0, 0)) (.cells (rowW l') e (0, 0)) S S')
    (h : l.length = s) (h' : l'.length = s) (k : κ S') : UnitW P (Instr.storeAt t (.pointer (some ⟨b, 0, none⟩)) (.agg (rowW l'))) S κ := by
  refine store_agg (e := e) (cs := rowW l) (S' := S') (by rw [rowW_size]; exact h') (fun v hv => ?_) ?_ (by rw [rowW_size]; omega) k
  · simp only [rowW, List.mem_map] at hv
    obtain ⟨x, _, rfl⟩ := hv
    exact b32_cell x
  · have e := setCells_all (l'.map b32) [] (l.map b32) [] (by simp; omega)
    simp only [List.nil_append, List.append_nil, List.length_nil] at e
    have e2 : setCells (rowW l) 0 (rowW l').toList = rowW l' := e
    rw [e2]; exact hu

/-! ### Words, and something behind them -/

def rowX (l : List W32) (r : List Value) : Array Value := (l.map b32 ++ r).toArray
theorem rowX_size (l : List W32) (r : List Value) : (rowX l r).size = l.length + r.length := by simp [rowX]
theorem rowX_get (l : List W32) (r : List Value) (i : Nat) (h : i < l.length) : (rowX l r)[i]? = some (b32 (l.getD i 0)) := by
  simp only [rowX, List.getElem?_toArray]
  rw [List.getElem?_append_left (by simpa using h)]
  simp [List.getD, h]
theorem rowX_set (l : List W32) (r : List Value) (i : Nat) (h : i < l.length) (x : W32) : (rowX l r).setIfInBounds i (b32 x) = rowX (l.set i x) r := by
  simp only [rowX, List.setIfInBounds_toArray]
  rw [List.set_append_left _ _ (by simpa using h), List.map_set]
theorem load_x {t e : TypeId} {S : State} {κ : Value → Prop} {b o : Nat} {l : List W32} {r : List Value} {m : Nat × Nat} [hf : TFlat P t] (hl : Lies b (.cells (rowX l r) e m) S) (ho : o < l.length) (k : κ (b32 (l.getD o 0))) :
    ReadW P (Instr.loadAt t (.pointer (some ⟨b, o, none⟩))) S κ := load_one hl (rowX_get l r o ho) k
theorem store_x {t e : TypeId} {z : Value} {by_ : Nat} {S S' : State} {κ : State → Prop} {b o : Nat} {l : List W32} {r : List Value} {x : W32} [hs : TSized P t z 1 by_] (hu : Upd b (.cells (rowX l r) e (0, 0)) (.cells (rowX (l.set o x) r) e (0, 0)) S S')
    (ho : o < l.length) (k : κ S') : UnitW P (Instr.storeAt t (.pointer (some ⟨b, o, none⟩)) (b32 x)) S κ :=
  store_one (cs := rowX l r) (b32_cell x) (by rw [rowX_set _ _ _ ho]; exact hu) (by rw [rowX_size]; omega) k

theorem index_w {t e n : Nat} {z : Value} {by_ : Nat} {k : IntKind} {i : Int} {l : List W32} {κ : Value → Prop} [h : TArr P t n e] [hs : TSized P e z 1 by_] [hf : TFlat P e] (h0 : 0 ≤ i) (h1 : i < n) (hl : l.length = n) :
    PureW P (Instr.index t (.agg (rowW l)) (.int k i)) κ = κ (b32 (l.getD i.toNat 0)) := arr_index h0 h1 (rowW_get l _ (by omega))
theorem build_w8 {t e : Nat} {z z' : Value} {s by_ by' : Nat} {a b c d e' f g h' : W32} {κ : Value → Prop} [h : TArr P t 8 e] [hs : TSized P t z s by_] [he : TSized P e z' 1 by'] (hz : z.cells.size = 8) :
    PureW P (Instr.build t #[(0, b32 a), (1, b32 b), (2, b32 c), (3, b32 d), (4, b32 e'), (5, b32 f), (6, b32 g), (7, b32 h')]) κ = κ (.agg (rowW [a, b, c, d, e', f, g, h'])) := by
  refine build_arr (ps := [(0, b32 a), (1, b32 b), (2, b32 c), (3, b32 d), (4, b32 e'), (5, b32 f), (6, b32 g), (7, b32 h')]) ?_
  have q := fill_all [b32 a, b32 b, b32 c, b32 d, b32 e', b32 f, b32 g, b32 h'] [] z.cells.toList (fun v hv => by
    simp only [List.mem_cons, List.not_mem_nil, or_false] at hv
    rcases hv with rfl | rfl | rfl | rfl | rfl | rfl | rfl | rfl <;> exact b32_cell _) (by simpa using hz)
  simp only [List.nil_append, List.length_nil, List.zipIdx_cons, List.zipIdx_nil, List.map_cons, List.map_nil, Nat.zero_add, Nat.reduceAdd, Array.toArray_toList] at q
  simp only [Nat.mul_one]
  exact q

theorem rd_load8 {t : TypeId} {S : State} {a : Option Addr} {len : Nat} {bs : List UInt8} {i : Nat} {κ : Value → Prop} [hf : TFlat P t]
    (hr : Rd 1 S a len (bs.map b8)) (hv : i < bs.length) (k : κ (b8 (bs.getD i 0))) : ReadW P (Instr.loadAt t (.pointer (some (elA a i)))) S κ :=
  rd_load hr (v := b8 (bs.getD i 0)) (by simp [List.getD, hv]) k
theorem wrap64_mod (n : Nat) : IntKind.u64.wrap (n : Int) = ((n % 18446744073709551616 : Nat) : Int) := by
  show ((n : Int) % (2 ^ 64 : Int)) = _
  omega
theorem conv8_64 (x : UInt8) : IntKind.u64.wrap (x.toNat : Int) = x.toNat := by
  have := x.toNat_lt
  rw [wrap_u64 (by omega) (by omega)]
theorem conv8_i64 (x : UInt8) : IntKind.i64.wrap (x.toNat : Int) = x.toNat := by
  have := x.toNat_lt
  rw [wrap_i64 (by omega) (by omega)]
theorem cq_b8_64 {s d : TypeId} [hs : TInt P s .u8] [hd : TInt P d .u64] {x : UInt8} {κ : Value → Prop} : PureW P (convert s d (b8 x)) κ = κ (.int .u64 x.toNat) := by
  show PureW P (convert s d (.int .u8 (x.toNat : Int))) κ = _
  rw [conv_int, conv8_64]
theorem cq_b8_i64 {s d : TypeId} [hs : TInt P s .u8] [hd : TInt P d .i64] {x : UInt8} {κ : Value → Prop} : PureW P (convert s d (b8 x)) κ = κ (.int .i64 x.toNat) := by
  show PureW P (convert s d (.int .u8 (x.toNat : Int))) κ = _
  rw [conv_int, conv8_i64]
theorem conv_b8_64 {s d : TypeId} [hs : TInt P s .u8] [hd : TInt P d .u64] {x : UInt8} {S : State} {κ : Value → State → Prop} : ConvW P s d (b8 x) S κ = κ (.int .u64 x.toNat) S := by
  show PureW P (convert s d (.int .u8 (x.toNat : Int))) (fun v => κ v S) = _
  rw [conv_int, conv8_64]
theorem conv_b8_i64 {s d : TypeId} [hs : TInt P s .u8] [hd : TInt P d .i64] {x : UInt8} {S : State} {κ : Value → State → Prop} : ConvW P s d (b8 x) S κ = κ (.int .i64 x.toNat) S := by
  show PureW P (convert s d (.int .u8 (x.toNat : Int))) (fun v => κ v S) = _
  rw [conv_int, conv8_i64]

end Go.Ost

/- Slices of bytes and strings: the operations in words of lists of bytes. Conditions: as each says. -/
set_option linter.unusedSimpArgs false
set_option linter.unusedVariables false
namespace Go.Ost
open Go

variable {P : Program}

theorem Lies.sub {b : Nat} {o : Obj} {H : Chunk} {S : State} (h : Lies b o [H]) (hm : H ∈ S) : Lies b o S := by
  cases h with
  | here h => exact Lies.of_mem h hm
  | next h => cases h
theorem Lies.in {b : Nat} {o : Obj} {H : Chunk} (h : Lies b o [H]) : (b, o) ∈ H := by
  cases h with
  | here h => exact h
  | next h => cases h
theorem Rd.mem {s : Nat} {H : Chunk} {S : State} {a : Option Addr} {len : Nat} {us : List Value} (h : Rd s [H] a len us) (hm : H ∈ S) : Rd s S a len us :=
  ⟨h.1, fun hne => let ⟨b, o, cs, e, m, h1, h2, h3⟩ := h.2 hne; ⟨b, o, cs, e, m, h1, h2.sub hm, h3⟩⟩
theorem Rd.wide {s : Nat} {H D : Chunk} {a : Option Addr} {len : Nat} {us : List Value} (h : Rd s [H] a len us) (hm : ∀ x ∈ H, x ∈ D) : Rd s [D] a len us :=
  ⟨h.1, fun hne => let ⟨b, o, cs, e, m, h1, h2, h3⟩ := h.2 hne; ⟨b, o, cs, e, m, h1, .here (hm _ h2.in), h3⟩⟩
theorem cells8 (bs : List UInt8) : ∀ v ∈ bs.map b8, Value.cell1 v := fun v hv => by
  obtain ⟨x, _, rfl⟩ := List.mem_map.1 hv; exact b8_cell x

/-- append of bytes, onto one's own. -/
theorem app8 {t t2 ty e e2 : TypeId} [ht : TSlice P t e] [ht2 : TSlice P t2 e2] [hs : TSized P e (.int .u8 0) 1 1] {S G : State} {κ : Value → State → Prop} {C : Chunk} {a b : Option Addr} {len cap n c : Nat} {us vs : List UInt8}
    (ho : Own 1 e C a len cap (us.map b8)) (hC : Pick C S G) (hr : Rd 1 S b n (vs.map b8)) (hm : len + n ≤ 140737488355328)
    (k : ∀ C' a' cap', Own 1 e C' a' (len + n) cap' ((us ++ vs).map b8) → κ (.slice a' (len + n) cap') (C' :: G)) : ValW P (Builtin.append_ #[t, t2] ty #[.slice a len cap, .slice b n c]) S κ :=
  append_own (hs := hs) rfl (by decide) ho (.inr hC) hr (cells8 vs) (by simp only [maxLen]; omega) (by omega) (fun C' a' cap' h => k C' a' cap' (by rw [List.map_append]; exact h))
theorem own_nil {s : Nat} {e : TypeId} {a : Option Addr} : Own s e [] a 0 0 [] := ⟨Nat.le_refl _, Nat.zero_le _, by simp, .inl ⟨rfl, rfl⟩⟩
theorem app8_nil {t t2 ty e e2 : TypeId} [ht : TSlice P t e] [ht2 : TSlice P t2 e2] [hs : TSized P e (.int .u8 0) 1 1] {S : State} {κ : Value → State → Prop} {b : Option Addr} {n c : Nat} {vs : List UInt8}
    (hr : Rd 1 S b n (vs.map b8)) (hm : n ≤ 140737488355328)
    (k : ∀ C' a' cap', Own 1 e C' a' n cap' (vs.map b8) → κ (.slice a' n cap') (C' :: S)) : ValW P (Builtin.append_ #[t, t2] ty #[.slice none 0 0, .slice b n c]) S κ :=
  append_own (hs := hs) (us := []) rfl (by decide) own_nil (.inl ⟨rfl, rfl⟩) hr (cells8 vs) (by simp only [maxLen]; omega) (by omega) (fun C' a' cap' h => by
    rw [Nat.zero_add] at h ⊢
    exact k C' a' cap' h)
/-- Values of one cell, onto one's own. -/
theorem app1 {t t2 ty e e2 : TypeId} {z : Value} {by_ : Nat} [ht : TSlice P t e] [ht2 : TSlice P t2 e2] [hs : TSized P e z 1 by_] (hz : z.cells.size = 1) {S G : State} {κ : Value → State → Prop} {C : Chunk} {a b : Option Addr} {len cap n c : Nat} {us vs : List Value}
    (ho : Own 1 e C a len cap us) (hC : C = [] ∧ G = S ∨ Pick C S G) (hr : Rd 1 S b n vs) (h1 : ∀ v ∈ vs, Value.cell1 v) (hm : len + n ≤ 1000000) (hb : by_ ≤ 1000)
    (k : ∀ C' a' cap', Own 1 e C' a' (len + n) cap' (us ++ vs) → κ (.slice a' (len + n) cap') (C' :: G)) : ValW P (Builtin.append_ #[t, t2] ty #[.slice a len cap, .slice b n c]) S κ :=
  append_own (hs := hs) hz (by decide) ho hC hr h1 (by simp only [maxLen]; omega) (by
    have : (len + n) * by_ ≤ 1000000 * 1000 := Nat.mul_le_mul hm hb
    omega) k

theorem own_built {e : TypeId} {b : Nat} {vs : List Value} {n : Nat} (hn : vs.length = n) (hm : n ≤ 16777216) : Own 1 e [(b, .cells vs.toArray e (0, 0))] (some ⟨b, 0, none⟩) n n vs :=
  ⟨Nat.le_refl _, by simp only [maxLen]; omega, by simp [hn], .inr ⟨b, 0, _, _, rfl, rfl, .inl rfl, by simp [hn], fun i hi => by simp⟩⟩
/-- Bytes written out. -/
theorem build8 {t e : TypeId} {by_ : Nat} [ht : TSlice P t e] [hs : TSized P e (.int .u8 0) 1 by_] {n : Nat} {ps : List (Nat × Value)} {S : State} {κ : Value → State → Prop} (bs : List UInt8) (hn : n ≤ 16777216)
    (hi : ps.map (·.1) = List.range n) (hb : ps.map (·.2) = bs.map b8) (k : ∀ b C, Own 1 e C (some ⟨b, 0, none⟩) n n (bs.map b8) → κ (.slice (some ⟨b, 0, none⟩) n n) (C :: S)) : ValW P (Instr.buildSlice t n ps.toArray) S κ :=
  build_slice (hs := hs) rfl hn hi (by rw [hb]; exact cells8 bs) (fun b => k b _ (by
    rw [hb]
    exact own_built (by have := congrArg List.length hi; have h2 := congrArg List.length hb; simp only [List.length_map, List.length_range] at this h2 ⊢; omega) hn))
/-- Values of one cell written out. -/
theorem build1 {t e : TypeId} {z : Value} {by_ : Nat} [ht : TSlice P t e] [hs : TSized P e z 1 by_] (hz : z.cells.size = 1) {n : Nat} {ps : List (Nat × Value)} {S : State} {κ : Value → State → Prop} (vs : List Value) (hn : n ≤ 16777216)
    (hi : ps.map (·.1) = List.range n) (hb : ps.map (·.2) = vs) (hc : ∀ v ∈ vs, Value.cell1 v) (k : ∀ b C, Own 1 e C (some ⟨b, 0, none⟩) n n vs → κ (.slice (some ⟨b, 0, none⟩) n n) (C :: S)) : ValW P (Instr.buildSlice t n ps.toArray) S κ :=
  build_slice (hs := hs) hz hn hi (by rw [hb]; exact hc) (fun b => k b _ (by
    rw [hb]
    exact own_built (by have := congrArg List.length hi; have h2 := congrArg List.length hb; simp only [List.length_map, List.length_range] at this h2; omega) hn))

/-- A byte of one's own is set. -/
theorem own_store8 {t e : TypeId} {z : Value} {by_ : Nat} [hs : TSized P t z 1 by_] {S G : State} {κ : State → Prop} {C : Chunk} {a : Option Addr} {len cap i : Nat} {bs : List UInt8} {x : UInt8}
    (ho : Own 1 e C a len cap (bs.map b8)) (hp : Pick C S G) (hi : i < bs.length) (k : ∀ C', Own 1 e C' a len cap ((bs.set i x).map b8) → κ (C' :: G)) : UnitW P (Instr.storeAt t (.pointer (some (elA a i))) (b8 x)) S κ := by
  refine ⟨fun w hw => ?_⟩
  obtain ⟨h1, h2, h3, h4⟩ := ho
  simp only [List.length_map, Nat.mul_one] at h3
  rcases h4 with ⟨h5, _⟩ | ⟨b, o, cs, m, rfl, rfl, hsoft, hbig, hc⟩
  · omega
  · have hCG := hw.perm hp.perm
    obtain ⟨lo, hi'⟩ := m
    obtain ⟨w', q1, q2, q3, q4⟩ := run_storeCells (P := P) (b := b) (o := o + i) [b8 x] 0 w cs (hCG.get b (.cells cs e (lo, hi')) (by simp)) (fun u hm => by simp at hm; subst hm; exact b8_cell x) (by simp; omega) hsoft.or
    refine ⟨w', _, ?_, q2, (Upd.one (S := G)).hold hCG q3 q4, k [(b, .cells (setCells cs (o + i + 0) [b8 x]) e (lo, hi'))] ⟨h1, h2, by simp [h3], .inr ⟨b, o, _, (lo, hi'), rfl, rfl, by rw [setCells_size]; exact hsoft, by rw [setCells_size]; exact hbig, fun j hj => ?_⟩⟩⟩
    · have e1 : (Value.cells (b8 x)) = #[b8 x] := rfl
      simp only [elA, Option.getD_some, add_mk]
      simp [Instr.storeAt, Instr.sureAddr, storeVar, Sem.run_bind, run_size hs, Result.andThen, e1, q1]
    · simp only [List.length_map, List.length_set] at hj
      have hcj := hc j (by simpa using hj)
      simp only [setCells, Nat.add_zero]
      by_cases e2 : j = i
      · subst e2
        rw [Array.getElem?_setIfInBounds_self, if_pos (by omega)]
        simp [hj]
      · rw [Array.getElem?_setIfInBounds_ne (by omega), hcj]
        simp only [List.getElem?_map]
        rw [List.getElem?_set_ne (by omega)]
/-- make of bytes. -/
theorem make8 {t e : TypeId} [ht : TSlice P t e] [hs : TSized P e (.int .u8 0) 1 1] {n : Nat} {S : State} {κ : Value → State → Prop} (hn : n ≤ 1000000)
    (k : ∀ b C, Own 1 e C (some ⟨b, 0, none⟩) n n ((List.replicate n (0 : UInt8)).map b8) → κ (.slice (some ⟨b, 0, none⟩) n n) (C :: S)) : ValW P (Instr.makeSlice t (.int .i64 n) (.int .i64 n)) S κ := by
  refine ⟨fun w hw => ?_⟩
  obtain ⟨i, hi, hz1, hsz, hby⟩ := sized_parts hs.info
  have hr := run_makeSlice (P := P) w t e i (.int .u8 0) ht.und hi hz1 .i64 .i64 (n : Int) (n : Int) (by omega) (Int.le_refl _) (by rw [hsz]; omega) (by rw [hby]; omega) (by omega)
  simp only [Int.toNat_natCast, hsz, Nat.mul_one] at hr
  generalize hcells : madeCells (Value.int .u8 0).cells n = cells at hr
  have hlist : cells = ((List.replicate n (0 : UInt8)).map b8).toArray := by
    rw [← hcells]
    apply Array.ext'
    unfold madeCells
    apply List.ext_getElem
    · simp
    · intro j h1 h2
      simp [Nat.mod_one, b8, Value.cells]
  refine ⟨_, w.alloc (.cells cells e), [(w.heap.size, .cells cells e (0, 0))] :: S, hr, ⟨rfl, rfl, rfl, by simp⟩, Hold.new (w := w) hw rfl, k w.heap.size _ ?_⟩
  rw [hlist]
  exact own_built (by simp) (by omega)

/-! ### Numbers -/

theorem bin_shr64 {t : TypeId} {x y : Operand} {j : IntKind} {a n : Int} {κ : Value → Prop} (ha : 0 ≤ a) (h0 : 0 ≤ n) (h1 : n ≤ 64) : PureW P (do eqGuard .shr t x y (.int .u64 a) (.int j n); binOp .shr t (.int .u64 a) (.int j n)) κ = κ (.int .u64 (a / 2 ^ n.toNat)) :=
  pureW_eq (fun w => by
    have e : min n.toNat IntKind.u64.bits = n.toNat := by show min n.toNat 64 = n.toNat; omega
    have h3 : ¬ n < 0 := by omega
    show (Op.shift .shr .u64 a j n).run P w = _
    rw [Op.shift, if_neg h3, e]
    show Result.ok (Value.int .u64 (Int.fdiv a (2 ^ n.toNat))) w = _
    rw [Int.fdiv_eq_ediv_of_nonneg _ (Int.le_of_lt (Int.pow_pos (by decide)))]) κ
theorem b8_shr {t : TypeId} {x y : Operand} {j : IntKind} {b : UInt8} {κ : Value → Prop} : PureW P (do eqGuard .shr t x y (b8 b) (.int j 4); binOp .shr t (b8 b) (.int j 4)) κ = κ (.int .u8 ((b.toNat / 16 : Nat) : Int)) :=
  pureW_eq (fun w => by
    show (Op.shift .shr .u8 (b.toNat : Int) j 4).run P w = _
    show Result.ok (Value.int .u8 (Int.fdiv (b.toNat : Int) (2 ^ 4))) w = _
    rw [Int.fdiv_eq_ediv_of_nonneg _ (by decide)]
    rfl) κ
theorem b8_and15 {t : TypeId} {x y : Operand} {b : UInt8} {κ : Value → Prop} : PureW P (do eqGuard .and t x y (b8 b) (.int .u8 15); binOp .and t (b8 b) (.int .u8 15)) κ = κ (.int .u8 ((b.toNat % 16 : Nat) : Int)) :=
  pureW_eq (fun w => by
    show Result.ok (Value.int .u8 (IntKind.u8.wrap ((BitVec.ofInt 8 (b.toNat : Int) &&& BitVec.ofInt 8 15).toNat : Int))) w = _
    have h := b.toNat_lt
    have key : ∀ n : Fin 256, IntKind.u8.wrap ((BitVec.ofInt 8 (n.val : Int) &&& BitVec.ofInt 8 15).toNat : Int) = ((n.val % 16 : Nat) : Int) := by decide +kernel
    rw [key ⟨b.toNat, h⟩]) κ
theorem wrap8_mod (n : Nat) : IntKind.u8.wrap (n : Int) = ((UInt8.ofNat n).toNat : Int) := by
  show ((n : Int) % (2 ^ 8 : Int)) = _
  rw [UInt8.toNat_ofNat']
  omega

/-! ### Strings -/

theorem str_eql {t : TypeId} {x y : Operand} {a b : ByteArray} {κ : Value → Prop} [h : TStr P t] : PureW P (do eqGuard .eql t x y (.string a) (.string b); binOp .eql t (.string a) (.string b)) κ = κ (.bool (a.data.toList == b.data.toList)) :=
  pureW_eq (fun w => by rw [← ByteArray.toList_eq, ← ByteArray.toList_eq]; rfl) κ
theorem str_neq {t : TypeId} {x y : Operand} {a b : ByteArray} {κ : Value → Prop} [h : TStr P t] : PureW P (do eqGuard .neq t x y (.string a) (.string b); binOp .neq t (.string a) (.string b)) κ = κ (.bool (a.data.toList != b.data.toList)) :=
  pureW_eq (fun w => by rw [← ByteArray.toList_eq, ← ByteArray.toList_eq]; rfl) κ
theorem str_data (a : List UInt8) : (str a).data.toList = a := rfl
theorem str_add {t : TypeId} {x y : Operand} {a b : List UInt8} {κ : Value → Prop} (hm : a.length + b.length ≤ 9223372036854775807) : PureW P (do eqGuard .add t x y (.string (str a)) (.string (str b)); binOp .add t (.string (str a)) (.string (str b))) κ = κ (.string (str (a ++ b))) :=
  pureW_eq (fun w => by
    have e : (do eqGuard .add t x y (.string (str a)) (.string (str b)); binOp .add t (.string (str a)) (.string (str b)) : Sem Value) = Op.stringOp .add (str a) (str b) := rfl
    have hsz : ¬ (((str a).size + (str b).size : Nat) : Int) > IntKind.i64.max := by
      show ¬ ((a.length + b.length : Nat) : Int) > 9223372036854775807
      omega
    rw [e]
    simp only [Op.stringOp]
    rw [if_neg hsz]
    have h2 : str a ++ str b = str (a ++ b) := by
      apply ByteArray.ext
      simp [str]
    rw [h2]
    rfl) κ
theorem str_index {t : TypeId} {k : IntKind} {i : Int} {s : List UInt8} {κ : Value → Prop} [h : TStr P t] (h0 : 0 ≤ i) (h1 : i < s.length) : PureW P (Instr.index t (.string (str s)) (.int k i)) κ = κ (b8 (s.getD i.toNat 0)) :=
  pureW_eq (fun w => by
    have hlt : i.toNat < s.length := by omega
    have e : (str s)[i.toNat]? = some (s.getD i.toNat 0) := by
      have h2 : i.toNat < (str s).size := hlt
      rw [getElem?_pos (str s) i.toNat h2]
      simp [List.getD, hlt, str, ByteArray.getElem_eq_getElem_data]
    simp [Instr.index, asIntOf, Sem.run_bind, run_und h.und, Result.andThen, h0, e, b8]) κ
theorem str_cut {t : TypeId} {j k : IntKind} {l h' : Int} {s : List UInt8} {κ : Value → Prop} [h : TStr P t] (l0 : 0 ≤ l) (l1 : l ≤ h') (h1 : h' ≤ s.length) :
    PureW P (Instr.sliceAt t (.string (str s)) (some (.int j l)) (some (.int k h')) none) κ = κ (.string (str ((s.drop l.toNat).take (h'.toNat - l.toNat)))) :=
  pureW_eq (fun w => by
    have h0 : 0 ≤ h' := by omega
    have l1' : l ≤ max h' 0 := by omega
    have h1' : h' ≤ ((str s).size : Int) := h1
    have e : (str s).extract l.toNat h'.toNat = str ((s.drop l.toNat).take (h'.toNat - l.toNat)) := by
      apply ByteArray.ext
      simp [str, ByteArray.data_extract]
    simp only [Instr.sliceAt, Instr.slice, Sem.run_bind, run_und h.und, Result.andThen, Instr.sliceBounds, Instr.sliceBound, asIntOf, Sem.run_pure]
    simp [Sem.run_bind, h0, h1', l0, l1, l1', e, Result.andThen]) κ
theorem slc_eql_nil {t e : TypeId} {x y : Operand} {a : Option Addr} {n c : Nat} {κ : Value → Prop} [h : TSlice P t e] : PureW P (do eqGuard .eql t x y (.slice a n c) (.slice none 0 0); binOp .eql t (.slice a n c) (.slice none 0 0)) κ = κ (.bool a.isNone) :=
  pureW_eq (fun w => by
    have e : (do eqGuard .eql t x y (.slice a n c) (.slice none 0 0); binOp .eql t (.slice a n c) (.slice none 0 0) : Sem Value) = (do pure (.bool (← Op.equalIn (9999 + 1) t (.slice a n c) (.slice none 0 0)))) := by
      cases a <;> rfl
    rw [e, Sem.run_bind, Op.equalIn, Sem.run_bind, run_und h.und]
    cases a <;> rfl) κ

theorem ext2_0 {a b : Value} {κ : Value → Prop} : PureW P (Instr.extract (.tuple #[a, b]) 0) κ = κ a := pureW_eq (fun w => rfl) κ
theorem ext2_1 {a b : Value} {κ : Value → Prop} : PureW P (Instr.extract (.tuple #[a, b]) 1) κ = κ b := pureW_eq (fun w => rfl) κ

/-! ### Chunks put together -/

theorem code_glue {n : Nat} {ro : Option Nat} {c : Code} {K : Cont} {D : List Nat} {L : Env} {S : State} {A B : Chunk} (h : CodeW P n ro c K D L ((A ++ B) :: S)) : CodeW P n ro c K D L (A :: B :: S) :=
  ⟨fun a w ha hw => h.out a w ha (hw.perm (by simp))⟩
theorem code_nil {n : Nat} {ro : Option Nat} {c : Code} {K : Cont} {D : List Nat} {L : Env} {S : State} (h : CodeW P n ro c K D L ([] :: S)) : CodeW P n ro c K D L S :=
  ⟨fun a w ha hw => h.out a w ha (hw.perm (by simp))⟩

abbrev Own8 (e : TypeId) (C : Chunk) (a : Option Addr) (n cap : Nat) (bs : List UInt8) : Prop := Own 1 e C a n cap (bs.map b8)
/-- A new slice of bytes, beside R. -/
def New8 (e : TypeId) (bs : List UInt8) (R : State) (v : Value) (A : State) : Prop := ∃ C a cap, v = .slice a bs.length cap ∧ Own8 e C a bs.length cap bs ∧ A = C :: R

end Go.Ost

/- Bytes as values: comparing them, their bits. Conditions: none. -/
set_option linter.unusedSimpArgs false
set_option linter.unusedVariables false
namespace Go.Ost
open Go

variable {P : Program}

section bytes
variable (t : TypeId) (x y : Operand) (a b : UInt8) (n : Int) (κ : Value → Prop)
theorem beq8 : ((a.toNat : Int) == b.toNat) = (a == b) := by
  by_cases h : a = b
  · subst h; rw [beq_self_eq_true, beq_self_eq_true]
  · have h2 : ¬ ((a.toNat : Int) = b.toNat) := fun e => h (UInt8.toNat_inj.1 (by omega))
    rw [beq_eq_false_iff_ne.2 h, beq_eq_false_iff_ne.2 h2]
theorem u8_eql : PureW P (do eqGuard .eql t x y (b8 a) (b8 b); binOp .eql t (b8 a) (b8 b)) κ = κ (.bool (a == b)) := by
  refine (bin_eql t x y .u8 _ _ κ).trans ?_
  rw [beq8]
theorem u8_neq : PureW P (do eqGuard .neq t x y (b8 a) (b8 b); binOp .neq t (b8 a) (b8 b)) κ = κ (.bool (a != b)) := by
  refine (bin_neq t x y .u8 _ _ κ).trans ?_
  rw [bne, beq8, bne]
theorem u8n_eql : PureW P (do eqGuard .eql t x y (b8 a) (.int .u8 n); binOp .eql t (b8 a) (.int .u8 n)) κ = κ (.bool ((a.toNat : Int) == n)) := bin_eql t x y .u8 _ _ κ
theorem u8n_neq : PureW P (do eqGuard .neq t x y (b8 a) (.int .u8 n); binOp .neq t (b8 a) (.int .u8 n)) κ = κ (.bool ((a.toNat : Int) != n)) := bin_neq t x y .u8 _ _ κ
theorem u8n_lss : PureW P (do eqGuard .lss t x y (b8 a) (.int .u8 n); binOp .lss t (b8 a) (.int .u8 n)) κ = κ (.bool (decide ((a.toNat : Int) < n))) := bin_lss t x y .u8 _ _ κ
theorem u8n_leq : PureW P (do eqGuard .leq t x y (b8 a) (.int .u8 n); binOp .leq t (b8 a) (.int .u8 n)) κ = κ (.bool (decide ((a.toNat : Int) ≤ n))) := bin_leq t x y .u8 _ _ κ
theorem u8n_gtr : PureW P (do eqGuard .gtr t x y (b8 a) (.int .u8 n); binOp .gtr t (b8 a) (.int .u8 n)) κ = κ (.bool (decide (n < (a.toNat : Int)))) := bin_gtr t x y .u8 _ _ κ
theorem u8n_geq : PureW P (do eqGuard .geq t x y (b8 a) (.int .u8 n); binOp .geq t (b8 a) (.int .u8 n)) κ = κ (.bool (decide (n ≤ (a.toNat : Int)))) := bin_geq t x y .u8 _ _ κ
theorem wrap8_self : IntKind.u8.wrap (a.toNat : Int) = a.toNat := by
  have := a.toNat_lt
  exact wrap_u8 (by omega) (by omega)
theorem u8_xor : PureW P (do eqGuard .xor t x y (b8 a) (b8 b); binOp .xor t (b8 a) (b8 b)) κ = κ (b8 (a ^^^ b)) :=
  pureW_eq (fun w => by
    show Result.ok (Value.int .u8 (IntKind.u8.wrap ((BitVec.ofInt 8 (a.toNat : Int) ^^^ BitVec.ofInt 8 (b.toNat : Int)).toNat : Int))) w = _
    have e : (BitVec.ofInt 8 (a.toNat : Int) ^^^ BitVec.ofInt 8 (b.toNat : Int)).toNat = (a ^^^ b).toNat := by simp
    rw [e, wrap8_self]; rfl) κ
theorem u8_or : PureW P (do eqGuard .or t x y (b8 a) (b8 b); binOp .or t (b8 a) (b8 b)) κ = κ (b8 (a ||| b)) :=
  pureW_eq (fun w => by
    show Result.ok (Value.int .u8 (IntKind.u8.wrap ((BitVec.ofInt 8 (a.toNat : Int) ||| BitVec.ofInt 8 (b.toNat : Int)).toNat : Int))) w = _
    have e : (BitVec.ofInt 8 (a.toNat : Int) ||| BitVec.ofInt 8 (b.toNat : Int)).toNat = (a ||| b).toNat := by simp
    rw [e, wrap8_self]; rfl) κ
theorem u8_and : PureW P (do eqGuard .and t x y (b8 a) (b8 b); binOp .and t (b8 a) (b8 b)) κ = κ (b8 (a &&& b)) :=
  pureW_eq (fun w => by
    show Result.ok (Value.int .u8 (IntKind.u8.wrap ((BitVec.ofInt 8 (a.toNat : Int) &&& BitVec.ofInt 8 (b.toNat : Int)).toNat : Int))) w = _
    have e : (BitVec.ofInt 8 (a.toNat : Int) &&& BitVec.ofInt 8 (b.toNat : Int)).toNat = (a &&& b).toNat := by simp
    rw [e, wrap8_self]; rfl) κ
end bytes

end Go.Ost

/- Texts: a byte, a part; bytes' bits with numbers written out. Conditions: none. -/
set_option linter.unusedSimpArgs false
set_option linter.unusedVariables false
namespace Go.Ost
open Go

variable {P : Program}

section strings
variable {t : TypeId} {bs : List UInt8} {j k : IntKind} {l h i : Int} {κ : Value → Prop}
theorem str_ext (bs : List UInt8) (l h : Nat) : (str bs).extract l h = str ((bs.take h).drop l) := by
  apply ByteArray.ext
  rw [ByteArray.data_extract]
  apply Array.ext'
  simp [str, List.extract_eq_take_drop, List.drop_take]
theorem sidx [ht : TStr P t] (h0 : 0 ≤ i) (h1 : i < bs.length) : PureW P (Instr.index t (.string (str bs)) (.int k i)) κ = κ (b8 (bs.getD i.toNat 0)) :=
  pureW_eq (fun w => by
    have e : (str bs)[i.toNat]? = some (bs.getD i.toNat 0) := by
      have h2 : i.toNat < bs.length := by omega
      have h3 : i.toNat < (str bs).size := h2
      rw [getElem?_pos (str bs) i.toNat h3]
      congr 1
      show (bs.toArray)[i.toNat] = _
      rw [List.getD, List.getElem?_eq_getElem h2, Option.getD_some]
      rfl
    simp [Instr.index, asIntOf, Sem.run_bind, run_und ht.und, Result.andThen, h0, e, b8]) κ
theorem scut_hi [ht : TStr P t] (h0 : 0 ≤ h) (h1 : h ≤ bs.length) : PureW P (Instr.sliceAt t (.string (str bs)) none (some (.int k h)) none) κ = κ (.string (str (bs.take h.toNat))) :=
  pureW_eq (fun w => by
    have hz : (str bs).size = bs.length := rfl
    simp only [Instr.sliceAt, Instr.slice, Sem.run_bind, run_und ht.und, Result.andThen, Instr.sliceBounds, Instr.sliceBound, asIntOf, Sem.run_pure]
    simp [Sem.run_bind, Result.andThen, hz, h0, h1, str_ext]) κ
theorem scut_lo [ht : TStr P t] (l0 : 0 ≤ l) (l1 : l ≤ bs.length) : PureW P (Instr.sliceAt t (.string (str bs)) (some (.int j l)) none none) κ = κ (.string (str (bs.drop l.toNat))) :=
  pureW_eq (fun w => by
    have hz : (str bs).size = bs.length := rfl
    simp only [Instr.sliceAt, Instr.slice, Sem.run_bind, run_und ht.und, Result.andThen, Instr.sliceBounds, Instr.sliceBound, asIntOf, Sem.run_pure]
    simp [Sem.run_bind, Result.andThen, hz, l0, l1, str_ext]) κ
theorem scut_lohi [ht : TStr P t] (h0 : 0 ≤ h) (h1 : h ≤ bs.length) (l0 : 0 ≤ l) (l1 : l ≤ h) : PureW P (Instr.sliceAt t (.string (str bs)) (some (.int j l)) (some (.int k h)) none) κ = κ (.string (str ((bs.take h.toNat).drop l.toNat))) :=
  pureW_eq (fun w => by
    have hz : (str bs).size = bs.length := rfl
    have l1' : l ≤ max h 0 := by omega
    simp only [Instr.sliceAt, Instr.slice, Sem.run_bind, run_und ht.und, Result.andThen, Instr.sliceBounds, Instr.sliceBound, asIntOf, Sem.run_pure]
    simp [Sem.run_bind, Result.andThen, hz, h0, h1, l0, l1, l1', str_ext]) κ
theorem str_size (bs : List UInt8) : (str bs).size = bs.length := rfl
end strings

theorem ext3_0 {a b c : Value} {κ : Value → Prop} : PureW P (Instr.extract (.tuple #[a, b, c]) 0) κ = κ a := pureW_eq (fun w => rfl) κ
theorem ext3_1 {a b c : Value} {κ : Value → Prop} : PureW P (Instr.extract (.tuple #[a, b, c]) 1) κ = κ b := pureW_eq (fun w => rfl) κ
theorem ext3_2 {a b c : Value} {κ : Value → Prop} : PureW P (Instr.extract (.tuple #[a, b, c]) 2) κ = κ c := pureW_eq (fun w => rfl) κ

section bits
variable (t : TypeId) (x y : Operand) (a b : UInt8) (n : Int) (κ : Value → Prop)
theorem b8_num {n : Int} (h0 : 0 ≤ n) (h1 : n < 256) : Value.int .u8 n = b8 (UInt8.ofNat n.toNat) := by
  unfold b8
  congr 1
  rw [UInt8.toNat_ofNat']
  omega
theorem u8_andNot : PureW P (do eqGuard .andNot t x y (b8 a) (b8 b); binOp .andNot t (b8 a) (b8 b)) κ = κ (b8 (a &&& ~~~b)) :=
  pureW_eq (fun w => by
    show Result.ok (Value.int .u8 (IntKind.u8.wrap ((BitVec.ofInt 8 (a.toNat : Int) &&& ~~~(BitVec.ofInt 8 (b.toNat : Int))).toNat : Int))) w = _
    have e0 : ∀ x : UInt8, BitVec.ofInt 8 (x.toNat : Int) = x.toBitVec := fun x => by simp
    have e : (BitVec.ofInt 8 (a.toNat : Int) &&& ~~~(BitVec.ofInt 8 (b.toNat : Int))).toNat = (a &&& ~~~b).toNat := by
      rw [e0, e0]; rfl
    rw [e, wrap8_self]; rfl) κ
theorem u8n_and (h0 : 0 ≤ n) (h1 : n < 256) : PureW P (do eqGuard .and t x y (b8 a) (.int .u8 n); binOp .and t (b8 a) (.int .u8 n)) κ = κ (b8 (a &&& UInt8.ofNat n.toNat)) := by
  rw [b8_num h0 h1]; exact u8_and t x y a _ κ
theorem u8n_andNot (h0 : 0 ≤ n) (h1 : n < 256) : PureW P (do eqGuard .andNot t x y (b8 a) (.int .u8 n); binOp .andNot t (b8 a) (.int .u8 n)) κ = κ (b8 (a &&& ~~~(UInt8.ofNat n.toNat))) := by
  rw [b8_num h0 h1]; exact u8_andNot t x y a _ κ
theorem u8n_or (h0 : 0 ≤ n) (h1 : n < 256) : PureW P (do eqGuard .or t x y (.int .u8 n) (b8 a); binOp .or t (.int .u8 n) (b8 a)) κ = κ (b8 (UInt8.ofNat n.toNat ||| a)) := by
  rw [b8_num h0 h1]; exact u8_or t x y _ a κ
end bits

end Go.Ost

/- Ranges over functions, over chunks of memory: the iterator's contract and the loop's rule. Conditions: none. -/
set_option linter.unusedSimpArgs false
set_option linter.unusedVariables false
namespace Go.Ost
open Go

variable {P : Program} {n : Nat} {α : Type}

/-- How a call of a loop's body ends: it goes on (true), or it wants no more (false). -/
structure YMeets (P : Program) (l : Nat) (args : List Value) (Jin Jout Jstop : Chunk → Prop) : Prop where
  out : ∀ C, Jin C → ∀ (F : Chunk) (w : World), Hold w [F, C] → YieldAt (FW none) 0 P l args.toArray w
    (EndsW w fun v S => ∃ (b : Bool) (C' : Chunk), v = .bool b ∧ S = [F, C'] ∧ (b = true → Jout C') ∧ (b = false → Jstop C'))

/-- An iterator's contract: Next pre x: behind pre comes x; Done pre: behind pre there is no more. -/
structure IMeets (P : Program) (f : FuncId) (first captured : List Value) (encs : α → List Value) (A : State) (Next : List α → α → Prop) (Done : List α → Prop) (inf : Bool) : Prop where
  able : callable P f = true
  out : ∀ (l : Nat) (J Jx : List α → Chunk → Prop), (inf = true → ∃ N, ∀ pre C, J pre C → pre.length ≤ N) →
    (∀ pre x, Next pre x → YMeets P l (encs x) (J pre) (J (pre ++ [x])) (Jx (pre ++ [x]))) →
    ∀ C, J [] C → ∀ (F : Chunk) (w : World), Hold w (F :: C :: A) → CallsIn (FW none) 0 P f (first ++ [Value.func (.yield l) #[] #[]] ++ captured).toArray w
      (EndsW w fun _ S => ∃ C', S = F :: C' :: A ∧ ((∃ pre, Done pre ∧ J pre C') ∨ (∃ pre x, Next pre x ∧ Jx (pre ++ [x]) C')))

/-- An iterator's contract, from its function's at each loop's body. -/
theorem iter_intro {f : FuncId} {first captured : List Value} {encs : α → List Value} {A : State} {Next : List α → α → Prop} {Done : List α → Prop} {inf : Bool} (ha : callable P f = true)
    (h : ∀ (l : Nat) (J Jx : List α → Chunk → Prop), (inf = true → ∃ N, ∀ pre C, J pre C → pre.length ≤ N) → (∀ pre x, Next pre x → YMeets P l (encs x) (J pre) (J (pre ++ [x])) (Jx (pre ++ [x]))) →
      ∀ C, J [] C → Meets P f (first ++ [Value.func (.yield l) #[] #[]] ++ captured) (C :: A) fun _ S => ∃ C', S = C' :: A ∧ ((∃ pre, Done pre ∧ J pre C') ∨ (∃ pre x, Next pre x ∧ Jx (pre ++ [x]) C'))) :
    IMeets P f first captured encs A Next Done inf :=
  ⟨ha, fun l J Jx hN hY C hC F w hw => ((h l J Jx hN hY C hC).out F w hw).mono fun e w' ⟨v, S, a, b, c, A', d, C', e', r⟩ => ⟨v, S, a, b, c, C', by rw [d, e'], r⟩⟩

/-- In the iterator's own walk: yield is called. -/
theorem yield_meets {l : Nat} {args : List Value} {Jin Jout Jstop : Chunk → Prop} {S G : State} {C : Chunk} {κ : Value → State → Prop} (h : YMeets P l args Jin Jout Jstop) (hC : Jin C) (ht : Take [C] S G)
    (k1 : ∀ C', Jout C' → κ (.bool true) (C' :: G)) (k2 : ∀ C', Jstop C' → κ (.bool false) (C' :: G)) : YieldW P l args.toArray S κ := by
  refine ⟨fun w hw => ?_⟩
  have h1 := h.out C hC G.flatten w (hw.perm (ht.perm.trans (by simp only [List.flatten_append, List.flatten_cons, List.flatten_nil, List.append_nil]; exact List.perm_append_comm)))
  obtain ⟨fn, tm, asg, bd, hr, hR⟩ := h1
  refine ⟨fn, tm, asg, bd, hr, hR.mono ?_⟩
  rintro e w' ⟨v, S', rfl, he, hh, b, C', rfl, rfl, j1, j2⟩
  refine ⟨.bool b, C' :: G, rfl, he, hh.perm (by simp only [List.flatten_cons, List.flatten_nil, List.append_nil]; exact List.perm_append_comm), ?_⟩
  cases b
  · exact k2 C' (j2 rfl)
  · exact k1 C' (j1 rfl)

def putAll (n : Nat) : List Tmp → List Value → Env → Env
  | p :: ps, v :: vs, L => putAll n ps vs (putT n (some p) v L)
  | _, _, L => L

theorem agree_all {D : List Nat} : ∀ (ps : List Tmp) (vs : List Value) (L : Env) (t : Array Value), Agree n L D { tmps := t, defers := D.map markD } →
    Agree n (putAll n ps vs L) D { tmps := (ps.zip vs).foldl (fun t (p, v) => t.setIfInBounds p v) t, defers := D.map markD }
  | [], vs, L, t, h => by cases vs <;> exact h
  | p :: ps, [], L, t, h => h
  | p :: ps, v :: vs, L, t, h => by
    simp only [putAll, List.zip_cons_cons, List.foldl_cons]
    exact agree_all ps vs _ _ (h.put (some p) v)

/-- What the body of a loop must come to. -/
def bodyK (l : Nat) (r : Loop) (F : Chunk) (I : State → Prop) (Ix : Code → State → Prop) : Cont
  | .normal, _, _, S => ∃ C', I C' ∧ Among ([(l, .loop r)] :: F :: C') S
  | .exit id, _, _, S => ∃ C', Ix (.exit id) C' ∧ Among ([(l, .loop r)] :: F :: C') S
  | .goto t, _, _, S => ∃ C', Ix (.goto t) C' ∧ Among ([(l, .loop r)] :: F :: C') S
  | .ret, _, _, S => ∃ C', Ix .ret C' ∧ Among ([(l, .loop r)] :: F :: C') S
  | _, _, _, _ => False
def assignK (P : Program) (n : Nat) (l : Nat) (r : Loop) (body : Code) (F : Chunk) (I : State → Prop) (Ix : Code → State → Prop) : Cont
  | .normal, D, L, S => ∃ T, Among ([(l, .loop r)] :: T) S ∧ ∀ r', r'.defers = r.defers → CodeW P n (some l) body (bodyK l r' F I Ix) D L ([(l, .loop r')] :: T)
  | _, _, _, _ => False

theorem put_hold {w : World} {l : Nat} {o o' : Obj} {T : State} (hw : Hold w ([(l, o)] :: T)) : Hold (w.putObj l o') ([(l, o')] :: T) :=
  (Upd.one (S := T)).hold hw (World.putObj_heap_same (hw.lt (b := l) (o := o) (by simp))) (fun k hk => World.putObj_heap_other hk)
theorem put_ext (w : World) (l : Nat) (o : Obj) : Ext w (w.putObj l o) := ⟨rfl, rfl, rfl, by simp⟩

/-- One round, from what the loop's code does. -/
theorem round_meets {l : Nat} {fn : FuncId} {t : Array Value} {ps : Array Tmp} {assign body : Code} {dB : Nat} {L : Env} {vs : List Value} {I Iout : State → Prop} {Ix : Code → State → Prop}
    (hag : Agree n L [] { tmps := t, defers := [] }) (hps : vs.length = ps.size)
    (h : ∀ (F : Chunk) (C : State) (r : Loop), r.defers = dB → I C → CodeW P n (some l) assign (assignK P n l r body F Iout Ix) [] (putAll n ps.toList vs L) ([(l, .loop r)] :: F :: C)) :
    YMeets P l vs (fun C => ∃ C0 : State, C = (l, .loop { state := .ready, pending := none, fn, tmps := t, params := ps, assign, body, defers := dB }) :: C0.flatten ∧ I C0)
      (fun C => ∃ C0 : State, C = (l, .loop { state := .ready, pending := none, fn, tmps := t, params := ps, assign, body, defers := dB }) :: C0.flatten ∧ Iout C0)
      (fun C => ∃ (c : Code) (C0 : State), C = (l, .loop { state := .done, pending := some c, fn, tmps := t, params := ps, assign, body, defers := dB }) :: C0.flatten ∧ Ix c C0) := by
  refine ⟨?_⟩
  rintro C ⟨C0, rfl, hI⟩ F w hw
  obtain ⟨r0, hr0⟩ : ∃ r0 : Loop, r0 = { state := .ready, pending := none, fn, tmps := t, params := ps, assign, body, defers := dB } := ⟨_, rfl⟩
  rw [← hr0] at hw ⊢
  have hw' : Hold w ([(l, .loop r0)] :: F :: C0) := hw.perm (by simp only [List.flatten_cons, List.flatten_nil, List.append_nil, List.cons_append, List.nil_append]; exact List.perm_middle)
  have hl : w.heap[l]? = some (.loop r0) := hw'.get l _ (by simp)
  have hy := run_yield (P := P) (args := vs.toArray) hl (by rw [hr0]; simpa using hps)
  refine ⟨_, _, _, _, hy, roundIn_of_wpIn trivial ?_⟩
  have hag' : Agree n (putAll n ps.toList vs L) [] { tmps := (r0.params.zip vs.toArray).foldl (fun t (p, v) => t.setIfInBounds p v) r0.tmps, defers := [] } := by
    have := agree_all ps.toList vs L t hag
    rw [hr0]
    simp only
    rw [← Array.foldl_toList, Array.toList_zip]
    exact this
  have ha := (h F C0 r0 (by rw [hr0]) hI).out _ w hag' hw'
  rw [show r0.assign = assign from by rw [hr0]]
  refine wpIn_mono ha ?_
  rintro e a1 w1 ⟨D1, L1, S1, hk, hag1, he1, hh1⟩
  cases e <;> first | exact hk.elim | skip
  obtain ⟨T, hT, hbody⟩ := hk
  have hw1 := hT.hold hh1
  have hl1 : w1.heap[l]? = some (.loop r0) := hw1.get l _ (by simp)
  refine ⟨_, run_beginRound hl1 (by rw [hr0]), ?_⟩
  obtain ⟨rb, hrb⟩ : ∃ rb : Loop, rb = { r0 with state := .busy } := ⟨_, rfl⟩
  rw [← hrb]
  have hb := (hbody rb (by rw [hrb])).out a1 _ hag1 (put_hold hw1)
  rw [show r0.body = body from by rw [hr0]]
  refine wpIn_mono hb ?_
  have fin : ∀ (jump : Option Code) (S2 : State) (w2 : World) (C' : State), Ext (w1.putObj l (.loop rb)) w2 → Hold w2 S2 → Among ([(l, .loop rb)] :: F :: C') S2 →
      ∃ w3, (Instr.endRound l jump).run P w2 = .ok (.bool jump.isNone) w3 ∧ Ext w w3 ∧
        Hold w3 [F, (l, .loop { state := if jump.isNone then .ready else .done, pending := jump, fn, tmps := t, params := ps, assign, body, defers := dB }) :: C'.flatten] := by
    intro jump S2 w2 C' he hh hS
    have hw2 := hS.hold hh
    have hl2 : w2.heap[l]? = some (.loop rb) := hw2.get l _ (by simp)
    refine ⟨_, run_endRound (P := P) jump hl2, ((he1.trans (put_ext _ _ _)).trans he).trans (put_ext _ _ _), ?_⟩
    have := put_hold (o' := .loop { rb with state := if jump.isNone then .ready else .done, pending := jump }) hw2
    rw [hrb, hr0] at this
    rw [hrb, hr0]
    exact this.perm (by simp only [List.flatten_cons, List.flatten_nil, List.append_nil, List.cons_append, List.nil_append]; exact List.perm_middle.symm)
  rintro e a2 w2 ⟨D2, L2, S2, hk, hag2, he2, hh2⟩
  cases e with
  | normal =>
    obtain ⟨C', hI', hS⟩ := hk
    obtain ⟨w3, hr, he, hh⟩ := fin none S2 w2 C' he2 hh2 hS
    exact ⟨_, w3, hr, _, _, rfl, he, hh, true, _, rfl, rfl, fun _ => ⟨C', by rw [hr0]; rfl, hI'⟩, fun h => by cases h⟩
  | ret =>
    obtain ⟨C', hI', hS⟩ := hk
    obtain ⟨w3, hr, he, hh⟩ := fin (some .ret) S2 w2 C' he2 hh2 hS
    exact ⟨_, w3, hr, _, _, rfl, he, hh, false, _, rfl, rfl, fun h => (by cases h), fun _ => ⟨.ret, C', by simp, hI'⟩⟩
  | exit id =>
    obtain ⟨C', hI', hS⟩ := hk
    obtain ⟨w3, hr, he, hh⟩ := fin (some (.exit id)) S2 w2 C' he2 hh2 hS
    exact ⟨_, w3, hr, _, _, rfl, he, hh, false, _, rfl, rfl, fun h => (by cases h), fun _ => ⟨.exit id, C', by simp, hI'⟩⟩
  | goto t =>
    obtain ⟨C', hI', hS⟩ := hk
    obtain ⟨w3, hr, he, hh⟩ := fin (some (.goto t)) S2 w2 C' he2 hh2 hS
    exact ⟨_, w3, hr, _, _, rfl, he, hh, false, _, rfl, rfl, fun h => (by cases h), fun _ => ⟨.goto t, C', by simp, hI'⟩⟩
  | panic ch => exact hk.elim
  | outgrown => exact hk.elim

/-- The core of both rules: the record l (and whatever else is new) lies; the iterator is called. -/
theorem range_core {ro : Option Nat} {fn : FuncId} {t : Array Value} {ps : Array Tmp} {assign body : Code} {dB l : Nat} {L : Env} {f : FuncId} {first captured : List Value} {encs : α → List Value} {A C0 M : State}
    {Next : List α → α → Prop} {Done : List α → Prop} {inf : Bool} {Q : Exit → Act → World → Prop} {a' : Act} {w w1 : World}
    (hit : IMeets P f first captured encs A Next Done inf) (I : List α → State → Prop) (Ix : Code → List α → State → Prop)
    (hinf : inf = true → ∃ N, ∀ pre C, I pre C → pre.length ≤ N) (hag : Agree n L [] { tmps := t, defers := [] }) (hps : ∀ x, (encs x).length = ps.size) (h0 : I [] C0) (he : Ext w w1)
    (hw1 : Hold w1 ([(l, .loop { state := .ready, pending := none, fn, tmps := t, params := ps, assign, body, defers := dB })] :: M ++ C0 ++ A))
    (hround : ∀ (F : Chunk) (C : State) (r : Loop) (pre : List α) (x : α), Next pre x → I pre C → CodeW P n (some l) assign (assignK P n l r body F (I (pre ++ [x])) (fun c => Ix c (pre ++ [x]))) [] (putAll n ps.toList (encs x) L) ([(l, .loop r)] :: F :: C))
    (hdone : ∀ (pre : List α) (C : State) (w2 : World), Done pre → I pre C → Ext w w2 → Hold w2 (M ++ C ++ A) → Q .normal a' w2)
    (hstop : ∀ (c : Code) (pre : List α) (x : α) (C : State) (w2 : World), Next pre x → Ix c (pre ++ [x]) C → Ext w w2 → Hold w2 (M ++ C ++ A) → c.wpIn (FW ro) 0 P Q a' w2) :
    CallsIn (FW none) 0 P f (first ++ [Value.func (.yield l) #[] #[]] ++ captured).toArray w1 (rangePost (FW ro) 0 P l Q a') := by
  have h1 := hit.out l (fun pre C => ∃ C1 : State, C = (l, .loop { state := .ready, pending := none, fn, tmps := t, params := ps, assign, body, defers := dB }) :: C1.flatten ∧ I pre C1)
    (fun pre C => ∃ (c : Code) (C1 : State), C = (l, .loop { state := .done, pending := some c, fn, tmps := t, params := ps, assign, body, defers := dB }) :: C1.flatten ∧ Ix c pre C1)
    (fun h => let ⟨N, hN⟩ := hinf h; ⟨N, fun pre C ⟨C1, _, hI⟩ => hN pre C1 hI⟩)
    (fun pre x hx => round_meets hag (hps x) fun F C r _ hI => hround F C r pre x hx hI) _ ⟨C0, rfl, h0⟩ M.flatten w1
    (hw1.perm (by
      simp only [List.flatten_append, List.flatten_cons, List.cons_append, List.append_assoc, List.nil_append]
      exact List.perm_middle.symm))
  refine h1.mono ?_
  rintro e w2 ⟨v, S, rfl, he2, hh, C', rfl, (⟨pre, hd, C1, rfl, hI⟩ | ⟨pre, x, hx, c, C1, rfl, hI⟩)⟩
  · have hw2 : Hold w2 ([(l, .loop { state := .ready, pending := none, fn, tmps := t, params := ps, assign, body, defers := dB })] :: (M ++ C1 ++ A)) := hh.perm (by
      simp only [List.flatten_append, List.flatten_cons, List.cons_append, List.append_assoc, List.nil_append]
      exact List.perm_middle)
    have hl2 : w2.heap[l]? = some (.loop { state := .ready, pending := none, fn, tmps := t, params := ps, assign, body, defers := dB }) := hw2.get l _ (by simp)
    refine ⟨none, _, run_endLoop (P := P) hl2 (by simp), hdone pre C1 _ hd hI ((he.trans he2).trans (put_ext _ _ _)) ?_⟩
    exact (put_hold hw2).sub (by simp)
  · have hw2 : Hold w2 ([(l, .loop { state := .done, pending := some c, fn, tmps := t, params := ps, assign, body, defers := dB })] :: (M ++ C1 ++ A)) := hh.perm (by
      simp only [List.flatten_append, List.flatten_cons, List.cons_append, List.append_assoc, List.nil_append]
      exact List.perm_middle)
    have hl2 : w2.heap[l]? = some (.loop { state := .done, pending := some c, fn, tmps := t, params := ps, assign, body, defers := dB }) := hw2.get l _ (by simp)
    refine ⟨some c, _, run_endLoop (P := P) hl2 (by simp), hstop c pre x C1 _ hx hI ((he.trans he2).trans (put_ext _ _ _)) ?_⟩
    exact (put_hold hw2).sub (by simp)

theorem enters_able {f : FuncId} (h : callable P f = true) (args : Array Value) (w : World) : (callFunc f args).run P w = .ok (.enter f args) w := by
  unfold callable at h
  split at h
  · rename_i fn hf
    simp only [Bool.and_eq_true, bne_iff_ne, ne_eq] at h
    obtain ⟨hn, hb⟩ := h
    obtain ⟨c, hc⟩ := Option.isSome_iff_exists.1 hb
    simp [callFunc, program, Sem.run_bind, Sem.run, hf, hn, hc, Result.andThen]
  · cases h

theorem zip_size {x y : List Value} : True := trivial

/-- 'for .. := range f { .. }', in no other such loop's body. -/
theorem code_range {g : Operand} {ps : Array Tmp} {assign body : Code} {K : Cont} {D : List Nat} {L : Env} {S A C0 : State} {f : FuncId} {first captured : Array Value} {encs : α → List Value}
    {Next : List α → α → Prop} {Done : List α → Prop} {inf : Bool} (hg : evT L g = some (.func (.func f) first captured)) (hit : IMeets P f first.toList captured.toList encs A Next Done inf)
    (ht : Take A S C0) (I : List α → State → Prop) (Ix : Code → List α → State → Prop) (hinf : inf = true → ∃ N, ∀ pre C, I pre C → pre.length ≤ N) (hps : ∀ x, (encs x).length = ps.size) (h0 : I [] C0)
    (hround : ∀ (l : Nat) (F : Chunk) (C : State) (r : Loop) (pre : List α) (x : α), Next pre x → I pre C → CodeW P n (some l) assign (assignK P n l r body F (I (pre ++ [x])) (fun c => Ix c (pre ++ [x]))) [] (putAll n ps.toList (encs x) L) ([(l, .loop r)] :: F :: C))
    (hdone : ∀ (d : Nat) (pre : List α) (C : State), Done pre → I pre C → K .normal (d :: D) L ([(d, .deferred (some []))] :: (C ++ A)))
    (hstop : ∀ (d : Nat) (c : Code) (pre : List α) (x : α) (C : State), Next pre x → Ix c (pre ++ [x]) C → CodeW P n none c K (d :: D) L ([(d, .deferred (some []))] :: (C ++ A))) :
    CodeW P n none (.rangeFunc g ps assign body) K D L S := by
  refine ⟨fun a w ha hw => wpIn_rangeFunc fun fn _ => ?_⟩
  obtain ⟨W1, hW1⟩ : ∃ W1 : World, W1 = (w.alloc (.deferred (some []))).alloc (.loop { state := .ready, pending := none, fn, tmps := a.tmps, params := ps, assign, body, defers := w.heap.size }) := ⟨_, rfl⟩
  refine ⟨w.heap.size + 1, [markD w.heap.size], W1,
    { target := .fn (.func f) captured, args := first ++ #[.func (.yield (w.heap.size + 1)) #[] #[]] }, W1, f, (first.toList ++ [Value.func (.yield (w.heap.size + 1)) #[] #[]] ++ captured.toList).toArray, W1,
    by rw [hW1]; exact run_enterLoop_outer fn a.tmps ps assign body, ?_, fun _ _ => trivial, ?_, fun h => (by cases h), ?_⟩
  · simp only [resolve, ha.ev hg]
    simp [Deferred.ofValue, Act.eval]
  · simp only [invoke]
    rw [enters_able hit.able]
    congr 2
    apply Array.ext'; simp
  · have e1 : (w.alloc (.deferred (some []))).heap = w.heap.push (.deferred (some [])) := rfl
    have hw1 := hw.new (w' := w.alloc (.deferred (some []))) (o := .deferred (some [])) rfl
    have hw2 := hw1.new (w' := (w.alloc (.deferred (some []))).alloc (.loop { state := .ready, pending := none, fn, tmps := a.tmps, params := ps, assign, body, defers := w.heap.size })) rfl
    rw [World.size_alloc, ← hW1] at hw2
    refine range_core (n := n) (L := L) (dB := w.heap.size) (t := a.tmps) (fn := fn) (C0 := C0) (M := [[(w.heap.size, .deferred (some []))]]) (w := w) hit I Ix hinf ⟨ha.size, ha.get, rfl⟩ hps h0
      (by rw [hW1]; exact ⟨rfl, rfl, rfl, by simp only [World.size_alloc]; omega⟩) ?_ (fun F C r pre x hx hI => hround _ F C r pre x hx hI) ?_ ?_
    · refine hw2.perm ?_
      simp only [List.flatten_append, List.flatten_cons, List.cons_append, List.append_assoc, List.nil_append, List.flatten_nil]
      refine List.Perm.cons _ (List.Perm.cons _ ?_)
      have := ht.perm
      rw [List.flatten_append] at this
      exact this.trans List.perm_append_comm
    · intro pre C w2 hd hI he hh
      exact ⟨_, L, _, hdone w.heap.size pre C hd hI, ⟨ha.size, ha.get, by simp [ha.marks]⟩, he, hh.perm (by simp)⟩
    · intro c pre x C w2 hx hI he hh
      refine wpIn_mono ((hstop w.heap.size c pre x C hx hI).out { a with defers := [markD w.heap.size] ++ a.defers } w2 ⟨ha.size, ha.get, by simp [ha.marks]⟩ (hh.perm (by simp))) fun _ _ _ hq => hq.ext he

/-- The same in the body of such a loop (of the record l₀). -/
theorem code_range_in {l₀ : Nat} {r₀ : Loop} {g : Operand} {ps : Array Tmp} {assign body : Code} {K : Cont} {D : List Nat} {L : Env} {S A C0 : State} {f : FuncId} {first captured : Array Value} {encs : α → List Value}
    {Next : List α → α → Prop} {Done : List α → Prop} {inf : Bool} (hg : evT L g = some (.func (.func f) first captured)) (hl : Lies l₀ (.loop r₀) S) (hit : IMeets P f first.toList captured.toList encs A Next Done inf)
    (ht : Take A S C0) (I : List α → State → Prop) (Ix : Code → List α → State → Prop) (hinf : inf = true → ∃ N, ∀ pre C, I pre C → pre.length ≤ N) (hps : ∀ x, (encs x).length = ps.size) (h0 : I [] C0)
    (hround : ∀ (l : Nat) (F : Chunk) (C : State) (r : Loop) (pre : List α) (x : α), Next pre x → I pre C → CodeW P n (some l) assign (assignK P n l r body F (I (pre ++ [x])) (fun c => Ix c (pre ++ [x]))) [] (putAll n ps.toList (encs x) L) ([(l, .loop r)] :: F :: C))
    (hdone : ∀ (pre : List α) (C : State), Done pre → I pre C → K .normal D L (C ++ A))
    (hstop : ∀ (c : Code) (pre : List α) (x : α) (C : State), Next pre x → Ix c (pre ++ [x]) C → CodeW P n (some l₀) c K D L (C ++ A)) :
    CodeW P n (some l₀) (.rangeFunc g ps assign body) K D L S := by
  refine ⟨fun a w ha hw => wpIn_rangeFunc fun fn _ => ?_⟩
  have hr := hl.get hw
  obtain ⟨W1, hW1⟩ : ∃ W1 : World, W1 = w.alloc (.loop { state := .ready, pending := none, fn, tmps := a.tmps, params := ps, assign, body, defers := r₀.defers }) := ⟨_, rfl⟩
  refine ⟨w.heap.size, [], W1,
    { target := .fn (.func f) captured, args := first ++ #[.func (.yield w.heap.size) #[] #[]] }, W1, f, (first.toList ++ [Value.func (.yield w.heap.size) #[] #[]] ++ captured.toList).toArray, W1,
    by rw [hW1]; exact run_enterLoop_inner hr fn a.tmps ps assign body, ?_, fun _ _ => trivial, ?_, fun h => (by cases h), ?_⟩
  · simp only [resolve, ha.ev hg]
    simp [Deferred.ofValue, Act.eval]
  · simp only [invoke]
    rw [enters_able hit.able]
    congr 2
    apply Array.ext'; simp
  · have hw1 := hw.new (w' := w.alloc (.loop { state := .ready, pending := none, fn, tmps := a.tmps, params := ps, assign, body, defers := r₀.defers })) rfl
    rw [← hW1] at hw1
    refine range_core (n := n) (L := L) (dB := r₀.defers) (t := a.tmps) (fn := fn) (C0 := C0) (M := []) (w := w) hit I Ix hinf ⟨ha.size, ha.get, rfl⟩ hps h0
      (by rw [hW1]; exact ⟨rfl, rfl, rfl, by simp only [World.size_alloc]; omega⟩) ?_ (fun F C r pre x hx hI => hround _ F C r pre x hx hI) ?_ ?_
    · refine hw1.perm ?_
      simp only [List.flatten_append, List.flatten_cons, List.cons_append, List.append_assoc, List.nil_append, List.flatten_nil]
      refine List.Perm.cons _ ?_
      have := ht.perm
      rw [List.flatten_append] at this
      exact this.trans List.perm_append_comm
    · intro pre C w2 hd hI he hh
      exact ⟨_, L, _, hdone pre C hd hI, ⟨ha.size, ha.get, by simp [ha.marks]⟩, he, hh.perm (by simp)⟩
    · intro c pre x C w2 hx hI he hh
      refine wpIn_mono ((hstop c pre x C hx hI).out { a with defers := [] ++ a.defers } w2 ⟨ha.size, ha.get, by simp [ha.marks]⟩ (hh.perm (by simp))) fun _ _ _ hq => hq.ext he

end Go.Ost

/- A region whose order of evaluation Go leaves open, over chunks of memory: one walk, in an order that takes what changes nothing as early as may be, serves every order. Conditions: none. -/
set_option linter.unusedSimpArgs false
set_option linter.unusedVariables false
namespace Go.Ost
open Go

variable {P : Program} {n : Nat} {ro : Option Nat}

/-- Does an operation's value hang on memory? (Of those that change nothing.) -/
def readsB : Op → Bool
  | .load .. | .lookup .. => true
  | .call { callee := .builtin .len, .. } => true
  | _ => false

/-- One operation that changes nothing. -/
def stepQ (P : Program) (op : Op) (t : TypeId) (L : Env) (S : State) (κ : Value → Prop) : Prop :=
  match op with
  | .move x | .assign x => withV (evT L x) fun v => κ v
  | .pick c a b => withV (evT L c) fun v => withB v fun g => withV (evT L (if g then a else b)) fun u => κ u
  | .build u ps => withP (evP L ps.toList) fun vs => PureW P (Instr.build u vs.toArray) fun v => κ v
  | .load u x => withV (evT L x) fun a => ReadW P (Instr.loadAt u a) S fun v => κ v
  | .nilCheck x => withV (evT L x) fun v => NilW v fun v => κ v
  | .binOp o u x y _ => withV (evT L x) fun a => withV (evT L y) fun b => PureW P (do eqGuard o u x y a b; binOp o u a b) fun v => κ v
  | .unOp o _ x => withV (evT L x) fun a => PureW P (Op.unary o a) fun v => κ v
  | .convert s d x => withV (evT L x) fun v => PureW P (convert s d v) fun v => κ v
  | .makeInterface u x => withV (evT L x) fun v => PureW P (Instr.makeInterface u v) fun v => κ v
  | .makeFunc fn a b => withL (evL L a.toList) fun va => withL (evL L b.toList) fun vb => κ (.func fn va.toArray vb.toArray)
  | .slice u x lo hi mx => withV (evT L x) fun v => withO (evO L lo) fun a => withO (evO L hi) fun b => withO (evO L mx) fun c => PureW P (Instr.sliceAt u v a b c) fun v => κ v
  | .sliceToArrayPointer u x => withV (evT L x) fun v => PureW P (Instr.arrayAt u v) fun v => κ v
  | .fieldAddr u x f => withV (evT L x) fun v => PureW P (Instr.fieldAt u v f) fun v => κ v
  | .field u x f => withV (evT L x) fun v => PureW P (Instr.field u v f) fun v => κ v
  | .indexAddr u x i => withV (evT L x) fun v => withV (evT L i) fun j => PureW P (Instr.indexAt u v j) fun v => κ v
  | .index u x i => withV (evT L x) fun v => withV (evT L i) fun j => PureW P (Instr.index u v j) fun v => κ v
  | .lookup u x i ok => withV (evT L x) fun v => withV (evT L i) fun j => ReadW P (Instr.lookup u v j ok) S fun v => κ v
  | .typeAssert x u v ok => withV (evT L x) fun a => PureW P (Instr.typeAssert a u v ok) fun v => κ v
  | .extract x i => withV (evT L x) fun a => PureW P (Instr.extract a i) fun v => κ v
  | .call c => withL (evL L c.args.toList) fun vs =>
    match c.callee, vs with
    | .builtin .min, _ => PureW P (Builtin.min_ c.argTypes t vs.toArray) fun v => κ v
    | .builtin .max, _ => PureW P (Builtin.max_ c.argTypes t vs.toArray) fun v => κ v
    | .builtin .cap, _ => PureW P (Builtin.cap_ c.argTypes t vs.toArray) fun v => κ v
    | .builtin .len, [.slice a n c'] => PureW P (Builtin.len_ c.argTypes t #[.slice a n c']) fun v => κ v
    | .builtin .len, [.string s] => PureW P (Builtin.len_ c.argTypes t #[.string s]) fun v => κ v
    | .builtin .len, [.map r] => ReadW P (Builtin.len_ c.argTypes t #[.map r]) S fun v => κ v
    | _, _ => False
  | _ => False

theorem pure_val {m : Sem Value} {κ : Value → Prop} (h : PureW P m κ) : ∃ v, κ v ∧ ∀ w, (do pure (.value (← m)) : Sem Next).run P w = .ok (.value v) w := by
  obtain ⟨v, h1, h2⟩ := h.out
  exact ⟨v, h2, fun w => by simp [Sem.run_bind, h1 w, Result.andThen]⟩
theorem read_val {m : Sem Value} {S : State} {κ : Value → Prop} (h : ReadW P m S κ) : ∃ v, κ v ∧ ∀ w, Hold w S → (do pure (.value (← m)) : Sem Next).run P w = .ok (.value v) w := by
  obtain ⟨v, h1, h2⟩ := h.out
  exact ⟨v, h2, fun w hw => by simp [Sem.run_bind, h1 w hw, Result.andThen]⟩

/-- An operation that changes nothing: one value, in every world in which the state lies (where it reads no memory: in every world). -/
theorem stepQ_out {o : Oper} {L : Env} {S : State} {κ : Value → Prop} (h : stepQ P o.op o.type L S κ) :
    ∃ v, κ v ∧ ∀ (ρ : Operand → Value), (∀ x v, evT L x = some v → ρ x = v) → ∀ w, (readsB o.op = true → Hold w S) → (execOp ρ o).run P w = .ok (.value v) w := by
  obtain ⟨dst, op, t, pos, after, guard⟩ := o
  have viaPure : ∀ {m : (Operand → Value) → Sem Value} {m0 : Sem Value}, PureW P m0 κ → (∀ ρ : Operand → Value, (∀ x v, evT L x = some v → ρ x = v) → m ρ = m0) →
      ∃ v, κ v ∧ ∀ (ρ : Operand → Value), (∀ x v, evT L x = some v → ρ x = v) → ∀ w, (do pure (.value (← m ρ)) : Sem Next).run P w = .ok (.value v) w := by
    intro m m0 hp he
    obtain ⟨v, hk, hr⟩ := pure_val hp
    exact ⟨v, hk, fun ρ hρ w => by rw [he ρ hρ]; exact hr w⟩
  have viaRead : ∀ {m : (Operand → Value) → Sem Value} {m0 : Sem Value}, ReadW P m0 S κ → (∀ ρ : Operand → Value, (∀ x v, evT L x = some v → ρ x = v) → m ρ = m0) →
      ∃ v, κ v ∧ ∀ (ρ : Operand → Value), (∀ x v, evT L x = some v → ρ x = v) → ∀ w, Hold w S → (do pure (.value (← m ρ)) : Sem Next).run P w = .ok (.value v) w := by
    intro m m0 hp he
    obtain ⟨v, hk, hr⟩ := read_val hp
    exact ⟨v, hk, fun ρ hρ w hw => by rw [he ρ hρ]; exact hr w hw⟩
  cases op <;> simp only [stepQ] at h <;> simp only [execOp, readsB]
  case move x => obtain ⟨v, hx, h⟩ := withV_out h; exact ⟨v, h, fun ρ hρ w _ => by rw [hρ x v hx]; rfl⟩
  case assign x => obtain ⟨v, hx, h⟩ := withV_out h; exact ⟨v, h, fun ρ hρ w _ => by rw [hρ x v hx]; rfl⟩
  case pick c a b =>
    obtain ⟨v, hx, h⟩ := withV_out h
    cases v <;> first | exact h.elim | skip
    rename_i g
    simp only [withB] at h
    obtain ⟨u, hu, h⟩ := withV_out h
    refine ⟨u, h, fun ρ hρ w _ => ?_⟩
    have h1 := hρ _ _ hu
    rw [hρ c _ hx]
    cases g <;> simp_all [asBool, Sem.run_bind, Result.andThen]
  case build u ps =>
    cases hp : evP L ps.toList with
    | none => rw [hp] at h; exact h.elim
    | some vs =>
      rw [hp] at h
      obtain ⟨v, hk, hr⟩ := viaPure (m := fun ρ => Instr.build u (ps.map fun (i, x) => (i, ρ x))) h (fun ρ hρ => by
        have e : (ps.map fun (i, x) => (i, ρ x)) = vs.toArray := Array.ext' (by simpa using evP_out hρ _ _ hp)
        rw [e])
      exact ⟨v, hk, fun ρ hρ w _ => hr ρ hρ w⟩
  case load u x =>
    obtain ⟨a, hx, h⟩ := withV_out h
    obtain ⟨v, hk, hr⟩ := viaRead (m := fun ρ => Instr.loadAt u (ρ x)) h (fun ρ hρ => by simp only [hρ x a hx])
    exact ⟨v, hk, fun ρ hρ w hw => hr ρ hρ w (hw trivial)⟩
  case nilCheck x =>
    obtain ⟨v, hx, h⟩ := withV_out h
    unfold NilW at h
    split at h
    · exact ⟨_, h, fun ρ hρ w _ => by rw [hρ x _ hx]; rfl⟩
    · exact ⟨_, h, fun ρ hρ w _ => by rw [hρ x _ hx]; rfl⟩
    · exact ⟨_, h, fun ρ hρ w _ => by rw [hρ x _ hx]; rfl⟩
    · exact h.elim
  case binOp o u x y yt =>
    obtain ⟨a, hx, h⟩ := withV_out h; obtain ⟨b, hy, h⟩ := withV_out h
    obtain ⟨v, hk, hr⟩ := viaPure (m := fun ρ => do eqGuard o u x y (ρ x) (ρ y); binOp o u (ρ x) (ρ y)) h (fun ρ hρ => by simp only [hρ x a hx, hρ y b hy])
    exact ⟨v, hk, fun ρ hρ w _ => hr ρ hρ w⟩
  case unOp o u x =>
    obtain ⟨a, hx, h⟩ := withV_out h
    obtain ⟨v, hk, hr⟩ := viaPure (m := fun ρ => Op.unary o (ρ x)) h (fun ρ hρ => by simp only [hρ x a hx])
    exact ⟨v, hk, fun ρ hρ w _ => hr ρ hρ w⟩
  case convert s d x =>
    obtain ⟨a, hx, h⟩ := withV_out h
    obtain ⟨v, hk, hr⟩ := viaPure (m := fun ρ => convert s d (ρ x)) h (fun ρ hρ => by simp only [hρ x _ hx])
    exact ⟨v, hk, fun ρ hρ w _ => hr ρ hρ w⟩
  case sliceToArrayPointer u x =>
    obtain ⟨a, hx, h⟩ := withV_out h
    obtain ⟨v, hk, hr⟩ := viaPure (m := fun ρ => Instr.arrayAt u (ρ x)) h (fun ρ hρ => by simp only [hρ x a hx])
    exact ⟨v, hk, fun ρ hρ w _ => hr ρ hρ w⟩
  case makeInterface u x =>
    obtain ⟨a, hx, h⟩ := withV_out h
    obtain ⟨v, hk, hr⟩ := viaPure (m := fun ρ => Instr.makeInterface u (ρ x)) h (fun ρ hρ => by simp only [hρ x a hx])
    exact ⟨v, hk, fun ρ hρ w _ => hr ρ hρ w⟩
  case makeFunc fn a b =>
    cases ha : evL L a.toList with
    | none => rw [ha] at h; exact h.elim
    | some va =>
      rw [ha] at h
      simp only [withL] at h
      cases hb : evL L b.toList with
      | none => rw [hb] at h; exact h.elim
      | some vb =>
        rw [hb] at h
        refine ⟨_, h, fun ρ hρ w _ => ?_⟩
        have ea : a.map ρ = va.toArray := Array.ext' (by simpa using evL_out hρ _ _ ha)
        have eb : b.map ρ = vb.toArray := Array.ext' (by simpa using evL_out hρ _ _ hb)
        rw [ea, eb]; rfl
  case slice u x lo hi mx =>
    obtain ⟨a, hx, h⟩ := withV_out h
    have h2 : ∃ v, κ v ∧ ∀ (ρ : Operand → Value), (∀ x v, evT L x = some v → ρ x = v) → ∀ w, (do pure (.value (← Instr.sliceAt u (ρ x) (lo.map ρ) (hi.map ρ) (mx.map ρ))) : Sem Next).run P w = .ok (.value v) w := by
      cases h1 : evO L lo with
      | none => rw [h1] at h; exact h.elim
      | some lo' =>
        rw [h1] at h
        simp only [withO] at h
        cases h2 : evO L hi with
        | none => rw [h2] at h; exact h.elim
        | some hi' =>
          rw [h2] at h
          simp only at h
          cases h3 : evO L mx with
          | none => rw [h3] at h; exact h.elim
          | some mx' =>
            rw [h3] at h
            simp only at h
            have out : ∀ {y : Option Operand} {y' : Option Value} {ρ : Operand → Value}, (∀ x v, evT L x = some v → ρ x = v) → evO L y = some y' → y.map ρ = y' := by
              intro y y' ρ hρ he
              have := withO_out (κ := fun z => z = y') hρ (x := y) (by rw [he]; exact rfl)
              exact this
            exact viaPure (m := fun ρ => Instr.sliceAt u (ρ x) (lo.map ρ) (hi.map ρ) (mx.map ρ)) h (fun ρ hρ => by simp only [hρ x a hx, out hρ h1, out hρ h2, out hρ h3])
    obtain ⟨v, hk, hr⟩ := h2
    exact ⟨v, hk, fun ρ hρ w _ => hr ρ hρ w⟩
  case fieldAddr u x f =>
    obtain ⟨a, hx, h⟩ := withV_out h
    obtain ⟨v, hk, hr⟩ := viaPure (m := fun ρ => Instr.fieldAt u (ρ x) f) h (fun ρ hρ => by simp only [hρ x a hx])
    exact ⟨v, hk, fun ρ hρ w _ => hr ρ hρ w⟩
  case field u x f =>
    obtain ⟨a, hx, h⟩ := withV_out h
    obtain ⟨v, hk, hr⟩ := viaPure (m := fun ρ => Instr.field u (ρ x) f) h (fun ρ hρ => by simp only [hρ x a hx])
    exact ⟨v, hk, fun ρ hρ w _ => hr ρ hρ w⟩
  case indexAddr u x y =>
    obtain ⟨a, hx, h⟩ := withV_out h; obtain ⟨b, hy, h⟩ := withV_out h
    obtain ⟨v, hk, hr⟩ := viaPure (m := fun ρ => Instr.indexAt u (ρ x) (ρ y)) h (fun ρ hρ => by simp only [hρ x a hx, hρ y b hy])
    exact ⟨v, hk, fun ρ hρ w _ => hr ρ hρ w⟩
  case index u x y =>
    obtain ⟨a, hx, h⟩ := withV_out h; obtain ⟨b, hy, h⟩ := withV_out h
    obtain ⟨v, hk, hr⟩ := viaPure (m := fun ρ => Instr.index u (ρ x) (ρ y)) h (fun ρ hρ => by simp only [hρ x a hx, hρ y b hy])
    exact ⟨v, hk, fun ρ hρ w _ => hr ρ hρ w⟩
  case lookup u x y ok =>
    obtain ⟨a, hx, h⟩ := withV_out h; obtain ⟨b, hy, h⟩ := withV_out h
    obtain ⟨v, hk, hr⟩ := viaRead (m := fun ρ => Instr.lookup u (ρ x) (ρ y) ok) h (fun ρ hρ => by simp only [hρ x a hx, hρ y b hy])
    exact ⟨v, hk, fun ρ hρ w hw => hr ρ hρ w (hw trivial)⟩
  case typeAssert x u v' ok =>
    obtain ⟨a, hx, h⟩ := withV_out h
    obtain ⟨v, hk, hr⟩ := viaPure (m := fun ρ => Instr.typeAssert (ρ x) u v' ok) h (fun ρ hρ => by simp only [hρ x a hx])
    exact ⟨v, hk, fun ρ hρ w _ => hr ρ hρ w⟩
  case extract x i =>
    obtain ⟨a, hx, h⟩ := withV_out h
    obtain ⟨v, hk, hr⟩ := viaPure (m := fun ρ => Instr.extract (ρ x) i) h (fun ρ hρ => by simp only [hρ x a hx])
    exact ⟨v, hk, fun ρ hρ w _ => hr ρ hρ w⟩
  case call c =>
    obtain ⟨callee, args, ats⟩ := c
    cases hp : evL L args.toList with
    | none => rw [hp] at h; exact h.elim
    | some vs =>
      rw [hp] at h
      simp only [withL] at h
      have e : ∀ ρ : Operand → Value, (∀ x v, evT L x = some v → ρ x = v) → args.map ρ = vs.toArray := fun ρ hρ => Array.ext' (by simpa using evL_out hρ _ _ hp)
      split at h
      · subst_vars
        obtain ⟨v, hk, hr⟩ := viaPure (m := fun ρ => Builtin.min_ ats t (args.map ρ)) h (fun ρ hρ => by simp only [e ρ hρ])
        exact ⟨v, hk, fun ρ hρ w _ => hr ρ hρ w⟩
      · subst_vars
        obtain ⟨v, hk, hr⟩ := viaPure (m := fun ρ => Builtin.max_ ats t (args.map ρ)) h (fun ρ hρ => by simp only [e ρ hρ])
        exact ⟨v, hk, fun ρ hρ w _ => hr ρ hρ w⟩
      · subst_vars
        obtain ⟨v, hk, hr⟩ := viaPure (m := fun ρ => Builtin.cap_ ats t (args.map ρ)) h (fun ρ hρ => by simp only [e ρ hρ])
        exact ⟨v, hk, fun ρ hρ w _ => hr ρ hρ w⟩
      · subst_vars
        obtain ⟨v, hk, hr⟩ := viaPure (m := fun ρ => Builtin.len_ ats t (args.map ρ)) h (fun ρ hρ => by simp only [e ρ hρ])
        exact ⟨v, hk, fun ρ hρ w _ => hr ρ hρ w⟩
      · subst_vars
        obtain ⟨v, hk, hr⟩ := viaPure (m := fun ρ => Builtin.len_ ats t (args.map ρ)) h (fun ρ hρ => by simp only [e ρ hρ])
        exact ⟨v, hk, fun ρ hρ w _ => hr ρ hρ w⟩
      · subst_vars
        obtain ⟨v, hk, hr⟩ := viaRead (m := fun ρ => Builtin.len_ ats t (args.map ρ)) h (fun ρ hρ => by simp only [e ρ hρ])
        exact ⟨v, hk, fun ρ hρ w hw => hr ρ hρ w (hw rfl)⟩
      · exact h.elim
  all_goals exact h.elim

end Go.Ost
