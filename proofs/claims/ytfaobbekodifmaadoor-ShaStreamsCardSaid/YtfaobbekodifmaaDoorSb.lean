/- Words of 32 bits and bytes, as values, and the operations on them. Conditions: as each says. -/
import Derived.Test.YtfaobbekodifmaaDoorSs
import Derived.Laws.BytesString
set_option linter.unusedSimpArgs false
set_option linter.unusedVariables false
namespace Go.Ost
open Go

variable {P : Program}

abbrev W32 := BitVec 32
def b32 (x : BitVec 32) : Value := .int .u32 x.toNat
def b8 (x : UInt8) : Value := .int .u8 x.toNat
theorem b8_cell (x : UInt8) : Value.cell1 (b8 x) := trivial
theorem b32_cell (x : BitVec 32) : Value.cell1 (b32 x) := trivial

theorem wrap32_mod (n : Nat) : IntKind.u32.wrap (n : Int) = ((n % 4294967296 : Nat) : Int) := by
  show ((n : Int) % (2 ^ 32 : Int)) = _
  omega
theorem ofInt_nat {k : Nat} (x : BitVec k) : BitVec.ofInt k (x.toNat : Int) = x := by
  apply BitVec.eq_of_toNat_eq
  simp

section words
variable (t : TypeId) (x y : Operand) (a b : BitVec 32) (κ : Value → Prop)
theorem w_add : PureW P (do eqGuard .add t x y (b32 a) (b32 b); binOp .add t (b32 a) (b32 b)) κ = κ (b32 (a + b)) := by
  refine (bin_add t x y .u32 _ _ κ).trans ?_
  rw [← Int.natCast_add, wrap32_mod]; rfl
theorem w_sub : PureW P (do eqGuard .sub t x y (b32 a) (b32 b); binOp .sub t (b32 a) (b32 b)) κ = κ (b32 (a - b)) := by
  refine (bin_sub t x y .u32 _ _ κ).trans ?_
  congr 2
  have h1 := a.isLt
  have h2 := b.isLt
  rw [show ((a.toNat : Int) - b.toNat) = ((4294967296 - b.toNat + a.toNat : Nat) : Int) - 4294967296 from by omega]
  rw [BitVec.toNat_sub]
  show ((_ : Int) % (2 ^ 32 : Int)) = _
  omega
theorem w_bits {o : BinOp} {r : BitVec 32} (h : ∀ w, (Op.intBits o .u32 a.toNat b.toNat).run P w = .ok (.int .u32 (IntKind.u32.wrap r.toNat)) w) (hb : ∀ w, (do eqGuard o t x y (b32 a) (b32 b); binOp o t (b32 a) (b32 b) : Sem Value).run P w = (Op.intBits o .u32 a.toNat b.toNat).run P w) :
    PureW P (do eqGuard o t x y (b32 a) (b32 b); binOp o t (b32 a) (b32 b)) κ = κ (b32 r) :=
  pureW_eq (fun w => by
    rw [hb, h, wrap32_mod]
    have := r.isLt
    rw [Nat.mod_eq_of_lt (by simpa using this)]; rfl) κ
theorem w_and : PureW P (do eqGuard .and t x y (b32 a) (b32 b); binOp .and t (b32 a) (b32 b)) κ = κ (b32 (a &&& b)) :=
  w_bits t x y a b κ (fun w => by
    show Result.ok (Value.int .u32 (IntKind.u32.wrap ((BitVec.ofInt 32 (a.toNat : Int) &&& BitVec.ofInt 32 (b.toNat : Int)).toNat : Int))) w = _
    rw [ofInt_nat, ofInt_nat]) (fun w => by simp [eqGuard, binOp, b32])
theorem w_or : PureW P (do eqGuard .or t x y (b32 a) (b32 b); binOp .or t (b32 a) (b32 b)) κ = κ (b32 (a ||| b)) :=
  w_bits t x y a b κ (fun w => by
    show Result.ok (Value.int .u32 (IntKind.u32.wrap ((BitVec.ofInt 32 (a.toNat : Int) ||| BitVec.ofInt 32 (b.toNat : Int)).toNat : Int))) w = _
    rw [ofInt_nat, ofInt_nat]) (fun w => by simp [eqGuard, binOp, b32])
theorem w_xor : PureW P (do eqGuard .xor t x y (b32 a) (b32 b); binOp .xor t (b32 a) (b32 b)) κ = κ (b32 (a ^^^ b)) :=
  w_bits t x y a b κ (fun w => by
    show Result.ok (Value.int .u32 (IntKind.u32.wrap ((BitVec.ofInt 32 (a.toNat : Int) ^^^ BitVec.ofInt 32 (b.toNat : Int)).toNat : Int))) w = _
    rw [ofInt_nat, ofInt_nat]) (fun w => by simp [eqGuard, binOp, b32])
theorem w_not : PureW P (Op.unary .xor (b32 a)) κ = κ (b32 (~~~a)) :=
  pureW_eq (fun w => by
    have h : BitVec.ofInt 32 4294967295 = BitVec.allOnes 32 := by decide
    show Result.ok (Value.int .u32 (IntKind.u32.wrap ((BitVec.ofInt 32 4294967295 ^^^ BitVec.ofInt 32 (a.toNat : Int)).toNat : Int))) w = _
    rw [ofInt_nat, h, BitVec.allOnes_xor, wrap32_mod, Nat.mod_eq_of_lt (~~~a).isLt]
    rfl) κ
theorem w_shl {j : IntKind} {n : Int} (h0 : 0 ≤ n) (h1 : n ≤ 32) : PureW P (do eqGuard .shl t x y (b32 a) (.int j n); binOp .shl t (b32 a) (.int j n)) κ = κ (b32 (a <<< n.toNat)) :=
  pureW_eq (fun w => by
    have e : min n.toNat IntKind.u32.bits = n.toNat := by show min n.toNat 32 = n.toNat; omega
    have h3 : ¬ n < 0 := by omega
    show (Op.shift .shl .u32 (a.toNat : Int) j n).run P w = _
    rw [Op.shift, if_neg h3, e]
    show Result.ok (Value.int .u32 (IntKind.u32.wrap ((a.toNat : Int) * 2 ^ n.toNat))) w = _
    rw [show ((a.toNat : Int) * 2 ^ n.toNat) = ((a.toNat * 2 ^ n.toNat : Nat) : Int) from by simp, wrap32_mod, ← Nat.shiftLeft_eq]
    rfl) κ
theorem w_shr {j : IntKind} {n : Int} (h0 : 0 ≤ n) (h1 : n ≤ 32) : PureW P (do eqGuard .shr t x y (b32 a) (.int j n); binOp .shr t (b32 a) (.int j n)) κ = κ (b32 (a >>> n.toNat)) :=
  pureW_eq (fun w => by
    have e : min n.toNat IntKind.u32.bits = n.toNat := by show min n.toNat 32 = n.toNat; omega
    have h3 : ¬ n < 0 := by omega
    show (Op.shift .shr .u32 (a.toNat : Int) j n).run P w = _
    rw [Op.shift, if_neg h3, e]
    show Result.ok (Value.int .u32 (Int.fdiv (a.toNat : Int) (2 ^ n.toNat))) w = _
    rw [show Int.fdiv (a.toNat : Int) (2 ^ n.toNat) = ((a.toNat / 2 ^ n.toNat : Nat) : Int) from by
      rw [Int.fdiv_eq_ediv_of_nonneg _ (Int.le_of_lt (Int.pow_pos (by decide)))]
      simp, ← Nat.shiftRight_eq_div_pow]
    rfl) κ
end words

/-! ### Bytes and strings -/

def str (bs : List UInt8) : ByteArray := ⟨bs.toArray⟩
theorem str_inj {a b : List UInt8} (h : str a = str b) : a = b := by
  have := congrArg ByteArray.data h
  simpa [str] using this
theorem push_str (l : List UInt8) : ∀ (r : ByteArray), (l.map fun x => ((x.toNat : Nat) : Int)).foldl (fun r n => r.push (UInt8.ofNat n.toNat)) r = ⟨r.data ++ l.toArray⟩ := by
  induction l with
  | nil => intro r; cases r; simp
  | cons x l ih =>
    intro r
    simp only [List.map_cons, List.foldl_cons]
    rw [ih]
    simp [ByteArray.push]

/-- Bytes, as a string. -/
theorem conv_bytes_string {src dst e : TypeId} [hs : TSlice P src e] [he : TInt P e .u8] [hd : TStr P dst] {S : State} {κ : Value → State → Prop} {a : Option Addr} {len cap : Nat} {bs : List UInt8} (h : Rd 1 S a len (bs.map b8))
    (k : κ (.string (str bs)) S) : ConvW P src dst (.slice a len cap) S κ := by
  refine ⟨fun w hw => ⟨_, w, S, ?_, Ext.refl w, hw, k⟩⟩
  rw [run_convert_bytes_string w src dst e a len cap hs.und he.und hd.und]
  have f := rd_first (P := P) (c := cap) h hw
  cases a with
  | none =>
    have : bs = [] := by
      have h2 := h.2
      cases bs with
      | nil => rfl
      | cons x l => obtain ⟨_, _, _, _, _, h3, _⟩ := h2 (by simp); cases h3
    subst this; rfl
  | some a =>
    simp only [Builtin.firstCells, Nat.mul_one] at f
    rw [run_bytesToString w a len cap (bs.map fun x => ((x.toNat : Nat) : Int)) (by rw [f]; simp [b8, Function.comp_def])]
    rw [push_str]
    congr 2
    simp [str]

theorem run_mark {w : World} {b o : Nat} {cs : Array Value} {e : TypeId} {m : Nat × Nat} (h : w.heap[b]? = some (.cells cs e m)) (hm : Soft cs.size m) :
    ∃ w' m', (markStringish ⟨b, o, none⟩).run P w = .ok () w' ∧ Ext w w' ∧ Soft cs.size m' ∧ w'.heap[b]? = some (.cells cs e m') ∧ ∀ k, k ≠ b → w'.heap[k]? = w.heap[k]? := by
  obtain ⟨lo, hi⟩ := m
  refine ⟨w.freeze { block := b, off := cs.size } 1, if lo == hi then (cs.size, cs.size + 1) else (min lo cs.size, max hi (cs.size + 1)), ?_, ?_, ?_, ?_, ?_⟩
  · have hsh : w.shape? b = some (e, cs.size) := by simp [World.shape?, h]
    simp [markStringish, shape, freeze, Sem.run_bind, Sem.run, hsh, Result.andThen]
  · exact ⟨rfl, rfl, rfl, by simp [World.freeze]⟩
  · unfold Soft at hm ⊢
    split
    · exact .inr (Nat.le_refl _)
    · rename_i hne
      rcases hm with hm | hm
      · exact absurd hm (by simpa using hne)
      · right; simp only at hm ⊢; omega
  · simp only [World.freeze]
    rw [if_neg (by decide)]
    simp only [Array.getElem?_modify, if_true, h, Option.map_some]
  · intro k hk
    simp only [World.freeze]
    rw [if_neg (by decide)]
    simp only [Array.getElem?_modify]
    rw [if_neg (Ne.symm hk)]

/-- Bytes of one's own, named otherwise. -/
theorem conv_same {t e : TypeId} [ht : TSlice P t e] [he : TInt P e .u8] {S G : State} {κ : Value → State → Prop} {C : Chunk} {ad : Addr} {len cap : Nat} {us : List Value} (ho : Own 1 e C (some ad) len cap us) (hp : Pick C S G)
    (hpos : 0 < cap) (k : ∀ C', Own 1 e C' (some ad) len cap us → κ (.slice (some ad) len cap) (C' :: G)) : ConvW P t t (.slice (some ad) len cap) S κ := by
  refine ⟨fun w hw => ?_⟩
  obtain ⟨h1, h2, h3, h4⟩ := ho
  rcases h4 with ⟨h5, _⟩ | ⟨b, o, cs, m, h5, rfl, hs, hbig, hc⟩
  · omega
  · cases h5
    have hCG := hw.perm hp.perm
    obtain ⟨w', m', q1, q2, q3, q4, q5⟩ := run_mark (P := P) (o := o) (hCG.get b (.cells cs e m) (by simp)) hs
    refine ⟨_, w', _, ?_, q2, (Upd.one (S := G)).hold hCG q4 q5, k [(b, .cells cs e m')] ⟨h1, h2, h3, .inr ⟨b, o, cs, m', rfl, rfl, q3, hbig, hc⟩⟩⟩
    simp [convert, Sem.run_bind, run_und ht.und, run_und he.und, Result.andThen, q1]

/-- A string, as bytes of one's own. -/
theorem conv_string_bytes {src dst e : TypeId} [hs : TStr P src] [hd : TSlice P dst e] [he : TInt P e .u8] {S : State} {κ : Value → State → Prop} {bs : List UInt8} (hm : bs.length ≤ maxLen)
    (k : ∀ C a cap, Own 1 e C (some a) bs.length cap (bs.map b8) → κ (.slice (some a) bs.length cap) (C :: S)) : ConvW P src dst (.string (str bs)) S κ := by
  refine ⟨fun w hw => ?_⟩
  have hge := grownCap_ge w bs.length 0 e
  have hcm := grownCap_le_maxLen w bs.length 0 e hm
  obtain ⟨cells, hcells⟩ : ∃ cells : Array Value, cells = (bs.map b8).toArray ++ Array.replicate (grownCap w bs.length 0 e - bs.length) (.int .u8 0) := ⟨_, rfl⟩
  have hw1 : Hold (w.drew.alloc (.cells cells e)) ([(w.heap.size, .cells cells e (0, 0))] :: S) := Hold.new (w := w) hw rfl
  obtain ⟨w', m', q1, q2, q3, q4, q5⟩ := run_mark (P := P) (o := 0) (hw1.get w.heap.size (.cells cells e (0, 0)) (by simp)) (.inl rfl)
  refine ⟨.slice (some ⟨w.heap.size, 0, none⟩) bs.length (grownCap w bs.length 0 e), w', _, ?_, Ext.trans (a := w) (b := w.drew.alloc (.cells cells e)) ⟨rfl, rfl, rfl, by simp⟩ q2, (Upd.one (S := S)).hold hw1 q4 q5, k [(w.heap.size, .cells cells e m')] _ _ ⟨hge, hcm, by simp, .inr ⟨_, 0, cells, m', rfl, rfl, q3, ?_, ?_⟩⟩⟩
  · have e1 : (str bs).data.map (fun b => Value.int .u8 b.toNat) = (bs.map b8).toArray := by simp [str, b8, Function.comp_def]
    have e2 : (str bs).size = bs.length := by simp [str, ByteArray.size]
    have r : (convert src dst (.string (str bs))).run P w = (Conv.stringToBytes e (str bs)).run P w := by
      simp [convert, Sem.run_bind, run_und hs.und, run_und hd.und, run_und he.und, Result.andThen]
    rw [r]
    unfold Conv.stringToBytes
    simp only [Sem.run_bind, e1, e2]
    have c1 : (choose (Question.appendCap bs.length 0 e)).run P w = .ok (grownCap w bs.length 0 e) w.drew := by rw [run_choose_drew]; simp [Question.forced, grownCap]
    have c2 : (newRow e cells).run P w.drew = .ok ⟨w.heap.size, 0, none⟩ (w.drew.alloc (.cells cells e)) := rfl
    rw [c1]
    simp only [Result.andThen]
    rw [← hcells, c2]
    simp only [Result.andThen]
    rw [q1]
    rfl
  · rw [hcells]; simp; omega
  · intro i hi
    rw [hcells, Nat.zero_add, Array.getElem?_append_left (by simpa using hi)]
    simp

/-! ### Conversions of words -/

theorem cq_b8_32 {s d : TypeId} [hs : TInt P s .u8] [hd : TInt P d .u32] {x : UInt8} {κ : Value → Prop} : PureW P (convert s d (b8 x)) κ = κ (b32 (BitVec.ofNat 32 x.toNat)) := by
  show PureW P (convert s d (.int .u8 (x.toNat : Int))) κ = _
  rw [conv_int, wrap32_mod]
  rfl
theorem cq_b32_8 {s d : TypeId} [hs : TInt P s .u32] [hd : TInt P d .u8] {x : W32} {κ : Value → Prop} : PureW P (convert s d (b32 x)) κ = κ (b8 (UInt8.ofNat x.toNat)) := by
  show PureW P (convert s d (.int .u32 (x.toNat : Int))) κ = _
  rw [conv_int]
  have : IntKind.u8.wrap (x.toNat : Int) = ((UInt8.ofNat x.toNat).toNat : Int) := by
    show ((x.toNat : Int) % (2 ^ 8 : Int)) = _
    rw [UInt8.toNat_ofNat']
    omega
  rw [this]; rfl
theorem cq_b32_64 {s d : TypeId} [hs : TInt P s .u32] [hd : TInt P d .u64] {x : W32} {κ : Value → Prop} : PureW P (convert s d (b32 x)) κ = κ (.int .u64 x.toNat) := by
  show PureW P (convert s d (.int .u32 (x.toNat : Int))) κ = _
  rw [conv_int, wrap_u64 (by omega) (by have := x.isLt; omega)]


theorem conv_b8_32 {s d : TypeId} [hs : TInt P s .u8] [hd : TInt P d .u32] {x : UInt8} {S : State} {κ : Value → State → Prop} : ConvW P s d (b8 x) S κ = κ (b32 (BitVec.ofNat 32 x.toNat)) S := by
  show PureW P (convert s d (.int .u8 (x.toNat : Int))) (fun v => κ v S) = _
  rw [conv_int, wrap32_mod]
  rfl
theorem conv_b8_int {s d : TypeId} {k : IntKind} [hs : TInt P s .u8] [hd : TInt P d k] {x : UInt8} {S : State} {κ : Value → State → Prop} (h : k.wrap (x.toNat : Int) = x.toNat) : ConvW P s d (b8 x) S κ = κ (.int k x.toNat) S := by
  show PureW P (convert s d (.int .u8 (x.toNat : Int))) (fun v => κ v S) = _
  rw [conv_int, h]
theorem conv_b32_8 {s d : TypeId} [hs : TInt P s .u32] [hd : TInt P d .u8] {x : W32} {S : State} {κ : Value → State → Prop} : ConvW P s d (b32 x) S κ = κ (b8 (UInt8.ofNat x.toNat)) S := by
  show PureW P (convert s d (.int .u32 (x.toNat : Int))) (fun v => κ v S) = _
  rw [conv_int]
  have : IntKind.u8.wrap (x.toNat : Int) = ((UInt8.ofNat x.toNat).toNat : Int) := by
    show ((x.toNat : Int) % (2 ^ 8 : Int)) = _
    rw [UInt8.toNat_ofNat']
    omega
  rw [this]; rfl
theorem conv_b32_64 {s d : TypeId} [hs : TInt P s .u32] [hd : TInt P d .u64] {x : W32} {S : State} {κ : Value → State → Prop} : ConvW P s d (b32 x) S κ = κ (.int .u64 x.toNat) S := by
  show PureW P (convert s d (.int .u32 (x.toNat : Int))) (fun v => κ v S) = _
  rw [conv_int, wrap_u64 (by omega) (by have := x.isLt; omega)]
theorem conv_64_b32 {s d : TypeId} {j : IntKind} [hs : TInt P s j] [hd : TInt P d .u32] {n : Nat} {S : State} {κ : Value → State → Prop} : ConvW P s d (.int j (n : Int)) S κ = κ (b32 (BitVec.ofNat 32 n)) S := by
  show PureW P (convert s d (.int j (n : Int))) (fun v => κ v S) = _
  rw [conv_int, wrap32_mod]
  rfl

/-! ### Rows of words -/

def rowW (l : List W32) : Array Value := (l.map b32).toArray
theorem rowW_size (l : List W32) : (rowW l).size = l.length := by simp [rowW]
theorem rowW_get (l : List W32) (i : Nat) (h : i < l.length) : (rowW l)[i]? = some (b32 (l.getD i 0)) := by
  simp [rowW, List.getD, h]
theorem rowW_set (l : List W32) (i : Nat) (x : W32) : (rowW l).setIfInBounds i (b32 x) = rowW (l.set i x) := by
  simp [rowW, List.map_set]
theorem load_w {t e : TypeId} {S : State} {κ : Value → Prop} {b o : Nat} {l : List W32} {m : Nat × Nat} [hf : TFlat P t] (hl : Lies b (.cells (rowW l) e m) S) (ho : o < l.length) (k : κ (b32 (l.getD o 0))) :
    ReadW P (Instr.loadAt t (.pointer (some ⟨b, o, none⟩))) S κ := load_one hl (rowW_get l o ho) k
theorem store_w {t e : TypeId} {z : Value} {by_ : Nat} {S S' : State} {κ : State → Prop} {b o : Nat} {l : List W32} {x : W32} [hs : TSized P t z 1 by_] (hu : Upd b (.cells (rowW l) e (0, 0)) (.cells (rowW (l.set o x)) e (0, 0)) S S')
    (ho : o < l.length) (k : κ S') : UnitW P (Instr.storeAt t (.pointer (some ⟨b, o, none⟩)) (b32 x)) S κ :=
  store_one (cs := rowW l) (b32_cell x) (by rw [rowW_set]; exact hu) (by rw [rowW_size]; exact ho) k

theorem load_rw {t e : TypeId} {z : Value} {s by_ : Nat} {S : State} {κ : Value → Prop} {b : Nat} {l : List W32} {m : Nat × Nat} [hf : TDeep P t] [hs : TSized P t z s by_] (hl : Lies b (.cells (rowW l) e m) S) (h : l.length = s) (k : κ (.agg (rowW l))) :
    ReadW P (Instr.loadAt t (.pointer (some ⟨b, 0, none⟩))) S κ := by
  refine load_agg hl (by rw [rowW_size]; omega) ?_
  have : (rowW l).extract 0 (0 + s) = rowW l := by
    apply Array.ext'; simp [rowW, ← h, List.take_of_length_le]
  rw [this]; exact k
theorem setCells_all : ∀ (vs : List Value) (p u r : List Value), u.length = vs.length → setCells (p ++ (u ++ r)).toArray p.length vs = (p ++ (vs ++ r)).toArray
  | [], p, [], r, _ => rfl
  | v :: vs, p, x :: u, r, h => by
    have ih := setCells_all vs (p ++ [v]) u r (by simpa using h)
    rw [setCells]
    have e : (p ++ (x :: u ++ r)).toArray.setIfInBounds p.length v = (p ++ [v] ++ (u ++ r)).toArray := by
      apply Array.ext'; simp
    rw [e, show p.length + 1 = (p ++ [v]).length from by simp, ih]
    simp
theorem store_rw {t e : TypeId} {z : Value} {s by_ : Nat} {S S' : State} {κ : State → Prop} {b : Nat} {l l' : List W32} [hs : TSized P t z s by_] (hu : Upd b (.cells (rowW l) e (0, 0)) (.cells (rowW l') e (0, 0)) S S')
    (h : l.length = s) (h' : l'.length = s) (k : κ S') : UnitW P (Instr.storeAt t (.pointer (some ⟨b, 0, none⟩)) (.agg (rowW l'))) S κ := by
  refine store_agg (e := e) (cs := rowW l) (S' := S') (by rw [rowW_size]; exact h') (fun v hv => ?_) ?_ (by rw [rowW_size]; omega) k
  · simp only [rowW, List.mem_map] at hv
    obtain ⟨x, _, rfl⟩ := hv
    exact b32_cell x
  · have e := setCells_all (l'.map b32) [] (l.map b32) [] (by simp; omega)
    simp only [List.nil_append, List.append_nil, List.length_nil] at e
    have e2 : setCells (rowW l) 0 (rowW l').toList = rowW l' := e
    rw [e2]; exact hu

/-! ### Words, and something behind them -/

def rowX (l : List W32) (r : List Value) : Array Value := (l.map b32 ++ r).toArray
theorem rowX_size (l : List W32) (r : List Value) : (rowX l r).size = l.length + r.length := by simp [rowX]
theorem rowX_get (l : List W32) (r : List Value) (i : Nat) (h : i < l.length) : (rowX l r)[i]? = some (b32 (l.getD i 0)) := by
  simp only [rowX, List.getElem?_toArray]
  rw [List.getElem?_append_left (by simpa using h)]
  simp [List.getD, h]
theorem rowX_set (l : List W32) (r : List Value) (i : Nat) (h : i < l.length) (x : W32) : (rowX l r).setIfInBounds i (b32 x) = rowX (l.set i x) r := by
  simp only [rowX, List.setIfInBounds_toArray]
  rw [List.set_append_left _ _ (by simpa using h), List.map_set]
theorem load_x {t e : TypeId} {S : State} {κ : Value → Prop} {b o : Nat} {l : List W32} {r : List Value} {m : Nat × Nat} [hf : TFlat P t] (hl : Lies b (.cells (rowX l r) e m) S) (ho : o < l.length) (k : κ (b32 (l.getD o 0))) :
    ReadW P (Instr.loadAt t (.pointer (some ⟨b, o, none⟩))) S κ := load_one hl (rowX_get l r o ho) k
theorem store_x {t e : TypeId} {z : Value} {by_ : Nat} {S S' : State} {κ : State → Prop} {b o : Nat} {l : List W32} {r : List Value} {x : W32} [hs : TSized P t z 1 by_] (hu : Upd b (.cells (rowX l r) e (0, 0)) (.cells (rowX (l.set o x) r) e (0, 0)) S S')
    (ho : o < l.length) (k : κ S') : UnitW P (Instr.storeAt t (.pointer (some ⟨b, o, none⟩)) (b32 x)) S κ :=
  store_one (cs := rowX l r) (b32_cell x) (by rw [rowX_set _ _ _ ho]; exact hu) (by rw [rowX_size]; omega) k

theorem index_w {t e n : Nat} {z : Value} {by_ : Nat} {k : IntKind} {i : Int} {l : List W32} {κ : Value → Prop} [h : TArr P t n e] [hs : TSized P e z 1 by_] [hf : TFlat P e] (h0 : 0 ≤ i) (h1 : i < n) (hl : l.length = n) :
    PureW P (Instr.index t (.agg (rowW l)) (.int k i)) κ = κ (b32 (l.getD i.toNat 0)) := arr_index h0 h1 (rowW_get l _ (by omega))
theorem build_w8 {t e : Nat} {z z' : Value} {s by_ by' : Nat} {a b c d e' f g h' : W32} {κ : Value → Prop} [h : TArr P t 8 e] [hs : TSized P t z s by_] [he : TSized P e z' 1 by'] (hz : z.cells.size = 8) :
    PureW P (Instr.build t #[(0, b32 a), (1, b32 b), (2, b32 c), (3, b32 d), (4, b32 e'), (5, b32 f), (6, b32 g), (7, b32 h')]) κ = κ (.agg (rowW [a, b, c, d, e', f, g, h'])) := by
  refine build_arr (ps := [(0, b32 a), (1, b32 b), (2, b32 c), (3, b32 d), (4, b32 e'), (5, b32 f), (6, b32 g), (7, b32 h')]) ?_
  have q := fill_all [b32 a, b32 b, b32 c, b32 d, b32 e', b32 f, b32 g, b32 h'] [] z.cells.toList (fun v hv => by
    simp only [List.mem_cons, List.not_mem_nil, or_false] at hv
    rcases hv with rfl | rfl | rfl | rfl | rfl | rfl | rfl | rfl <;> exact b32_cell _) (by simpa using hz)
  simp only [List.nil_append, List.length_nil, List.zipIdx_cons, List.zipIdx_nil, List.map_cons, List.map_nil, Nat.zero_add, Nat.reduceAdd, Array.toArray_toList] at q
  simp only [Nat.mul_one]
  exact q

theorem rd_load8 {t : TypeId} {S : State} {a : Option Addr} {len : Nat} {bs : List UInt8} {i : Nat} {κ : Value → Prop} [hf : TFlat P t]
    (hr : Rd 1 S a len (bs.map b8)) (hv : i < bs.length) (k : κ (b8 (bs.getD i 0))) : ReadW P (Instr.loadAt t (.pointer (some (elA a i)))) S κ :=
  rd_load hr (v := b8 (bs.getD i 0)) (by simp [List.getD, hv]) k
theorem wrap64_mod (n : Nat) : IntKind.u64.wrap (n : Int) = ((n % 18446744073709551616 : Nat) : Int) := by
  show ((n : Int) % (2 ^ 64 : Int)) = _
  omega
theorem conv8_64 (x : UInt8) : IntKind.u64.wrap (x.toNat : Int) = x.toNat := by
  have := x.toNat_lt
  rw [wrap_u64 (by omega) (by omega)]
theorem conv8_i64 (x : UInt8) : IntKind.i64.wrap (x.toNat : Int) = x.toNat := by
  have := x.toNat_lt
  rw [wrap_i64 (by omega) (by omega)]
theorem cq_b8_64 {s d : TypeId} [hs : TInt P s .u8] [hd : TInt P d .u64] {x : UInt8} {κ : Value → Prop} : PureW P (convert s d (b8 x)) κ = κ (.int .u64 x.toNat) := by
  show PureW P (convert s d (.int .u8 (x.toNat : Int))) κ = _
  rw [conv_int, conv8_64]
theorem cq_b8_i64 {s d : TypeId} [hs : TInt P s .u8] [hd : TInt P d .i64] {x : UInt8} {κ : Value → Prop} : PureW P (convert s d (b8 x)) κ = κ (.int .i64 x.toNat) := by
  show PureW P (convert s d (.int .u8 (x.toNat : Int))) κ = _
  rw [conv_int, conv8_i64]
theorem conv_b8_64 {s d : TypeId} [hs : TInt P s .u8] [hd : TInt P d .u64] {x : UInt8} {S : State} {κ : Value → State → Prop} : ConvW P s d (b8 x) S κ = κ (.int .u64 x.toNat) S := by
  show PureW P (convert s d (.int .u8 (x.toNat : Int))) (fun v => κ v S) = _
  rw [conv_int, conv8_64]
theorem conv_b8_i64 {s d : TypeId} [hs : TInt P s .u8] [hd : TInt P d .i64] {x : UInt8} {S : State} {κ : Value → State → Prop} : ConvW P s d (b8 x) S κ = κ (.int .i64 x.toNat) S := by
  show PureW P (convert s d (.int .u8 (x.toNat : Int))) (fun v => κ v S) = _
  rw [conv_int, conv8_i64]

end Go.Ost
