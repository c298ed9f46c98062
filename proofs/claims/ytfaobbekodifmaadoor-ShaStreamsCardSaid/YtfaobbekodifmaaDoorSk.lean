/- Slices of bytes and strings: the operations in words of lists of bytes. Conditions: as each says. -/
import Derived.Test.YtfaobbekodifmaaDoorSb
import Derived.Laws.Strings
import Derived.Laws.MakeOwn
set_option linter.unusedSimpArgs false
set_option linter.unusedVariables false
namespace Go.Ost
open Go

variable {P : Program}

theorem Lies.sub {b : Nat} {o : Obj} {H : Chunk} {S : State} (h : Lies b o [H]) (hm : H ∈ S) : Lies b o S := by
  cases h with
  | here h => exact Lies.of_mem h hm
  | next h => cases h
theorem Lies.in {b : Nat} {o : Obj} {H : Chunk} (h : Lies b o [H]) : (b, o) ∈ H := by
  cases h with
  | here h => exact h
  | next h => cases h
theorem Rd.mem {s : Nat} {H : Chunk} {S : State} {a : Option Addr} {len : Nat} {us : List Value} (h : Rd s [H] a len us) (hm : H ∈ S) : Rd s S a len us :=
  ⟨h.1, fun hne => let ⟨b, o, cs, e, m, h1, h2, h3⟩ := h.2 hne; ⟨b, o, cs, e, m, h1, h2.sub hm, h3⟩⟩
theorem Rd.wide {s : Nat} {H D : Chunk} {a : Option Addr} {len : Nat} {us : List Value} (h : Rd s [H] a len us) (hm : ∀ x ∈ H, x ∈ D) : Rd s [D] a len us :=
  ⟨h.1, fun hne => let ⟨b, o, cs, e, m, h1, h2, h3⟩ := h.2 hne; ⟨b, o, cs, e, m, h1, .here (hm _ h2.in), h3⟩⟩
theorem cells8 (bs : List UInt8) : ∀ v ∈ bs.map b8, Value.cell1 v := fun v hv => by
  obtain ⟨x, _, rfl⟩ := List.mem_map.1 hv; exact b8_cell x

/-- append of bytes, onto one's own. -/
theorem app8 {t t2 ty e e2 : TypeId} [ht : TSlice P t e] [ht2 : TSlice P t2 e2] [hs : TSized P e (.int .u8 0) 1 1] {S G : State} {κ : Value → State → Prop} {C : Chunk} {a b : Option Addr} {len cap n c : Nat} {us vs : List UInt8}
    (ho : Own 1 e C a len cap (us.map b8)) (hC : Pick C S G) (hr : Rd 1 S b n (vs.map b8)) (hm : len + n ≤ 140737488355328)
    (k : ∀ C' a' cap', Own 1 e C' a' (len + n) cap' ((us ++ vs).map b8) → κ (.slice a' (len + n) cap') (C' :: G)) : ValW P (Builtin.append_ #[t, t2] ty #[.slice a len cap, .slice b n c]) S κ :=
  append_own (hs := hs) rfl (by decide) ho (.inr hC) hr (cells8 vs) (by simp only [maxLen]; omega) (by omega) (fun C' a' cap' h => k C' a' cap' (by rw [List.map_append]; exact h))
theorem own_nil {s : Nat} {e : TypeId} {a : Option Addr} : Own s e [] a 0 0 [] := ⟨Nat.le_refl _, Nat.zero_le _, by simp, .inl ⟨rfl, rfl⟩⟩
theorem app8_nil {t t2 ty e e2 : TypeId} [ht : TSlice P t e] [ht2 : TSlice P t2 e2] [hs : TSized P e (.int .u8 0) 1 1] {S : State} {κ : Value → State → Prop} {b : Option Addr} {n c : Nat} {vs : List UInt8}
    (hr : Rd 1 S b n (vs.map b8)) (hm : n ≤ 140737488355328)
    (k : ∀ C' a' cap', Own 1 e C' a' n cap' (vs.map b8) → κ (.slice a' n cap') (C' :: S)) : ValW P (Builtin.append_ #[t, t2] ty #[.slice none 0 0, .slice b n c]) S κ :=
  append_own (hs := hs) (us := []) rfl (by decide) own_nil (.inl ⟨rfl, rfl⟩) hr (cells8 vs) (by simp only [maxLen]; omega) (by omega) (fun C' a' cap' h => by
    rw [Nat.zero_add] at h ⊢
    exact k C' a' cap' h)
/-- Values of one cell, onto one's own. -/
theorem app1 {t t2 ty e e2 : TypeId} {z : Value} {by_ : Nat} [ht : TSlice P t e] [ht2 : TSlice P t2 e2] [hs : TSized P e z 1 by_] (hz : z.cells.size = 1) {S G : State} {κ : Value → State → Prop} {C : Chunk} {a b : Option Addr} {len cap n c : Nat} {us vs : List Value}
    (ho : Own 1 e C a len cap us) (hC : C = [] ∧ G = S ∨ Pick C S G) (hr : Rd 1 S b n vs) (h1 : ∀ v ∈ vs, Value.cell1 v) (hm : len + n ≤ 1000000) (hb : by_ ≤ 1000)
    (k : ∀ C' a' cap', Own 1 e C' a' (len + n) cap' (us ++ vs) → κ (.slice a' (len + n) cap') (C' :: G)) : ValW P (Builtin.append_ #[t, t2] ty #[.slice a len cap, .slice b n c]) S κ :=
  append_own (hs := hs) hz (by decide) ho hC hr h1 (by simp only [maxLen]; omega) (by
    have : (len + n) * by_ ≤ 1000000 * 1000 := Nat.mul_le_mul hm hb
    omega) k

theorem own_built {e : TypeId} {b : Nat} {vs : List Value} {n : Nat} (hn : vs.length = n) (hm : n ≤ 16777216) : Own 1 e [(b, .cells vs.toArray e (0, 0))] (some ⟨b, 0, none⟩) n n vs :=
  ⟨Nat.le_refl _, by simp only [maxLen]; omega, by simp [hn], .inr ⟨b, 0, _, _, rfl, rfl, .inl rfl, by simp [hn], fun i hi => by simp⟩⟩
/-- Bytes written out. -/
theorem build8 {t e : TypeId} {by_ : Nat} [ht : TSlice P t e] [hs : TSized P e (.int .u8 0) 1 by_] {n : Nat} {ps : List (Nat × Value)} {S : State} {κ : Value → State → Prop} (bs : List UInt8) (hn : n ≤ 16777216)
    (hi : ps.map (·.1) = List.range n) (hb : ps.map (·.2) = bs.map b8) (k : ∀ b C, Own 1 e C (some ⟨b, 0, none⟩) n n (bs.map b8) → κ (.slice (some ⟨b, 0, none⟩) n n) (C :: S)) : ValW P (Instr.buildSlice t n ps.toArray) S κ :=
  build_slice (hs := hs) rfl hn hi (by rw [hb]; exact cells8 bs) (fun b => k b _ (by
    rw [hb]
    exact own_built (by have := congrArg List.length hi; have h2 := congrArg List.length hb; simp only [List.length_map, List.length_range] at this h2 ⊢; omega) hn))
/-- Values of one cell written out. -/
theorem build1 {t e : TypeId} {z : Value} {by_ : Nat} [ht : TSlice P t e] [hs : TSized P e z 1 by_] (hz : z.cells.size = 1) {n : Nat} {ps : List (Nat × Value)} {S : State} {κ : Value → State → Prop} (vs : List Value) (hn : n ≤ 16777216)
    (hi : ps.map (·.1) = List.range n) (hb : ps.map (·.2) = vs) (hc : ∀ v ∈ vs, Value.cell1 v) (k : ∀ b C, Own 1 e C (some ⟨b, 0, none⟩) n n vs → κ (.slice (some ⟨b, 0, none⟩) n n) (C :: S)) : ValW P (Instr.buildSlice t n ps.toArray) S κ :=
  build_slice (hs := hs) hz hn hi (by rw [hb]; exact hc) (fun b => k b _ (by
    rw [hb]
    exact own_built (by have := congrArg List.length hi; have h2 := congrArg List.length hb; simp only [List.length_map, List.length_range] at this h2; omega) hn))

/-- A byte of one's own is set. -/
theorem own_store8 {t e : TypeId} {z : Value} {by_ : Nat} [hs : TSized P t z 1 by_] {S G : State} {κ : State → Prop} {C : Chunk} {a : Option Addr} {len cap i : Nat} {bs : List UInt8} {x : UInt8}
    (ho : Own 1 e C a len cap (bs.map b8)) (hp : Pick C S G) (hi : i < bs.length) (k : ∀ C', Own 1 e C' a len cap ((bs.set i x).map b8) → κ (C' :: G)) : UnitW P (Instr.storeAt t (.pointer (some (elA a i))) (b8 x)) S κ := by
  refine ⟨fun w hw => ?_⟩
  obtain ⟨h1, h2, h3, h4⟩ := ho
  simp only [List.length_map, Nat.mul_one] at h3
  rcases h4 with ⟨h5, _⟩ | ⟨b, o, cs, m, rfl, rfl, hsoft, hbig, hc⟩
  · omega
  · have hCG := hw.perm hp.perm
    obtain ⟨lo, hi'⟩ := m
    obtain ⟨w', q1, q2, q3, q4⟩ := run_storeCells (P := P) (b := b) (o := o + i) [b8 x] 0 w cs (hCG.get b (.cells cs e (lo, hi')) (by simp)) (fun u hm => by simp at hm; subst hm; exact b8_cell x) (by simp; omega) hsoft.or
    refine ⟨w', _, ?_, q2, (Upd.one (S := G)).hold hCG q3 q4, k [(b, .cells (setCells cs (o + i + 0) [b8 x]) e (lo, hi'))] ⟨h1, h2, by simp [h3], .inr ⟨b, o, _, (lo, hi'), rfl, rfl, by rw [setCells_size]; exact hsoft, by rw [setCells_size]; exact hbig, fun j hj => ?_⟩⟩⟩
    · have e1 : (Value.cells (b8 x)) = #[b8 x] := rfl
      simp only [elA, Option.getD_some, add_mk]
      simp [Instr.storeAt, Instr.sureAddr, storeVar, Sem.run_bind, run_size hs, Result.andThen, e1, q1]
    · simp only [List.length_map, List.length_set] at hj
      have hcj := hc j (by simpa using hj)
      simp only [setCells, Nat.add_zero]
      by_cases e2 : j = i
      · subst e2
        rw [Array.getElem?_setIfInBounds_self, if_pos (by omega)]
        simp [hj]
      · rw [Array.getElem?_setIfInBounds_ne (by omega), hcj]
        simp only [List.getElem?_map]
        rw [List.getElem?_set_ne (by omega)]
/-- make of bytes. -/
theorem make8 {t e : TypeId} [ht : TSlice P t e] [hs : TSized P e (.int .u8 0) 1 1] {n : Nat} {S : State} {κ : Value → State → Prop} (hn : n ≤ 1000000)
    (k : ∀ b C, Own 1 e C (some ⟨b, 0, none⟩) n n ((List.replicate n (0 : UInt8)).map b8) → κ (.slice (some ⟨b, 0, none⟩) n n) (C :: S)) : ValW P (Instr.makeSlice t (.int .i64 n) (.int .i64 n)) S κ := by
  refine ⟨fun w hw => ?_⟩
  obtain ⟨i, hi, hz1, hsz, hby⟩ := sized_parts hs.info
  have hr := run_makeSlice (P := P) w t e i (.int .u8 0) ht.und hi hz1 .i64 .i64 (n : Int) (n : Int) (by omega) (Int.le_refl _) (by rw [hsz]; omega) (by rw [hby]; omega) (by omega)
  simp only [Int.toNat_natCast, hsz, Nat.mul_one] at hr
  generalize hcells : madeCells (Value.int .u8 0).cells n = cells at hr
  have hlist : cells = ((List.replicate n (0 : UInt8)).map b8).toArray := by
    rw [← hcells]
    apply Array.ext'
    unfold madeCells
    apply List.ext_getElem
    · simp
    · intro j h1 h2
      simp [Nat.mod_one, b8, Value.cells]
  refine ⟨_, w.alloc (.cells cells e), [(w.heap.size, .cells cells e (0, 0))] :: S, hr, ⟨rfl, rfl, rfl, by simp⟩, Hold.new (w := w) hw rfl, k w.heap.size _ ?_⟩
  rw [hlist]
  exact own_built (by simp) (by omega)

/-! ### Numbers -/

theorem bin_shr64 {t : TypeId} {x y : Operand} {j : IntKind} {a n : Int} {κ : Value → Prop} (ha : 0 ≤ a) (h0 : 0 ≤ n) (h1 : n ≤ 64) : PureW P (do eqGuard .shr t x y (.int .u64 a) (.int j n); binOp .shr t (.int .u64 a) (.int j n)) κ = κ (.int .u64 (a / 2 ^ n.toNat)) :=
  pureW_eq (fun w => by
    have e : min n.toNat IntKind.u64.bits = n.toNat := by show min n.toNat 64 = n.toNat; omega
    have h3 : ¬ n < 0 := by omega
    show (Op.shift .shr .u64 a j n).run P w = _
    rw [Op.shift, if_neg h3, e]
    show Result.ok (Value.int .u64 (Int.fdiv a (2 ^ n.toNat))) w = _
    rw [Int.fdiv_eq_ediv_of_nonneg _ (Int.le_of_lt (Int.pow_pos (by decide)))]) κ
theorem b8_shr {t : TypeId} {x y : Operand} {j : IntKind} {b : UInt8} {κ : Value → Prop} : PureW P (do eqGuard .shr t x y (b8 b) (.int j 4); binOp .shr t (b8 b) (.int j 4)) κ = κ (.int .u8 ((b.toNat / 16 : Nat) : Int)) :=
  pureW_eq (fun w => by
    show (Op.shift .shr .u8 (b.toNat : Int) j 4).run P w = _
    show Result.ok (Value.int .u8 (Int.fdiv (b.toNat : Int) (2 ^ 4))) w = _
    rw [Int.fdiv_eq_ediv_of_nonneg _ (by decide)]
    rfl) κ
theorem b8_and15 {t : TypeId} {x y : Operand} {b : UInt8} {κ : Value → Prop} : PureW P (do eqGuard .and t x y (b8 b) (.int .u8 15); binOp .and t (b8 b) (.int .u8 15)) κ = κ (.int .u8 ((b.toNat % 16 : Nat) : Int)) :=
  pureW_eq (fun w => by
    show Result.ok (Value.int .u8 (IntKind.u8.wrap ((BitVec.ofInt 8 (b.toNat : Int) &&& BitVec.ofInt 8 15).toNat : Int))) w = _
    have h := b.toNat_lt
    have key : ∀ n : Fin 256, IntKind.u8.wrap ((BitVec.ofInt 8 (n.val : Int) &&& BitVec.ofInt 8 15).toNat : Int) = ((n.val % 16 : Nat) : Int) := by decide +kernel
    rw [key ⟨b.toNat, h⟩]) κ
theorem wrap8_mod (n : Nat) : IntKind.u8.wrap (n : Int) = ((UInt8.ofNat n).toNat : Int) := by
  show ((n : Int) % (2 ^ 8 : Int)) = _
  rw [UInt8.toNat_ofNat']
  omega

/-! ### Strings -/

theorem str_eql {t : TypeId} {x y : Operand} {a b : ByteArray} {κ : Value → Prop} [h : TStr P t] : PureW P (do eqGuard .eql t x y (.string a) (.string b); binOp .eql t (.string a) (.string b)) κ = κ (.bool (a.data.toList == b.data.toList)) :=
  pureW_eq (fun w => by rw [← ByteArray.toList_eq, ← ByteArray.toList_eq]; rfl) κ
theorem str_data (a : List UInt8) : (str a).data.toList = a := rfl
theorem str_add {t : TypeId} {x y : Operand} {a b : List UInt8} {κ : Value → Prop} (hm : a.length + b.length ≤ 9223372036854775807) : PureW P (do eqGuard .add t x y (.string (str a)) (.string (str b)); binOp .add t (.string (str a)) (.string (str b))) κ = κ (.string (str (a ++ b))) :=
  pureW_eq (fun w => by
    have e : (do eqGuard .add t x y (.string (str a)) (.string (str b)); binOp .add t (.string (str a)) (.string (str b)) : Sem Value) = Op.stringOp .add (str a) (str b) := rfl
    have hsz : ¬ (((str a).size + (str b).size : Nat) : Int) > IntKind.i64.max := by
      show ¬ ((a.length + b.length : Nat) : Int) > 9223372036854775807
      omega
    rw [e]
    simp only [Op.stringOp]
    rw [if_neg hsz]
    have h2 : str a ++ str b = str (a ++ b) := by
      apply ByteArray.ext
      simp [str]
    rw [h2]
    rfl) κ
theorem str_index {t : TypeId} {k : IntKind} {i : Int} {s : List UInt8} {κ : Value → Prop} [h : TStr P t] (h0 : 0 ≤ i) (h1 : i < s.length) : PureW P (Instr.index t (.string (str s)) (.int k i)) κ = κ (b8 (s.getD i.toNat 0)) :=
  pureW_eq (fun w => by
    have hlt : i.toNat < s.length := by omega
    have e : (str s)[i.toNat]? = some (s.getD i.toNat 0) := by
      have h2 : i.toNat < (str s).size := hlt
      rw [getElem?_pos (str s) i.toNat h2]
      simp [List.getD, hlt, str, ByteArray.getElem_eq_getElem_data]
    simp [Instr.index, asIntOf, Sem.run_bind, run_und h.und, Result.andThen, h0, e, b8]) κ
theorem str_cut {t : TypeId} {j k : IntKind} {l h' : Int} {s : List UInt8} {κ : Value → Prop} [h : TStr P t] (l0 : 0 ≤ l) (l1 : l ≤ h') (h1 : h' ≤ s.length) :
    PureW P (Instr.sliceAt t (.string (str s)) (some (.int j l)) (some (.int k h')) none) κ = κ (.string (str ((s.drop l.toNat).take (h'.toNat - l.toNat)))) :=
  pureW_eq (fun w => by
    have h0 : 0 ≤ h' := by omega
    have l1' : l ≤ max h' 0 := by omega
    have h1' : h' ≤ ((str s).size : Int) := h1
    have e : (str s).extract l.toNat h'.toNat = str ((s.drop l.toNat).take (h'.toNat - l.toNat)) := by
      apply ByteArray.ext
      simp [str, ByteArray.data_extract]
    simp only [Instr.sliceAt, Instr.slice, Sem.run_bind, run_und h.und, Result.andThen, Instr.sliceBounds, Instr.sliceBound, asIntOf, Sem.run_pure]
    simp [Sem.run_bind, h0, h1', l0, l1, l1', e, Result.andThen]) κ
theorem slc_eql_nil {t e : TypeId} {x y : Operand} {a : Option Addr} {n c : Nat} {κ : Value → Prop} [h : TSlice P t e] : PureW P (do eqGuard .eql t x y (.slice a n c) (.slice none 0 0); binOp .eql t (.slice a n c) (.slice none 0 0)) κ = κ (.bool a.isNone) :=
  pureW_eq (fun w => by
    have e : (do eqGuard .eql t x y (.slice a n c) (.slice none 0 0); binOp .eql t (.slice a n c) (.slice none 0 0) : Sem Value) = (do pure (.bool (← Op.equalIn (9999 + 1) t (.slice a n c) (.slice none 0 0)))) := by
      cases a <;> rfl
    rw [e, Sem.run_bind, Op.equalIn, Sem.run_bind, run_und h.und]
    cases a <;> rfl) κ

theorem ext2_0 {a b : Value} {κ : Value → Prop} : PureW P (Instr.extract (.tuple #[a, b]) 0) κ = κ a := pureW_eq (fun w => rfl) κ
theorem ext2_1 {a b : Value} {κ : Value → Prop} : PureW P (Instr.extract (.tuple #[a, b]) 1) κ = κ b := pureW_eq (fun w => rfl) κ

/-! ### Chunks put together -/

theorem code_glue {n : Nat} {ro : Option Nat} {c : Code} {K : Cont} {D : List Nat} {L : Env} {S : State} {A B : Chunk} (h : CodeW P n ro c K D L ((A ++ B) :: S)) : CodeW P n ro c K D L (A :: B :: S) :=
  ⟨fun a w ha hw => h.out a w ha (hw.perm (by simp))⟩
theorem code_nil {n : Nat} {ro : Option Nat} {c : Code} {K : Cont} {D : List Nat} {L : Env} {S : State} (h : CodeW P n ro c K D L ([] :: S)) : CodeW P n ro c K D L S :=
  ⟨fun a w ha hw => h.out a w ha (hw.perm (by simp))⟩

abbrev Own8 (e : TypeId) (C : Chunk) (a : Option Addr) (n cap : Nat) (bs : List UInt8) : Prop := Own 1 e C a n cap (bs.map b8)
/-- A new slice of bytes, beside R. -/
def New8 (e : TypeId) (bs : List UInt8) (R : State) (v : Value) (A : State) : Prop := ∃ C a cap, v = .slice a bs.length cap ∧ Own8 e C a bs.length cap bs ∧ A = C :: R

end Go.Ost
