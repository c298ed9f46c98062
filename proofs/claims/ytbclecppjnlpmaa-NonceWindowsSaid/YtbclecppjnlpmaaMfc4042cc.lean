/- Texts in a row: the walk's rules and contracts, as each says. Conditions: as each says. -/
import Derived.Test.YtbclecppjnlpmaaM9d370173
import Derived.Test.YtbclecppjnlpmaaMbf37382f
/- Bytes as values: comparing them, their bits. Conditions: none. -/
set_option linter.unusedSimpArgs false
set_option linter.unusedVariables false
namespace Go.Ost
open Go

variable {P : Program}

section bytes
variable (t : TypeId) (x y : Operand) (a b : UInt8) (n : Int) (κ : Value → Prop)
theorem beq8 : ((a.toNat : Int) == b.toNat) = (a == b) := by
  by_cases h : a = b
  · subst h; rw [beq_self_eq_true, beq_self_eq_true]
  · have h2 : ¬ ((a.toNat : Int) = b.toNat) := fun e => h (UInt8.toNat_inj.1 (by omega))
    rw [beq_eq_false_iff_ne.2 h, beq_eq_false_iff_ne.2 h2]
theorem u8_eql : PureW P (do eqGuard .eql t x y (b8 a) (b8 b); binOp .eql t (b8 a) (b8 b)) κ = κ (.bool (a == b)) := by
  refine (bin_eql t x y .u8 _ _ κ).trans ?_
  rw [beq8]
theorem u8_neq : PureW P (do eqGuard .neq t x y (b8 a) (b8 b); binOp .neq t (b8 a) (b8 b)) κ = κ (.bool (a != b)) := by
  refine (bin_neq t x y .u8 _ _ κ).trans ?_
  rw [bne, beq8, bne]
theorem u8n_eql : PureW P (do eqGuard .eql t x y (b8 a) (.int .u8 n); binOp .eql t (b8 a) (.int .u8 n)) κ = κ (.bool ((a.toNat : Int) == n)) := bin_eql t x y .u8 _ _ κ
theorem u8n_neq : PureW P (do eqGuard .neq t x y (b8 a) (.int .u8 n); binOp .neq t (b8 a) (.int .u8 n)) κ = κ (.bool ((a.toNat : Int) != n)) := bin_neq t x y .u8 _ _ κ
theorem u8n_lss : PureW P (do eqGuard .lss t x y (b8 a) (.int .u8 n); binOp .lss t (b8 a) (.int .u8 n)) κ = κ (.bool (decide ((a.toNat : Int) < n))) := bin_lss t x y .u8 _ _ κ
theorem u8n_leq : PureW P (do eqGuard .leq t x y (b8 a) (.int .u8 n); binOp .leq t (b8 a) (.int .u8 n)) κ = κ (.bool (decide ((a.toNat : Int) ≤ n))) := bin_leq t x y .u8 _ _ κ
theorem u8n_gtr : PureW P (do eqGuard .gtr t x y (b8 a) (.int .u8 n); binOp .gtr t (b8 a) (.int .u8 n)) κ = κ (.bool (decide (n < (a.toNat : Int)))) := bin_gtr t x y .u8 _ _ κ
theorem u8n_geq : PureW P (do eqGuard .geq t x y (b8 a) (.int .u8 n); binOp .geq t (b8 a) (.int .u8 n)) κ = κ (.bool (decide (n ≤ (a.toNat : Int)))) := bin_geq t x y .u8 _ _ κ
theorem wrap8_self : IntKind.u8.wrap (a.toNat : Int) = a.toNat := by
  have := a.toNat_lt
  exact wrap_u8 (by omega) (by omega)
theorem u8_xor : PureW P (do eqGuard .xor t x y (b8 a) (b8 b); binOp .xor t (b8 a) (b8 b)) κ = κ (b8 (a ^^^ b)) :=
  pureW_eq (fun w => by
    show Result.ok (Value.int .u8 (IntKind.u8.wrap ((BitVec.ofInt 8 (a.toNat : Int) ^^^ BitVec.ofInt 8 (b.toNat : Int)).toNat : Int))) w = _
    have e : (BitVec.ofInt 8 (a.toNat : Int) ^^^ BitVec.ofInt 8 (b.toNat : Int)).toNat = (a ^^^ b).toNat := by simp
    rw [e, wrap8_self]; rfl) κ
theorem u8_or : PureW P (do eqGuard .or t x y (b8 a) (b8 b); binOp .or t (b8 a) (b8 b)) κ = κ (b8 (a ||| b)) :=
  pureW_eq (fun w => by
    show Result.ok (Value.int .u8 (IntKind.u8.wrap ((BitVec.ofInt 8 (a.toNat : Int) ||| BitVec.ofInt 8 (b.toNat : Int)).toNat : Int))) w = _
    have e : (BitVec.ofInt 8 (a.toNat : Int) ||| BitVec.ofInt 8 (b.toNat : Int)).toNat = (a ||| b).toNat := by simp
    rw [e, wrap8_self]; rfl) κ
theorem u8_and : PureW P (do eqGuard .and t x y (b8 a) (b8 b); binOp .and t (b8 a) (b8 b)) κ = κ (b8 (a &&& b)) :=
  pureW_eq (fun w => by
    show Result.ok (Value.int .u8 (IntKind.u8.wrap ((BitVec.ofInt 8 (a.toNat : Int) &&& BitVec.ofInt 8 (b.toNat : Int)).toNat : Int))) w = _
    have e : (BitVec.ofInt 8 (a.toNat : Int) &&& BitVec.ofInt 8 (b.toNat : Int)).toNat = (a &&& b).toNat := by simp
    rw [e, wrap8_self]; rfl) κ
end bytes

end Go.Ost

/- Texts: a byte, a part; bytes' bits with numbers written out. Conditions: none. -/
set_option linter.unusedSimpArgs false
set_option linter.unusedVariables false
namespace Go.Ost
open Go

variable {P : Program}

section strings
variable {t : TypeId} {bs : List UInt8} {j k : IntKind} {l h i : Int} {κ : Value → Prop}
theorem str_ext (bs : List UInt8) (l h : Nat) : (str bs).extract l h = str ((bs.take h).drop l) := by
  apply ByteArray.ext
  rw [ByteArray.data_extract]
  apply Array.ext'
  simp [str, List.extract_eq_take_drop, List.drop_take]
theorem sidx [ht : TStr P t] (h0 : 0 ≤ i) (h1 : i < bs.length) : PureW P (Instr.index t (.string (str bs)) (.int k i)) κ = κ (b8 (bs.getD i.toNat 0)) :=
  pureW_eq (fun w => by
    have e : (str bs)[i.toNat]? = some (bs.getD i.toNat 0) := by
      have h2 : i.toNat < bs.length := by omega
      have h3 : i.toNat < (str bs).size := h2
      rw [getElem?_pos (str bs) i.toNat h3]
      congr 1
      show (bs.toArray)[i.toNat] = _
      rw [List.getD, List.getElem?_eq_getElem h2, Option.getD_some]
      rfl
    simp [Instr.index, asIntOf, Sem.run_bind, run_und ht.und, Result.andThen, h0, e, b8]) κ
theorem scut_hi [ht : TStr P t] (h0 : 0 ≤ h) (h1 : h ≤ bs.length) : PureW P (Instr.sliceAt t (.string (str bs)) none (some (.int k h)) none) κ = κ (.string (str (bs.take h.toNat))) :=
  pureW_eq (fun w => by
    have hz : (str bs).size = bs.length := rfl
    simp only [Instr.sliceAt, Instr.slice, Sem.run_bind, run_und ht.und, Result.andThen, Instr.sliceBounds, Instr.sliceBound, asIntOf, Sem.run_pure]
    simp [Sem.run_bind, Result.andThen, hz, h0, h1, str_ext]) κ
theorem scut_lo [ht : TStr P t] (l0 : 0 ≤ l) (l1 : l ≤ bs.length) : PureW P (Instr.sliceAt t (.string (str bs)) (some (.int j l)) none none) κ = κ (.string (str (bs.drop l.toNat))) :=
  pureW_eq (fun w => by
    have hz : (str bs).size = bs.length := rfl
    simp only [Instr.sliceAt, Instr.slice, Sem.run_bind, run_und ht.und, Result.andThen, Instr.sliceBounds, Instr.sliceBound, asIntOf, Sem.run_pure]
    simp [Sem.run_bind, Result.andThen, hz, l0, l1, str_ext]) κ
theorem scut_lohi [ht : TStr P t] (h0 : 0 ≤ h) (h1 : h ≤ bs.length) (l0 : 0 ≤ l) (l1 : l ≤ h) : PureW P (Instr.sliceAt t (.string (str bs)) (some (.int j l)) (some (.int k h)) none) κ = κ (.string (str ((bs.take h.toNat).drop l.toNat))) :=
  pureW_eq (fun w => by
    have hz : (str bs).size = bs.length := rfl
    have l1' : l ≤ max h 0 := by omega
    simp only [Instr.sliceAt, Instr.slice, Sem.run_bind, run_und ht.und, Result.andThen, Instr.sliceBounds, Instr.sliceBound, asIntOf, Sem.run_pure]
    simp [Sem.run_bind, Result.andThen, hz, h0, h1, l0, l1, l1', str_ext]) κ
theorem str_size (bs : List UInt8) : (str bs).size = bs.length := rfl
end strings

theorem ext3_0 {a b c : Value} {κ : Value → Prop} : PureW P (Instr.extract (.tuple #[a, b, c]) 0) κ = κ a := pureW_eq (fun w => rfl) κ
theorem ext3_1 {a b c : Value} {κ : Value → Prop} : PureW P (Instr.extract (.tuple #[a, b, c]) 1) κ = κ b := pureW_eq (fun w => rfl) κ
theorem ext3_2 {a b c : Value} {κ : Value → Prop} : PureW P (Instr.extract (.tuple #[a, b, c]) 2) κ = κ c := pureW_eq (fun w => rfl) κ

section bits
variable (t : TypeId) (x y : Operand) (a b : UInt8) (n : Int) (κ : Value → Prop)
theorem b8_num {n : Int} (h0 : 0 ≤ n) (h1 : n < 256) : Value.int .u8 n = b8 (UInt8.ofNat n.toNat) := by
  unfold b8
  congr 1
  rw [UInt8.toNat_ofNat']
  omega
theorem u8_andNot : PureW P (do eqGuard .andNot t x y (b8 a) (b8 b); binOp .andNot t (b8 a) (b8 b)) κ = κ (b8 (a &&& ~~~b)) :=
  pureW_eq (fun w => by
    show Result.ok (Value.int .u8 (IntKind.u8.wrap ((BitVec.ofInt 8 (a.toNat : Int) &&& ~~~(BitVec.ofInt 8 (b.toNat : Int))).toNat : Int))) w = _
    have e0 : ∀ x : UInt8, BitVec.ofInt 8 (x.toNat : Int) = x.toBitVec := fun x => by simp
    have e : (BitVec.ofInt 8 (a.toNat : Int) &&& ~~~(BitVec.ofInt 8 (b.toNat : Int))).toNat = (a &&& ~~~b).toNat := by
      rw [e0, e0]; rfl
    rw [e, wrap8_self]; rfl) κ
theorem u8n_and (h0 : 0 ≤ n) (h1 : n < 256) : PureW P (do eqGuard .and t x y (b8 a) (.int .u8 n); binOp .and t (b8 a) (.int .u8 n)) κ = κ (b8 (a &&& UInt8.ofNat n.toNat)) := by
  rw [b8_num h0 h1]; exact u8_and t x y a _ κ
theorem u8n_andNot (h0 : 0 ≤ n) (h1 : n < 256) : PureW P (do eqGuard .andNot t x y (b8 a) (.int .u8 n); binOp .andNot t (b8 a) (.int .u8 n)) κ = κ (b8 (a &&& ~~~(UInt8.ofNat n.toNat))) := by
  rw [b8_num h0 h1]; exact u8_andNot t x y a _ κ
theorem u8n_or (h0 : 0 ≤ n) (h1 : n < 256) : PureW P (do eqGuard .or t x y (.int .u8 n) (b8 a); binOp .or t (.int .u8 n) (b8 a)) κ = κ (b8 (UInt8.ofNat n.toNat ||| a)) := by
  rw [b8_num h0 h1]; exact u8_or t x y _ a κ
end bits

end Go.Ost

/- The rules of the walk in one word each, for simp. Conditions: none. -/
set_option linter.defProp false
set_option linter.unusedSimpArgs false
namespace Go.Ost
open Go

def gos := And.intro (And.intro @Int.natCast_zero @Int.cast_ofNat_Int) <| And.intro (And.intro (@List.setIfInBounds_toArray.{0}) (And.intro (@List.set_cons_succ.{0}) (@List.set_cons_zero.{0}))) <| And.intro (And.intro @len_slice1 @len_string1) <| And.intro (@bne_self_eq_false.{0}) <| And.intro (@beq_self_eq_true.{0}) <| And.intro (@decide_false) <| And.intro (@decide_true) <| And.intro (@Bool.true_eq_false) <| And.intro (@Bool.false_eq_true) <| And.intro (And.intro (And.intro (And.intro (And.intro (And.intro (@guardW.eq_1) (And.intro (@stepW.eq_1) (@stepW.eq_2))) (And.intro (And.intro (@stepW.eq_3) (@stepW.eq_4)) (And.intro (@stepW.eq_5) (@stepW.eq_6)))) (And.intro (And.intro (And.intro (@stepW.eq_7) (@stepW.eq_8)) (And.intro (@stepW.eq_9) (@stepW.eq_10))) (And.intro (And.intro (@stepW.eq_11) (@stepW.eq_12)) (And.intro (@stepW.eq_13) (@stepW.eq_14))))) (And.intro (And.intro (And.intro (@stepW.eq_15) (And.intro (@stepW.eq_16) (@stepW.eq_17))) (And.intro (And.intro (@stepW.eq_18) (@stepW.eq_19)) (And.intro (@stepW.eq_20) (@stepW.eq_21)))) (And.intro (And.intro (And.intro (@stepW.eq_22) (@stepW.eq_23)) (And.intro (@stepW.eq_24) (@stepW.eq_25))) (And.intro (And.intro (@stepW.eq_26) (@stepW.eq_27)) (And.intro (@stepW.eq_28) (@stepW.eq_29)))))) (And.intro (And.intro (And.intro (And.intro (@stepW.eq_30) (And.intro (@stepW.eq_31) (@stepW.eq_32))) (And.intro (And.intro (@stepW.eq_33) (@stepW.eq_34)) (And.intro (@stepW.eq_35) (@putT.eq_1)))) (And.intro (And.intro (And.intro (@putT.eq_2) (@evT.eq_1)) (And.intro (@evT.eq_2) (@evT.eq_3))) (And.intro (And.intro (@evT.eq_4) (@argsL.eq_1)) (And.intro (@argsL.eq_2) (@withV.eq_1))))) (And.intro (And.intro (And.intro (@withV.eq_2) (And.intro (@withB.eq_1) (@withB.eq_2))) (And.intro (And.intro (@evL.eq_1) (@evL.eq_2)) (And.intro (@withL.eq_1) (@withL.eq_2)))) (And.intro (And.intro (And.intro (@evO.eq_1) (@evO.eq_2)) (And.intro (@withO.eq_1) (@withO.eq_2))) (And.intro (And.intro (@evP.eq_1) (@evP.eq_2)) (And.intro (@withP.eq_1) (@withP.eq_2))))))) (And.intro (And.intro (And.intro (And.intro (And.intro (@NilW.eq_1) (And.intro (@NilW.eq_2) (@NilW.eq_3))) (And.intro (And.intro (@NilW.eq_4) (@ConvW.eq_1)) (And.intro (@ConvW.eq_2) (@FnW.eq_1)))) (And.intro (And.intro (And.intro (@FnW.eq_2) (@FnW.eq_3)) (And.intro (@BuiltinW.eq_1) (@BuiltinW.eq_2))) (And.intro (And.intro (@BuiltinW.eq_3) (@BuiltinW.eq_4)) (And.intro (@BuiltinW.eq_5) (@BuiltinW.eq_6))))) (And.intro (And.intro (And.intro (@BuiltinW.eq_7) (And.intro (@BuiltinW.eq_8) (@BuiltinW.eq_9))) (And.intro (And.intro (@BuiltinW.eq_10) (And.intro (@BuiltinW.eq_11) (And.intro (@BuiltinW.eq_12) (@BuiltinW.eq_13)))) (And.intro (@undef.eq_1) (@lookT_hit)))) (And.intro (And.intro (And.intro (@lookT_miss) (@bin_add)) (And.intro (@bin_sub) (@bin_mul))) (And.intro (And.intro (@bin_eql) (@bin_neq)) (And.intro (@bin_lss) (@bin_leq)))))) (And.intro (And.intro (And.intro (And.intro (@bin_gtr) (And.intro (@bin_geq) (@un_not))) (And.intro (And.intro (@un_neg) (@min_two)) (And.intro (@max_two) (@conv_int)))) (And.intro (And.intro (And.intro (@nil_eql) (@nil_neq)) (And.intro (@bool_eql) (@bool_neq))) (And.intro (And.intro (@field_addr) (@List.toList_toArray.{0})) (And.intro (@Array.toList_empty.{0}) (@List.nil_append.{0}))))) (And.intro (And.intro (And.intro (@List.cons_append.{0}) (And.intro (@List.append_nil.{0}) (@Option.bind_some.{0, 0}))) (And.intro (And.intro (@List.getElem?_toArray.{0}) (@List.getElem?_cons_succ.{0})) (And.intro (@List.getElem?_cons_zero.{0}) (@List.getElem_toArray.{0})))) (And.intro (And.intro (And.intro (@List.getElem_cons_zero.{0}) (@List.getElem_cons_succ.{0})) (And.intro (@Option.isNone_some.{0}) (@Option.isNone_none.{0}))) (And.intro (And.intro (@Option.isSome_some.{0}) (@Option.isSome_none.{0})) (And.intro (@Bool.not_true) (@Bool.not_false)))))))
def goq := And.intro (And.intro (And.intro (And.intro (@quietW.eq_1) (And.intro (@stepQ.eq_1) (@stepQ.eq_2))) (And.intro (@stepQ.eq_3) (And.intro (@stepQ.eq_4) (@stepQ.eq_5)))) (And.intro (And.intro (@stepQ.eq_6) (And.intro (@stepQ.eq_7) (@stepQ.eq_8))) (And.intro (@stepQ.eq_9) (And.intro (@stepQ.eq_10) (@stepQ.eq_11))))) (And.intro (And.intro (And.intro (@stepQ.eq_12) (And.intro (@stepQ.eq_13) (@stepQ.eq_14))) (And.intro (@stepQ.eq_15) (And.intro (@stepQ.eq_16) (@stepQ.eq_17)))) (And.intro (And.intro (@stepQ.eq_18) (And.intro (@stepQ.eq_19) (@stepQ.eq_20))) (And.intro (And.intro (@stepQ.eq_21) (@stepQ.eq_22)) (And.intro (@stillAll.eq_1) (@stillAll.eq_2)))))
def gow := And.intro @index_addr <| And.intro (And.intro (And.intro @bin_quo_pos @bin_rem_pos) (And.intro @wrap_i64 @wrap_u64)) (And.intro (And.intro @wrap_u32 @wrap_u8) (And.intro @wrap_i32 @wrap_u16))

def gob := And.intro (And.intro (And.intro @u8_eql @u8_neq) (And.intro @u8n_eql @u8n_neq)) <| And.intro (And.intro (And.intro @u8n_lss @u8n_leq) (And.intro @u8n_gtr @u8n_geq)) <| And.intro (And.intro @u8_xor (And.intro @u8_or @u8_and)) <| And.intro (And.intro (And.intro @ext2_0 @ext2_1) (And.intro @ext3_0 (And.intro @ext3_1 @ext3_2))) <| And.intro (And.intro @b8_shr @b8_and15) <| And.intro (And.intro @slc_eql_nil (And.intro (And.intro @str_eql @str_neq) (And.intro @str_data (And.intro @str_size @u8_andNot)))) <| And.intro (And.intro (And.intro @cq_b8_64 @cq_b8_i64) (And.intro @conv_b8_64 @conv_b8_i64)) <| And.intro (And.intro @cq_b8_32 (And.intro @cq_b32_8 @cq_b32_64)) <| And.intro (And.intro (And.intro @w_add @w_sub) (And.intro @w_and @w_or)) (And.intro (And.intro @w_xor @w_not) (And.intro @conv_b8_32 (And.intro @conv_b32_8 @conv_b32_64)))
def gobw := And.intro (And.intro (And.intro @sidx @scut_hi) (And.intro @scut_lo @scut_lohi)) <| And.intro (And.intro @u8n_and (And.intro @u8n_andNot @u8n_or)) <| And.intro @bin_shr64 <| And.intro @w_shl (And.intro @w_shr (And.intro @cut_hi (And.intro @cut_lo (And.intro @cut_lohi (And.intro @cut_himax (And.intro @cut_lohimax @arr_addr))))))

end Go.Ost

/- Slices of structures: elements of several cells, as plain data. Conditions: as each says. -/
set_option linter.unusedSimpArgs false
set_option linter.unusedVariables false
namespace Go.Ost
open Go

variable {P : Program}

theorem add_add (a : Addr) (n m : Nat) : (a.add n).add m = a.add (n + m) := by
  unfold Addr.add
  by_cases h1 : n = 0
  · subst h1; simp
  · rw [if_neg h1, if_neg (show n + m ≠ 0 by omega)]
    by_cases h2 : m = 0
    · subst h2; simp
    · rw [if_neg h2]; simp [Nat.add_assoc]
theorem elA_add (a : Option Addr) (n m : Nat) : (elA a n).add m = elA a (n + m) := by unfold elA; exact add_add _ _ _

/-- A field's place, behind any place. -/
theorem field_at {s i off ft : Nat} {a : Addr} {κ : Value → Prop} [h : TField P s i off ft] : PureW P (Instr.fieldAt s (.pointer (some a)) i) κ = κ (.pointer (some (a.add off))) :=
  pureW_eq (fun w => by
    obtain ⟨fs, f, hu, hf, h1, h2, j, hj, hz⟩ := field_parts h.ok
    have hs : (sizeOf f.type).run P w = .ok j.size w := by
      rw [h2]; simp [sizeOf, typeInfo, program, Sem.run_bind, Sem.run, hj, Result.andThen]
    simp only [Instr.fieldAt, Sem.run_bind, run_und hu, Result.andThen, hf, Instr.sureAddr, Sem.run_pure, fieldPlace, hs]
    rw [if_neg hz]
    simp [h1, Result.andThen]) κ
theorem field_el {s i off ft : Nat} {a : Option Addr} {n : Nat} {κ : Value → Prop} [h : TField P s i off ft] : PureW P (Instr.fieldAt s (.pointer (some (elA a n))) i) κ = κ (.pointer (some (elA a (n + off)))) := by
  rw [field_at, elA_add]

section own
variable {s : Nat} {e : TypeId} {C : Chunk} {a : Option Addr} {len cap : Nat} {us : List Value} {S G : State}

theorem own_some (h : Own s e C a len cap us) (hl : 0 < us.length) : ∃ b o cs m, a = some ⟨b, o, none⟩ ∧ C = [(b, .cells cs e m)] ∧ Soft cs.size m ∧ o + cap * s ≤ cs.size ∧ ∀ i, i < us.length → cs[o + i]? = us[i]? := by
  obtain ⟨h1, h2, h3, h4 | h4⟩ := h
  · obtain ⟨h5, _⟩ := h4
    have : len = 0 := by omega
    subst this
    rw [Nat.zero_mul] at h3
    omega
  · exact h4
theorem rd_some (h : Rd s S a len us) (hl : 0 < us.length) : ∃ b o, a = some ⟨b, o, none⟩ := by
  obtain ⟨b, o, _, _, _, h1, _⟩ := h.2 (List.length_pos_iff.1 hl)
  exact ⟨b, o, h1⟩

/-- An element's place. -/
theorem el_at {t e : TypeId} {z : Value} {by_ : Nat} {k : IntKind} {i : Int} {κ : Value → Prop} [h : TSlice P t e] [hs : TSized P e z s by_] (hr : Rd s S a len us) (h0 : 0 ≤ i) (h1 : i < len) (hp : 0 < s) :
    PureW P (Instr.indexAt t (.slice a len cap) (.int k i)) κ = κ (.pointer (some (elA a (i.toNat * s)))) := by
  have hpos : 0 < us.length := by rw [hr.1]; exact Nat.mul_pos (by omega) hp
  obtain ⟨b, o, rfl⟩ := rd_some hr hpos
  rw [index_addr h0 h1]
  simp [elA, add_mk]
/-- A cell of an element. -/
theorem el_load {t : TypeId} {i : Nat} {v : Value} {κ : Value → Prop} [hf : TFlat P t] (hr : Rd s S a len us) (hv : us[i]? = some v) (k : κ v) : ReadW P (Instr.loadAt t (.pointer (some (elA a i)))) S κ := by
  have hi := (List.getElem?_eq_some_iff.1 hv).1
  obtain ⟨hl, hne⟩ := hr
  obtain ⟨b, o, cs, et, m, rfl, hb, hc⟩ := hne (by intro e; subst e; simp at hi)
  simp only [elA, Option.getD_some, add_mk]
  exact load_one hb (by rw [hc i hi]; exact hv) k
/-- Cells of an element, together. -/
theorem el_load_agg {t : TypeId} {z : Value} {n by_ i : Nat} {κ : Value → Prop} [hf : TDeep P t] [hs : TSized P t z n by_] (hr : Rd s S a len us) (hn : 0 < n) (hi : i + n ≤ us.length) (k : κ (.agg ((us.drop i).take n).toArray)) :
    ReadW P (Instr.loadAt t (.pointer (some (elA a i)))) S κ := by
  obtain ⟨hl, hne⟩ := hr
  obtain ⟨b, o, cs, et, m, rfl, hb, hc⟩ := hne (by intro e; subst e; simp at hi; omega)
  simp only [elA, Option.getD_some, add_mk]
  have hsz : o + us.length ≤ cs.size := by
    have := hc (us.length - 1) (by omega)
    rw [List.getElem?_eq_getElem (by omega)] at this
    have := (Array.getElem?_eq_some_iff.1 this).1
    omega
  refine load_agg hb (by omega) ?_
  have e : cs.extract (o + i) (o + i + n) = ((us.drop i).take n).toArray := by
    apply Array.ext_getElem?
    intro j
    rw [Array.getElem?_extract]
    simp only [List.getElem?_toArray]
    by_cases hj : j < n
    · rw [if_pos (by omega), show o + i + j = o + (i + j) from by omega, hc _ (by omega), List.getElem?_take_of_lt hj, List.getElem?_drop]
    · rw [if_neg (by omega), List.getElem?_eq_none (by rw [List.length_take]; omega)]
  rw [e]; exact k

def setL (us : List Value) (i : Nat) : List Value → List Value
  | [] => us
  | v :: l => setL (us.set i v) (i + 1) l
theorem setL_length : ∀ (vs us : List Value) (i : Nat), (setL us i vs).length = us.length
  | [], _, _ => rfl
  | v :: l, us, i => by simp [setL, setL_length l]
theorem setL_cells : ∀ (vs : List Value) (cs : Array Value) (us : List Value) (o i : Nat), o + us.length ≤ cs.size → (∀ j, j < us.length → cs[o + j]? = us[j]?) → i + vs.length ≤ us.length →
    ∀ j, j < us.length → (setCells cs (o + i) vs)[o + j]? = (setL us i vs)[j]?
  | [], cs, us, o, i, _, h, _, j, hj => h j hj
  | v :: vs, cs, us, o, i, hs, h, hi, j, hj => by
    simp only [List.length_cons] at hi
    rw [setCells, setL]
    refine setL_cells vs _ _ o (i + 1) (by simpa using hs) (fun q hq => ?_) (by simp; omega) j (by simpa using hj)
    simp only [List.length_set] at hq
    by_cases e : q = i
    · subst e
      rw [Array.getElem?_setIfInBounds_self, if_pos (by omega)]
      simp [hq]
    · rw [Array.getElem?_setIfInBounds_ne (by omega), h q hq, List.getElem?_set_ne (by omega)]

theorem own_store_gen {t : TypeId} {z : Value} {n by_ i : Nat} {v : Value} {κ : State → Prop} [hs : TSized P t z n by_] (ho : Own s e C a len cap us) (hp : Pick C S G) (hn : 0 < n) (hvs : v.cells.size = n) (hc1 : ∀ u ∈ v.cells.toList, Value.cell1 u) (hi : i + n ≤ us.length)
    (k : ∀ C', Own s e C' a len cap (setL us i v.cells.toList) → κ (C' :: G)) : UnitW P (Instr.storeAt t (.pointer (some (elA a i))) v) S κ := by
  refine ⟨fun w hw => ?_⟩
  obtain ⟨b, o, cs, m, rfl, rfl, hsoft, hbig, hc⟩ := own_some ho (by omega)
  have hCG := hw.perm hp.perm
  obtain ⟨lo, hi'⟩ := m
  have hsz : o + us.length ≤ cs.size := by
    have := hc (us.length - 1) (by omega)
    rw [List.getElem?_eq_getElem (by omega)] at this
    have := (Array.getElem?_eq_some_iff.1 this).1
    omega
  obtain ⟨w', q1, q2, q3, q4⟩ := run_storeCells (P := P) (b := b) (o := o + i) v.cells.toList 0 w cs (hCG.get b (.cells cs e (lo, hi')) (by simp)) hc1 (by simp [hvs]; omega) hsoft.or
  refine ⟨w', _, ?_, q2, (Upd.one (S := G)).hold hCG q3 q4, k [(b, .cells (setCells cs (o + i + 0) v.cells.toList) e (lo, hi'))] ⟨ho.1, ho.2.1, by rw [setL_length]; exact ho.2.2.1, .inr ⟨b, o, _, (lo, hi'), rfl, rfl, by rw [setCells_size]; exact hsoft, by rw [setCells_size]; exact hbig, fun j hj => ?_⟩⟩⟩
  · simp only [elA, Option.getD_some, add_mk]
    simp [Instr.storeAt, Instr.sureAddr, storeVar, Sem.run_bind, run_size hs, Result.andThen, hvs, q1]
  · rw [setL_length] at hj
    rw [Nat.add_zero]
    exact setL_cells _ cs us o i hsz hc (by simp [hvs]; omega) j hj
/-- A cell of an element of one's own is set. -/
theorem own_store1 {t : TypeId} {z : Value} {by_ i : Nat} {v : Value} {κ : State → Prop} [hs : TSized P t z 1 by_] (ho : Own s e C a len cap us) (hp : Pick C S G) (hc : Value.cell1 v) (hi : i < us.length)
    (k : ∀ C', Own s e C' a len cap (us.set i v) → κ (C' :: G)) : UnitW P (Instr.storeAt t (.pointer (some (elA a i))) v) S κ := by
  have hcs : v.cells = #[v] := by cases v <;> first | exact hc.elim | rfl
  exact own_store_gen (n := 1) ho hp (by omega) (by rw [hcs]; rfl) (by rw [hcs]; simpa using hc) (by omega) (by rw [hcs]; exact k)
theorem own_store_agg {t : TypeId} {z : Value} {n by_ i : Nat} {vs : List Value} {κ : State → Prop} [hs : TSized P t z n by_] (ho : Own s e C a len cap us) (hp : Pick C S G) (hn : 0 < n) (hvs : vs.length = n) (hc : ∀ u ∈ vs, Value.cell1 u) (hi : i + n ≤ us.length)
    (k : ∀ C', Own s e C' a len cap (setL us i vs) → κ (C' :: G)) : UnitW P (Instr.storeAt t (.pointer (some (elA a i))) (.agg vs.toArray)) S κ :=
  own_store_gen (v := .agg vs.toArray) ho hp hn (by simpa [Value.cells] using hvs) (by simpa [Value.cells] using hc) hi (by simpa [Value.cells] using k)
end own

/-! ### Rows of elements -/

theorem setL_app : ∀ (vs p u r : List Value), u.length = vs.length → setL (p ++ (u ++ r)) p.length vs = p ++ (vs ++ r)
  | [], p, [], r, _ => rfl
  | v :: vs, p, x :: u, r, h => by
    have ih := setL_app vs (p ++ [v]) u r (by simpa using h)
    rw [setL]
    have e : (p ++ (x :: u ++ r)).set p.length v = p ++ [v] ++ (u ++ r) := by simp
    rw [e, show p.length + 1 = (p ++ [v]).length from by simp, ih]
    simp
section rows
variable {α : Type} (enc : α → List Value) (s : Nat) (hs : ∀ x, (enc x).length = s)
include hs
theorem flat_len : ∀ l : List α, (l.flatMap enc).length = l.length * s
  | [] => by simp
  | x :: l => by rw [List.flatMap_cons, List.length_append, hs, flat_len l, List.length_cons, Nat.add_mul]; omega
theorem flat_drop : ∀ (l : List α) (i : Nat), (l.flatMap enc).drop (i * s) = (l.drop i).flatMap enc
  | l, 0 => by simp
  | [], i + 1 => by simp
  | x :: l, i + 1 => by
    rw [List.flatMap_cons, Nat.add_mul, Nat.one_mul, Nat.add_comm, ← List.drop_drop, List.drop_left' (hs x), flat_drop l i, List.drop_succ_cons]
theorem flat_el (l : List α) (i : Nat) (h : i < l.length) : ((l.flatMap enc).drop (i * s)).take s = enc l[i] := by
  rw [flat_drop enc s hs, List.drop_eq_getElem_cons h, List.flatMap_cons, List.take_left' (hs _)]
theorem flat_get (l : List α) (i j : Nat) (h : i < l.length) (hj : j < s) : (l.flatMap enc)[i * s + j]? = (enc l[i])[j]? := by
  rw [← List.getElem?_drop, ← flat_el enc s hs l i h, List.getElem?_take_of_lt hj]
theorem flat_set : ∀ (l : List α) (i j : Nat) (v : Value) (h : i < l.length) (x : α), (enc l[i]).set j v = enc x → j < s → (l.flatMap enc).set (i * s + j) v = (l.set i x).flatMap enc
  | [], i, j, v, h, x, _, _ => by simp at h
  | y :: l, 0, j, v, h, x, hx, hj => by
    simp only [List.getElem_cons_zero] at hx
    rw [Nat.zero_mul, Nat.zero_add, List.flatMap_cons, List.set_append_left _ _ (by rw [hs]; exact hj), hx]; rfl
  | y :: l, i + 1, j, v, h, x, hx, hj => by
    have ih := flat_set l i j v (by simpa using h) x (by simpa using hx) hj
    rw [List.flatMap_cons, List.set_append_right _ _ (by rw [hs, Nat.add_mul]; omega), hs, show (i + 1) * s + j - s = i * s + j from by rw [Nat.add_mul]; omega, ih]; rfl
theorem flat_setL (l : List α) (i : Nat) (h : i < l.length) (x : α) : setL (l.flatMap enc) (i * s) (enc x) = (l.set i x).flatMap enc := by
  have e1 : l.flatMap enc = (l.take i).flatMap enc ++ (enc l[i] ++ (l.drop (i + 1)).flatMap enc) := by
    conv => lhs; rw [← List.take_append_drop i l, List.flatMap_append, List.drop_eq_getElem_cons h, List.flatMap_cons]
  have e2 : ((l.take i).flatMap enc).length = i * s := by rw [flat_len enc s hs, List.length_take]; congr 1; omega
  rw [e1, ← e2, setL_app (enc x) _ (enc l[i]) _ (by rw [hs, hs]), List.set_eq_take_append_cons_drop, if_pos h, List.flatMap_append, List.flatMap_cons]
end rows

end Go.Ost

/- Maps that are keyed by texts: what is found, put and taken away. Conditions: as each says. -/
set_option linter.unusedSimpArgs false
set_option linter.unusedVariables false
namespace Go.Ost
open Go

variable {P : Program}

section plain
variable {α : Type} {β : Type}
def mget : List (List UInt8 × α) → List UInt8 → Option α
  | [], _ => none
  | (k, v) :: l, q => if q = k then some v else mget l q
def mput : List (List UInt8 × α) → List UInt8 → α → List (List UInt8 × α)
  | [], q, v => [(q, v)]
  | (k, u) :: l, q, v => if q = k then (q, v) :: l else (k, u) :: mput l q v
def mdel : List (List UInt8 × α) → List UInt8 → List (List UInt8 × α)
  | [], _ => []
  | (k, u) :: l, q => if q = k then l else (k, u) :: mdel l q
def mfind : List (List UInt8 × α) → List UInt8 → Nat → Option (Nat × α)
  | [], _, _ => none
  | (k, v) :: l, q, i => if q = k then some (i, v) else mfind l q (i + 1)
def mval (f : α → β) (m : List (List UInt8 × α)) : List (List UInt8 × β) := m.map fun p => (p.1, f p.2)

theorem mget_val (f : α → β) : ∀ (m : List (List UInt8 × α)) (q : List UInt8), mget (mval f m) q = (mget m q).map f
  | [], q => rfl
  | (k, v) :: l, q => by
    have ih := mget_val f l q
    simp only [mval, List.map_cons, mget] at ih ⊢
    split
    · rfl
    · exact ih
theorem mput_val (f : α → β) : ∀ (m : List (List UInt8 × α)) (q : List UInt8) (v : α), mput (mval f m) q (f v) = mval f (mput m q v)
  | [], q, v => rfl
  | (k, u) :: l, q, v => by
    have ih := mput_val f l q v
    simp only [mval, List.map_cons, mput] at ih ⊢
    split
    · simp
    · simp [ih]
theorem mdel_val (f : α → β) : ∀ (m : List (List UInt8 × α)) (q : List UInt8), mdel (mval f m) q = mval f (mdel m q)
  | [], q => rfl
  | (k, u) :: l, q => by
    have ih := mdel_val f l q
    simp only [mval, List.map_cons, mdel] at ih ⊢
    split
    · rfl
    · simp [ih]

theorem mfind_some {q : List UInt8} {j : Nat} {v : α} : ∀ (m : List (List UInt8 × α)) (i : Nat), mfind m q i = some (j, v) →
    ∃ pre post, m = pre ++ (q, v) :: post ∧ j = i + pre.length ∧ mget m q = some v ∧ (∀ u, mput m q u = pre ++ (q, u) :: post) ∧ mdel m q = pre ++ post
  | [], i, h => by cases h
  | (k, u) :: l, i, h => by
    simp only [mfind] at h
    split at h
    · rename_i hk
      subst hk
      cases h
      exact ⟨[], l, rfl, by simp, by simp [mget], fun w => by simp [mput], by simp [mdel]⟩
    · rename_i hk
      obtain ⟨pre, post, h1, h2, h3, h4, h5⟩ := mfind_some l (i + 1) h
      refine ⟨(k, u) :: pre, post, by rw [h1]; rfl, by simp; omega, ?_, fun w => ?_, ?_⟩
      · simp only [mget]; rw [if_neg hk]; exact h3
      · simp only [mput]; rw [if_neg hk, h4]; rfl
      · simp only [mdel]; rw [if_neg hk, h5]; rfl
theorem mfind_none {q : List UInt8} : ∀ (m : List (List UInt8 × α)) (i : Nat), mfind m q i = none → mget m q = none ∧ (∀ u, mput m q u = m ++ [(q, u)]) ∧ mdel m q = m
  | [], i, h => ⟨rfl, fun u => rfl, rfl⟩
  | (k, u) :: l, i, h => by
    simp only [mfind] at h
    split at h
    · cases h
    · rename_i hk
      obtain ⟨h1, h2, h3⟩ := mfind_none l (i + 1) h
      refine ⟨?_, fun w => ?_, ?_⟩
      · simp only [mget]; rw [if_neg hk]; exact h1
      · simp only [mput]; rw [if_neg hk, h2]; rfl
      · simp only [mdel]; rw [if_neg hk, h3]
end plain

theorem str_beq (a b : List UInt8) : (str a == str b) = decide (a = b) := by
  have e : (str a == str b) = (a == b) := by
    have h := ByteArray.toList_eq (str a)
    have h2 := ByteArray.toList_eq (str b)
    show ((str a).data == (str b).data) = _
    simp [str]
  rw [e]
  by_cases h : a = b <;> simp [h]

/-- The chunk is a map of these texts and values. -/
def IsMap (C : Chunk) (r : Nat) (m : List (List UInt8 × Value)) : Prop :=
  ∃ es clock, C = [(r, .map es clock)] ∧ es.toList.map (fun e => (e.key, e.val)) = m.map fun p => (Value.string (str p.1), p.2)

theorem find_now (q : List UInt8) : ∀ (es : List MapEntry) (m : List (List UInt8 × Value)) (i : Nat), es.map (fun e => (e.key, e.val)) = m.map (fun p => (Value.string (str p.1), p.2)) →
    Instr.findNow .string (.string (str q)) es i = some (mfind m q i)
  | [], [], i, _ => rfl
  | [], _ :: _, i, h => by simp at h
  | _ :: _, [], i, h => by simp at h
  | e :: es, (k, v) :: m, i, h => by
    simp only [List.map_cons, List.cons.injEq, Prod.mk.injEq] at h
    obtain ⟨⟨h1, h2⟩, h3⟩ := h
    simp only [Instr.findNow, mfind, h1, Instr.sameNow, str_beq]
    by_cases hk : q = k
    · simp [hk, h2]
    · simp only [hk, decide_false, if_false]
      exact find_now q es m (i + 1) h3

theorem run_find {kt : TypeId} (hk : P.underlying kt = some .string) (q : List UInt8) {es : List MapEntry} {m : List (List UInt8 × Value)} (h : es.map (fun e => (e.key, e.val)) = m.map (fun p => (Value.string (str p.1), p.2))) (w : World) :
    (Instr.findKey kt (.string (str q)) es).run P w = .ok (mfind m q 0) w := by
  unfold Instr.findKey
  rw [Sem.run_bind, run_und hk]
  simp only [Result.andThen, find_now q es m 0 h]
  rfl
theorem run_check {kt : TypeId} (hk : P.underlying kt = some .string) (b : Bool) (q : List UInt8) (w : World) : (Instr.checkKey b 10000 kt (.string (str q))).run P w = .ok () w := by
  rw [Instr.checkKey, Sem.run_bind, run_und hk]
  rfl
theorem run_obj {w : World} {r : Nat} {es : Array MapEntry} {c : Nat} (h : w.heap[r]? = some (.map es c)) : (getObj r).run P w = .ok (.map es c) w := by
  simp [getObj, Sem.run, h]

theorem look_run {t kt et : TypeId} {z : Value} {s b : Nat} [ht : TMap P t kt et] [hk : TStr P kt] [hz : TSized P et z s b] {C : Chunk} {r : Nat} {m : List (List UInt8 × Value)} (hm : IsMap C r m) (q : List UInt8) (ok : Bool) {w : World} {S : State} (hC : C ∈ S) (hw : Hold w S) :
    (Instr.lookup t (.map (some r)) (.string (str q)) ok).run P w = .ok (if ok then .tuple #[(mget m q).getD z, .bool (mget m q).isSome] else (mget m q).getD z) w := by
  obtain ⟨es, clock, rfl, he⟩ := hm
  have hb := (Lies.of_mem (b := r) (o := .map es clock) (List.mem_singleton.2 rfl) hC).get hw
  unfold Instr.lookup
  rw [Sem.run_bind, run_und ht.und]
  simp only [Result.andThen]
  simp only [Sem.run_bind, run_obj hb, Result.andThen, Sem.run_pure, run_check hk.und, run_find hk.und q he]
  cases hf : mfind m q 0 with
  | none =>
    have h1 := (mfind_none m 0 hf).1
    simp only [h1, Sem.run_bind, run_zero hz, Result.andThen, Sem.run_pure, Option.getD_none, Option.isSome_none]
  | some p =>
    obtain ⟨j, v⟩ := p
    obtain ⟨_, _, _, _, h1, _⟩ := mfind_some m 0 hf
    simp only [h1, Sem.run_bind, Sem.run_pure, Result.andThen, Option.getD_some, Option.isSome_some]
theorem map_look2 {t kt et : TypeId} {z : Value} {s b : Nat} [ht : TMap P t kt et] [hk : TStr P kt] [hz : TSized P et z s b] {C : Chunk} {r : Nat} {m : List (List UInt8 × Value)} {q : List UInt8} {S : State} {κ : Value → Prop} (hm : IsMap C r m) (hC : C ∈ S)
    (k : κ (.tuple #[(mget m q).getD z, .bool (mget m q).isSome])) : ReadW P (Instr.lookup t (.map (some r)) (.string (str q)) true) S κ :=
  ⟨_, fun w hw => look_run hm q true hC hw, k⟩
theorem map_look1 {t kt et : TypeId} {z : Value} {s b : Nat} [ht : TMap P t kt et] [hk : TStr P kt] [hz : TSized P et z s b] {C : Chunk} {r : Nat} {m : List (List UInt8 × Value)} {q : List UInt8} {S : State} {κ : Value → Prop} (hm : IsMap C r m) (hC : C ∈ S)
    (k : κ ((mget m q).getD z)) : ReadW P (Instr.lookup t (.map (some r)) (.string (str q)) false) S κ :=
  ⟨_, fun w hw => look_run hm q false hC hw, k⟩

theorem run_setObj {w : World} {r : Nat} {es : Array MapEntry} {c : Nat} {o' : Obj} (h : w.heap[r]? = some (.map es c)) : (setObj r o').run P w = .ok () (w.putObj r o') := by
  simp [setObj, Sem.run, h, World.putObj]

theorem stay_same (q : List UInt8) (w : World) : (Instr.keyThatStays (.string (str q)) (.string (str q))).run P w = .ok (.string (str q)) w := by
  unfold Instr.keyThatStays
  have : Instr.sameBits 10000 (.string (str q)) (.string (str q)) = true := by simp [Instr.sameBits, str_beq]
  rw [if_pos this]; rfl

theorem map_put {t kt et : TypeId} [ht : TMap P t kt et] [hk : TStr P kt] {C : Chunk} {r : Nat} {m : List (List UInt8 × Value)} {q : List UInt8} {v : Value} {S G : State} {κ : State → Prop} (hm : IsMap C r m) (hp : Pick C S G)
    (k : ∀ C', IsMap C' r (mput m q v) → κ (C' :: G)) : UnitW P (Instr.mapUpdate t (.map (some r)) (.string (str q)) v) S κ := by
  refine ⟨fun w hw => ?_⟩
  obtain ⟨es, clock, rfl, he⟩ := hm
  have hCG := hw.perm hp.perm
  have hb := hCG.get r (.map es clock) (by simp)
  have hlen : es.size = m.length := by have := congrArg List.length he; simpa using this
  cases hf : mfind m q 0 with
  | none =>
    obtain ⟨_, h2, _⟩ := mfind_none m 0 hf
    refine ⟨w.putObj r (.map (es.push { key := .string (str q), val := v, born := clock }) (clock + 1)), _, ?_, put_ext _ _ _, put_hold hCG, k [(r, .map (es.push { key := .string (str q), val := v, born := clock }) (clock + 1))] ⟨_, _, rfl, ?_⟩⟩
    · unfold Instr.mapUpdate
      rw [Sem.run_bind, run_und ht.und]
      simp only [Result.andThen, Sem.run_bind, run_obj hb, run_check hk.und, run_find hk.und q he, hf, run_setObj hb]
    · rw [h2]; simp [he]
  | some p =>
    obtain ⟨j, u⟩ := p
    obtain ⟨pre, post, h1, h2, h3, h4, h5⟩ := mfind_some m 0 hf
    have hj : j < es.size := by rw [hlen, h1]; simp; omega
    have hkey : es[j].key = .string (str q) := by
      have e := congrArg (fun l => l[j]?) he
      simp only [List.getElem?_map, h1] at e
      rw [List.getElem?_append_right (by omega), show j - pre.length = 0 from by omega] at e
      have e2 : es.toList[j]? = some es[j] := by simp [hj]
      rw [e2] at e
      simp only [Option.map_some, List.getElem?_cons_zero, Option.some.injEq, Prod.mk.injEq] at e
      exact e.1
    refine ⟨w.putObj r (.map (es.modify j fun e => { e with key := .string (str q), val := v }) clock), _, ?_, put_ext _ _ _, put_hold hCG, k [(r, .map (es.modify j fun e => { e with key := .string (str q), val := v }) clock)] ⟨_, _, rfl, ?_⟩⟩
    · unfold Instr.mapUpdate
      rw [Sem.run_bind, run_und ht.und]
      have hg : ((es[j]?).map (·.key)).getD (.string (str q)) = .string (str q) := by simp [hj, hkey]
      simp only [Result.andThen, Sem.run_bind, run_obj hb, run_check hk.und, run_find hk.und q he, hf, hg, stay_same, run_setObj hb]
    · rw [h4]
      have e := he
      rw [h1] at e
      apply List.ext_getElem?
      intro i
      have ei := congrArg (fun l => l[i]?) e
      simp only [List.getElem?_map, Array.getElem?_toList, Array.getElem?_modify] at ei ⊢
      by_cases hij : j = i
      · subst hij
        rw [if_pos rfl, List.getElem?_append_right (by omega), h2, show 0 + pre.length - pre.length = 0 from by omega, Array.getElem?_eq_getElem (by rw [← h2]; exact hj)]
        rfl
      · rw [if_neg hij, ei]
        congr 1
        rcases Nat.lt_or_ge i pre.length with hlt | hge
        · rw [List.getElem?_append_left hlt, List.getElem?_append_left hlt]
        · rw [List.getElem?_append_right hge, List.getElem?_append_right hge]
          obtain ⟨n, hn⟩ : ∃ n, i - pre.length = n + 1 := ⟨i - pre.length - 1, by omega⟩
          rw [hn]; rfl

theorem map_del {t kt et ty kt2 : TypeId} [ht : TMap P t kt et] [hk : TStr P kt] {C : Chunk} {r : Nat} {m : List (List UInt8 × Value)} {q : List UInt8} {S G : State} {κ : Value → State → Prop} (hm : IsMap C r m) (hp : Pick C S G)
    (k : ∀ C', IsMap C' r (mdel m q) → κ (.tuple #[]) (C' :: G)) : ValW P (Builtin.delete_ #[t, kt2] ty #[.map (some r), .string (str q)]) S κ := by
  refine ⟨fun w hw => ?_⟩
  obtain ⟨es, clock, rfl, he⟩ := hm
  have hCG := hw.perm hp.perm
  have hb := hCG.get r (.map es clock) (by simp)
  have hlen : es.size = m.length := by have := congrArg List.length he; simpa using this
  cases hf : mfind m q 0 with
  | none =>
    obtain ⟨_, _, h2⟩ := mfind_none m 0 hf
    refine ⟨.tuple #[], w.putObj r (.map es clock), _, ?_, put_ext _ _ _, put_hold hCG, k [(r, .map es clock)] ⟨_, _, rfl, by rw [h2]; exact he⟩⟩
    simp only [Builtin.delete_, List.getElem?_toArray, List.getElem?_cons_zero, List.getElem?_cons_succ, Sem.run_bind, run_und ht.und, Result.andThen, run_obj hb, run_check hk.und, run_find hk.und q he, hf, run_setObj hb, Sem.run_pure]
  | some p =>
    obtain ⟨j, u⟩ := p
    obtain ⟨pre, post, h1, h2, h3, h4, h5⟩ := mfind_some m 0 hf
    have hj : j < es.size := by rw [hlen, h1]; simp; omega
    refine ⟨.tuple #[], w.putObj r (.map (es.eraseIdxIfInBounds j) clock), _, ?_, put_ext _ _ _, put_hold hCG, k [(r, .map (es.eraseIdxIfInBounds j) clock)] ⟨_, _, rfl, ?_⟩⟩
    · simp only [Builtin.delete_, List.getElem?_toArray, List.getElem?_cons_zero, List.getElem?_cons_succ, Sem.run_bind, run_und ht.und, Result.andThen, run_obj hb, run_check hk.und, run_find hk.und q he, hf, run_setObj hb, Sem.run_pure]
    · rw [h5]
      have e3 : j = 0 + pre.length := h2
      have e4 : (es.eraseIdxIfInBounds j).toList = es.toList.eraseIdx j := by simp [Array.eraseIdxIfInBounds, hj]
      have e5 : ∀ (l : List MapEntry) (f : MapEntry → Value × Value) (i : Nat), (l.eraseIdx i).map f = (l.map f).eraseIdx i := by
        intro l f
        induction l with
        | nil => intro i; simp
        | cons x l ih => intro i; cases i <;> simp [ih]
      rw [e4, e5, he, h1, e3]
      simp [List.eraseIdx_append_of_length_le]

theorem map_len {t kt et ty : TypeId} [ht : TMap P t kt et] {C : Chunk} {r : Nat} {m : List (List UInt8 × Value)} {S : State} {κ : Value → Prop} (hm : IsMap C r m) (hC : C ∈ S) (k : κ (.int .i64 m.length)) :
    ReadW P (Builtin.len_ #[t] ty #[.map (some r)]) S κ := by
  obtain ⟨es, clock, rfl, he⟩ := hm
  have hlen : es.size = m.length := by have := congrArg List.length he; simpa using this
  refine ⟨_, fun w hw => ?_, k⟩
  have hb := (Lies.of_mem (b := r) (o := .map es clock) (List.mem_singleton.2 rfl) hC).get hw
  simp [Builtin.len_, Sem.run_bind, run_und ht.und, Result.andThen, run_obj hb, goInt, hlen]

theorem map_new {t : TypeId} {S : State} {κ : Value → State → Prop} (k : ∀ r C, IsMap C r [] → κ (.map (some r)) (C :: S)) : ValW P (Instr.makeMap t none) S κ := by
  refine ⟨fun w hw => ?_⟩
  refine ⟨.map (some w.heap.size), { w with heap := w.heap.push (.map #[] 0) }, _, ?_, ext_push rfl, hw.new rfl, k _ _ ⟨#[], 0, rfl, rfl⟩⟩
  simp [Instr.makeMap, Sem.run_bind, Result.andThen, newObj, Sem.run]

end Go.Ost

/- The walk's steps in one word each: their side conditions are found by themselves. Conditions: none. -/
set_option linter.unusedSimpArgs false
set_option linter.unusedVariables false
namespace Go.Ost
open Go

variable {P : Program} {n : Nat} {ro : Option Nat}

/-! ### Rules whose facts lie among the hypotheses -/

section facts
variable {S : State} {a : Option Addr} {len cap : Nat} {us : List Value} {bs : List UInt8} {H : Chunk} {κ : Value → Prop} {t e : TypeId} {z : Value} {s by_ : Nat} {k : IntKind} {i : Int}
theorem index_rda [TSlice P t e] [TSized P e z 1 by_] (hr : Rd 1 [H] a len us) (h0 : 0 ≤ i) (h1 : i < len) (q : κ (.pointer (some (elA a i.toNat)))) : PureW P (Instr.indexAt t (.slice a len cap) (.int k i)) κ := by rw [index_rd hr h0 h1]; exact q
theorem index_owa [TSlice P t e] [TSized P e z 1 by_] {e' : TypeId} {cap' : Nat} (ho : Own 1 e' H a len cap' us) (h0 : 0 ≤ i) (h1 : i < len) (q : κ (.pointer (some (elA a i.toNat)))) : PureW P (Instr.indexAt t (.slice a len cap) (.int k i)) κ := by
  rw [index_rd (ho.rd (S := [H]) (List.mem_cons_self ..)) h0 h1]; exact q
theorem load_rda8 {i : Nat} [TFlat P t] (hr : Rd 1 [H] a len (bs.map b8)) (hH : H ∈ S) (hi : i < bs.length) (q : κ (b8 (bs.getD i 0))) : ReadW P (Instr.loadAt t (.pointer (some (elA a i)))) S κ := rd_load8 (hr.mem hH) hi q
theorem load_owa8 {i : Nat} [TFlat P t] {e' : TypeId} (hr : Own 1 e' H a len cap (bs.map b8)) (hH : H ∈ S) (hi : i < bs.length) (q : κ (b8 (bs.getD i 0))) : ReadW P (Instr.loadAt t (.pointer (some (elA a i)))) S κ := rd_load8 (hr.rd hH) hi q
theorem load_rda {i : Nat} {v : Value} [TFlat P t] (hr : Rd 1 [H] a len us) (hv : us[i]? = some v) (hH : H ∈ S) (q : κ v) : ReadW P (Instr.loadAt t (.pointer (some (elA a i)))) S κ := rd_load (hr.mem hH) hv q
theorem load_owa {i : Nat} {v : Value} [TFlat P t] {e' : TypeId} (hr : Own 1 e' H a len cap us) (hv : us[i]? = some v) (hH : H ∈ S) (q : κ v) : ReadW P (Instr.loadAt t (.pointer (some (elA a i)))) S κ := rd_load (hr.rd hH) hv q
end facts

/-- From a list of operations to what is left of it. -/
structure Runs (P : Program) (n : Nat) (ops : Array Oper) (l : List Oper) (L : Env) (S : State) (l' : List Oper) (L' : Env) (S' : State) : Prop where
  out : ∀ K : Env → State → Prop, runW P n ops K l' L' S' → runW P n ops K l L S
structure Draws (P : Program) (n : Nat) (ops : Array Oper) (l : List Entry) (L : Env) (S : State) (l' : List Entry) (L' : Env) (S' : State) : Prop where
  out : ∀ K : Env → State → Prop, drawW P n ops K l' L' S' → drawW P n ops K l L S

section steps
variable {ops : Array Oper} {K : Env → State → Prop} {o : Oper} {l l' : List Oper} {L L' : Env} {S S' : State}

theorem run_to (k : runW P n ops K l' L' S') (h : Runs P n ops l L S l' L' S' := by exact ⟨fun K0 hK0 => by (repeat ((with_reducible refine run_cons fun K hK => ?_); (try simp only [gos, gob, Nat.reduceBEq, if_true, reduceIte, reduceCtorEq, Nat.reduceLT, Nat.reduceEqDiff, Nat.reduceAdd, Nat.reduceSub, Int.reduceLT, Int.reduceLE, Int.reduceBEq, Int.reduceBNe, Int.reduceToNat, Int.reduceAdd, Int.reduceSub, Int.reduceMul, Int.reduceDiv, Int.reduceMod, Int.reducePow, Int.toNat_natCast, Nat.sub_zero]); (try (simp (disch := omega) only [gow, gobw]; try simp only [gos, gob, Nat.reduceBEq, if_true, reduceIte, reduceCtorEq, Nat.reduceLT, Nat.reduceEqDiff, Nat.reduceAdd, Nat.reduceSub, Int.reduceLT, Int.reduceLE, Int.reduceBEq, Int.reduceBNe, Int.reduceToNat, Int.reduceAdd, Int.reduceSub, Int.reduceMul, Int.reduceDiv, Int.reduceMod, Int.reducePow, Int.toNat_natCast, Nat.sub_zero])); (first | (with_reducible refine hK _ _ ?_) | ((with_reducible apply load_box); (· (repeat (first | with_reducible exact Lies.one | with_reducible apply Lies.next))); (with_reducible refine hK _ _ ?_)) | ((with_reducible apply load_one); (· (repeat (first | with_reducible exact Lies.one | with_reducible apply Lies.next))); (· exact rfl); (with_reducible refine hK _ _ ?_)) | ((with_reducible apply store_box); (· exact trivial); (· (repeat (first | with_reducible exact Upd.one | with_reducible apply Upd.next))); (with_reducible refine hK _ _ ?_)) | ((with_reducible apply store_one); (· exact trivial); (· (repeat (first | with_reducible exact Upd.one | with_reducible apply Upd.next))); (· simp); (with_reducible refine hK _ _ ?_)) | (first | ((with_reducible apply index_rda); (· assumption); (· (first | omega | assumption | (simp only [List.length_append, List.length_take, List.length_drop, List.length_map, List.length_replicate, List.length_range, List.length_set, List.length_cons, List.length_nil]; omega))); (· (first | omega | assumption | (simp only [List.length_append, List.length_take, List.length_drop, List.length_map, List.length_replicate, List.length_range, List.length_set, List.length_cons, List.length_nil]; omega))); (with_reducible refine hK _ _ ?_)) | ((with_reducible apply index_owa); (· assumption); (· (first | omega | assumption | (simp only [List.length_append, List.length_take, List.length_drop, List.length_map, List.length_replicate, List.length_range, List.length_set, List.length_cons, List.length_nil]; omega))); (· (first | omega | assumption | (simp only [List.length_append, List.length_take, List.length_drop, List.length_map, List.length_replicate, List.length_range, List.length_set, List.length_cons, List.length_nil]; omega))); (with_reducible refine hK _ _ ?_)) | ((with_reducible apply load_rda8); (· assumption); (· (repeat (first | with_reducible assumption | with_reducible exact List.mem_cons_self .. | with_reducible apply List.mem_cons_of_mem))); (· (first | omega | assumption | (simp only [List.length_append, List.length_take, List.length_drop, List.length_map, List.length_replicate, List.length_range, List.length_set, List.length_cons, List.length_nil]; omega))); (with_reducible refine hK _ _ ?_)) | ((with_reducible apply load_owa8); (· assumption); (· (repeat (first | with_reducible assumption | with_reducible exact List.mem_cons_self .. | with_reducible apply List.mem_cons_of_mem))); (· (first | omega | assumption | (simp only [List.length_append, List.length_take, List.length_drop, List.length_map, List.length_replicate, List.length_range, List.length_set, List.length_cons, List.length_nil]; omega))); (with_reducible refine hK _ _ ?_)) | ((with_reducible apply load_rda); (· assumption); (· assumption); (· (repeat (first | with_reducible assumption | with_reducible exact List.mem_cons_self .. | with_reducible apply List.mem_cons_of_mem))); (with_reducible refine hK _ _ ?_)) | ((with_reducible apply load_owa); (· assumption); (· assumption); (· (repeat (first | with_reducible assumption | with_reducible exact List.mem_cons_self .. | with_reducible apply List.mem_cons_of_mem))); (with_reducible refine hK _ _ ?_)))); clear hK K)); exact hK0⟩) : runW P n ops K l L S := h.out K k
theorem run_one {l1 : List Oper} (k : runW P n ops K l1 L' S') (h : Runs P n ops (o :: l) L S l1 L' S' := by exact ⟨fun K0 hK0 => by ((with_reducible refine run_cons fun K hK => ?_); (try simp only [gos, gob, Nat.reduceBEq, if_true, reduceIte, reduceCtorEq, Nat.reduceLT, Nat.reduceEqDiff, Nat.reduceAdd, Nat.reduceSub, Int.reduceLT, Int.reduceLE, Int.reduceBEq, Int.reduceBNe, Int.reduceToNat, Int.reduceAdd, Int.reduceSub, Int.reduceMul, Int.reduceDiv, Int.reduceMod, Int.reducePow, Int.toNat_natCast, Nat.sub_zero]); (try (simp (disch := omega) only [gow, gobw]; try simp only [gos, gob, Nat.reduceBEq, if_true, reduceIte, reduceCtorEq, Nat.reduceLT, Nat.reduceEqDiff, Nat.reduceAdd, Nat.reduceSub, Int.reduceLT, Int.reduceLE, Int.reduceBEq, Int.reduceBNe, Int.reduceToNat, Int.reduceAdd, Int.reduceSub, Int.reduceMul, Int.reduceDiv, Int.reduceMod, Int.reducePow, Int.toNat_natCast, Nat.sub_zero])); (first | (with_reducible refine hK _ _ ?_) | ((with_reducible apply load_box); (· (repeat (first | with_reducible exact Lies.one | with_reducible apply Lies.next))); (with_reducible refine hK _ _ ?_)) | ((with_reducible apply load_one); (· (repeat (first | with_reducible exact Lies.one | with_reducible apply Lies.next))); (· exact rfl); (with_reducible refine hK _ _ ?_)) | ((with_reducible apply store_box); (· exact trivial); (· (repeat (first | with_reducible exact Upd.one | with_reducible apply Upd.next))); (with_reducible refine hK _ _ ?_)) | ((with_reducible apply store_one); (· exact trivial); (· (repeat (first | with_reducible exact Upd.one | with_reducible apply Upd.next))); (· simp); (with_reducible refine hK _ _ ?_)) | (first | ((with_reducible apply index_rda); (· assumption); (· (first | omega | assumption | (simp only [List.length_append, List.length_take, List.length_drop, List.length_map, List.length_replicate, List.length_range, List.length_set, List.length_cons, List.length_nil]; omega))); (· (first | omega | assumption | (simp only [List.length_append, List.length_take, List.length_drop, List.length_map, List.length_replicate, List.length_range, List.length_set, List.length_cons, List.length_nil]; omega))); (with_reducible refine hK _ _ ?_)) | ((with_reducible apply index_owa); (· assumption); (· (first | omega | assumption | (simp only [List.length_append, List.length_take, List.length_drop, List.length_map, List.length_replicate, List.length_range, List.length_set, List.length_cons, List.length_nil]; omega))); (· (first | omega | assumption | (simp only [List.length_append, List.length_take, List.length_drop, List.length_map, List.length_replicate, List.length_range, List.length_set, List.length_cons, List.length_nil]; omega))); (with_reducible refine hK _ _ ?_)) | ((with_reducible apply load_rda8); (· assumption); (· (repeat (first | with_reducible assumption | with_reducible exact List.mem_cons_self .. | with_reducible apply List.mem_cons_of_mem))); (· (first | omega | assumption | (simp only [List.length_append, List.length_take, List.length_drop, List.length_map, List.length_replicate, List.length_range, List.length_set, List.length_cons, List.length_nil]; omega))); (with_reducible refine hK _ _ ?_)) | ((with_reducible apply load_owa8); (· assumption); (· (repeat (first | with_reducible assumption | with_reducible exact List.mem_cons_self .. | with_reducible apply List.mem_cons_of_mem))); (· (first | omega | assumption | (simp only [List.length_append, List.length_take, List.length_drop, List.length_map, List.length_replicate, List.length_range, List.length_set, List.length_cons, List.length_nil]; omega))); (with_reducible refine hK _ _ ?_)) | ((with_reducible apply load_rda); (· assumption); (· assumption); (· (repeat (first | with_reducible assumption | with_reducible exact List.mem_cons_self .. | with_reducible apply List.mem_cons_of_mem))); (with_reducible refine hK _ _ ?_)) | ((with_reducible apply load_owa); (· assumption); (· assumption); (· (repeat (first | with_reducible assumption | with_reducible exact List.mem_cons_self .. | with_reducible apply List.mem_cons_of_mem))); (with_reducible refine hK _ _ ?_)))); clear hK K); exact hK0⟩) : runW P n ops K (o :: l) L S := h.out K k
theorem run_end {q : Prop} (k : q) (e : K L S = q := by ((try simp only [Cont.then, Cont.block, Cont.noGoto, reduceIte, Nat.reduceEqDiff]); (first | done | exact rfl))) : runW P n ops K [] L S := run_nil (e ▸ k)
theorem run_op {X : (Env → State → Prop) → Prop} (h : ∀ N : Env → State → Prop, (∀ L S, runW P n ops K l L S → N L S) → X N)
    (e : ∀ N : Env → State → Prop, guardW ops o L (stepW P o.op o.type L S fun v S' => N (putT n o.dst v L) S') (N (putT n o.dst undef L) S) = X N := by (intro N; (try simp only [gos, gob, Nat.reduceBEq, if_true, reduceIte, reduceCtorEq, Nat.reduceLT, Nat.reduceEqDiff, Nat.reduceAdd, Nat.reduceSub, Int.reduceLT, Int.reduceLE, Int.reduceBEq, Int.reduceBNe, Int.reduceToNat, Int.reduceAdd, Int.reduceSub, Int.reduceMul, Int.reduceDiv, Int.reduceMod, Int.reducePow, Int.toNat_natCast, Nat.sub_zero]); (try (simp (disch := omega) only [gow, gobw]; try simp only [gos, gob, Nat.reduceBEq, if_true, reduceIte, reduceCtorEq, Nat.reduceLT, Nat.reduceEqDiff, Nat.reduceAdd, Nat.reduceSub, Int.reduceLT, Int.reduceLE, Int.reduceBEq, Int.reduceBNe, Int.reduceToNat, Int.reduceAdd, Int.reduceSub, Int.reduceMul, Int.reduceDiv, Int.reduceMod, Int.reducePow, Int.toNat_natCast, Nat.sub_zero])); (first | done | exact rfl))) : runW P n ops K (o :: l) L S :=
  run_cons fun N hN => (e N) ▸ h N hN

variable {i : Nat} {pd : List Nat} {p p' : List Entry}
theorem draw_to (k : drawW P n ops K p' L' S') (h : Draws P n ops p L S p' L' S' := by exact ⟨fun K0 hK0 => by (repeat (refine draw_quiet (by simp only [List.getElem?_toArray, List.getElem?_cons_succ, List.getElem?_cons_zero]; rfl) fun K hK => ?_; (try simp only [gos, gob, Nat.reduceBEq, if_true, reduceIte, reduceCtorEq, Nat.reduceLT, Nat.reduceEqDiff, Nat.reduceAdd, Nat.reduceSub, Int.reduceLT, Int.reduceLE, Int.reduceBEq, Int.reduceBNe, Int.reduceToNat, Int.reduceAdd, Int.reduceSub, Int.reduceMul, Int.reduceDiv, Int.reduceMod, Int.reducePow, Int.toNat_natCast, Nat.sub_zero, goq]); (try (simp (disch := omega) only [gow, gobw]; try simp only [gos, gob, Nat.reduceBEq, if_true, reduceIte, reduceCtorEq, Nat.reduceLT, Nat.reduceEqDiff, Nat.reduceAdd, Nat.reduceSub, Int.reduceLT, Int.reduceLE, Int.reduceBEq, Int.reduceBNe, Int.reduceToNat, Int.reduceAdd, Int.reduceSub, Int.reduceMul, Int.reduceDiv, Int.reduceMod, Int.reducePow, Int.toNat_natCast, Nat.sub_zero, goq])); (first | (with_reducible refine hK _ _ ?_) | ((with_reducible apply load_box); (· (repeat (first | with_reducible exact Lies.one | with_reducible apply Lies.next))); (with_reducible refine hK _ _ ?_)) | ((with_reducible apply load_one); (· (repeat (first | with_reducible exact Lies.one | with_reducible apply Lies.next))); (· exact rfl); (with_reducible refine hK _ _ ?_)) | ((with_reducible apply store_box); (· exact trivial); (· (repeat (first | with_reducible exact Upd.one | with_reducible apply Upd.next))); (with_reducible refine hK _ _ ?_)) | ((with_reducible apply store_one); (· exact trivial); (· (repeat (first | with_reducible exact Upd.one | with_reducible apply Upd.next))); (· simp); (with_reducible refine hK _ _ ?_)) | (first | ((with_reducible apply index_rda); (· assumption); (· (first | omega | assumption | (simp only [List.length_append, List.length_take, List.length_drop, List.length_map, List.length_replicate, List.length_range, List.length_set, List.length_cons, List.length_nil]; omega))); (· (first | omega | assumption | (simp only [List.length_append, List.length_take, List.length_drop, List.length_map, List.length_replicate, List.length_range, List.length_set, List.length_cons, List.length_nil]; omega))); (with_reducible refine hK _ _ ?_)) | ((with_reducible apply index_owa); (· assumption); (· (first | omega | assumption | (simp only [List.length_append, List.length_take, List.length_drop, List.length_map, List.length_replicate, List.length_range, List.length_set, List.length_cons, List.length_nil]; omega))); (· (first | omega | assumption | (simp only [List.length_append, List.length_take, List.length_drop, List.length_map, List.length_replicate, List.length_range, List.length_set, List.length_cons, List.length_nil]; omega))); (with_reducible refine hK _ _ ?_)) | ((with_reducible apply load_rda8); (· assumption); (· (repeat (first | with_reducible assumption | with_reducible exact List.mem_cons_self .. | with_reducible apply List.mem_cons_of_mem))); (· (first | omega | assumption | (simp only [List.length_append, List.length_take, List.length_drop, List.length_map, List.length_replicate, List.length_range, List.length_set, List.length_cons, List.length_nil]; omega))); (with_reducible refine hK _ _ ?_)) | ((with_reducible apply load_owa8); (· assumption); (· (repeat (first | with_reducible assumption | with_reducible exact List.mem_cons_self .. | with_reducible apply List.mem_cons_of_mem))); (· (first | omega | assumption | (simp only [List.length_append, List.length_take, List.length_drop, List.length_map, List.length_replicate, List.length_range, List.length_set, List.length_cons, List.length_nil]; omega))); (with_reducible refine hK _ _ ?_)) | ((with_reducible apply load_rda); (· assumption); (· assumption); (· (repeat (first | with_reducible assumption | with_reducible exact List.mem_cons_self .. | with_reducible apply List.mem_cons_of_mem))); (with_reducible refine hK _ _ ?_)) | ((with_reducible apply load_owa); (· assumption); (· assumption); (· (repeat (first | with_reducible assumption | with_reducible exact List.mem_cons_self .. | with_reducible apply List.mem_cons_of_mem))); (with_reducible refine hK _ _ ?_)))); clear hK K)); exact hK0⟩) : drawW P n ops K p L S := h.out K k
theorem draw_end {q : Prop} (k : q) (e : K L S = q := by ((try simp only [Cont.then, Cont.block, Cont.noGoto, reduceIte, Nat.reduceEqDiff]); (first | done | exact rfl))) : drawW P n ops K [] L S := draw_nil (e ▸ k)
theorem draw_op {X : (Env → State → Prop) → Prop} (h : ∀ N : Env → State → Prop, (∀ L S, drawW P n ops K p L S → N L S) → X N)
    (ho : ops[i]? = some o := by (simp only [List.getElem?_toArray, List.getElem?_cons_succ, List.getElem?_cons_zero]; exact rfl))
    (e : ∀ N : Env → State → Prop, guardW ops o L (stepW P o.op o.type L S fun v S' => stillAll P ops pd (putT n o.dst v L) S' (N (putT n o.dst v L) S')) (stillAll P ops pd (putT n o.dst undef L) S (N (putT n o.dst undef L) S)) = X N := by (intro N; (try simp only [gos, gob, Nat.reduceBEq, if_true, reduceIte, reduceCtorEq, Nat.reduceLT, Nat.reduceEqDiff, Nat.reduceAdd, Nat.reduceSub, Int.reduceLT, Int.reduceLE, Int.reduceBEq, Int.reduceBNe, Int.reduceToNat, Int.reduceAdd, Int.reduceSub, Int.reduceMul, Int.reduceDiv, Int.reduceMod, Int.reducePow, Int.toNat_natCast, Nat.sub_zero, goq]); (try (simp (disch := omega) only [gow, gobw]; try simp only [gos, gob, Nat.reduceBEq, if_true, reduceIte, reduceCtorEq, Nat.reduceLT, Nat.reduceEqDiff, Nat.reduceAdd, Nat.reduceSub, Int.reduceLT, Int.reduceLE, Int.reduceBEq, Int.reduceBNe, Int.reduceToNat, Int.reduceAdd, Int.reduceSub, Int.reduceMul, Int.reduceDiv, Int.reduceMod, Int.reducePow, Int.toNat_natCast, Nat.sub_zero, goq])); (first | done | exact rfl))) :
    drawW P n ops K ((i, true, pd) :: p) L S := draw_effect ho fun N hN => (e N) ▸ h N hN

variable {K : Cont} {D : List Nat} {id : Nat}
theorem reg_to (k : runW P n l.toArray (K .normal D) l' L' S') (h : Runs P n l.toArray l L S l' L' S' := by exact ⟨fun K0 hK0 => by (repeat ((with_reducible refine run_cons fun K hK => ?_); (try simp only [gos, gob, Nat.reduceBEq, if_true, reduceIte, reduceCtorEq, Nat.reduceLT, Nat.reduceEqDiff, Nat.reduceAdd, Nat.reduceSub, Int.reduceLT, Int.reduceLE, Int.reduceBEq, Int.reduceBNe, Int.reduceToNat, Int.reduceAdd, Int.reduceSub, Int.reduceMul, Int.reduceDiv, Int.reduceMod, Int.reducePow, Int.toNat_natCast, Nat.sub_zero]); (try (simp (disch := omega) only [gow, gobw]; try simp only [gos, gob, Nat.reduceBEq, if_true, reduceIte, reduceCtorEq, Nat.reduceLT, Nat.reduceEqDiff, Nat.reduceAdd, Nat.reduceSub, Int.reduceLT, Int.reduceLE, Int.reduceBEq, Int.reduceBNe, Int.reduceToNat, Int.reduceAdd, Int.reduceSub, Int.reduceMul, Int.reduceDiv, Int.reduceMod, Int.reducePow, Int.toNat_natCast, Nat.sub_zero])); (first | (with_reducible refine hK _ _ ?_) | ((with_reducible apply load_box); (· (repeat (first | with_reducible exact Lies.one | with_reducible apply Lies.next))); (with_reducible refine hK _ _ ?_)) | ((with_reducible apply load_one); (· (repeat (first | with_reducible exact Lies.one | with_reducible apply Lies.next))); (· exact rfl); (with_reducible refine hK _ _ ?_)) | ((with_reducible apply store_box); (· exact trivial); (· (repeat (first | with_reducible exact Upd.one | with_reducible apply Upd.next))); (with_reducible refine hK _ _ ?_)) | ((with_reducible apply store_one); (· exact trivial); (· (repeat (first | with_reducible exact Upd.one | with_reducible apply Upd.next))); (· simp); (with_reducible refine hK _ _ ?_)) | (first | ((with_reducible apply index_rda); (· assumption); (· (first | omega | assumption | (simp only [List.length_append, List.length_take, List.length_drop, List.length_map, List.length_replicate, List.length_range, List.length_set, List.length_cons, List.length_nil]; omega))); (· (first | omega | assumption | (simp only [List.length_append, List.length_take, List.length_drop, List.length_map, List.length_replicate, List.length_range, List.length_set, List.length_cons, List.length_nil]; omega))); (with_reducible refine hK _ _ ?_)) | ((with_reducible apply index_owa); (· assumption); (· (first | omega | assumption | (simp only [List.length_append, List.length_take, List.length_drop, List.length_map, List.length_replicate, List.length_range, List.length_set, List.length_cons, List.length_nil]; omega))); (· (first | omega | assumption | (simp only [List.length_append, List.length_take, List.length_drop, List.length_map, List.length_replicate, List.length_range, List.length_set, List.length_cons, List.length_nil]; omega))); (with_reducible refine hK _ _ ?_)) | ((with_reducible apply load_rda8); (· assumption); (· (repeat (first | with_reducible assumption | with_reducible exact List.mem_cons_self .. | with_reducible apply List.mem_cons_of_mem))); (· (first | omega | assumption | (simp only [List.length_append, List.length_take, List.length_drop, List.length_map, List.length_replicate, List.length_range, List.length_set, List.length_cons, List.length_nil]; omega))); (with_reducible refine hK _ _ ?_)) | ((with_reducible apply load_owa8); (· assumption); (· (repeat (first | with_reducible assumption | with_reducible exact List.mem_cons_self .. | with_reducible apply List.mem_cons_of_mem))); (· (first | omega | assumption | (simp only [List.length_append, List.length_take, List.length_drop, List.length_map, List.length_replicate, List.length_range, List.length_set, List.length_cons, List.length_nil]; omega))); (with_reducible refine hK _ _ ?_)) | ((with_reducible apply load_rda); (· assumption); (· assumption); (· (repeat (first | with_reducible assumption | with_reducible exact List.mem_cons_self .. | with_reducible apply List.mem_cons_of_mem))); (with_reducible refine hK _ _ ?_)) | ((with_reducible apply load_owa); (· assumption); (· assumption); (· (repeat (first | with_reducible assumption | with_reducible exact List.mem_cons_self .. | with_reducible apply List.mem_cons_of_mem))); (with_reducible refine hK _ _ ?_)))); clear hK K)); exact hK0⟩) : CodeW P n ro (.region id l.toArray false) K D L S :=
  code_reg (h.out _ k)
end steps

section control
variable {K : Cont} {D : List Nat} {L : Env} {S : State}
theorem code_if {c : Operand} {x y : Code} {b : Bool} (ht : b = true → CodeW P n ro x K D L S) (hf : b = false → CodeW P n ro y K D L S) (hc : evT L c = some (.bool b) := by (try simp only [evT, lookT_hit, lookT_miss, Nat.reduceBEq]); (first | done | exact rfl)) : CodeW P n ro (.cond c x y) K D L S := code_cond hc ht hf
theorem code_then {c : Operand} {x y : Code} (k : CodeW P n ro x K D L S) (hc : evT L c = some (.bool true) := by (try simp only [evT, lookT_hit, lookT_miss, Nat.reduceBEq]); (first | done | exact rfl)) : CodeW P n ro (.cond c x y) K D L S := code_true hc k
theorem code_else {c : Operand} {x y : Code} (k : CodeW P n ro y K D L S) (hc : evT L c = some (.bool false) := by (try simp only [evT, lookT_hit, lookT_miss, Nat.reduceBEq]); (first | done | exact rfl)) : CodeW P n ro (.cond c x y) K D L S := code_false hc k
theorem code_back {q : Prop} (k : q) (e : K .ret D L S = q := by ((try simp -implicitDefEqProofs only [Cont.then, Cont.block, Cont.noGoto, reduceIte]); (first | done | exact rfl))) : CodeW P n ro .ret K D L S := code_ret (e ▸ k)
theorem code_leave {q : Prop} {id : Nat} (k : q) (e : K (.exit id) D L S = q := by ((try simp only [Cont.then, Cont.block, Cont.noGoto, reduceIte, Nat.reduceEqDiff]); (first | done | exact rfl))) : CodeW P n ro (.exit id) K D L S := code_exit (e ▸ k)
theorem calls_to {f : FuncId} {args : List Value} {A G : State} {R κ : Value → State → Prop} (h : Meets P f args A R) (k : ∀ v A', R v A' → κ v (A' ++ G)) (ht : Take A S G := by (repeat (first | with_reducible exact Take.nil _ | with_reducible exact Pick.head _ _ | with_reducible apply Pick.tail | with_reducible apply Take.cons))) : CallsW P f args.toArray S κ := calls_spec h ht k
theorem back_tmp {R : Value → State → Prop} {F : Chunk} {t : Nat} {v : Value} (A' : State) (hR : R v A') (hv : lookT L t = some v := by (try simp only [evT, lookT_hit, lookT_miss, Nat.reduceBEq]); (first | done | exact rfl)) (hs : Among (F :: A') S := by first | ((repeat (first | with_reducible exact Among.nil _ | with_reducible exact Pick.head _ _ | with_reducible apply Pick.tail | with_reducible apply Among.cons)); done) | ((repeat (first | exact Among.nil _ | exact Pick.head _ _ | apply Pick.tail | apply Among.cons)); done)) : RetK P [.tmp t] R F .ret [] L S := ret_tmp A' hv hR hs
theorem back_tmp_n {R : Value → State → Prop} {F : Chunk} {t : Nat} {v : Value} (A' : State) (hR : R v A') (hv : lookT L t = some v := by (try simp only [evT, lookT_hit, lookT_miss, Nat.reduceBEq]); (first | done | exact rfl)) (hs : Among (F :: A') S := by first | ((repeat (first | with_reducible exact Among.nil _ | with_reducible exact Pick.head _ _ | with_reducible apply Pick.tail | with_reducible apply Among.cons)); done) | ((repeat (first | exact Among.nil _ | exact Pick.head _ _ | apply Pick.tail | apply Among.cons)); done)) : RetK P [.tmp t] R F .normal [] L S := ret_tmp_n A' hv hR hs
theorem back_none {R : Value → State → Prop} {F : Chunk} (A' : State) (hR : R (.tuple #[]) A') (hs : Among (F :: A') S := by first | ((repeat (first | with_reducible exact Among.nil _ | with_reducible exact Pick.head _ _ | with_reducible apply Pick.tail | with_reducible apply Among.cons)); done) | ((repeat (first | exact Among.nil _ | exact Pick.head _ _ | apply Pick.tail | apply Among.cons)); done)) : RetK P [] R F .ret [] L S := ret_none A' hR hs
theorem back_none_n {R : Value → State → Prop} {F : Chunk} (A' : State) (hR : R (.tuple #[]) A') (hs : Among (F :: A') S := by first | ((repeat (first | with_reducible exact Among.nil _ | with_reducible exact Pick.head _ _ | with_reducible apply Pick.tail | with_reducible apply Among.cons)); done) | ((repeat (first | exact Among.nil _ | exact Pick.head _ _ | apply Pick.tail | apply Among.cons)); done)) : RetK P [] R F .normal [] L S := ret_none_n A' hR hs
theorem again {I : Nat → List Nat → Env → State → Prop} {m m' : Nat} {L'' : Env} {S'' : State} (hI : I m' D L'' S'') (hm : m' < m := by omega) (hL : Knows L'' L := by (repeat (first | exact True.intro | (refine And.intro ?_ ?_; (· (try simp only [evT, lookT_hit, lookT_miss, Nat.reduceBEq]); (first | done | exact rfl)))))) (hS : Among S'' S := by first | ((repeat (first | with_reducible exact Among.nil _ | with_reducible exact Pick.head _ _ | with_reducible apply Pick.tail | with_reducible apply Among.cons)); done) | ((repeat (first | exact Among.nil _ | exact Pick.head _ _ | apply Pick.tail | apply Among.cons)); done)) : Again I m D L S := ⟨m', L'', S'', hm, hI, hL, hS⟩
theorem loop0 {I : Nat → List Nat → Env → State → Prop} {m : Nat} {L0 : Env} {S0 : State} (hI : I m D L0 S0) (hL : Knows L0 L := by (repeat (first | exact True.intro | (refine And.intro ?_ ?_; (· (try simp only [evT, lookT_hit, lookT_miss, Nat.reduceBEq]); (first | done | exact rfl)))))) (hS : Among S0 S := by first | ((repeat (first | with_reducible exact Among.nil _ | with_reducible exact Pick.head _ _ | with_reducible apply Pick.tail | with_reducible apply Among.cons)); done) | ((repeat (first | exact Among.nil _ | exact Pick.head _ _ | apply Pick.tail | apply Among.cons)); done)) : ∃ m L0 S0, I m D L0 S0 ∧ Knows L0 L ∧ Among S0 S := ⟨m, L0, S0, hI, hL, hS⟩
theorem pend {a b : Prop} (k : b) (h : a := by (first | exact trivial | ((with_reducible apply load_box); (· (repeat (first | with_reducible exact Lies.one | with_reducible apply Lies.next))); (· exact rfl)) | ((with_reducible apply load_one); (· (repeat (first | with_reducible exact Lies.one | with_reducible apply Lies.next))); (· exact rfl); (· exact rfl)) | (first | ((with_reducible apply load_rda8); (· assumption); (· (repeat (first | with_reducible assumption | with_reducible exact List.mem_cons_self .. | with_reducible apply List.mem_cons_of_mem))); (· (first | omega | assumption | (simp only [List.length_append, List.length_take, List.length_drop, List.length_map, List.length_replicate, List.length_range, List.length_set, List.length_cons, List.length_nil]; omega))); exact rfl) | ((with_reducible apply load_owa8); (· assumption); (· (repeat (first | with_reducible assumption | with_reducible exact List.mem_cons_self .. | with_reducible apply List.mem_cons_of_mem))); (· (first | omega | assumption | (simp only [List.length_append, List.length_take, List.length_drop, List.length_map, List.length_replicate, List.length_range, List.length_set, List.length_cons, List.length_nil]; omega))); exact rfl) | ((with_reducible apply load_rda); (· assumption); (· assumption); (· (repeat (first | with_reducible assumption | with_reducible exact List.mem_cons_self .. | with_reducible apply List.mem_cons_of_mem))); exact rfl) | ((with_reducible apply load_owa); (· assumption); (· assumption); (· (repeat (first | with_reducible assumption | with_reducible exact List.mem_cons_self .. | with_reducible apply List.mem_cons_of_mem))); exact rfl)))) : a ∧ b := ⟨h, k⟩
theorem less {c : Code} {L' : Env} {S' : State} (h : CodeW P n ro c K D L' S') (hL : Knows L' L := by (repeat (first | exact True.intro | (refine And.intro ?_ ?_; (· (try simp only [evT, lookT_hit, lookT_miss, Nat.reduceBEq]); (first | done | exact rfl)))))) (hS : Among S' S := by first | ((repeat (first | with_reducible exact Among.nil _ | with_reducible exact Pick.head _ _ | with_reducible apply Pick.tail | with_reducible apply Among.cons)); done) | ((repeat (first | exact Among.nil _ | exact Pick.head _ _ | apply Pick.tail | apply Among.cons)); done)) : CodeW P n ro c K D L S := code_less hL hS h
end control

/-- The results of a function that has rounds of loops to shut, or cells to read. -/
theorem back_cells {rs : List ResultVar} {R : Value → State → Prop} {F : Chunk} {D : List Nat} {L : Env} {S S1 : State} {vs : List Value} (A' : State) (hR : R (tupled vs) A')
    (ht : Take (marksOf D) S S1 := by (simp only [marksOf, List.map_cons, List.map_nil]; (repeat (first | with_reducible exact Take.nil _ | with_reducible exact Pick.head _ _ | with_reducible apply Pick.tail | with_reducible apply Take.cons))))
    (hr : ∀ κ : List Value → Prop, κ vs → resW P rs L S1 κ := by (intro κ hκ; simp only [resW, withV, lookT_hit, lookT_miss, Nat.reduceBEq]; (repeat (first | refine load_box (by (repeat (first | with_reducible exact Lies.one | with_reducible apply Lies.next))) ?_ | refine load_one (by (repeat (first | with_reducible exact Lies.one | with_reducible apply Lies.next))) rfl ?_)); exact hκ))
    (hs : Among (F :: A') S1 := by first | ((repeat (first | with_reducible exact Among.nil _ | with_reducible exact Pick.head _ _ | with_reducible apply Pick.tail | with_reducible apply Among.cons)); done) | ((repeat (first | exact Among.nil _ | exact Pick.head _ _ | apply Pick.tail | apply Among.cons)); done)) : RetK P rs R F .ret D L S := ⟨S1, ht, hr _ ⟨A', hR, hs⟩⟩
theorem back_cells_n {rs : List ResultVar} {R : Value → State → Prop} {F : Chunk} {D : List Nat} {L : Env} {S S1 : State} {vs : List Value} (A' : State) (hR : R (tupled vs) A')
    (ht : Take (marksOf D) S S1 := by (simp only [marksOf, List.map_cons, List.map_nil]; (repeat (first | with_reducible exact Take.nil _ | with_reducible exact Pick.head _ _ | with_reducible apply Pick.tail | with_reducible apply Take.cons))))
    (hr : ∀ κ : List Value → Prop, κ vs → resW P rs L S1 κ := by (intro κ hκ; simp only [resW, withV, lookT_hit, lookT_miss, Nat.reduceBEq]; (repeat (first | refine load_box (by (repeat (first | with_reducible exact Lies.one | with_reducible apply Lies.next))) ?_ | refine load_one (by (repeat (first | with_reducible exact Lies.one | with_reducible apply Lies.next))) rfl ?_)); exact hκ))
    (hs : Among (F :: A') S1 := by first | ((repeat (first | with_reducible exact Among.nil _ | with_reducible exact Pick.head _ _ | with_reducible apply Pick.tail | with_reducible apply Among.cons)); done) | ((repeat (first | exact Among.nil _ | exact Pick.head _ _ | apply Pick.tail | apply Among.cons)); done)) : RetK P rs R F .normal D L S := ⟨S1, ht, hr _ ⟨A', hR, hs⟩⟩

end Go.Ost

/- The walk through statements, what comes next laid out. Conditions: none. -/
set_option linter.unusedSimpArgs false
set_option linter.unusedVariables false
namespace Go.Ost
open Go

variable {P : Program} {n : Nat} {ro : Option Nat} {K : Cont} {N : List Nat → Env → State → Prop} {D : List Nat} {L : Env} {S : State}

theorem then_n (k : N D L S) : Cont.then N K .normal D L S := k
theorem then_r (k : K .ret D L S) : Cont.then N K .ret D L S := k
theorem then_e {i : Nat} (k : K (.exit i) D L S) : Cont.then N K (.exit i) D L S := k
theorem block_n {b : Nat} (k : K .normal D L S) : Cont.block b K .normal D L S := k
theorem block_r {b : Nat} (k : K .ret D L S) : Cont.block b K .ret D L S := k
theorem block_e {b : Nat} (k : K .normal D L S) : Cont.block b K (.exit b) D L S := by simp only [Cont.block, if_true]; exact k
theorem block_o {b i : Nat} (k : K (.exit i) D L S) (h : i ≠ b := by decide) : Cont.block b K (.exit i) D L S := by simp only [Cont.block]; rw [if_neg h]; exact k
theorem scope_n (k : K .normal D L S) : Cont.noGoto K .normal D L S := k
theorem scope_r (k : K .ret D L S) : Cont.noGoto K .ret D L S := k
theorem scope_e {i : Nat} (k : K (.exit i) D L S) : Cont.noGoto K (.exit i) D L S := k

variable {l l' : List Oper} {L' : Env} {S' : State} {id : Nat} {x y : Code}
theorem code_dr {ops : Array Oper} (A : List (List Nat)) (pl : List Entry) (h : drawW P n ops (K .normal D) pl L S) (hm : P.follows .mixedOrders = true := by kernel_rfl)
    (hok : okDraw ops A n pl = true := by kernel_rfl) : CodeW P n ro (.region id ops true) K D L S := code_draw A pl hm hok h

/-- A condition that is decided. -/
theorem if_d {c : Operand} {p : Prop} [Decidable p] (ht : p → CodeW P n ro x K D L S) (hf : ¬ p → CodeW P n ro y K D L S) (hc : evT L c = some (.bool (decide p)) := by (try simp only [evT, lookT_hit, lookT_miss, Nat.reduceBEq]); (first | done | exact rfl)) : CodeW P n ro (.cond c x y) K D L S :=
  code_cond hc (fun h => ht (of_decide_eq_true h)) (fun h => hf (of_decide_eq_false h))
theorem if_b {c : Operand} {α : Type} [BEq α] [LawfulBEq α] {a b : α} (ht : a = b → CodeW P n ro x K D L S) (hf : a ≠ b → CodeW P n ro y K D L S) (hc : evT L c = some (.bool (a == b)) := by (try simp only [evT, lookT_hit, lookT_miss, Nat.reduceBEq]); (first | done | exact rfl)) : CodeW P n ro (.cond c x y) K D L S :=
  code_cond hc (fun h => ht (eq_of_beq h)) (fun h => hf (fun e => by subst e; simp at h))
theorem if_nb {c : Operand} {α : Type} [BEq α] [LawfulBEq α] {a b : α} (ht : a ≠ b → CodeW P n ro x K D L S) (hf : a = b → CodeW P n ro y K D L S) (hc : evT L c = some (.bool (a != b)) := by (try simp only [evT, lookT_hit, lookT_miss, Nat.reduceBEq]); (first | done | exact rfl)) : CodeW P n ro (.cond c x y) K D L S :=
  code_cond hc (fun h => ht (fun e => by subst e; simp at h)) (fun h => hf (by simpa using h))
theorem if_n {c : Operand} {b : Bool} (ht : b = false → CodeW P n ro x K D L S) (hf : b = true → CodeW P n ro y K D L S) (hc : evT L c = some (.bool (!b)) := by (try simp only [evT, lookT_hit, lookT_miss, Nat.reduceBEq]); (first | done | exact rfl)) : CodeW P n ro (.cond c x y) K D L S :=
  code_cond hc (fun h => ht (by simpa using h)) (fun h => hf (by simpa using h))

theorem run_probe {ops : Array Oper} {KK : Env → State → Prop} {o : Oper} {l : List Oper} (k : runW P n ops KK (o :: l) L S) : runW P n ops KK (o :: l) L S := k
theorem draw_probe {ops : Array Oper} {KK : Env → State → Prop} {p0 : Entry} {p : List Entry} (k : drawW P n ops KK (p0 :: p) L S) : drawW P n ops KK (p0 :: p) L S := k
theorem run_more {ops : Array Oper} {KK : Env → State → Prop} {o : Oper} {l : List Oper} (k : runW P n ops KK l' L' S') (h : Runs P n ops (o :: l) L S l' L' S' := by exact ⟨fun K0 hK0 => by ((with_reducible refine run_cons fun K hK => ?_); (try simp only [gos, gob, Nat.reduceBEq, if_true, reduceIte, reduceCtorEq, Nat.reduceLT, Nat.reduceEqDiff, Nat.reduceAdd, Nat.reduceSub, Int.reduceLT, Int.reduceLE, Int.reduceBEq, Int.reduceBNe, Int.reduceToNat, Int.reduceAdd, Int.reduceSub, Int.reduceMul, Int.reduceDiv, Int.reduceMod, Int.reducePow, Int.toNat_natCast, Nat.sub_zero]); (try (simp (disch := omega) only [gow, gobw]; try simp only [gos, gob, Nat.reduceBEq, if_true, reduceIte, reduceCtorEq, Nat.reduceLT, Nat.reduceEqDiff, Nat.reduceAdd, Nat.reduceSub, Int.reduceLT, Int.reduceLE, Int.reduceBEq, Int.reduceBNe, Int.reduceToNat, Int.reduceAdd, Int.reduceSub, Int.reduceMul, Int.reduceDiv, Int.reduceMod, Int.reducePow, Int.toNat_natCast, Nat.sub_zero])); (first | (with_reducible refine hK _ _ ?_) | ((with_reducible apply load_box); (· (repeat (first | with_reducible exact Lies.one | with_reducible apply Lies.next))); (with_reducible refine hK _ _ ?_)) | ((with_reducible apply load_one); (· (repeat (first | with_reducible exact Lies.one | with_reducible apply Lies.next))); (· exact rfl); (with_reducible refine hK _ _ ?_)) | ((with_reducible apply store_box); (· exact trivial); (· (repeat (first | with_reducible exact Upd.one | with_reducible apply Upd.next))); (with_reducible refine hK _ _ ?_)) | ((with_reducible apply store_one); (· exact trivial); (· (repeat (first | with_reducible exact Upd.one | with_reducible apply Upd.next))); (· simp); (with_reducible refine hK _ _ ?_)) | (first | ((with_reducible apply index_rda); (· assumption); (· (first | omega | assumption | (simp only [List.length_append, List.length_take, List.length_drop, List.length_map, List.length_replicate, List.length_range, List.length_set, List.length_cons, List.length_nil]; omega))); (· (first | omega | assumption | (simp only [List.length_append, List.length_take, List.length_drop, List.length_map, List.length_replicate, List.length_range, List.length_set, List.length_cons, List.length_nil]; omega))); (with_reducible refine hK _ _ ?_)) | ((with_reducible apply index_owa); (· assumption); (· (first | omega | assumption | (simp only [List.length_append, List.length_take, List.length_drop, List.length_map, List.length_replicate, List.length_range, List.length_set, List.length_cons, List.length_nil]; omega))); (· (first | omega | assumption | (simp only [List.length_append, List.length_take, List.length_drop, List.length_map, List.length_replicate, List.length_range, List.length_set, List.length_cons, List.length_nil]; omega))); (with_reducible refine hK _ _ ?_)) | ((with_reducible apply load_rda8); (· assumption); (· (repeat (first | with_reducible assumption | with_reducible exact List.mem_cons_self .. | with_reducible apply List.mem_cons_of_mem))); (· (first | omega | assumption | (simp only [List.length_append, List.length_take, List.length_drop, List.length_map, List.length_replicate, List.length_range, List.length_set, List.length_cons, List.length_nil]; omega))); (with_reducible refine hK _ _ ?_)) | ((with_reducible apply load_owa8); (· assumption); (· (repeat (first | with_reducible assumption | with_reducible exact List.mem_cons_self .. | with_reducible apply List.mem_cons_of_mem))); (· (first | omega | assumption | (simp only [List.length_append, List.length_take, List.length_drop, List.length_map, List.length_replicate, List.length_range, List.length_set, List.length_cons, List.length_nil]; omega))); (with_reducible refine hK _ _ ?_)) | ((with_reducible apply load_rda); (· assumption); (· assumption); (· (repeat (first | with_reducible assumption | with_reducible exact List.mem_cons_self .. | with_reducible apply List.mem_cons_of_mem))); (with_reducible refine hK _ _ ?_)) | ((with_reducible apply load_owa); (· assumption); (· assumption); (· (repeat (first | with_reducible assumption | with_reducible exact List.mem_cons_self .. | with_reducible apply List.mem_cons_of_mem))); (with_reducible refine hK _ _ ?_)))); clear hK K); (repeat ((with_reducible refine run_cons fun K hK => ?_); (try simp only [gos, gob, Nat.reduceBEq, if_true, reduceIte, reduceCtorEq, Nat.reduceLT, Nat.reduceEqDiff, Nat.reduceAdd, Nat.reduceSub, Int.reduceLT, Int.reduceLE, Int.reduceBEq, Int.reduceBNe, Int.reduceToNat, Int.reduceAdd, Int.reduceSub, Int.reduceMul, Int.reduceDiv, Int.reduceMod, Int.reducePow, Int.toNat_natCast, Nat.sub_zero]); (try (simp (disch := omega) only [gow, gobw]; try simp only [gos, gob, Nat.reduceBEq, if_true, reduceIte, reduceCtorEq, Nat.reduceLT, Nat.reduceEqDiff, Nat.reduceAdd, Nat.reduceSub, Int.reduceLT, Int.reduceLE, Int.reduceBEq, Int.reduceBNe, Int.reduceToNat, Int.reduceAdd, Int.reduceSub, Int.reduceMul, Int.reduceDiv, Int.reduceMod, Int.reducePow, Int.toNat_natCast, Nat.sub_zero])); (first | (with_reducible refine hK _ _ ?_) | ((with_reducible apply load_box); (· (repeat (first | with_reducible exact Lies.one | with_reducible apply Lies.next))); (with_reducible refine hK _ _ ?_)) | ((with_reducible apply load_one); (· (repeat (first | with_reducible exact Lies.one | with_reducible apply Lies.next))); (· exact rfl); (with_reducible refine hK _ _ ?_)) | ((with_reducible apply store_box); (· exact trivial); (· (repeat (first | with_reducible exact Upd.one | with_reducible apply Upd.next))); (with_reducible refine hK _ _ ?_)) | ((with_reducible apply store_one); (· exact trivial); (· (repeat (first | with_reducible exact Upd.one | with_reducible apply Upd.next))); (· simp); (with_reducible refine hK _ _ ?_)) | (first | ((with_reducible apply index_rda); (· assumption); (· (first | omega | assumption | (simp only [List.length_append, List.length_take, List.length_drop, List.length_map, List.length_replicate, List.length_range, List.length_set, List.length_cons, List.length_nil]; omega))); (· (first | omega | assumption | (simp only [List.length_append, List.length_take, List.length_drop, List.length_map, List.length_replicate, List.length_range, List.length_set, List.length_cons, List.length_nil]; omega))); (with_reducible refine hK _ _ ?_)) | ((with_reducible apply index_owa); (· assumption); (· (first | omega | assumption | (simp only [List.length_append, List.length_take, List.length_drop, List.length_map, List.length_replicate, List.length_range, List.length_set, List.length_cons, List.length_nil]; omega))); (· (first | omega | assumption | (simp only [List.length_append, List.length_take, List.length_drop, List.length_map, List.length_replicate, List.length_range, List.length_set, List.length_cons, List.length_nil]; omega))); (with_reducible refine hK _ _ ?_)) | ((with_reducible apply load_rda8); (· assumption); (· (repeat (first | with_reducible assumption | with_reducible exact List.mem_cons_self .. | with_reducible apply List.mem_cons_of_mem))); (· (first | omega | assumption | (simp only [List.length_append, List.length_take, List.length_drop, List.length_map, List.length_replicate, List.length_range, List.length_set, List.length_cons, List.length_nil]; omega))); (with_reducible refine hK _ _ ?_)) | ((with_reducible apply load_owa8); (· assumption); (· (repeat (first | with_reducible assumption | with_reducible exact List.mem_cons_self .. | with_reducible apply List.mem_cons_of_mem))); (· (first | omega | assumption | (simp only [List.length_append, List.length_take, List.length_drop, List.length_map, List.length_replicate, List.length_range, List.length_set, List.length_cons, List.length_nil]; omega))); (with_reducible refine hK _ _ ?_)) | ((with_reducible apply load_rda); (· assumption); (· assumption); (· (repeat (first | with_reducible assumption | with_reducible exact List.mem_cons_self .. | with_reducible apply List.mem_cons_of_mem))); (with_reducible refine hK _ _ ?_)) | ((with_reducible apply load_owa); (· assumption); (· assumption); (· (repeat (first | with_reducible assumption | with_reducible exact List.mem_cons_self .. | with_reducible apply List.mem_cons_of_mem))); (with_reducible refine hK _ _ ?_)))); clear hK K)); exact hK0⟩) : runW P n ops KK (o :: l) L S := h.out _ k
theorem draw_as {ops : Array Oper} {KK : Env → State → Prop} {p0 : Entry} {p p' : List Entry} (k : drawW P n ops KK p' L' S') (h : Draws P n ops (p0 :: p) L S p' L' S' := by exact ⟨fun K0 hK0 => by refine draw_effect (by simp only [List.getElem?_toArray, List.getElem?_cons_succ, List.getElem?_cons_zero]; rfl) fun K hK => ?_; (try simp only [gos, gob, Nat.reduceBEq, if_true, reduceIte, reduceCtorEq, Nat.reduceLT, Nat.reduceEqDiff, Nat.reduceAdd, Nat.reduceSub, Int.reduceLT, Int.reduceLE, Int.reduceBEq, Int.reduceBNe, Int.reduceToNat, Int.reduceAdd, Int.reduceSub, Int.reduceMul, Int.reduceDiv, Int.reduceMod, Int.reducePow, Int.toNat_natCast, Nat.sub_zero, goq]); (try (simp (disch := omega) only [gow, gobw]; try simp only [gos, gob, Nat.reduceBEq, if_true, reduceIte, reduceCtorEq, Nat.reduceLT, Nat.reduceEqDiff, Nat.reduceAdd, Nat.reduceSub, Int.reduceLT, Int.reduceLE, Int.reduceBEq, Int.reduceBNe, Int.reduceToNat, Int.reduceAdd, Int.reduceSub, Int.reduceMul, Int.reduceDiv, Int.reduceMod, Int.reducePow, Int.toNat_natCast, Nat.sub_zero, goq])); (first | ((repeat refine pend ?_); (with_reducible refine hK _ _ ?_)) | ((with_reducible apply store_box); (· exact trivial); (· (repeat (first | with_reducible exact Upd.one | with_reducible apply Upd.next))); (repeat refine pend ?_); (with_reducible refine hK _ _ ?_)) | ((with_reducible apply store_one); (· exact trivial); (· (repeat (first | with_reducible exact Upd.one | with_reducible apply Upd.next))); (· simp); (repeat refine pend ?_); (with_reducible refine hK _ _ ?_))); clear hK K; exact hK0⟩) : drawW P n ops KK (p0 :: p) L S := h.out _ k
theorem draw_more {ops : Array Oper} {KK : Env → State → Prop} {p0 : Entry} {p p' : List Entry} (k : drawW P n ops KK p' L' S') (h : Draws P n ops (p0 :: p) L S p' L' S' := by exact ⟨fun K0 hK0 => by refine draw_quiet (by simp only [List.getElem?_toArray, List.getElem?_cons_succ, List.getElem?_cons_zero]; rfl) fun K hK => ?_; (try simp only [gos, gob, Nat.reduceBEq, if_true, reduceIte, reduceCtorEq, Nat.reduceLT, Nat.reduceEqDiff, Nat.reduceAdd, Nat.reduceSub, Int.reduceLT, Int.reduceLE, Int.reduceBEq, Int.reduceBNe, Int.reduceToNat, Int.reduceAdd, Int.reduceSub, Int.reduceMul, Int.reduceDiv, Int.reduceMod, Int.reducePow, Int.toNat_natCast, Nat.sub_zero, goq]); (try (simp (disch := omega) only [gow, gobw]; try simp only [gos, gob, Nat.reduceBEq, if_true, reduceIte, reduceCtorEq, Nat.reduceLT, Nat.reduceEqDiff, Nat.reduceAdd, Nat.reduceSub, Int.reduceLT, Int.reduceLE, Int.reduceBEq, Int.reduceBNe, Int.reduceToNat, Int.reduceAdd, Int.reduceSub, Int.reduceMul, Int.reduceDiv, Int.reduceMod, Int.reducePow, Int.toNat_natCast, Nat.sub_zero, goq])); (first | (with_reducible refine hK _ _ ?_) | ((with_reducible apply load_box); (· (repeat (first | with_reducible exact Lies.one | with_reducible apply Lies.next))); (with_reducible refine hK _ _ ?_)) | ((with_reducible apply load_one); (· (repeat (first | with_reducible exact Lies.one | with_reducible apply Lies.next))); (· exact rfl); (with_reducible refine hK _ _ ?_)) | ((with_reducible apply store_box); (· exact trivial); (· (repeat (first | with_reducible exact Upd.one | with_reducible apply Upd.next))); (with_reducible refine hK _ _ ?_)) | ((with_reducible apply store_one); (· exact trivial); (· (repeat (first | with_reducible exact Upd.one | with_reducible apply Upd.next))); (· simp); (with_reducible refine hK _ _ ?_)) | (first | ((with_reducible apply index_rda); (· assumption); (· (first | omega | assumption | (simp only [List.length_append, List.length_take, List.length_drop, List.length_map, List.length_replicate, List.length_range, List.length_set, List.length_cons, List.length_nil]; omega))); (· (first | omega | assumption | (simp only [List.length_append, List.length_take, List.length_drop, List.length_map, List.length_replicate, List.length_range, List.length_set, List.length_cons, List.length_nil]; omega))); (with_reducible refine hK _ _ ?_)) | ((with_reducible apply index_owa); (· assumption); (· (first | omega | assumption | (simp only [List.length_append, List.length_take, List.length_drop, List.length_map, List.length_replicate, List.length_range, List.length_set, List.length_cons, List.length_nil]; omega))); (· (first | omega | assumption | (simp only [List.length_append, List.length_take, List.length_drop, List.length_map, List.length_replicate, List.length_range, List.length_set, List.length_cons, List.length_nil]; omega))); (with_reducible refine hK _ _ ?_)) | ((with_reducible apply load_rda8); (· assumption); (· (repeat (first | with_reducible assumption | with_reducible exact List.mem_cons_self .. | with_reducible apply List.mem_cons_of_mem))); (· (first | omega | assumption | (simp only [List.length_append, List.length_take, List.length_drop, List.length_map, List.length_replicate, List.length_range, List.length_set, List.length_cons, List.length_nil]; omega))); (with_reducible refine hK _ _ ?_)) | ((with_reducible apply load_owa8); (· assumption); (· (repeat (first | with_reducible assumption | with_reducible exact List.mem_cons_self .. | with_reducible apply List.mem_cons_of_mem))); (· (first | omega | assumption | (simp only [List.length_append, List.length_take, List.length_drop, List.length_map, List.length_replicate, List.length_range, List.length_set, List.length_cons, List.length_nil]; omega))); (with_reducible refine hK _ _ ?_)) | ((with_reducible apply load_rda); (· assumption); (· assumption); (· (repeat (first | with_reducible assumption | with_reducible exact List.mem_cons_self .. | with_reducible apply List.mem_cons_of_mem))); (with_reducible refine hK _ _ ?_)) | ((with_reducible apply load_owa); (· assumption); (· assumption); (· (repeat (first | with_reducible assumption | with_reducible exact List.mem_cons_self .. | with_reducible apply List.mem_cons_of_mem))); (with_reducible refine hK _ _ ?_)))); clear hK K; (repeat (refine draw_quiet (by simp only [List.getElem?_toArray, List.getElem?_cons_succ, List.getElem?_cons_zero]; rfl) fun K hK => ?_; (try simp only [gos, gob, Nat.reduceBEq, if_true, reduceIte, reduceCtorEq, Nat.reduceLT, Nat.reduceEqDiff, Nat.reduceAdd, Nat.reduceSub, Int.reduceLT, Int.reduceLE, Int.reduceBEq, Int.reduceBNe, Int.reduceToNat, Int.reduceAdd, Int.reduceSub, Int.reduceMul, Int.reduceDiv, Int.reduceMod, Int.reducePow, Int.toNat_natCast, Nat.sub_zero, goq]); (try (simp (disch := omega) only [gow, gobw]; try simp only [gos, gob, Nat.reduceBEq, if_true, reduceIte, reduceCtorEq, Nat.reduceLT, Nat.reduceEqDiff, Nat.reduceAdd, Nat.reduceSub, Int.reduceLT, Int.reduceLE, Int.reduceBEq, Int.reduceBNe, Int.reduceToNat, Int.reduceAdd, Int.reduceSub, Int.reduceMul, Int.reduceDiv, Int.reduceMod, Int.reducePow, Int.toNat_natCast, Nat.sub_zero, goq])); (first | (with_reducible refine hK _ _ ?_) | ((with_reducible apply load_box); (· (repeat (first | with_reducible exact Lies.one | with_reducible apply Lies.next))); (with_reducible refine hK _ _ ?_)) | ((with_reducible apply load_one); (· (repeat (first | with_reducible exact Lies.one | with_reducible apply Lies.next))); (· exact rfl); (with_reducible refine hK _ _ ?_)) | ((with_reducible apply store_box); (· exact trivial); (· (repeat (first | with_reducible exact Upd.one | with_reducible apply Upd.next))); (with_reducible refine hK _ _ ?_)) | ((with_reducible apply store_one); (· exact trivial); (· (repeat (first | with_reducible exact Upd.one | with_reducible apply Upd.next))); (· simp); (with_reducible refine hK _ _ ?_)) | (first | ((with_reducible apply index_rda); (· assumption); (· (first | omega | assumption | (simp only [List.length_append, List.length_take, List.length_drop, List.length_map, List.length_replicate, List.length_range, List.length_set, List.length_cons, List.length_nil]; omega))); (· (first | omega | assumption | (simp only [List.length_append, List.length_take, List.length_drop, List.length_map, List.length_replicate, List.length_range, List.length_set, List.length_cons, List.length_nil]; omega))); (with_reducible refine hK _ _ ?_)) | ((with_reducible apply index_owa); (· assumption); (· (first | omega | assumption | (simp only [List.length_append, List.length_take, List.length_drop, List.length_map, List.length_replicate, List.length_range, List.length_set, List.length_cons, List.length_nil]; omega))); (· (first | omega | assumption | (simp only [List.length_append, List.length_take, List.length_drop, List.length_map, List.length_replicate, List.length_range, List.length_set, List.length_cons, List.length_nil]; omega))); (with_reducible refine hK _ _ ?_)) | ((with_reducible apply load_rda8); (· assumption); (· (repeat (first | with_reducible assumption | with_reducible exact List.mem_cons_self .. | with_reducible apply List.mem_cons_of_mem))); (· (first | omega | assumption | (simp only [List.length_append, List.length_take, List.length_drop, List.length_map, List.length_replicate, List.length_range, List.length_set, List.length_cons, List.length_nil]; omega))); (with_reducible refine hK _ _ ?_)) | ((with_reducible apply load_owa8); (· assumption); (· (repeat (first | with_reducible assumption | with_reducible exact List.mem_cons_self .. | with_reducible apply List.mem_cons_of_mem))); (· (first | omega | assumption | (simp only [List.length_append, List.length_take, List.length_drop, List.length_map, List.length_replicate, List.length_range, List.length_set, List.length_cons, List.length_nil]; omega))); (with_reducible refine hK _ _ ?_)) | ((with_reducible apply load_rda); (· assumption); (· assumption); (· (repeat (first | with_reducible assumption | with_reducible exact List.mem_cons_self .. | with_reducible apply List.mem_cons_of_mem))); (with_reducible refine hK _ _ ?_)) | ((with_reducible apply load_owa); (· assumption); (· assumption); (· (repeat (first | with_reducible assumption | with_reducible exact List.mem_cons_self .. | with_reducible apply List.mem_cons_of_mem))); (with_reducible refine hK _ _ ?_)))); clear hK K)); exact hK0⟩) : drawW P n ops KK (p0 :: p) L S := h.out _ k

/-- What holds where two roads come together. -/
structure Mid (Q : List Nat → Env → State → Prop) (D : List Nat) (L : Env) (S : State) : Prop where
  out : ∃ L' S', Q D L' S' ∧ Knows L' L ∧ Among S' S
theorem mid {Q : List Nat → Env → State → Prop} {L' : Env} {S' : State} (h : Q D L' S') (hL : Knows L' L := by (repeat (first | exact True.intro | (refine And.intro ?_ ?_; (· (try simp only [evT, lookT_hit, lookT_miss, Nat.reduceBEq]); (first | done | exact rfl)))))) (hS : Among S' S := by first | ((repeat (first | with_reducible exact Among.nil _ | with_reducible exact Pick.head _ _ | with_reducible apply Pick.tail | with_reducible apply Among.cons)); done) | ((repeat (first | exact Among.nil _ | exact Pick.head _ _ | apply Pick.tail | apply Among.cons)); done)) : Mid Q D L S := ⟨L', S', h, hL, hS⟩
theorem seq_mid {c d : Code} (Q : List Nat → Env → State → Prop) (h1 : CodeW P n ro c (Cont.then (Mid Q) K) D L S) (h2 : ∀ D L S, Q D L S → CodeW P n ro d K D L S) : CodeW P n ro (.seq c d) K D L S :=
  code_seq (code_mono h1 fun e D L S h => by
    cases e <;> first | exact h | skip
    obtain ⟨L', S', hq, hL, hS⟩ := h
    exact code_less hL hS (h2 D L' S' hq))

/-- A loop: what holds at its head. -/
theorem loop_i {c : Code} (I : Nat → List Nat → Env → State → Prop) {m : Nat} {L0 : Env} {S0 : State} (h0 : I m D L0 S0) (round : ∀ m D L S, I m D L S → CodeW P n ro c (Cont.then (Again I m) K) D L S)
    (hL : Knows L0 L := by (repeat (first | exact True.intro | (refine And.intro ?_ ?_; (· (try simp only [evT, lookT_hit, lookT_miss, Nat.reduceBEq]); (first | done | exact rfl)))))) (hS : Among S0 S := by first | ((repeat (first | with_reducible exact Among.nil _ | with_reducible exact Pick.head _ _ | with_reducible apply Pick.tail | with_reducible apply Among.cons)); done) | ((repeat (first | exact Among.nil _ | exact Pick.head _ _ | apply Pick.tail | apply Among.cons)); done)) : CodeW P n ro (.loop c) K D L S := code_loop I ⟨m, L0, S0, h0, hL, hS⟩ round

/-- The same chunks, otherwise. -/
theorem code_cut {c : Code} {A B : Chunk} (h : CodeW P n ro c K D L (A :: B :: S)) : CodeW P n ro c K D L ((A ++ B) :: S) :=
  ⟨fun a w ha hw => h.out a w ha (hw.perm (by simp))⟩
theorem code_sub {c : Code} {S' : State} (h : CodeW P n ro c K D L S') (hs : Among S' S := by first | ((repeat (first | with_reducible exact Among.nil _ | with_reducible exact Pick.head _ _ | with_reducible apply Pick.tail | with_reducible apply Among.cons)); done) | ((repeat (first | exact Among.nil _ | exact Pick.head _ _ | apply Pick.tail | apply Among.cons)); done)) : CodeW P n ro c K D L S := ⟨fun a w ha hw => h.out a w ha (hs.hold hw)⟩

end Go.Ost
