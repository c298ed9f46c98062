/- Texts in a row: the walk's rules and contracts, as each says. Conditions: as each says. -/
import Derived.Test.YtdeenhhfafeanaaDoorMe6ff7bc8
import Derived.Laws.AppendOwn
import Derived.Laws.BytesString
import Derived.Laws.Strings
import Derived.Laws.MakeOwn
/- The operations, one rule each: numbers, boxes, cells. Conditions: as each says. -/
set_option linter.unusedSimpArgs false
set_option linter.unusedVariables false
namespace Go.Ost
open Go

variable {P : Program}

/-! ### Pure operations -/

theorem pureW_eq {m : Sem Value} {v0 : Value} (h : ∀ w, m.run P w = .ok v0 w) (κ : Value → Prop) : PureW P m κ = κ v0 :=
  propext ⟨fun ⟨v, a, b⟩ => by have e := (a default).symm.trans (h default); cases e; exact b, fun k => ⟨v0, h, k⟩⟩

section ints
variable (t : TypeId) (x y : Operand) (k : IntKind) (a b : Int) (κ : Value → Prop)
theorem bin_add : PureW P (do eqGuard .add t x y (.int k a) (.int k b); binOp .add t (.int k a) (.int k b)) κ = κ (.int k (k.wrap (a + b))) :=
  pureW_eq (fun w => by simp [eqGuard, binOp, Op.intArith]) κ
theorem bin_sub : PureW P (do eqGuard .sub t x y (.int k a) (.int k b); binOp .sub t (.int k a) (.int k b)) κ = κ (.int k (k.wrap (a - b))) :=
  pureW_eq (fun w => by simp [eqGuard, binOp, Op.intArith]) κ
theorem bin_mul : PureW P (do eqGuard .mul t x y (.int k a) (.int k b); binOp .mul t (.int k a) (.int k b)) κ = κ (.int k (k.wrap (a * b))) :=
  pureW_eq (fun w => by simp [eqGuard, binOp, Op.intArith]) κ
theorem bin_quo (hb : b ≠ 0) : PureW P (do eqGuard .quo t x y (.int k a) (.int k b); binOp .quo t (.int k a) (.int k b)) κ = κ (.int k (k.wrap (a.tdiv b))) :=
  pureW_eq (fun w => by simp [eqGuard, binOp, Op.intDiv, hb]) κ
theorem bin_rem (hb : b ≠ 0) : PureW P (do eqGuard .rem t x y (.int k a) (.int k b); binOp .rem t (.int k a) (.int k b)) κ = κ (.int k (a.tmod b)) :=
  pureW_eq (fun w => by simp [eqGuard, binOp, Op.intDiv, hb]) κ
theorem bin_quo_pos (hb : b ≠ 0) (ha : 0 ≤ a) : PureW P (do eqGuard .quo t x y (.int k a) (.int k b); binOp .quo t (.int k a) (.int k b)) κ = κ (.int k (k.wrap (a / b))) := by
  rw [bin_quo t x y k a b κ hb, Int.tdiv_eq_ediv_of_nonneg ha]
theorem bin_rem_pos (hb : b ≠ 0) (ha : 0 ≤ a) : PureW P (do eqGuard .rem t x y (.int k a) (.int k b); binOp .rem t (.int k a) (.int k b)) κ = κ (.int k (a % b)) := by
  rw [bin_rem t x y k a b κ hb, Int.tmod_eq_emod_of_nonneg ha]
theorem bin_eql : PureW P (do eqGuard .eql t x y (.int k a) (.int k b); binOp .eql t (.int k a) (.int k b)) κ = κ (.bool (a == b)) :=
  pureW_eq (fun w => by simp [eqGuard, binOp, Op.intCmp]) κ
theorem bin_neq : PureW P (do eqGuard .neq t x y (.int k a) (.int k b); binOp .neq t (.int k a) (.int k b)) κ = κ (.bool (a != b)) :=
  pureW_eq (fun w => by simp [eqGuard, binOp, Op.intCmp]) κ
theorem bin_lss : PureW P (do eqGuard .lss t x y (.int k a) (.int k b); binOp .lss t (.int k a) (.int k b)) κ = κ (.bool (decide (a < b))) :=
  pureW_eq (fun w => by simp [eqGuard, binOp, Op.intCmp]) κ
theorem bin_leq : PureW P (do eqGuard .leq t x y (.int k a) (.int k b); binOp .leq t (.int k a) (.int k b)) κ = κ (.bool (decide (a ≤ b))) :=
  pureW_eq (fun w => by simp [eqGuard, binOp, Op.intCmp]) κ
theorem bin_gtr : PureW P (do eqGuard .gtr t x y (.int k a) (.int k b); binOp .gtr t (.int k a) (.int k b)) κ = κ (.bool (decide (b < a))) :=
  pureW_eq (fun w => by simp [eqGuard, binOp, Op.intCmp]) κ
theorem bin_geq : PureW P (do eqGuard .geq t x y (.int k a) (.int k b); binOp .geq t (.int k a) (.int k b)) κ = κ (.bool (decide (b ≤ a))) :=
  pureW_eq (fun w => by simp [eqGuard, binOp, Op.intCmp]) κ
end ints

theorem un_not (b : Bool) (κ : Value → Prop) : PureW P (Op.unary .not (.bool b)) κ = κ (.bool !b) := pureW_eq (fun w => by simp [Op.unary]) κ
theorem un_neg (k : IntKind) (a : Int) (κ : Value → Prop) : PureW P (Op.unary .neg (.int k a)) κ = κ (.int k (k.wrap (0 - a))) := pureW_eq (fun w => by simp [Op.unary, Op.intArith]) κ
theorem min_two (ats : Array TypeId) (t : TypeId) (k j : IntKind) (a b : Int) (κ : Value → Prop) :
    PureW P (Builtin.min_ ats t [.int k a, .int j b].toArray) κ = κ (.int k (if b < a then b else a)) := pureW_eq (fun w => by simp [Builtin.min_, Builtin.min2]) κ
theorem max_two (ats : Array TypeId) (t : TypeId) (k j : IntKind) (a b : Int) (κ : Value → Prop) :
    PureW P (Builtin.max_ ats t [.int k a, .int j b].toArray) κ = κ (.int k (if a < b then b else a)) := pureW_eq (fun w => by simp [Builtin.max_, Builtin.max2]) κ

/-! ### Wraps that do nothing -/

theorem wrap_i64 {n : Int} (h1 : -9223372036854775808 ≤ n) (h2 : n ≤ 9223372036854775807) : IntKind.i64.wrap n = n := by
  show (if (decide (n % (2 ^ 64 : Int) ≥ (2 ^ 63 : Int))) = true then n % (2 ^ 64 : Int) - (2 ^ 64 : Int) else n % (2 ^ 64 : Int)) = n
  simp only [decide_eq_true_eq]
  split <;> omega
theorem wrap_u64 {n : Int} (h1 : 0 ≤ n) (h2 : n ≤ 18446744073709551615) : IntKind.u64.wrap n = n := by
  show n % (2 ^ 64 : Int) = n
  omega
theorem wrap_i32 {n : Int} (h1 : -2147483648 ≤ n) (h2 : n ≤ 2147483647) : IntKind.i32.wrap n = n := by
  show (if (decide (n % (2 ^ 32 : Int) ≥ (2 ^ 31 : Int))) = true then n % (2 ^ 32 : Int) - (2 ^ 32 : Int) else n % (2 ^ 32 : Int)) = n
  simp only [decide_eq_true_eq]
  split <;> omega
theorem wrap_u32 {n : Int} (h1 : 0 ≤ n) (h2 : n ≤ 4294967295) : IntKind.u32.wrap n = n := by
  show n % (2 ^ 32 : Int) = n
  omega
theorem wrap_u16 {n : Int} (h1 : 0 ≤ n) (h2 : n ≤ 65535) : IntKind.u16.wrap n = n := by
  show n % (2 ^ 16 : Int) = n
  omega
theorem wrap_u8 {n : Int} (h1 : 0 ≤ n) (h2 : n ≤ 255) : IntKind.u8.wrap n = n := by
  show n % (2 ^ 8 : Int) = n
  omega

/-! ### What a type is -/

class TInt (P : Program) (t : TypeId) (k : outParam IntKind) : Prop where
  und : P.underlying t = some (.int k)
class TStr (P : Program) (t : TypeId) : Prop where
  und : P.underlying t = some .string
class TSlice (P : Program) (t : TypeId) (e : outParam TypeId) : Prop where
  und : P.underlying t = some (.slice e)
class TStruct (P : Program) (t : TypeId) (fs : outParam (Array Field)) : Prop where
  und : P.underlying t = some (.struct fs)
class TArr (P : Program) (t : TypeId) (n : outParam Nat) (e : outParam TypeId) : Prop where
  und : P.underlying t = some (.array n e)
class TPtr (P : Program) (t : TypeId) (e : outParam TypeId) : Prop where
  und : P.underlying t = some (.pointer e)
class TMap (P : Program) (t : TypeId) (k e : outParam TypeId) : Prop where
  und : P.underlying t = some (.map k e)
class TBool (P : Program) (t : TypeId) : Prop where
  und : P.underlying t = some .bool
/-- Field i of a struct type: where it lies, its type. (No field without cells.) -/
def fieldB (P : Program) (s i off ft : Nat) : Bool :=
  match P.underlying s with
  | some (.struct fs) =>
    match fs[i]? with
    | some f => f.offset == off && f.type == ft && (match P.info? ft with | some j => j.size != 0 | none => false)
    | none => false
  | _ => false
class TField (P : Program) (s i : Nat) (off ft : outParam Nat) : Prop where
  ok : fieldB P s i off ft = true
/-- The type's zero value, its cells, its bytes. -/
class TSized (P : Program) (t : TypeId) (z : outParam Value) (s by_ : outParam Nat) : Prop where
  info : (P.info? t).map (fun i => (i.zero, i.size, i.bytes)) = some (some z, s, by_)
class TFlat (P : Program) (t : TypeId) : Prop where
  und : (match P.underlying t with | some (.struct _) | some (.array _ _) | none => false | _ => true) = true
class TDeep (P : Program) (t : TypeId) : Prop where
  und : (match P.underlying t with | some (.struct _) | some (.array _ _) => true | _ => false) = true

variable {t e : TypeId} {z : Value} {s by_ : Nat}

theorem run_und {d : TypeDesc} (h : P.underlying t = some d) (w : World) : (underlying t).run P w = .ok d w := by
  simp [underlying, program, Sem.run_bind, Sem.run, h, Result.andThen]
theorem sized_parts (h : (P.info? t).map (fun i => (i.zero, i.size, i.bytes)) = some (some z, s, by_)) :
    ∃ i, P.info? t = some i ∧ i.zero = some z ∧ i.size = s ∧ i.bytes = by_ := by
  cases hi : P.info? t with
  | none => simp [hi] at h
  | some i => simp [hi] at h; exact ⟨i, rfl, h⟩
theorem run_size (h : TSized P t z s by_) (w : World) : (sizeOf t).run P w = .ok s w := by
  obtain ⟨i, hi, _, h2, _⟩ := sized_parts h.info
  simp [sizeOf, typeInfo, program, Sem.run_bind, Sem.run, hi, h2, Result.andThen]
theorem run_zero (h : TSized P t z s by_) (w : World) : (zeroValue t).run P w = .ok z w := by
  obtain ⟨i, hi, h1, _, _⟩ := sized_parts h.info
  simp [zeroValue, typeInfo, program, Sem.run_bind, Sem.run, hi, h1, Result.andThen]
theorem run_isAgg_flat (h : TFlat P t) (w : World) : (isAgg t).run P w = .ok false w := by
  have := h.und
  cases hu : P.underlying t with
  | none => simp [hu] at this
  | some d =>
    rw [isAgg, Sem.run_bind, run_und hu]
    rw [hu] at this
    cases d <;> simp_all [Result.andThen]
theorem run_isAgg_deep (h : TDeep P t) (w : World) : (isAgg t).run P w = .ok true w := by
  have := h.und
  cases hu : P.underlying t with
  | none => simp [hu] at this
  | some d =>
    rw [isAgg, Sem.run_bind, run_und hu]
    rw [hu] at this
    cases d <;> simp_all [Result.andThen]

theorem conv_int {src dst : TypeId} {j k : IntKind} {i : IntKind} [hs : TInt P src j] [hd : TInt P dst k] (n : Int) (κ : Value → Prop) :
    PureW P (convert src dst (.int i n)) κ = κ (.int k (k.wrap n)) :=
  pureW_eq (fun w => by simp [convert, Sem.run_bind, run_und hs.und, run_und hd.und, Result.andThen, Conv.intToInt]) κ

/-! ### Cells -/

theorem add_mk (b o n : Nat) : (Addr.mk b o none).add n = ⟨b, o + n, none⟩ := by
  unfold Addr.add; split
  · subst_vars; simp
  · rfl

theorem cell_of {w : World} {b o : Nat} {cs : Array Value} {m : Nat × Nat} (h : w.heap[b]? = some (.cells cs e m)) : w.cell? ⟨b, o, none⟩ = cs[o]? := by
  simp [World.cell?, h]
theorem frozen_of {w : World} {b o : Nat} {cs : Array Value} {lo hi : Nat} (h : w.heap[b]? = some (.cells cs e (lo, hi))) : w.frozen? ⟨b, o, none⟩ = (decide (lo ≤ o) && decide (o < hi)) := by
  simp [World.frozen?, h]
theorem set_heap {w : World} {b o : Nat} {cs : Array Value} {m : Nat × Nat} (h : w.heap[b]? = some (.cells cs e m)) (v : Value) :
    (w.setCell ⟨b, o, none⟩ v).heap[b]? = some (.cells (cs.setIfInBounds o v) e m) ∧ ∀ k, k ≠ b → (w.setCell ⟨b, o, none⟩ v).heap[k]? = w.heap[k]? := by
  simp only [World.setCell, Array.getElem?_modify]
  refine ⟨by simp [h], fun k hk => by rw [if_neg (Ne.symm hk)]⟩

theorem run_load {w : World} {a : Addr} {v : Value} (h : w.cell? a = some v) : (load a).run P w = .ok v w := by simp [load, Sem.run, h]

theorem run_loadCells {w : World} {b : Nat} {cs : Array Value} {m : Nat × Nat} (h : w.heap[b]? = some (.cells cs e m)) (o : Nat) : ∀ (n i : Nat) (acc : Array Value), o + i + n ≤ cs.size →
    (loadCellsFrom ⟨b, o, none⟩ i n acc).run P w = .ok (acc ++ cs.extract (o + i) (o + i + n)) w
  | 0, i, acc, _ => by simp [loadCellsFrom]; omega
  | n + 1, i, acc, hle => by
    have hlt : o + i < cs.size := by omega
    rw [loadCellsFrom, add_mk, Sem.run_bind, run_load (v := cs[o + i]) (by rw [cell_of h]; simp [hlt])]
    simp only [Result.andThen]
    rw [run_loadCells h o n (i + 1) _ (by omega)]
    congr 1
    rw [show o + (i + 1) = o + i + 1 from by omega, show o + i + 1 + n = o + i + (n + 1) from by omega]
    apply Array.ext'
    simp only [Array.toList_append, Array.toList_push, Array.toList_extract, List.append_assoc, List.extract_eq_take_drop]
    congr 1
    rw [show o + i + (n + 1) - (o + i) = n + 1 from by omega, show o + i + (n + 1) - (o + i + 1) = n from by omega]
    rw [List.drop_eq_getElem_cons (l := cs.toList) (i := o + i) (by simpa using hlt), List.take_succ_cons]
    simp

theorem load_one {S : State} {κ : Value → Prop} {b o : Nat} {cs : Array Value} {m : Nat × Nat} {v : Value} [hf : TFlat P t] (hl : Lies b (.cells cs e m) S) (hv : cs[o]? = some v) (k : κ v) :
    ReadW P (Instr.loadAt t (.pointer (some ⟨b, o, none⟩))) S κ := by
  refine ⟨v, fun w hw => ?_, k⟩
  have hc := hl.get hw
  simp [Instr.loadAt, Instr.sureAddr, loadVar, Sem.run_bind, run_isAgg_flat hf, Result.andThen, run_load (P := P) (w := w) (a := ⟨b, o, none⟩) (v := v) (by rw [cell_of hc]; exact hv)]
theorem load_box {S : State} {κ : Value → Prop} {b : Nat} {m : Nat × Nat} {v : Value} [hf : TFlat P t] (hl : Lies b (.cells #[v] e m) S) (k : κ v) :
    ReadW P (Instr.loadAt t (.pointer (some ⟨b, 0, none⟩))) S κ := load_one hl rfl k
theorem load_agg {S : State} {κ : Value → Prop} {b o : Nat} {cs : Array Value} {m : Nat × Nat} [hf : TDeep P t] [hs : TSized P t z s by_] (hl : Lies b (.cells cs e m) S) (hv : o + s ≤ cs.size)
    (k : κ (.agg (cs.extract o (o + s)))) : ReadW P (Instr.loadAt t (.pointer (some ⟨b, o, none⟩))) S κ := by
  refine ⟨_, fun w hw => ?_, k⟩
  have hc := hl.get hw
  simp [Instr.loadAt, Instr.sureAddr, loadVar, Sem.run_bind, run_isAgg_deep hf, run_size hs, Result.andThen, loadCells, run_loadCells (P := P) hc o s 0 #[] (by omega)]

def setCells (cs : Array Value) (o : Nat) : List Value → Array Value
  | [] => cs
  | v :: l => setCells (cs.setIfInBounds o v) (o + 1) l
theorem setCells_size : ∀ (l : List Value) (cs : Array Value) (o : Nat), (setCells cs o l).size = cs.size
  | [], _, _ => rfl
  | v :: l, cs, o => by simp [setCells, setCells_size l]

/-- A value that one cell holds. -/
def Value.cell1 : Value → Prop
  | .agg _ | .tuple _ => False
  | _ => True

theorem run_store {w : World} {a : Addr} {v u : Value} (hv : Value.cell1 v) (h : w.cell? a = some u) (hf : w.frozen? a = false) : (store a v).run P w = .ok () (w.setCell a v) := by
  cases v <;> first | exact hv.elim | simp [store, Sem.run, h, hf]

theorem ext_set (w : World) (a : Addr) (v : Value) : Ext w (w.setCell a v) := ⟨rfl, rfl, rfl, by simp [World.setCell]⟩

theorem run_storeCells {b o : Nat} {lo hi : Nat} : ∀ (l : List Value) (i : Nat) (w : World) (cs : Array Value), w.heap[b]? = some (.cells cs e (lo, hi)) → (∀ v ∈ l, Value.cell1 v) → o + i + l.length ≤ cs.size → (hi ≤ lo ∨ cs.size ≤ lo) →
    ∃ w', (storeCells ⟨b, o, none⟩ l i).run P w = .ok () w' ∧ Ext w w' ∧ w'.heap[b]? = some (.cells (setCells cs (o + i) l) e (lo, hi)) ∧ ∀ k, k ≠ b → w'.heap[k]? = w.heap[k]?
  | [], i, w, cs, h, _, _, _ => ⟨w, rfl, Ext.refl w, h, fun _ _ => rfl⟩
  | v :: l, i, w, cs, h, hv, hle, hm => by
    have hlt : o + i < cs.size := by simp at hle; omega
    have hs := set_heap (o := o + i) h v
    obtain ⟨w', h1, h2, h3, h4⟩ := run_storeCells (o := o) l (i + 1) (w.setCell ⟨b, o + i, none⟩ v) (cs.setIfInBounds (o + i) v) hs.1 (fun u hu => hv u (List.mem_cons_of_mem _ hu)) (by simp at hle ⊢; omega) (by simpa using hm)
    refine ⟨w', ?_, (ext_set _ _ _).trans h2, h3, fun k hk => (h4 k hk).trans (hs.2 k hk)⟩
    rw [storeCells, add_mk, Sem.run_bind, run_store (u := cs[o + i]) (hv v (List.mem_cons_self ..)) (by rw [cell_of h]; simp [hlt]) (by rw [frozen_of h]; simp; omega)]
    exact h1

theorem store_one {S S' : State} {κ : State → Prop} {b o : Nat} {cs : Array Value} {v : Value} [hs : TSized P t z 1 by_] (hc : Value.cell1 v) (hu : Upd b (.cells cs e (0, 0)) (.cells (cs.setIfInBounds o v) e (0, 0)) S S')
    (ho : o < cs.size) (k : κ S') : UnitW P (Instr.storeAt t (.pointer (some ⟨b, o, none⟩)) v) S κ := by
  refine ⟨fun w hw => ?_⟩
  have hg := hu.get hw
  obtain ⟨w', h1, h2, h3, h4⟩ := run_storeCells (P := P) (b := b) (o := o) [v] 0 w cs hg (fun u hm => by simp at hm; subst hm; exact hc) (by simp; omega) (.inl (Nat.le_refl _))
  refine ⟨w', S', ?_, h2, hu.hold hw h3 h4, k⟩
  have hcs : v.cells = #[v] := by cases v <;> first | exact hc.elim | rfl
  simp [Instr.storeAt, Instr.sureAddr, storeVar, Sem.run_bind, run_size hs, Result.andThen, hcs, h1]
theorem store_box {S S' : State} {κ : State → Prop} {b : Nat} {u v : Value} [hs : TSized P t z 1 by_] (hc : Value.cell1 v) (hu : Upd b (.cells #[u] e (0, 0)) (.cells #[v] e (0, 0)) S S')
    (k : κ S') : UnitW P (Instr.storeAt t (.pointer (some ⟨b, 0, none⟩)) v) S κ := store_one (cs := #[u]) hc hu (by simp) k
theorem store_agg {S S' : State} {κ : State → Prop} {b o : Nat} {cs : Array Value} {vs : Array Value} [hs : TSized P t z s by_] (hz : vs.size = s) (hc : ∀ v ∈ vs.toList, Value.cell1 v)
    (hu : Upd b (.cells cs e (0, 0)) (.cells (setCells cs o vs.toList) e (0, 0)) S S') (ho : o + s ≤ cs.size) (k : κ S') : UnitW P (Instr.storeAt t (.pointer (some ⟨b, o, none⟩)) (.agg vs)) S κ := by
  refine ⟨fun w hw => ?_⟩
  have hg := hu.get hw
  obtain ⟨w', h1, h2, h3, h4⟩ := run_storeCells (P := P) (b := b) (o := o) vs.toList 0 w cs hg hc (by simp [hz]; omega) (.inl (Nat.le_refl _))
  refine ⟨w', S', ?_, h2, hu.hold hw h3 h4, k⟩
  simp [Instr.storeAt, Instr.sureAddr, storeVar, Sem.run_bind, run_size hs, Result.andThen, Value.cells, h1, hz]

theorem ext_push {w w' : World} {o : Obj} (h : w' = { w with heap := w.heap.push o }) : Ext w w' := by subst h; exact ⟨rfl, rfl, rfl, by simp⟩

/-- A new variable. -/
theorem alloc_new {S : State} {κ : Value → State → Prop} [hs : TSized P t z s by_] (k : ∀ b : Nat, κ (.pointer (some ⟨b, 0, none⟩)) ([(b, .cells z.cells t (0, 0))] :: S)) :
    ValW P (Instr.alloc t true (.tuple #[])) S κ := by
  refine ⟨fun w hw => ?_⟩
  refine ⟨.pointer (some ⟨w.heap.size, 0, none⟩), { w with heap := w.heap.push (.cells z.cells t) }, _, ?_, ext_push rfl, hw.new rfl, k _⟩
  simp [Instr.alloc, Sem.run_bind, run_zero hs, Result.andThen, newVar, newRow, newObj, Sem.run]
theorem box_new {S : State} {κ : Value → State → Prop} {v : Value} (k : ∀ b : Nat, κ (.pointer (some ⟨b, 0, none⟩)) ([(b, .cells v.cells t (0, 0))] :: S)) :
    ValW P (Instr.box t v) S κ := by
  refine ⟨fun w hw => ?_⟩
  refine ⟨.pointer (some ⟨w.heap.size, 0, none⟩), { w with heap := w.heap.push (.cells v.cells t) }, _, ?_, ext_push rfl, hw.new rfl, k _⟩
  simp [Instr.box, Sem.run_bind, Result.andThen, newVar, newRow, newObj, Sem.run]


theorem field_parts {s i off ft : Nat} (h : fieldB P s i off ft = true) :
    ∃ fs f, P.underlying s = some (.struct fs) ∧ fs[i]? = some f ∧ f.offset = off ∧ f.type = ft ∧ ∃ j, P.info? ft = some j ∧ j.size ≠ 0 := by
  unfold fieldB at h
  split at h
  · rename_i fs hu
    split at h
    · rename_i f hf
      simp only [Bool.and_eq_true, beq_iff_eq] at h
      obtain ⟨⟨h1, h2⟩, h3⟩ := h
      split at h3
      · rename_i j hj
        exact ⟨fs, f, hu, hf, h1, h2, j, hj, by simpa using h3⟩
      · cases h3
    · cases h
  · cases h

theorem field_addr {s i off ft b o : Nat} {κ : Value → Prop} [h : TField P s i off ft] :
    PureW P (Instr.fieldAt s (.pointer (some ⟨b, o, none⟩)) i) κ = κ (.pointer (some ⟨b, o + off, none⟩)) :=
  pureW_eq (fun w => by
    obtain ⟨fs, f, hu, hf, h1, h2, j, hj, hz⟩ := field_parts h.ok
    have hs : (sizeOf f.type).run P w = .ok j.size w := by
      rw [h2]; simp [sizeOf, typeInfo, program, Sem.run_bind, Sem.run, hj, Result.andThen]
    simp only [Instr.fieldAt, Sem.run_bind, run_und hu, Result.andThen, hf, Instr.sureAddr, Sem.run_pure, fieldPlace, hs]
    rw [if_neg hz]
    simp [add_mk, h1, Result.andThen]) κ

theorem equal_ptr_nil {t e : TypeId} (h : TPtr P t e) (d : Nat) (a : Option Addr) (w : World) : (Op.equalIn (d + 1) t (.pointer a) (.pointer none)).run P w = .ok a.isNone w := by
  rw [Op.equalIn, Sem.run_bind, run_und h.und]
  cases a <;> rfl
theorem equal_bool {t : TypeId} (h : TBool P t) (d : Nat) (a b : Bool) (w : World) : (Op.equalIn (d + 1) t (.bool a) (.bool b)).run P w = .ok (a == b) w := by
  rw [Op.equalIn, Sem.run_bind, run_und h.und]
  rfl
theorem nil_eql {t e : TypeId} {x y : Operand} {κ : Value → Prop} [h : TPtr P t e] (a : Option Addr) :
    PureW P (do eqGuard .eql t x y (.pointer a) (.pointer none); binOp .eql t (.pointer a) (.pointer none)) κ = κ (.bool a.isNone) :=
  pureW_eq (fun w => by
    have e : (do eqGuard .eql t x y (.pointer a) (.pointer none); binOp .eql t (.pointer a) (.pointer none) : Sem Value) = (do pure (.bool (← Op.equalIn (9999 + 1) t (.pointer a) (.pointer none)))) := by
      cases a <;> rfl
    rw [e, Sem.run_bind, equal_ptr_nil h]; rfl) κ
theorem nil_neq {t e : TypeId} {x y : Operand} {κ : Value → Prop} [h : TPtr P t e] (a : Option Addr) :
    PureW P (do eqGuard .neq t x y (.pointer a) (.pointer none); binOp .neq t (.pointer a) (.pointer none)) κ = κ (.bool a.isSome) :=
  pureW_eq (fun w => by
    have e : (do eqGuard .neq t x y (.pointer a) (.pointer none); binOp .neq t (.pointer a) (.pointer none) : Sem Value) = (do pure (.bool (!(← Op.equalIn (9999 + 1) t (.pointer a) (.pointer none))))) := by
      cases a <;> rfl
    rw [e, Sem.run_bind, equal_ptr_nil h]; cases a <;> rfl) κ
theorem bool_eql {t : TypeId} {x y : Operand} {κ : Value → Prop} [h : TBool P t] (a b : Bool) :
    PureW P (do eqGuard .eql t x y (.bool a) (.bool b); binOp .eql t (.bool a) (.bool b)) κ = κ (.bool (a == b)) :=
  pureW_eq (fun w => by
    have e : (do eqGuard .eql t x y (.bool a) (.bool b); binOp .eql t (.bool a) (.bool b) : Sem Value) = (do pure (.bool (← Op.equalIn (9999 + 1) t (.bool a) (.bool b)))) := rfl
    rw [e, Sem.run_bind, equal_bool h]; rfl) κ
theorem bool_neq {t : TypeId} {x y : Operand} {κ : Value → Prop} [h : TBool P t] (a b : Bool) :
    PureW P (do eqGuard .neq t x y (.bool a) (.bool b); binOp .neq t (.bool a) (.bool b)) κ = κ (.bool (a != b)) :=
  pureW_eq (fun w => by
    have e : (do eqGuard .neq t x y (.bool a) (.bool b); binOp .neq t (.bool a) (.bool b) : Sem Value) = (do pure (.bool (!(← Op.equalIn (9999 + 1) t (.bool a) (.bool b))))) := rfl
    rw [e, Sem.run_bind, equal_bool h]; rfl) κ

theorem len_slice {ats : Array TypeId} {t u e : TypeId} {a : Option Addr} {n c : Nat} {κ : Value → Prop} (ha : ats[0]? = some t) [h : TSlice P t e] :
    PureW P (Builtin.len_ ats u #[.slice a n c]) κ = κ (.int .i64 n) :=
  pureW_eq (fun w => by simp [Builtin.len_, ha, Sem.run_bind, run_und h.und, Result.andThen, goInt]) κ
theorem len_string {ats : Array TypeId} {t u : TypeId} {s : ByteArray} {κ : Value → Prop} (ha : ats[0]? = some t) [h : TStr P t] :
    PureW P (Builtin.len_ ats u #[.string s]) κ = κ (.int .i64 s.size) :=
  pureW_eq (fun w => by simp [Builtin.len_, ha, Sem.run_bind, run_und h.und, Result.andThen, goInt]) κ

theorem len_slice1 {t u e : TypeId} {a : Option Addr} {n c : Nat} {κ : Value → Prop} [h : TSlice P t e] : PureW P (Builtin.len_ #[t] u #[.slice a n c]) κ = κ (.int .i64 n) := len_slice (h := h) rfl
theorem len_string1 {t u : TypeId} {s : ByteArray} {κ : Value → Prop} [h : TStr P t] : PureW P (Builtin.len_ #[t] u #[.string s]) κ = κ (.int .i64 s.size) := len_string (h := h) rfl

/-- An element's place. -/
theorem index_addr {t e : TypeId} {z : Value} {s by_ b o n c : Nat} {k : IntKind} {i : Int} {κ : Value → Prop} [h : TSlice P t e] [hs : TSized P e z s by_] (h0 : 0 ≤ i) (h1 : i < n) :
    PureW P (Instr.indexAt t (.slice (some ⟨b, o, none⟩) n c) (.int k i)) κ = κ (.pointer (some ⟨b, o + i.toNat * s, none⟩)) :=
  pureW_eq (fun w => by
    simp [Instr.indexAt, asIntOf, Sem.run_bind, run_und h.und, Result.andThen, run_size hs, h0, h1, add_mk]) κ

theorem arr_addr {t e n : Nat} {z : Value} {s by_ b o : Nat} {k : IntKind} {i : Int} {κ : Value → Prop} [h : TArr P t n e] [hs : TSized P e z s by_] (h0 : 0 ≤ i) (h1 : i < n) :
    PureW P (Instr.indexAt t (.pointer (some ⟨b, o, none⟩)) (.int k i)) κ = κ (.pointer (some ⟨b, o + i.toNat * s, none⟩)) :=
  pureW_eq (fun w => by
    simp [Instr.indexAt, asIntOf, Sem.run_bind, run_und h.und, Result.andThen, run_size hs, h0, h1, add_mk, Instr.sureAddr]) κ
theorem arr_index {t e n : Nat} {z : Value} {by_ : Nat} {k : IntKind} {i : Int} {cs : Array Value} {v : Value} {κ : Value → Prop} [h : TArr P t n e] [hs : TSized P e z 1 by_] [hf : TFlat P e] (h0 : 0 ≤ i) (h1 : i < n) (hv : cs[i.toNat]? = some v) :
    PureW P (Instr.index t (.agg cs) (.int k i)) κ = κ v :=
  pureW_eq (fun w => by
    simp [Instr.index, asIntOf, Sem.run_bind, run_und h.und, Result.andThen, run_size hs, h0, h1, part, run_isAgg_flat hf, hv]) κ

/-- An array written out. -/
theorem build_arr {t e n : Nat} {z z' : Value} {s by_ s' by' : Nat} {ps : List (Nat × Value)} {cs : Array Value} {κ : Value → Prop} [h : TArr P t n e] [hs : TSized P t z s by_] [he : TSized P e z' s' by']
    (hf : Instr.fill (fun i => some (i * s', s')) z.cells ps = some cs) : PureW P (Instr.build t ps.toArray) κ = κ (.agg cs) :=
  pureW_eq (fun w => by
    simp [Instr.build, Sem.run_bind, run_und h.und, run_zero hs, run_size he, Result.andThen, hf]) κ
/-- A structure written out. -/
def placesB (P : Program) (t : TypeId) (pl : List (Nat × Nat)) : Bool :=
  match P.underlying t with
  | some (.struct fs) => fs.toList.map (fun f => (f.offset, (P.info? f.type).map (·.size))) == pl.map fun p => (p.1, some p.2)
  | _ => false
class TPlaces (P : Program) (t : TypeId) (pl : outParam (List (Nat × Nat))) : Prop where
  ok : placesB P t pl = true
theorem build_struct {t : Nat} {z : Value} {s by_ : Nat} {pl : List (Nat × Nat)} {ps : List (Nat × Value)} {cs : Array Value} {κ : Value → Prop} [h : TPlaces P t pl] [hs : TSized P t z s by_]
    (hf : Instr.fill (pl[·]?) z.cells ps = some cs) : PureW P (Instr.build t ps.toArray) κ = κ (.agg cs) := by
  refine pureW_eq (fun w => ?_) κ
  have hk := h.ok
  unfold placesB at hk
  split at hk
  · rename_i fs hu
    have hk := eq_of_beq hk
    have key : ∀ (g : Field → Sem (Nat × Nat)), (∀ f s, (P.info? f.type).map (·.size) = some s → (g f).run P w = .ok (f.offset, s) w) → ∀ (l : List Field) (pl : List (Nat × Nat)),
        l.map (fun f => (f.offset, (P.info? f.type).map (·.size))) = pl.map (fun p => (p.1, some p.2)) → (l.mapM g).run P w = .ok pl w := by
      intro g hg l
      induction l with
      | nil => intro pl h; cases pl with
        | nil => rfl
        | cons p pl => simp at h
      | cons f l ih => intro pl h; cases pl with
        | nil => simp at h
        | cons p pl =>
          simp only [List.map_cons, List.cons.injEq, Prod.mk.injEq] at h
          obtain ⟨⟨h1, h2⟩, h3⟩ := h
          rw [List.mapM_cons, Sem.run_bind, hg f p.2 h2]
          simp only [Result.andThen]
          rw [Sem.run_bind, ih pl h3]
          simp only [Result.andThen]
          rw [h1]; rfl
    have hm : ∀ (g : Field → Sem (Nat × Nat)), (∀ f s, (P.info? f.type).map (·.size) = some s → (g f).run P w = .ok (f.offset, s) w) → (fs.mapM g).run P w = .ok pl.toArray w := by
      intro g hg
      rw [Array.mapM_eq_mapM_toList]
      show ((fs.toList.mapM g >>= fun x => pure x.toArray : Sem (Array (Nat × Nat)))).run P w = _
      rw [Sem.run_bind, key g hg fs.toList pl hk]
      rfl
    unfold Instr.build
    rw [Sem.run_bind, run_zero hs]
    simp only [Result.andThen]
    rw [Sem.run_bind, run_und hu]
    simp only [Result.andThen]
    rw [Sem.run_bind, hm _ (fun f s hfs => by
      rw [Option.map_eq_some_iff] at hfs
      obtain ⟨i, hi, hi2⟩ := hfs
      simp [sizeOf, typeInfo, program, Sem.run_bind, Sem.run, hi, hi2, Result.andThen])]
    simp only [Result.andThen]
    have e : (fun i : Nat => pl.toArray[i]?) = (fun i : Nat => pl[i]?) := by funext i; simp
    rw [e, hf]
    rfl
  · cases hk

end Go.Ost

/- Slices: what is read of one, what is one's own, and the operations on them. Conditions: as each says. -/
set_option linter.unusedSimpArgs false
set_option linter.unusedVariables false
namespace Go.Ost
open Go

variable {P : Program}

/-- The slice (a, len) of elements of s cells reads as these cells. -/
def Rd (s : Nat) (S : State) (a : Option Addr) (len : Nat) (us : List Value) : Prop :=
  us.length = len * s ∧ (us ≠ [] → ∃ b o cs e m, a = some ⟨b, o, none⟩ ∧ Lies b (.cells cs e m) S ∧ ∀ i, i < us.length → cs[o + i]? = us[i]?)
/-- No cell of so many is frozen. -/
def Soft (n : Nat) (m : Nat × Nat) : Prop := m.1 = m.2 ∨ n ≤ m.1
theorem Soft.or {n : Nat} {m : Nat × Nat} (h : Soft n m) : m.2 ≤ m.1 ∨ n ≤ m.1 := h.imp (fun e => Nat.le_of_eq e.symm) id
/-- The slice's block is the chunk C alone, and what lies behind its length is free. -/
def Own (s : Nat) (e : TypeId) (C : Chunk) (a : Option Addr) (len cap : Nat) (us : List Value) : Prop :=
  len ≤ cap ∧ cap ≤ maxLen ∧ us.length = len * s ∧ ((cap = 0 ∧ C = []) ∨ ∃ b o cs m, a = some ⟨b, o, none⟩ ∧ C = [(b, .cells cs e m)] ∧ Soft cs.size m ∧ o + cap * s ≤ cs.size ∧ ∀ i, i < us.length → cs[o + i]? = us[i]?)

theorem Lies.of_mem {b : Nat} {o : Obj} {C : Chunk} (h : (b, o) ∈ C) : ∀ {S : State}, C ∈ S → Lies b o S
  | [], hC => by cases hC
  | D :: S, hC => by
    rcases List.mem_cons.1 hC with rfl | hC
    · exact .here h
    · exact .next (Lies.of_mem h hC)
theorem Own.rd {s : Nat} {e : TypeId} {C : Chunk} {a : Option Addr} {len cap : Nat} {us : List Value} (h : Own s e C a len cap us) {S : State} (hC : C ∈ S) : Rd s S a len us := by
  obtain ⟨h1, _, h3, h4⟩ := h
  refine ⟨h3, fun hne => ?_⟩
  rcases h4 with ⟨h5, _⟩ | ⟨b, o, cs, m, rfl, rfl, _, _, h6⟩
  · have : len = 0 := by omega
    subst this
    rw [Nat.zero_mul] at h3
    exact absurd (List.length_eq_zero_iff.1 h3) hne
  · exact ⟨b, o, cs, e, _, rfl, Lies.of_mem (List.mem_singleton.2 rfl) hC, h6⟩
theorem Rd.next {s : Nat} {S : State} {a : Option Addr} {len : Nat} {us : List Value} (h : Rd s S a len us) (C : Chunk) : Rd s (C :: S) a len us :=
  ⟨h.1, fun hne => let ⟨b, o, cs, e, m, h1, h2, h3⟩ := h.2 hne; ⟨b, o, cs, e, m, h1, h2.next, h3⟩⟩
theorem Rd.nil {s : Nat} {S : State} {a : Option Addr} : Rd s S a 0 [] := ⟨by simp, fun h => absurd rfl h⟩

theorem rd_first {s : Nat} {S : State} {a : Option Addr} {len c : Nat} {us : List Value} (h : Rd s S a len us) {w : World} (hw : Hold w S) :
    (Builtin.firstCells s len (.slice a len c)).run P w = .ok us.toArray w := by
  obtain ⟨h1, h2⟩ := h
  by_cases hne : us = []
  · subst hne
    have : len * s = 0 := by simpa using h1.symm
    cases a with
    | none => rfl
    | some a => simp [Builtin.firstCells, this, loadCells, loadCellsFrom]
  · obtain ⟨b, o, cs, e, m, rfl, hl, hc⟩ := h2 hne
    have hb := hl.get hw
    have hsz : o + us.length ≤ cs.size := by
      have hpos : 0 < us.length := List.length_pos_iff.2 hne
      have := hc (us.length - 1) (by omega)
      rw [List.getElem?_eq_getElem (by omega)] at this
      have := (Array.getElem?_eq_some_iff.1 this).1
      omega
    simp only [Builtin.firstCells, loadCells]
    rw [run_loadCells (P := P) hb o (len * s) 0 #[] (by rw [← h1]; omega), ← h1]
    congr 1
    apply Array.ext_getElem?
    intro i
    simp only [Nat.add_zero, Array.empty_append]
    rw [Array.getElem?_extract]
    by_cases hi : i < us.length
    · rw [if_pos (by omega), hc i hi]; simp
    · rw [if_neg (by omega)]; simp; omega

theorem get_setCells : ∀ (l : List Value) (cs : Array Value) (o i : Nat), o + l.length ≤ cs.size → (setCells cs o l)[i]? = if o ≤ i ∧ i < o + l.length then l[i - o]? else cs[i]?
  | [], cs, o, i, _ => by rw [if_neg (by rintro ⟨h1, h2⟩; simp at h2; omega)]; rfl
  | v :: l, cs, o, i, h => by
    simp only [List.length_cons] at h ⊢
    rw [setCells, get_setCells l _ (o + 1) i (by simp; omega)]
    by_cases h1 : o + 1 ≤ i ∧ i < o + 1 + l.length
    · rw [if_pos h1, if_pos (by omega), show i - o = i - (o + 1) + 1 from by omega, List.getElem?_cons_succ]
    · rw [if_neg h1]
      by_cases h2 : i = o
      · subst h2
        rw [if_pos (by omega), Array.getElem?_setIfInBounds_self]
        rw [if_pos (by omega)]; simp
      · rw [if_neg (by omega), Array.getElem?_setIfInBounds_ne (by omega)]

/-- append, onto one's own. -/
theorem append_own {t t2 ty e e2 : TypeId} {z : Value} {s by_ : Nat} [ht : TSlice P t e] [ht2 : TSlice P t2 e2] [hs : TSized P e z s by_] (hz : z.cells.size = s) (h0 : 0 < s) {S G : State} {κ : Value → State → Prop} {C : Chunk}
    {a b : Option Addr} {len cap n c : Nat} {us vs : List Value} (ho : Own s e C a len cap us) (hC : C = [] ∧ G = S ∨ Pick C S G) (hr : Rd s S b n vs) (h1 : ∀ v ∈ vs, Value.cell1 v)
    (hm : len + n ≤ maxLen) (hb : (len + n) * by_ ≤ 140737488355328)
    (k : ∀ C' a' cap', Own s e C' a' (len + n) cap' (us ++ vs) → κ (.slice a' (len + n) cap') (C' :: G)) : ValW P (Builtin.append_ #[t, t2] ty #[.slice a len cap, .slice b n c]) S κ := by
  refine ⟨fun w hw => ?_⟩
  have hCG : Hold w (C :: G) := by
    rcases hC with ⟨rfl, rfl⟩ | hp
    · exact hw.perm (by simp)
    · exact hw.perm hp.perm
  have hrd : Rd s (C :: G) a len us := ho.rd (List.mem_cons_self ..)
  have f1 := fun (w : World) hw => rd_first (P := P) (c := cap) hrd (w := w) hw
  have f2 := fun (w : World) hw => rd_first (P := P) (c := c) hr (w := w) hw
  have hlv := hr.1
  obtain ⟨i, hi, hz1, hsz, hby⟩ := sized_parts hs.info
  obtain ⟨hle, hmax, hlen, hcase⟩ := ho
  by_cases hroom : len + n ≤ cap
  · rcases hcase with ⟨rfl, rfl⟩ | ⟨b', o, cs, m, rfl, rfl, hsoft, hbig, hcs⟩
    · obtain rfl : len = 0 := by omega
      obtain rfl : n = 0 := by omega
      obtain rfl : us = [] := List.length_eq_zero_iff.1 (by simpa using hlen)
      obtain rfl : vs = [] := List.length_eq_zero_iff.1 (by simpa using hlv)
      refine ⟨.slice a 0 0, w, _, ?_, Ext.refl w, hCG, k [] a 0 ⟨Nat.le_refl _, Nat.zero_le _, by simp, .inl ⟨rfl, rfl⟩⟩⟩
      cases a <;> simp [Builtin.append_, Sem.run_bind, run_und ht.und, run_und ht2.und, run_size hs, Result.andThen, Builtin.lenOf, f2 w hw, storeCells]
    · have hg : w.heap[b']? = some (.cells cs e m) := hCG.get _ _ (by simp)
      obtain ⟨w', q1, q2, q3, q4⟩ := run_storeCells (P := P) (b := b') (o := o + len * s) vs 0 w cs hg h1 (by
        have : (len + n) * s ≤ cap * s := Nat.mul_le_mul_right s hroom
        rw [Nat.add_mul] at this
        omega) hsoft.or
      refine ⟨.slice (some ⟨b', o, none⟩) (len + n) cap, w', _, ?_, q2, (Upd.one (S := G)).hold hCG q3 q4, k _ _ cap ⟨hroom, hmax, ?_, .inr ⟨b', o, _, m, rfl, rfl, by rw [setCells_size]; exact hsoft, ?_, ?_⟩⟩⟩
      · simp [Builtin.append_, Sem.run_bind, run_und ht.und, run_und ht2.und, run_size hs, Result.andThen, Builtin.lenOf, f2 w hw, hroom, add_mk, q1]
      · rw [List.length_append, hlen, hlv, Nat.add_mul]
      · rw [setCells_size]; exact hbig
      · intro j hj
        rw [List.length_append] at hj
        have hmul : (len + n) * s ≤ cap * s := Nat.mul_le_mul_right s hroom
        rw [Nat.add_mul] at hmul
        rw [get_setCells _ _ _ _ (by omega)]
        by_cases hlt : j < us.length
        · rw [if_neg (by omega), hcs j hlt, List.getElem?_append_left hlt]
        · rw [if_pos (by omega), List.getElem?_append_right (by omega)]
          congr 1; omega
  · have hge := grownCap_ge w (len + n) cap e
    have hcm := grownCap_le_maxLen w (len + n) cap e hm
    have hn : ¬ (len + n ≤ cap) := hroom
    have h63' : ¬ (9223372036854775807 < ((len : Int) + (n : Int))) := by simp only [maxLen] at hm; omega
    have h48' : ¬ (281474976710656 < Builtin.nextslicecap (len + n) cap * i.bytes) := by
      rw [hby]
      have := growslice_fits (by omega : cap < len + n) hb
      omega
    have f1' := f1 w.drew ⟨hCG.nd, hCG.get⟩
    have f2' := f2 w.drew ⟨hw.nd, hw.get⟩
    obtain ⟨cells, hcells⟩ : ∃ cells : Array Value, cells = us.toArray ++ vs.toArray ++ Builtin.zeroCells z.cells (grownCap w (len + n) cap e - (len + n)) := ⟨_, rfl⟩
    refine ⟨.slice (some ⟨w.heap.size, 0, none⟩) (len + n) (grownCap w (len + n) cap e), w.drew.alloc (.cells cells e), [(w.heap.size, .cells cells e (0, 0))] :: G, ?_, ⟨rfl, rfl, rfl, by simp⟩, ?_, k _ _ _ ⟨hge, hcm, ?_, .inr ⟨_, 0, cells, (0, 0), rfl, rfl, .inl rfl, ?_, ?_⟩⟩⟩
    · rw [hcells]
      simp [Builtin.append_, Sem.run_bind, run_und ht.und, run_und ht2.und, run_size hs, run_zero hs, Result.andThen, typeInfo, program, Sem.run, hi, hn, h63', h48', Question.forced, Builtin.lenOf, f1', f2', newRow, newObj, grownCap, choose]
      generalize Builtin.zeroCells _ _ = X
      rw [show us.toArray ++ (vs.toArray ++ X) = (us ++ vs).toArray ++ X from by apply Array.ext'; simp]
      rfl
    · refine Hold.new (w := w) (o := .cells cells e (0, 0)) ?_ rfl
      exact hCG.sub (by simp)
    · rw [List.length_append, hlen, hlv, Nat.add_mul]
    · rw [hcells]
      simp only [Array.size_append, List.size_toArray, size_zeroCells, hz, hlen, hlv, ← Nat.add_mul]
      rw [Nat.zero_add]
      exact Nat.mul_le_mul_right s (by omega)
    · intro j hj
      rw [hcells, Nat.zero_add, Array.getElem?_append_left (by simpa using hj)]
      simp

/-! ### Slices of slices -/

def cutA (s : Nat) (a : Option Addr) (l m : Nat) : Option Addr := if m = l then a else a.map (·.add (l * s))

theorem rd_cut {s : Nat} {S : State} {a : Option Addr} {len : Nat} {us : List Value} (h : Rd s S a len us) {l h' m : Nat} (h1 : l ≤ h') (h2 : h' ≤ len) (h3 : h' ≤ m) :
    Rd s S (cutA s a l m) (h' - l) ((us.drop (l * s)).take ((h' - l) * s)) := by
  obtain ⟨hl, hne⟩ := h
  have e1 : l * s + (h' - l) * s = h' * s := by rw [← Nat.add_mul]; congr 1; omega
  have e2 : h' * s ≤ len * s := Nat.mul_le_mul_right s h2
  have hlen : ((us.drop (l * s)).take ((h' - l) * s)).length = (h' - l) * s := by rw [List.length_take, List.length_drop]; omega
  refine ⟨hlen, fun hn => ?_⟩
  have hpos : 0 < (h' - l) * s := by rw [← hlen]; exact List.length_pos_iff.2 hn
  have hlt : l < h' := by
    rcases Nat.lt_or_ge l h' with h | h
    · exact h
    · rw [show h' - l = 0 from by omega, Nat.zero_mul] at hpos; omega
  obtain ⟨b, o, cs, e, mm, rfl, hb, hc⟩ := hne (by intro h0; subst h0; simp at hl; omega)
  refine ⟨b, o + l * s, cs, e, mm, ?_, hb, fun i hi => ?_⟩
  · unfold cutA; rw [if_neg (by omega)]; simp [add_mk]
  · rw [hlen] at hi
    rw [show o + l * s + i = o + (l * s + i) from by omega, hc _ (by omega), List.getElem?_take_of_lt hi, List.getElem?_drop]
theorem own_cut {s : Nat} {e : TypeId} {C : Chunk} {a : Option Addr} {len cap : Nat} {us : List Value} (h : Own s e C a len cap us) {l h' m : Nat} (h1 : l ≤ h') (h2 : h' ≤ len) (h3 : h' ≤ m) (h4 : m ≤ cap) :
    Own s e C (cutA s a l m) (h' - l) (m - l) ((us.drop (l * s)).take ((h' - l) * s)) := by
  obtain ⟨q1, q2, hl, hcase⟩ := h
  have e1 : l * s + (h' - l) * s = h' * s := by rw [← Nat.add_mul]; congr 1; omega
  have e2 : h' * s ≤ len * s := Nat.mul_le_mul_right s h2
  have hlen : ((us.drop (l * s)).take ((h' - l) * s)).length = (h' - l) * s := by rw [List.length_take, List.length_drop]; omega
  refine ⟨by omega, by omega, hlen, ?_⟩
  rcases hcase with ⟨rfl, rfl⟩ | ⟨b, o, cs, m0, rfl, rfl, hsoft, hbig, hc⟩
  · exact .inl ⟨by omega, rfl⟩
  · right
    by_cases hm : m = l
    · refine ⟨b, o, cs, m0, by unfold cutA; rw [if_pos hm], rfl, hsoft, by rw [hm]; simp; omega, fun i hi => ?_⟩
      rw [hlen, show h' - l = 0 from by omega, Nat.zero_mul] at hi
      omega
    · refine ⟨b, o + l * s, cs, m0, by unfold cutA; rw [if_neg hm]; simp [add_mk], rfl, hsoft, ?_, fun i hi => ?_⟩
      · have : l * s + (m - l) * s = m * s := by rw [← Nat.add_mul]; congr 1; omega
        have : m * s ≤ cap * s := Nat.mul_le_mul_right s h4
        omega
      · rw [hlen] at hi
        rw [show o + l * s + i = o + (l * s + i) from by omega, hc _ (by omega), List.getElem?_take_of_lt hi, List.getElem?_drop]

theorem rd_cut1 {α : Type} {f : α → Value} {S : State} {a : Option Addr} {len : Nat} {us : List α} (h : Rd 1 S a len (us.map f)) {l h' m : Nat} (h1 : l ≤ h') (h2 : h' ≤ len) (h3 : h' ≤ m) :
    Rd 1 S (cutA 1 a l m) (h' - l) (((us.drop l).take (h' - l)).map f) := by
  have q := rd_cut h h1 h2 h3
  simpa only [Nat.mul_one, List.map_take, List.map_drop] using q
theorem own_cut1 {α : Type} {f : α → Value} {e : TypeId} {C : Chunk} {a : Option Addr} {len cap : Nat} {us : List α} (h : Own 1 e C a len cap (us.map f)) {l h' m : Nat} (h1 : l ≤ h') (h2 : h' ≤ len) (h3 : h' ≤ m) (h4 : m ≤ cap) :
    Own 1 e C (cutA 1 a l m) (h' - l) (m - l) (((us.drop l).take (h' - l)).map f) := by
  have q := own_cut h h1 h2 h3 h4
  simpa only [Nat.mul_one, List.map_take, List.map_drop] using q

theorem cut_hi {t e : TypeId} {z : Value} {s by_ : Nat} {κ : Value → Prop} [ht : TSlice P t e] [hs : TSized P e z s by_] {a : Option Addr} {len cap : Nat} {k : IntKind} {h : Int} (h0 : 0 ≤ h) (h1 : h ≤ cap) :
    PureW P (Instr.sliceAt t (.slice a len cap) none (some (.int k h)) none) κ = κ (.slice (cutA s a 0 cap) (h.toNat - 0) (cap - 0)) :=
  pureW_eq (fun w => by
    simp only [Instr.sliceAt, Instr.slice, Sem.run_bind, run_und ht.und, Result.andThen, Instr.sliceBounds, Instr.sliceBound, asIntOf, Sem.run_pure]
    simp [run_size hs, Result.andThen, Sem.run_bind, cutA, h0, h1]) κ
theorem cut_lo {t e : TypeId} {z : Value} {s by_ : Nat} {κ : Value → Prop} [ht : TSlice P t e] [hs : TSized P e z s by_] {a : Option Addr} {len cap : Nat} {j : IntKind} {l : Int} (l0 : 0 ≤ l) (l1 : l ≤ len) :
    PureW P (Instr.sliceAt t (.slice a len cap) (some (.int j l)) none none) κ = κ (.slice (cutA s a l.toNat cap) (len - l.toNat) (cap - l.toNat)) :=
  pureW_eq (fun w => by
    simp only [Instr.sliceAt, Instr.slice, Sem.run_bind, run_und ht.und, Result.andThen, Instr.sliceBounds, Instr.sliceBound, asIntOf, Sem.run_pure]
    simp [run_size hs, Result.andThen, Sem.run_bind, cutA, l0, l1]) κ
theorem cut_lohi {t e : TypeId} {z : Value} {s by_ : Nat} {κ : Value → Prop} [ht : TSlice P t e] [hs : TSized P e z s by_] {a : Option Addr} {len cap : Nat} {j k : IntKind} {l h : Int} (h0 : 0 ≤ h) (h1 : h ≤ cap) (l0 : 0 ≤ l) (l1 : l ≤ h) :
    PureW P (Instr.sliceAt t (.slice a len cap) (some (.int j l)) (some (.int k h)) none) κ = κ (.slice (cutA s a l.toNat cap) (h.toNat - l.toNat) (cap - l.toNat)) :=
  pureW_eq (fun w => by
    have l1' : l ≤ max h 0 := by omega
    simp only [Instr.sliceAt, Instr.slice, Sem.run_bind, run_und ht.und, Result.andThen, Instr.sliceBounds, Instr.sliceBound, asIntOf, Sem.run_pure]
    simp [run_size hs, Result.andThen, Sem.run_bind, cutA, h0, h1, l0, l1, l1']) κ
theorem cut_all {t e : TypeId} {z : Value} {s by_ : Nat} {κ : Value → Prop} [ht : TSlice P t e] [hs : TSized P e z s by_] {a : Option Addr} {len cap : Nat}  :
    PureW P (Instr.sliceAt t (.slice a len cap) none none none) κ = κ (.slice (cutA s a 0 cap) (len - 0) (cap - 0)) :=
  pureW_eq (fun w => by
    simp only [Instr.sliceAt, Instr.slice, Sem.run_bind, run_und ht.und, Result.andThen, Instr.sliceBounds, Instr.sliceBound, asIntOf, Sem.run_pure]
    simp [run_size hs, Result.andThen, Sem.run_bind, cutA]) κ
theorem cut_himax {t e : TypeId} {z : Value} {s by_ : Nat} {κ : Value → Prop} [ht : TSlice P t e] [hs : TSized P e z s by_] {a : Option Addr} {len cap : Nat} {k q : IntKind} {h m : Int} (m0 : 0 ≤ m) (m1 : m ≤ cap) (h0 : 0 ≤ h) (h1 : h ≤ m) :
    PureW P (Instr.sliceAt t (.slice a len cap) none (some (.int k h)) (some (.int q m))) κ = κ (.slice (cutA s a 0 m.toNat) (h.toNat - 0) (m.toNat - 0)) :=
  pureW_eq (fun w => by
    have h1' : h ≤ max m 0 := by omega
    simp only [Instr.sliceAt, Instr.slice, Sem.run_bind, run_und ht.und, Result.andThen, Instr.sliceBounds, Instr.sliceBound, asIntOf, Sem.run_pure]
    simp [run_size hs, Result.andThen, Sem.run_bind, cutA, m0, m1, h0, h1, h1']) κ
theorem cut_lohimax {t e : TypeId} {z : Value} {s by_ : Nat} {κ : Value → Prop} [ht : TSlice P t e] [hs : TSized P e z s by_] {a : Option Addr} {len cap : Nat} {j k q : IntKind} {l h m : Int} (m0 : 0 ≤ m) (m1 : m ≤ cap) (h0 : 0 ≤ h) (h1 : h ≤ m) (l0 : 0 ≤ l) (l1 : l ≤ h) :
    PureW P (Instr.sliceAt t (.slice a len cap) (some (.int j l)) (some (.int k h)) (some (.int q m))) κ = κ (.slice (cutA s a l.toNat m.toNat) (h.toNat - l.toNat) (m.toNat - l.toNat)) :=
  pureW_eq (fun w => by
    have h1' : h ≤ max m 0 := by omega
    have l1' : l ≤ max h 0 := by omega
    simp only [Instr.sliceAt, Instr.slice, Sem.run_bind, run_und ht.und, Result.andThen, Instr.sliceBounds, Instr.sliceBound, asIntOf, Sem.run_pure]
    simp [run_size hs, Result.andThen, Sem.run_bind, cutA, m0, m1, h0, h1, l0, l1, h1', l1']) κ

/-! ### New slices -/

theorem fill_all : ∀ (vs done rest : List Value), (∀ v ∈ vs, Value.cell1 v) → rest.length = vs.length →
    Instr.fill (fun i => some (i, 1)) (done ++ rest).toArray ((vs.zipIdx done.length).map fun x => (x.2, x.1)) = some (done ++ vs).toArray
  | [], done, rest, hc, hr => by
    have : rest = [] := List.length_eq_zero_iff.1 hr
    subst this; simp [Instr.fill]
  | v :: vs, done, [], hc, hr => by simp at hr
  | v :: vs, done, r :: rest, hc, hr => by
    have hcv : v.cells = #[v] := by have := hc v (List.mem_cons_self ..); cases v <;> first | exact this.elim | rfl
    have ih := fill_all vs (done ++ [v]) rest (fun u hu => hc u (List.mem_cons_of_mem _ hu)) (by simpa using hr)
    simp only [List.zipIdx_cons, List.map_cons, Instr.fill, hcv]
    rw [if_neg (by simp)]
    simp only [List.length_append, List.length_cons, List.length_nil, List.append_assoc, List.cons_append, List.nil_append, Nat.zero_add] at ih
    rw [← ih]
    have e : (#[v].zipIdx.foldl (fun cs x => match x with | (c, j) => cs.setIfInBounds (done.length + j) c) (done ++ r :: rest).toArray) = (done ++ v :: rest).toArray := by
      apply Array.ext'
      simp
    rw [← e]

/-- A slice written out: every element. -/
theorem build_slice {t e : TypeId} {z : Value} {by_ : Nat} [ht : TSlice P t e] [hs : TSized P e z 1 by_] (hz : z.cells.size = 1) {n : Nat} {ps : List (Nat × Value)} {S : State} {κ : Value → State → Prop} (hn : n ≤ 16777216)
    (hi : ps.map (·.1) = List.range n) (hc : ∀ v ∈ ps.map (·.2), Value.cell1 v)
    (k : ∀ b : Nat, κ (.slice (some ⟨b, 0, none⟩) n n) ([(b, .cells (ps.map (·.2)).toArray e (0, 0))] :: S)) : ValW P (Instr.buildSlice t n ps.toArray) S κ := by
  refine ⟨fun w hw => ?_⟩
  have hlen : ps.length = n := by have := congrArg List.length hi; simpa using this
  have hps : ps = ((ps.map (·.2)).zipIdx 0).map fun x => (x.2, x.1) := by
    apply List.ext_getElem?
    intro i
    have h1 := congrArg (fun l => l[i]?) hi
    simp only [List.getElem?_map, List.getElem?_range] at h1
    simp only [List.getElem?_map, List.getElem?_zipIdx]
    cases hp : ps[i]? with
    | none => simp
    | some p =>
      rw [hp] at h1
      have hlt := (List.getElem?_eq_some_iff.1 hp).1
      rw [List.getElem?_range (by omega)] at h1
      simp at h1
      obtain ⟨p1, p2⟩ := p
      simp at h1 ⊢
      exact h1
  have hf := fill_all (ps.map (·.2)) [] (List.replicate n z.cells[0]!) hc (by simp [hlen])
  simp only [List.nil_append, List.length_nil] at hf
  rw [← hps] at hf
  refine ⟨_, { w with heap := w.heap.push (.cells (ps.map (·.2)).toArray e) }, _, ?_, ext_push rfl, hw.new rfl, k _⟩
  have hmod : (Array.range n).map (fun x => z.cells[x % z.cells.size]!) = (List.replicate n z.cells[0]!).toArray := by
    apply Array.ext'
    simp [hz, Nat.mod_one]
    rw [List.map_const', List.length_range]
  by_cases h0 : n = 0
  · subst h0
    have : ps = [] := List.length_eq_zero_iff.1 hlen
    subst this
    simp [Instr.buildSlice, Sem.run_bind, run_und ht.und, run_size hs, Result.andThen, Instr.fill, newRow, newObj, Sem.run, show Array.range 0 = #[] from rfl]
  · simp [Instr.buildSlice, Sem.run_bind, run_und ht.und, run_size hs, run_zero hs, Result.andThen, newRow, newObj, Sem.run, h0, show ¬ 16777216 < n from by omega]
    rw [hmod, hf]
    rfl

/-! ### Elements -/

def elA (a : Option Addr) (i : Nat) : Addr := (a.getD ⟨0, 0, none⟩).add i
theorem index_rd {t e : TypeId} {z : Value} {by_ : Nat} {S : State} {a : Option Addr} {len cap : Nat} {us : List Value} {k : IntKind} {i : Int} {κ : Value → Prop} [h : TSlice P t e] [hs : TSized P e z 1 by_]
    (hr : Rd 1 S a len us) (h0 : 0 ≤ i) (h1 : i < len) : PureW P (Instr.indexAt t (.slice a len cap) (.int k i)) κ = κ (.pointer (some (elA a i.toNat))) := by
  obtain ⟨hl, hne⟩ := hr
  obtain ⟨b, o, cs, et, m, rfl, _, _⟩ := hne (by intro e; subst e; simp at hl; omega)
  rw [index_addr h0 h1]
  simp [elA, add_mk]
theorem rd_load {t : TypeId} {S : State} {a : Option Addr} {len : Nat} {us : List Value} {i : Nat} {v : Value} {κ : Value → Prop} [hf : TFlat P t]
    (hr : Rd 1 S a len us) (hv : us[i]? = some v) (k : κ v) : ReadW P (Instr.loadAt t (.pointer (some (elA a i)))) S κ := by
  have hi := (List.getElem?_eq_some_iff.1 hv).1
  obtain ⟨hl, hne⟩ := hr
  obtain ⟨b, o, cs, et, m, rfl, hb, hc⟩ := hne (by intro e; subst e; simp at hi)
  simp only [elA, Option.getD_some, add_mk]
  exact load_one hb (by rw [hc i hi]; exact hv) k

end Go.Ost

/- Words of 32 bits and bytes, as values, and the operations on them. Conditions: as each says. -/
set_option linter.unusedSimpArgs false
set_option linter.unusedVariables false
namespace Go.Ost
open Go

variable {P : Program}

abbrev W32 := BitVec 32
def b32 (x : BitVec 32) : Value := .int .u32 x.toNat
def b8 (x : UInt8) : Value := .int .u8 x.toNat
theorem b8_cell (x : UInt8) : Value.cell1 (b8 x) := trivial
theorem b32_cell (x : BitVec 32) : Value.cell1 (b32 x) := trivial

theorem wrap32_mod (n : Nat) : IntKind.u32.wrap (n : Int) = ((n % 4294967296 : Nat) : Int) := by
  show ((n : Int) % (2 ^ 32 : Int)) = _
  omega
theorem ofInt_nat {k : Nat} (x : BitVec k) : BitVec.ofInt k (x.toNat : Int) = x := by
  apply BitVec.eq_of_toNat_eq
  simp

section words
variable (t : TypeId) (x y : Operand) (a b : BitVec 32) (κ : Value → Prop)
theorem w_add : PureW P (do eqGuard .add t x y (b32 a) (b32 b); binOp .add t (b32 a) (b32 b)) κ = κ (b32 (a + b)) := by
  refine (bin_add t x y .u32 _ _ κ).trans ?_
  rw [← Int.natCast_add, wrap32_mod]; rfl
theorem w_sub : PureW P (do eqGuard .sub t x y (b32 a) (b32 b); binOp .sub t (b32 a) (b32 b)) κ = κ (b32 (a - b)) := by
  refine (bin_sub t x y .u32 _ _ κ).trans ?_
  congr 2
  have h1 := a.isLt
  have h2 := b.isLt
  rw [show ((a.toNat : Int) - b.toNat) = ((4294967296 - b.toNat + a.toNat : Nat) : Int) - 4294967296 from by omega]
  rw [BitVec.toNat_sub]
  show ((_ : Int) % (2 ^ 32 : Int)) = _
  omega
theorem w_bits {o : BinOp} {r : BitVec 32} (h : ∀ w, (Op.intBits o .u32 a.toNat b.toNat).run P w = .ok (.int .u32 (IntKind.u32.wrap r.toNat)) w) (hb : ∀ w, (do eqGuard o t x y (b32 a) (b32 b); binOp o t (b32 a) (b32 b) : Sem Value).run P w = (Op.intBits o .u32 a.toNat b.toNat).run P w) :
    PureW P (do eqGuard o t x y (b32 a) (b32 b); binOp o t (b32 a) (b32 b)) κ = κ (b32 r) :=
  pureW_eq (fun w => by
    rw [hb, h, wrap32_mod]
    have := r.isLt
    rw [Nat.mod_eq_of_lt (by simpa using this)]; rfl) κ
theorem w_and : PureW P (do eqGuard .and t x y (b32 a) (b32 b); binOp .and t (b32 a) (b32 b)) κ = κ (b32 (a &&& b)) :=
  w_bits t x y a b κ (fun w => by
    show Result.ok (Value.int .u32 (IntKind.u32.wrap ((BitVec.ofInt 32 (a.toNat : Int) &&& BitVec.ofInt 32 (b.toNat : Int)).toNat : Int))) w = _
    rw [ofInt_nat, ofInt_nat]) (fun w => by simp [eqGuard, binOp, b32])
theorem w_or : PureW P (do eqGuard .or t x y (b32 a) (b32 b); binOp .or t (b32 a) (b32 b)) κ = κ (b32 (a ||| b)) :=
  w_bits t x y a b κ (fun w => by
    show Result.ok (Value.int .u32 (IntKind.u32.wrap ((BitVec.ofInt 32 (a.toNat : Int) ||| BitVec.ofInt 32 (b.toNat : Int)).toNat : Int))) w = _
    rw [ofInt_nat, ofInt_nat]) (fun w => by simp [eqGuard, binOp, b32])
theorem w_xor : PureW P (do eqGuard .xor t x y (b32 a) (b32 b); binOp .xor t (b32 a) (b32 b)) κ = κ (b32 (a ^^^ b)) :=
  w_bits t x y a b κ (fun w => by
    show Result.ok (Value.int .u32 (IntKind.u32.wrap ((BitVec.ofInt 32 (a.toNat : Int) ^^^ BitVec.ofInt 32 (b.toNat : Int)).toNat : Int))) w = _
    rw [ofInt_nat, ofInt_nat]) (fun w => by simp [eqGuard, binOp, b32])
theorem w_not : PureW P (Op.unary .xor (b32 a)) κ = κ (b32 (~~~a)) :=
  pureW_eq (fun w => by
    have h : BitVec.ofInt 32 4294967295 = BitVec.allOnes 32 := by decide
    show Result.ok (Value.int .u32 (IntKind.u32.wrap ((BitVec.ofInt 32 4294967295 ^^^ BitVec.ofInt 32 (a.toNat : Int)).toNat : Int))) w = _
    rw [ofInt_nat, h, BitVec.allOnes_xor, wrap32_mod, Nat.mod_eq_of_lt (~~~a).isLt]
    rfl) κ
theorem w_shl {j : IntKind} {n : Int} (h0 : 0 ≤ n) (h1 : n ≤ 32) : PureW P (do eqGuard .shl t x y (b32 a) (.int j n); binOp .shl t (b32 a) (.int j n)) κ = κ (b32 (a <<< n.toNat)) :=
  pureW_eq (fun w => by
    have e : min n.toNat IntKind.u32.bits = n.toNat := by show min n.toNat 32 = n.toNat; omega
    have h3 : ¬ n < 0 := by omega
    show (Op.shift .shl .u32 (a.toNat : Int) j n).run P w = _
    rw [Op.shift, if_neg h3, e]
    show Result.ok (Value.int .u32 (IntKind.u32.wrap ((a.toNat : Int) * 2 ^ n.toNat))) w = _
    rw [show ((a.toNat : Int) * 2 ^ n.toNat) = ((a.toNat * 2 ^ n.toNat : Nat) : Int) from by simp, wrap32_mod, ← Nat.shiftLeft_eq]
    rfl) κ
theorem w_shr {j : IntKind} {n : Int} (h0 : 0 ≤ n) (h1 : n ≤ 32) : PureW P (do eqGuard .shr t x y (b32 a) (.int j n); binOp .shr t (b32 a) (.int j n)) κ = κ (b32 (a >>> n.toNat)) :=
  pureW_eq (fun w => by
    have e : min n.toNat IntKind.u32.bits = n.toNat := by show min n.toNat 32 = n.toNat; omega
    have h3 : ¬ n < 0 := by omega
    show (Op.shift .shr .u32 (a.toNat : Int) j n).run P w = _
    rw [Op.shift, if_neg h3, e]
    show Result.ok (Value.int .u32 (Int.fdiv (a.toNat : Int) (2 ^ n.toNat))) w = _
    rw [show Int.fdiv (a.toNat : Int) (2 ^ n.toNat) = ((a.toNat / 2 ^ n.toNat : Nat) : Int) from by
      rw [Int.fdiv_eq_ediv_of_nonneg _ (Int.le_of_lt (Int.pow_pos (by decide)))]
      simp, ← Nat.shiftRight_eq_div_pow]
    rfl) κ
end words

/-! ### Bytes and strings -/

def str (bs : List UInt8) : ByteArray := ⟨bs.toArray⟩
theorem str_inj {a b : List UInt8} (h : str a = str b) : a = b := by
  have := congrArg ByteArray.data h
  simpa [str] using this
theorem push_str (l : List UInt8) : ∀ (r : ByteArray), (l.map fun x => ((x.toNat : Nat) : Int)).foldl (fun r n => r.push (UInt8.ofNat n.toNat)) r = ⟨r.data ++ l.toArray⟩ := by
  induction l with
  | nil => intro r; cases r; simp
  | cons x l ih =>
    intro r
    simp only [List.map_cons, List.foldl_cons]
    rw [ih]
    simp [ByteArray.push]

/-- Bytes, as a string. -/
theorem conv_bytes_string {src dst e : TypeId} [hs : TSlice P src e] [he : TInt P e .u8] [hd : TStr P dst] {S : State} {κ : Value → State → Prop} {a : Option Addr} {len cap : Nat} {bs : List UInt8} (h : Rd 1 S a len (bs.map b8))
    (k : κ (.string (str bs)) S) : ConvW P src dst (.slice a len cap) S κ := by
  refine ⟨fun w hw => ⟨_, w, S, ?_, Ext.refl w, hw, k⟩⟩
  rw [run_convert_bytes_string w src dst e a len cap hs.und he.und hd.und]
  have f := rd_first (P := P) (c := cap) h hw
  cases a with
  | none =>
    have : bs = [] := by
      have h2 := h.2
      cases bs with
      | nil => rfl
      | cons x l => obtain ⟨_, _, _, _, _, h3, _⟩ := h2 (by simp); cases h3
    subst this; rfl
  | some a =>
    simp only [Builtin.firstCells, Nat.mul_one] at f
    rw [run_bytesToString w a len cap (bs.map fun x => ((x.toNat : Nat) : Int)) (by rw [f]; simp [b8, Function.comp_def])]
    rw [push_str]
    congr 2
    simp [str]

theorem run_mark {w : World} {b o : Nat} {cs : Array Value} {e : TypeId} {m : Nat × Nat} (h : w.heap[b]? = some (.cells cs e m)) (hm : Soft cs.size m) :
    ∃ w' m', (markStringish ⟨b, o, none⟩).run P w = .ok () w' ∧ Ext w w' ∧ Soft cs.size m' ∧ w'.heap[b]? = some (.cells cs e m') ∧ ∀ k, k ≠ b → w'.heap[k]? = w.heap[k]? := by
  obtain ⟨lo, hi⟩ := m
  refine ⟨w.freeze { block := b, off := cs.size } 1, if lo == hi then (cs.size, cs.size + 1) else (min lo cs.size, max hi (cs.size + 1)), ?_, ?_, ?_, ?_, ?_⟩
  · have hsh : w.shape? b = some (e, cs.size) := by simp [World.shape?, h]
    simp [markStringish, shape, freeze, Sem.run_bind, Sem.run, hsh, Result.andThen]
  · exact ⟨rfl, rfl, rfl, by simp [World.freeze]⟩
  · unfold Soft at hm ⊢
    split
    · exact .inr (Nat.le_refl _)
    · rename_i hne
      rcases hm with hm | hm
      · exact absurd hm (by simpa using hne)
      · right; simp only at hm ⊢; omega
  · simp only [World.freeze]
    rw [if_neg (by decide)]
    simp only [Array.getElem?_modify, if_true, h, Option.map_some]
  · intro k hk
    simp only [World.freeze]
    rw [if_neg (by decide)]
    simp only [Array.getElem?_modify]
    rw [if_neg (Ne.symm hk)]

/-- Bytes of one's own, named otherwise. -/
theorem conv_same {t e : TypeId} [ht : TSlice P t e] [he : TInt P e .u8] {S G : State} {κ : Value → State → Prop} {C : Chunk} {ad : Addr} {len cap : Nat} {us : List Value} (ho : Own 1 e C (some ad) len cap us) (hp : Pick C S G)
    (hpos : 0 < cap) (k : ∀ C', Own 1 e C' (some ad) len cap us → κ (.slice (some ad) len cap) (C' :: G)) : ConvW P t t (.slice (some ad) len cap) S κ := by
  refine ⟨fun w hw => ?_⟩
  obtain ⟨h1, h2, h3, h4⟩ := ho
  rcases h4 with ⟨h5, _⟩ | ⟨b, o, cs, m, h5, rfl, hs, hbig, hc⟩
  · omega
  · cases h5
    have hCG := hw.perm hp.perm
    obtain ⟨w', m', q1, q2, q3, q4, q5⟩ := run_mark (P := P) (o := o) (hCG.get b (.cells cs e m) (by simp)) hs
    refine ⟨_, w', _, ?_, q2, (Upd.one (S := G)).hold hCG q4 q5, k [(b, .cells cs e m')] ⟨h1, h2, h3, .inr ⟨b, o, cs, m', rfl, rfl, q3, hbig, hc⟩⟩⟩
    simp [convert, Sem.run_bind, run_und ht.und, run_und he.und, Result.andThen, q1]

/-- A string, as bytes of one's own. -/
theorem conv_string_bytes {src dst e : TypeId} [hs : TStr P src] [hd : TSlice P dst e] [he : TInt P e .u8] {S : State} {κ : Value → State → Prop} {bs : List UInt8} (hm : bs.length ≤ maxLen)
    (k : ∀ C a cap, Own 1 e C (some a) bs.length cap (bs.map b8) → κ (.slice (some a) bs.length cap) (C :: S)) : ConvW P src dst (.string (str bs)) S κ := by
  refine ⟨fun w hw => ?_⟩
  have hge := grownCap_ge w bs.length 0 e
  have hcm := grownCap_le_maxLen w bs.length 0 e hm
  obtain ⟨cells, hcells⟩ : ∃ cells : Array Value, cells = (bs.map b8).toArray ++ Array.replicate (grownCap w bs.length 0 e - bs.length) (.int .u8 0) := ⟨_, rfl⟩
  have hw1 : Hold (w.drew.alloc (.cells cells e)) ([(w.heap.size, .cells cells e (0, 0))] :: S) := Hold.new (w := w) hw rfl
  obtain ⟨w', m', q1, q2, q3, q4, q5⟩ := run_mark (P := P) (o := 0) (hw1.get w.heap.size (.cells cells e (0, 0)) (by simp)) (.inl rfl)
  refine ⟨.slice (some ⟨w.heap.size, 0, none⟩) bs.length (grownCap w bs.length 0 e), w', _, ?_, Ext.trans (a := w) (b := w.drew.alloc (.cells cells e)) ⟨rfl, rfl, rfl, by simp⟩ q2, (Upd.one (S := S)).hold hw1 q4 q5, k [(w.heap.size, .cells cells e m')] _ _ ⟨hge, hcm, by simp, .inr ⟨_, 0, cells, m', rfl, rfl, q3, ?_, ?_⟩⟩⟩
  · have e1 : (str bs).data.map (fun b => Value.int .u8 b.toNat) = (bs.map b8).toArray := by simp [str, b8, Function.comp_def]
    have e2 : (str bs).size = bs.length := by simp [str, ByteArray.size]
    have r : (convert src dst (.string (str bs))).run P w = (Conv.stringToBytes e (str bs)).run P w := by
      simp [convert, Sem.run_bind, run_und hs.und, run_und hd.und, run_und he.und, Result.andThen]
    rw [r]
    unfold Conv.stringToBytes
    simp only [Sem.run_bind, e1, e2]
    have c1 : (choose (Question.appendCap bs.length 0 e)).run P w = .ok (grownCap w bs.length 0 e) w.drew := by rw [run_choose_drew]; simp [Question.forced, grownCap]
    have c2 : (newRow e cells).run P w.drew = .ok ⟨w.heap.size, 0, none⟩ (w.drew.alloc (.cells cells e)) := rfl
    rw [c1]
    simp only [Result.andThen]
    rw [← hcells, c2]
    simp only [Result.andThen]
    rw [q1]
    rfl
  · rw [hcells]; simp; omega
  · intro i hi
    rw [hcells, Nat.zero_add, Array.getElem?_append_left (by simpa using hi)]
    simp

/-! ### Conversions of words -/

theorem cq_b8_32 {s d : TypeId} [hs : TInt P s .u8] [hd : TInt P d .u32] {x : UInt8} {κ : Value → Prop} : PureW P (convert s d (b8 x)) κ = κ (b32 (BitVec.ofNat 32 x.toNat)) := by
  show PureW P (convert s d (.int .u8 (x.toNat : Int))) κ = _
  rw [conv_int, wrap32_mod]
  rfl
theorem cq_b32_8 {s d : TypeId} [hs : TInt P s .u32] [hd : TInt P d .u8] {x : W32} {κ : Value → Prop} : PureW P (convert s d (b32 x)) κ = κ (b8 (UInt8.ofNat x.toNat)) := by
  show PureW P (convert s d (.int .u32 (x.toNat : Int))) κ = _
  rw [conv_int]
  have : IntKind.u8.wrap (x.toNat : Int) = ((UInt8.ofNat x.toNat).toNat : Int) := by
    show ((x.toNat : Int) % (2 ^ 8 : Int)) = _
    rw [UInt8.toNat_ofNat']
    omega
  rw [this]; rfl
theorem cq_b32_64 {s d : TypeId} [hs : TInt P s .u32] [hd : TInt P d .u64] {x : W32} {κ : Value → Prop} : PureW P (convert s d (b32 x)) κ = κ (.int .u64 x.toNat) := by
  show PureW P (convert s d (.int .u32 (x.toNat : Int))) κ = _
  rw [conv_int, wrap_u64 (by omega) (by have := x.isLt; omega)]


theorem conv_b8_32 {s d : TypeId} [hs : TInt P s .u8] [hd : TInt P d .u32] {x : UInt8} {S : State} {κ : Value → State → Prop} : ConvW P s d (b8 x) S κ = κ (b32 (BitVec.ofNat 32 x.toNat)) S := by
  show PureW P (convert s d (.int .u8 (x.toNat : Int))) (fun v => κ v S) = _
  rw [conv_int, wrap32_mod]
  rfl
theorem conv_b8_int {s d : TypeId} {k : IntKind} [hs : TInt P s .u8] [hd : TInt P d k] {x : UInt8} {S : State} {κ : Value → State → Prop} (h : k.wrap (x.toNat : Int) = x.toNat) : ConvW P s d (b8 x) S κ = κ (.int k x.toNat) S := by
  show PureW P (convert s d (.int .u8 (x.toNat : Int))) (fun v => κ v S) = _
  rw [conv_int, h]
theorem conv_b32_8 {s d : TypeId} [hs : TInt P s .u32] [hd : TInt P d .u8] {x : W32} {S : State} {κ : Value → State → Prop} : ConvW P s d (b32 x) S κ = κ (b8 (UInt8.ofNat x.toNat)) S := by
  show PureW P (convert s d (.int .u32 (x.toNat : Int))) (fun v => κ v S) = _
  rw [conv_int]
  have : IntKind.u8.wrap (x.toNat : Int) = ((UInt8.ofNat x.toNat).toNat : Int) := by
    show ((x.toNat : Int) % (2 ^ 8 : Int)) = _
    rw [UInt8.toNat_ofNat']
    omega
  rw [this]; rfl
theorem conv_b32_64 {s d : TypeId} [hs : TInt P s .u32] [hd : TInt P d .u64] {x : W32} {S : State} {κ : Value → State → Prop} : ConvW P s d (b32 x) S κ = κ (.int .u64 x.toNat) S := by
  show PureW P (convert s d (.int .u32 (x.toNat : Int))) (fun v => κ v S) = _
  rw [conv_int, wrap_u64 (by omega) (by have := x.isLt; omega)]
theorem conv_64_b32 {s d : TypeId} {j : IntKind} [hs : TInt P s j] [hd : TInt P d .u32] {n : Nat} {S : State} {κ : Value → State → Prop} : ConvW P s d (.int j (n : Int)) S κ = κ (b32 (BitVec.ofNat 32 n)) S := by
  show PureW P (convert s d (.int j (n : Int))) (fun v => κ v S) = _
  rw [conv_int, wrap32_mod]
  rfl

/-! ### Rows of words -/

def rowW (l : List W32) : Array Value := (l.map b32).toArray
theorem rowW_size (l : List W32) : (rowW l).size = l.length := by simp [rowW]
theorem rowW_get (l : List W32) (i : Nat) (h : i < l.length) : (rowW l)[i]? = some (b32 (l.getD i 0)) := by
  simp [rowW, List.getD, h]
theorem rowW_set (l : List W32) (i : Nat) (x : W32) : (rowW l).setIfInBounds i (b32 x) = rowW (l.set i x) := by
  simp [rowW, List.map_set]
theorem load_w {t e : TypeId} {S : State} {κ : Value → Prop} {b o : Nat} {l : List W32} {m : Nat × Nat} [hf : TFlat P t] (hl : Lies b (.cells (rowW l) e m) S) (ho : o < l.length) (k : κ (b32 (l.getD o 0))) :
    ReadW P (Instr.loadAt t (.pointer (some ⟨b, o, none⟩))) S κ := load_one hl (rowW_get l o ho) k
theorem store_w {t e : TypeId} {z : Value} {by_ : Nat} {S S' : State} {κ : State → Prop} {b o : Nat} {l : List W32} {x : W32} [hs : TSized P t z 1 by_] (hu : Upd b (.cells (rowW l) e (0, 0)) (.cells (rowW (l.set o x)) e (0, 0)) S S')
    (ho : o < l.length) (k : κ S') : UnitW P (Instr.storeAt t (.pointer (some ⟨b, o, none⟩)) (b32 x)) S κ :=
  store_one (cs := rowW l) (b32_cell x) (by rw [rowW_set]; exact hu) (by rw [rowW_size]; exact ho) k

theorem load_rw {t e : TypeId} {z : Value} {s by_ : Nat} {S : State} {κ : Value → Prop} {b : Nat} {l : List W32} {m : Nat × Nat} [hf : TDeep P t] [hs : TSized P t z s by_] (hl : Lies b (.cells (rowW l) e m) S) (h : l.length = s) (k : κ (.agg (rowW l))) :
    ReadW P (Instr.loadAt t (.pointer (some ⟨b, 0, none⟩))) S κ := by
  refine load_agg hl (by rw [rowW_size]; omega) ?_
  have : (rowW l).extract 0 (0 + s) = rowW l := by
    apply Array.ext'; simp [rowW, ← h, List.take_of_length_le]
  rw [this]; exact k
theorem setCells_all : ∀ (vs : List Value) (p u r : List Value), u.length = vs.length → setCells (p ++ (u ++ r)).toArray p.length vs = (p ++ (vs ++ r)).toArray
  | [], p, [], r, _ => rfl
  | v :: vs, p, x :: u, r, h => by
    have ih := setCells_all vs (p ++ [v]) u r (by simpa using h)
    rw [setCells]
    have e : (p ++ (x :: u ++ r)).toArray.setIfInBounds p.length v = (p ++ [v] ++ (u ++ r)).toArray := by
      apply Array.ext'; simp
    rw [e, show p.length + 1 = (p ++ [v]).length from by simp, ih]
    simp
theorem store_rw {t e : TypeId} {z : Value} {s by_ : Nat} {S S' : State} {κ : State → Prop} {b : Nat} {l l' : List W32} [hs : TSized P t z s by_] (hu : Upd b (.cells (rowW l) e (0, 0)) (.cells (rowW l') e (0, 0)) S S')
    (h : l.length = s) (h' : l'.length = s) (k : κ S') : UnitW P (Instr.storeAt t (.pointer (some ⟨b, 0, none⟩)) (.agg (rowW l'))) S κ := by
  refine store_agg (e := e) (cs := rowW l) (S' := S') (by rw [rowW_size]; exact h') (fun v hv => ?_) ?_ (by rw [rowW_size]; omega) k
  · simp only [rowW, List.mem_map] at hv
    obtain ⟨x, _, rfl⟩ := hv
    exact b32_cell x
  · have e := setCells_all (l'.map b32) [] (l.map b32) [] (by simp; omega)
    simp only [List.nil_append, List.append_nil, List.length_nil] at e
    have e2 : setCells (rowW l) 0 (rowW l').toList = rowW l' := e
    rw [e2]; exact hu

/-! ### Words, and something behind them -/

def rowX (l : List W32) (r : List Value) : Array Value := (l.map b32 ++ r).toArray
theorem rowX_size (l : List W32) (r : List Value) : (rowX l r).size = l.length + r.length := by simp [rowX]
theorem rowX_get (l : List W32) (r : List Value) (i : Nat) (h : i < l.length) : (rowX l r)[i]? = some (b32 (l.getD i 0)) := by
  simp only [rowX, List.getElem?_toArray]
  rw [List.getElem?_append_left (by simpa using h)]
  simp [List.getD, h]
theorem rowX_set (l : List W32) (r : List Value) (i : Nat) (h : i < l.length) (x : W32) : (rowX l r).setIfInBounds i (b32 x) = rowX (l.set i x) r := by
  simp only [rowX, List.setIfInBounds_toArray]
  rw [List.set_append_left _ _ (by simpa using h), List.map_set]
theorem load_x {t e : TypeId} {S : State} {κ : Value → Prop} {b o : Nat} {l : List W32} {r : List Value} {m : Nat × Nat} [hf : TFlat P t] (hl : Lies b (.cells (rowX l r) e m) S) (ho : o < l.length) (k : κ (b32 (l.getD o 0))) :
    ReadW P (Instr.loadAt t (.pointer (some ⟨b, o, none⟩))) S κ := load_one hl (rowX_get l r o ho) k
theorem store_x {t e : TypeId} {z : Value} {by_ : Nat} {S S' : State} {κ : State → Prop} {b o : Nat} {l : List W32} {r : List Value} {x : W32} [hs : TSized P t z 1 by_] (hu : Upd b (.cells (rowX l r) e (0, 0)) (.cells (rowX (l.set o x) r) e (0, 0)) S S')
    (ho : o < l.length) (k : κ S') : UnitW P (Instr.storeAt t (.pointer (some ⟨b, o, none⟩)) (b32 x)) S κ :=
  store_one (cs := rowX l r) (b32_cell x) (by rw [rowX_set _ _ _ ho]; exact hu) (by rw [rowX_size]; omega) k

theorem index_w {t e n : Nat} {z : Value} {by_ : Nat} {k : IntKind} {i : Int} {l : List W32} {κ : Value → Prop} [h : TArr P t n e] [hs : TSized P e z 1 by_] [hf : TFlat P e] (h0 : 0 ≤ i) (h1 : i < n) (hl : l.length = n) :
    PureW P (Instr.index t (.agg (rowW l)) (.int k i)) κ = κ (b32 (l.getD i.toNat 0)) := arr_index h0 h1 (rowW_get l _ (by omega))
theorem build_w8 {t e : Nat} {z z' : Value} {s by_ by' : Nat} {a b c d e' f g h' : W32} {κ : Value → Prop} [h : TArr P t 8 e] [hs : TSized P t z s by_] [he : TSized P e z' 1 by'] (hz : z.cells.size = 8) :
    PureW P (Instr.build t #[(0, b32 a), (1, b32 b), (2, b32 c), (3, b32 d), (4, b32 e'), (5, b32 f), (6, b32 g), (7, b32 h')]) κ = κ (.agg (rowW [a, b, c, d, e', f, g, h'])) := by
  refine build_arr (ps := [(0, b32 a), (1, b32 b), (2, b32 c), (3, b32 d), (4, b32 e'), (5, b32 f), (6, b32 g), (7, b32 h')]) ?_
  have q := fill_all [b32 a, b32 b, b32 c, b32 d, b32 e', b32 f, b32 g, b32 h'] [] z.cells.toList (fun v hv => by
    simp only [List.mem_cons, List.not_mem_nil, or_false] at hv
    rcases hv with rfl | rfl | rfl | rfl | rfl | rfl | rfl | rfl <;> exact b32_cell _) (by simpa using hz)
  simp only [List.nil_append, List.length_nil, List.zipIdx_cons, List.zipIdx_nil, List.map_cons, List.map_nil, Nat.zero_add, Nat.reduceAdd, Array.toArray_toList] at q
  simp only [Nat.mul_one]
  exact q

theorem rd_load8 {t : TypeId} {S : State} {a : Option Addr} {len : Nat} {bs : List UInt8} {i : Nat} {κ : Value → Prop} [hf : TFlat P t]
    (hr : Rd 1 S a len (bs.map b8)) (hv : i < bs.length) (k : κ (b8 (bs.getD i 0))) : ReadW P (Instr.loadAt t (.pointer (some (elA a i)))) S κ :=
  rd_load hr (v := b8 (bs.getD i 0)) (by simp [List.getD, hv]) k
theorem wrap64_mod (n : Nat) : IntKind.u64.wrap (n : Int) = ((n % 18446744073709551616 : Nat) : Int) := by
  show ((n : Int) % (2 ^ 64 : Int)) = _
  omega
theorem conv8_64 (x : UInt8) : IntKind.u64.wrap (x.toNat : Int) = x.toNat := by
  have := x.toNat_lt
  rw [wrap_u64 (by omega) (by omega)]
theorem conv8_i64 (x : UInt8) : IntKind.i64.wrap (x.toNat : Int) = x.toNat := by
  have := x.toNat_lt
  rw [wrap_i64 (by omega) (by omega)]
theorem cq_b8_64 {s d : TypeId} [hs : TInt P s .u8] [hd : TInt P d .u64] {x : UInt8} {κ : Value → Prop} : PureW P (convert s d (b8 x)) κ = κ (.int .u64 x.toNat) := by
  show PureW P (convert s d (.int .u8 (x.toNat : Int))) κ = _
  rw [conv_int, conv8_64]
theorem cq_b8_i64 {s d : TypeId} [hs : TInt P s .u8] [hd : TInt P d .i64] {x : UInt8} {κ : Value → Prop} : PureW P (convert s d (b8 x)) κ = κ (.int .i64 x.toNat) := by
  show PureW P (convert s d (.int .u8 (x.toNat : Int))) κ = _
  rw [conv_int, conv8_i64]
theorem conv_b8_64 {s d : TypeId} [hs : TInt P s .u8] [hd : TInt P d .u64] {x : UInt8} {S : State} {κ : Value → State → Prop} : ConvW P s d (b8 x) S κ = κ (.int .u64 x.toNat) S := by
  show PureW P (convert s d (.int .u8 (x.toNat : Int))) (fun v => κ v S) = _
  rw [conv_int, conv8_64]
theorem conv_b8_i64 {s d : TypeId} [hs : TInt P s .u8] [hd : TInt P d .i64] {x : UInt8} {S : State} {κ : Value → State → Prop} : ConvW P s d (b8 x) S κ = κ (.int .i64 x.toNat) S := by
  show PureW P (convert s d (.int .u8 (x.toNat : Int))) (fun v => κ v S) = _
  rw [conv_int, conv8_i64]

end Go.Ost

/- Slices of bytes and strings: the operations in words of lists of bytes. Conditions: as each says. -/
set_option linter.unusedSimpArgs false
set_option linter.unusedVariables false
namespace Go.Ost
open Go

variable {P : Program}

theorem Lies.sub {b : Nat} {o : Obj} {H : Chunk} {S : State} (h : Lies b o [H]) (hm : H ∈ S) : Lies b o S := by
  cases h with
  | here h => exact Lies.of_mem h hm
  | next h => cases h
theorem Lies.in {b : Nat} {o : Obj} {H : Chunk} (h : Lies b o [H]) : (b, o) ∈ H := by
  cases h with
  | here h => exact h
  | next h => cases h
theorem Rd.mem {s : Nat} {H : Chunk} {S : State} {a : Option Addr} {len : Nat} {us : List Value} (h : Rd s [H] a len us) (hm : H ∈ S) : Rd s S a len us :=
  ⟨h.1, fun hne => let ⟨b, o, cs, e, m, h1, h2, h3⟩ := h.2 hne; ⟨b, o, cs, e, m, h1, h2.sub hm, h3⟩⟩
theorem Rd.wide {s : Nat} {H D : Chunk} {a : Option Addr} {len : Nat} {us : List Value} (h : Rd s [H] a len us) (hm : ∀ x ∈ H, x ∈ D) : Rd s [D] a len us :=
  ⟨h.1, fun hne => let ⟨b, o, cs, e, m, h1, h2, h3⟩ := h.2 hne; ⟨b, o, cs, e, m, h1, .here (hm _ h2.in), h3⟩⟩
theorem cells8 (bs : List UInt8) : ∀ v ∈ bs.map b8, Value.cell1 v := fun v hv => by
  obtain ⟨x, _, rfl⟩ := List.mem_map.1 hv; exact b8_cell x

/-- append of bytes, onto one's own. -/
theorem app8 {t t2 ty e e2 : TypeId} [ht : TSlice P t e] [ht2 : TSlice P t2 e2] [hs : TSized P e (.int .u8 0) 1 1] {S G : State} {κ : Value → State → Prop} {C : Chunk} {a b : Option Addr} {len cap n c : Nat} {us vs : List UInt8}
    (ho : Own 1 e C a len cap (us.map b8)) (hC : Pick C S G) (hr : Rd 1 S b n (vs.map b8)) (hm : len + n ≤ 140737488355328)
    (k : ∀ C' a' cap', Own 1 e C' a' (len + n) cap' ((us ++ vs).map b8) → κ (.slice a' (len + n) cap') (C' :: G)) : ValW P (Builtin.append_ #[t, t2] ty #[.slice a len cap, .slice b n c]) S κ :=
  append_own (hs := hs) rfl (by decide) ho (.inr hC) hr (cells8 vs) (by simp only [maxLen]; omega) (by omega) (fun C' a' cap' h => k C' a' cap' (by rw [List.map_append]; exact h))
theorem own_nil {s : Nat} {e : TypeId} {a : Option Addr} : Own s e [] a 0 0 [] := ⟨Nat.le_refl _, Nat.zero_le _, by simp, .inl ⟨rfl, rfl⟩⟩
theorem app8_nil {t t2 ty e e2 : TypeId} [ht : TSlice P t e] [ht2 : TSlice P t2 e2] [hs : TSized P e (.int .u8 0) 1 1] {S : State} {κ : Value → State → Prop} {b : Option Addr} {n c : Nat} {vs : List UInt8}
    (hr : Rd 1 S b n (vs.map b8)) (hm : n ≤ 140737488355328)
    (k : ∀ C' a' cap', Own 1 e C' a' n cap' (vs.map b8) → κ (.slice a' n cap') (C' :: S)) : ValW P (Builtin.append_ #[t, t2] ty #[.slice none 0 0, .slice b n c]) S κ :=
  append_own (hs := hs) (us := []) rfl (by decide) own_nil (.inl ⟨rfl, rfl⟩) hr (cells8 vs) (by simp only [maxLen]; omega) (by omega) (fun C' a' cap' h => by
    rw [Nat.zero_add] at h ⊢
    exact k C' a' cap' h)
/-- Values of one cell, onto one's own. -/
theorem app1 {t t2 ty e e2 : TypeId} {z : Value} {by_ : Nat} [ht : TSlice P t e] [ht2 : TSlice P t2 e2] [hs : TSized P e z 1 by_] (hz : z.cells.size = 1) {S G : State} {κ : Value → State → Prop} {C : Chunk} {a b : Option Addr} {len cap n c : Nat} {us vs : List Value}
    (ho : Own 1 e C a len cap us) (hC : C = [] ∧ G = S ∨ Pick C S G) (hr : Rd 1 S b n vs) (h1 : ∀ v ∈ vs, Value.cell1 v) (hm : len + n ≤ 1000000) (hb : by_ ≤ 1000)
    (k : ∀ C' a' cap', Own 1 e C' a' (len + n) cap' (us ++ vs) → κ (.slice a' (len + n) cap') (C' :: G)) : ValW P (Builtin.append_ #[t, t2] ty #[.slice a len cap, .slice b n c]) S κ :=
  append_own (hs := hs) hz (by decide) ho hC hr h1 (by simp only [maxLen]; omega) (by
    have : (len + n) * by_ ≤ 1000000 * 1000 := Nat.mul_le_mul hm hb
    omega) k

theorem own_built {e : TypeId} {b : Nat} {vs : List Value} {n : Nat} (hn : vs.length = n) (hm : n ≤ 16777216) : Own 1 e [(b, .cells vs.toArray e (0, 0))] (some ⟨b, 0, none⟩) n n vs :=
  ⟨Nat.le_refl _, by simp only [maxLen]; omega, by simp [hn], .inr ⟨b, 0, _, _, rfl, rfl, .inl rfl, by simp [hn], fun i hi => by simp⟩⟩
/-- Bytes written out. -/
theorem build8 {t e : TypeId} {by_ : Nat} [ht : TSlice P t e] [hs : TSized P e (.int .u8 0) 1 by_] {n : Nat} {ps : List (Nat × Value)} {S : State} {κ : Value → State → Prop} (bs : List UInt8) (hn : n ≤ 16777216)
    (hi : ps.map (·.1) = List.range n) (hb : ps.map (·.2) = bs.map b8) (k : ∀ b C, Own 1 e C (some ⟨b, 0, none⟩) n n (bs.map b8) → κ (.slice (some ⟨b, 0, none⟩) n n) (C :: S)) : ValW P (Instr.buildSlice t n ps.toArray) S κ :=
  build_slice (hs := hs) rfl hn hi (by rw [hb]; exact cells8 bs) (fun b => k b _ (by
    rw [hb]
    exact own_built (by have := congrArg List.length hi; have h2 := congrArg List.length hb; simp only [List.length_map, List.length_range] at this h2 ⊢; omega) hn))
/-- Values of one cell written out. -/
theorem build1 {t e : TypeId} {z : Value} {by_ : Nat} [ht : TSlice P t e] [hs : TSized P e z 1 by_] (hz : z.cells.size = 1) {n : Nat} {ps : List (Nat × Value)} {S : State} {κ : Value → State → Prop} (vs : List Value) (hn : n ≤ 16777216)
    (hi : ps.map (·.1) = List.range n) (hb : ps.map (·.2) = vs) (hc : ∀ v ∈ vs, Value.cell1 v) (k : ∀ b C, Own 1 e C (some ⟨b, 0, none⟩) n n vs → κ (.slice (some ⟨b, 0, none⟩) n n) (C :: S)) : ValW P (Instr.buildSlice t n ps.toArray) S κ :=
  build_slice (hs := hs) hz hn hi (by rw [hb]; exact hc) (fun b => k b _ (by
    rw [hb]
    exact own_built (by have := congrArg List.length hi; have h2 := congrArg List.length hb; simp only [List.length_map, List.length_range] at this h2; omega) hn))

/-- A byte of one's own is set. -/
theorem own_store8 {t e : TypeId} {z : Value} {by_ : Nat} [hs : TSized P t z 1 by_] {S G : State} {κ : State → Prop} {C : Chunk} {a : Option Addr} {len cap i : Nat} {bs : List UInt8} {x : UInt8}
    (ho : Own 1 e C a len cap (bs.map b8)) (hp : Pick C S G) (hi : i < bs.length) (k : ∀ C', Own 1 e C' a len cap ((bs.set i x).map b8) → κ (C' :: G)) : UnitW P (Instr.storeAt t (.pointer (some (elA a i))) (b8 x)) S κ := by
  refine ⟨fun w hw => ?_⟩
  obtain ⟨h1, h2, h3, h4⟩ := ho
  simp only [List.length_map, Nat.mul_one] at h3
  rcases h4 with ⟨h5, _⟩ | ⟨b, o, cs, m, rfl, rfl, hsoft, hbig, hc⟩
  · omega
  · have hCG := hw.perm hp.perm
    obtain ⟨lo, hi'⟩ := m
    obtain ⟨w', q1, q2, q3, q4⟩ := run_storeCells (P := P) (b := b) (o := o + i) [b8 x] 0 w cs (hCG.get b (.cells cs e (lo, hi')) (by simp)) (fun u hm => by simp at hm; subst hm; exact b8_cell x) (by simp; omega) hsoft.or
    refine ⟨w', _, ?_, q2, (Upd.one (S := G)).hold hCG q3 q4, k [(b, .cells (setCells cs (o + i + 0) [b8 x]) e (lo, hi'))] ⟨h1, h2, by simp [h3], .inr ⟨b, o, _, (lo, hi'), rfl, rfl, by rw [setCells_size]; exact hsoft, by rw [setCells_size]; exact hbig, fun j hj => ?_⟩⟩⟩
    · have e1 : (Value.cells (b8 x)) = #[b8 x] := rfl
      simp only [elA, Option.getD_some, add_mk]
      simp [Instr.storeAt, Instr.sureAddr, storeVar, Sem.run_bind, run_size hs, Result.andThen, e1, q1]
    · simp only [List.length_map, List.length_set] at hj
      have hcj := hc j (by simpa using hj)
      simp only [setCells, Nat.add_zero]
      by_cases e2 : j = i
      · subst e2
        rw [Array.getElem?_setIfInBounds_self, if_pos (by omega)]
        simp [hj]
      · rw [Array.getElem?_setIfInBounds_ne (by omega), hcj]
        simp only [List.getElem?_map]
        rw [List.getElem?_set_ne (by omega)]
/-- make of bytes. -/
theorem make8 {t e : TypeId} [ht : TSlice P t e] [hs : TSized P e (.int .u8 0) 1 1] {n : Nat} {S : State} {κ : Value → State → Prop} (hn : n ≤ 1000000)
    (k : ∀ b C, Own 1 e C (some ⟨b, 0, none⟩) n n ((List.replicate n (0 : UInt8)).map b8) → κ (.slice (some ⟨b, 0, none⟩) n n) (C :: S)) : ValW P (Instr.makeSlice t (.int .i64 n) (.int .i64 n)) S κ := by
  refine ⟨fun w hw => ?_⟩
  obtain ⟨i, hi, hz1, hsz, hby⟩ := sized_parts hs.info
  have hr := run_makeSlice (P := P) w t e i (.int .u8 0) ht.und hi hz1 .i64 .i64 (n : Int) (n : Int) (by omega) (Int.le_refl _) (by rw [hsz]; omega) (by rw [hby]; omega) (by omega)
  simp only [Int.toNat_natCast, hsz, Nat.mul_one] at hr
  generalize hcells : madeCells (Value.int .u8 0).cells n = cells at hr
  have hlist : cells = ((List.replicate n (0 : UInt8)).map b8).toArray := by
    rw [← hcells]
    apply Array.ext'
    unfold madeCells
    apply List.ext_getElem
    · simp
    · intro j h1 h2
      simp [Nat.mod_one, b8, Value.cells]
  refine ⟨_, w.alloc (.cells cells e), [(w.heap.size, .cells cells e (0, 0))] :: S, hr, ⟨rfl, rfl, rfl, by simp⟩, Hold.new (w := w) hw rfl, k w.heap.size _ ?_⟩
  rw [hlist]
  exact own_built (by simp) (by omega)

/-! ### Numbers -/

theorem bin_shr64 {t : TypeId} {x y : Operand} {j : IntKind} {a n : Int} {κ : Value → Prop} (ha : 0 ≤ a) (h0 : 0 ≤ n) (h1 : n ≤ 64) : PureW P (do eqGuard .shr t x y (.int .u64 a) (.int j n); binOp .shr t (.int .u64 a) (.int j n)) κ = κ (.int .u64 (a / 2 ^ n.toNat)) :=
  pureW_eq (fun w => by
    have e : min n.toNat IntKind.u64.bits = n.toNat := by show min n.toNat 64 = n.toNat; omega
    have h3 : ¬ n < 0 := by omega
    show (Op.shift .shr .u64 a j n).run P w = _
    rw [Op.shift, if_neg h3, e]
    show Result.ok (Value.int .u64 (Int.fdiv a (2 ^ n.toNat))) w = _
    rw [Int.fdiv_eq_ediv_of_nonneg _ (Int.le_of_lt (Int.pow_pos (by decide)))]) κ
theorem b8_shr {t : TypeId} {x y : Operand} {j : IntKind} {b : UInt8} {κ : Value → Prop} : PureW P (do eqGuard .shr t x y (b8 b) (.int j 4); binOp .shr t (b8 b) (.int j 4)) κ = κ (.int .u8 ((b.toNat / 16 : Nat) : Int)) :=
  pureW_eq (fun w => by
    show (Op.shift .shr .u8 (b.toNat : Int) j 4).run P w = _
    show Result.ok (Value.int .u8 (Int.fdiv (b.toNat : Int) (2 ^ 4))) w = _
    rw [Int.fdiv_eq_ediv_of_nonneg _ (by decide)]
    rfl) κ
theorem b8_and15 {t : TypeId} {x y : Operand} {b : UInt8} {κ : Value → Prop} : PureW P (do eqGuard .and t x y (b8 b) (.int .u8 15); binOp .and t (b8 b) (.int .u8 15)) κ = κ (.int .u8 ((b.toNat % 16 : Nat) : Int)) :=
  pureW_eq (fun w => by
    show Result.ok (Value.int .u8 (IntKind.u8.wrap ((BitVec.ofInt 8 (b.toNat : Int) &&& BitVec.ofInt 8 15).toNat : Int))) w = _
    have h := b.toNat_lt
    have key : ∀ n : Fin 256, IntKind.u8.wrap ((BitVec.ofInt 8 (n.val : Int) &&& BitVec.ofInt 8 15).toNat : Int) = ((n.val % 16 : Nat) : Int) := by decide +kernel
    rw [key ⟨b.toNat, h⟩]) κ
theorem wrap8_mod (n : Nat) : IntKind.u8.wrap (n : Int) = ((UInt8.ofNat n).toNat : Int) := by
  show ((n : Int) % (2 ^ 8 : Int)) = _
  rw [UInt8.toNat_ofNat']
  omega

/-! ### Strings -/

theorem str_eql {t : TypeId} {x y : Operand} {a b : ByteArray} {κ : Value → Prop} [h : TStr P t] : PureW P (do eqGuard .eql t x y (.string a) (.string b); binOp .eql t (.string a) (.string b)) κ = κ (.bool (a.data.toList == b.data.toList)) :=
  pureW_eq (fun w => by rw [← ByteArray.toList_eq, ← ByteArray.toList_eq]; rfl) κ
theorem str_neq {t : TypeId} {x y : Operand} {a b : ByteArray} {κ : Value → Prop} [h : TStr P t] : PureW P (do eqGuard .neq t x y (.string a) (.string b); binOp .neq t (.string a) (.string b)) κ = κ (.bool (a.data.toList != b.data.toList)) :=
  pureW_eq (fun w => by rw [← ByteArray.toList_eq, ← ByteArray.toList_eq]; rfl) κ
theorem str_data (a : List UInt8) : (str a).data.toList = a := rfl
theorem str_add {t : TypeId} {x y : Operand} {a b : List UInt8} {κ : Value → Prop} (hm : a.length + b.length ≤ 9223372036854775807) : PureW P (do eqGuard .add t x y (.string (str a)) (.string (str b)); binOp .add t (.string (str a)) (.string (str b))) κ = κ (.string (str (a ++ b))) :=
  pureW_eq (fun w => by
    have e : (do eqGuard .add t x y (.string (str a)) (.string (str b)); binOp .add t (.string (str a)) (.string (str b)) : Sem Value) = Op.stringOp .add (str a) (str b) := rfl
    have hsz : ¬ (((str a).size + (str b).size : Nat) : Int) > IntKind.i64.max := by
      show ¬ ((a.length + b.length : Nat) : Int) > 9223372036854775807
      omega
    rw [e]
    simp only [Op.stringOp]
    rw [if_neg hsz]
    have h2 : str a ++ str b = str (a ++ b) := by
      apply ByteArray.ext
      simp [str]
    rw [h2]
    rfl) κ
theorem str_index {t : TypeId} {k : IntKind} {i : Int} {s : List UInt8} {κ : Value → Prop} [h : TStr P t] (h0 : 0 ≤ i) (h1 : i < s.length) : PureW P (Instr.index t (.string (str s)) (.int k i)) κ = κ (b8 (s.getD i.toNat 0)) :=
  pureW_eq (fun w => by
    have hlt : i.toNat < s.length := by omega
    have e : (str s)[i.toNat]? = some (s.getD i.toNat 0) := by
      have h2 : i.toNat < (str s).size := hlt
      rw [getElem?_pos (str s) i.toNat h2]
      simp [List.getD, hlt, str, ByteArray.getElem_eq_getElem_data]
    simp [Instr.index, asIntOf, Sem.run_bind, run_und h.und, Result.andThen, h0, e, b8]) κ
theorem str_cut {t : TypeId} {j k : IntKind} {l h' : Int} {s : List UInt8} {κ : Value → Prop} [h : TStr P t] (l0 : 0 ≤ l) (l1 : l ≤ h') (h1 : h' ≤ s.length) :
    PureW P (Instr.sliceAt t (.string (str s)) (some (.int j l)) (some (.int k h')) none) κ = κ (.string (str ((s.drop l.toNat).take (h'.toNat - l.toNat)))) :=
  pureW_eq (fun w => by
    have h0 : 0 ≤ h' := by omega
    have l1' : l ≤ max h' 0 := by omega
    have h1' : h' ≤ ((str s).size : Int) := h1
    have e : (str s).extract l.toNat h'.toNat = str ((s.drop l.toNat).take (h'.toNat - l.toNat)) := by
      apply ByteArray.ext
      simp [str, ByteArray.data_extract]
    simp only [Instr.sliceAt, Instr.slice, Sem.run_bind, run_und h.und, Result.andThen, Instr.sliceBounds, Instr.sliceBound, asIntOf, Sem.run_pure]
    simp [Sem.run_bind, h0, h1', l0, l1, l1', e, Result.andThen]) κ
theorem slc_eql_nil {t e : TypeId} {x y : Operand} {a : Option Addr} {n c : Nat} {κ : Value → Prop} [h : TSlice P t e] : PureW P (do eqGuard .eql t x y (.slice a n c) (.slice none 0 0); binOp .eql t (.slice a n c) (.slice none 0 0)) κ = κ (.bool a.isNone) :=
  pureW_eq (fun w => by
    have e : (do eqGuard .eql t x y (.slice a n c) (.slice none 0 0); binOp .eql t (.slice a n c) (.slice none 0 0) : Sem Value) = (do pure (.bool (← Op.equalIn (9999 + 1) t (.slice a n c) (.slice none 0 0)))) := by
      cases a <;> rfl
    rw [e, Sem.run_bind, Op.equalIn, Sem.run_bind, run_und h.und]
    cases a <;> rfl) κ

theorem ext2_0 {a b : Value} {κ : Value → Prop} : PureW P (Instr.extract (.tuple #[a, b]) 0) κ = κ a := pureW_eq (fun w => rfl) κ
theorem ext2_1 {a b : Value} {κ : Value → Prop} : PureW P (Instr.extract (.tuple #[a, b]) 1) κ = κ b := pureW_eq (fun w => rfl) κ

/-! ### Chunks put together -/

theorem code_glue {n : Nat} {ro : Option Nat} {c : Code} {K : Cont} {D : List Nat} {L : Env} {S : State} {A B : Chunk} (h : CodeW P n ro c K D L ((A ++ B) :: S)) : CodeW P n ro c K D L (A :: B :: S) :=
  ⟨fun a w ha hw => h.out a w ha (hw.perm (by simp))⟩
theorem code_nil {n : Nat} {ro : Option Nat} {c : Code} {K : Cont} {D : List Nat} {L : Env} {S : State} (h : CodeW P n ro c K D L ([] :: S)) : CodeW P n ro c K D L S :=
  ⟨fun a w ha hw => h.out a w ha (hw.perm (by simp))⟩

abbrev Own8 (e : TypeId) (C : Chunk) (a : Option Addr) (n cap : Nat) (bs : List UInt8) : Prop := Own 1 e C a n cap (bs.map b8)
/-- A new slice of bytes, beside R. -/
def New8 (e : TypeId) (bs : List UInt8) (R : State) (v : Value) (A : State) : Prop := ∃ C a cap, v = .slice a bs.length cap ∧ Own8 e C a bs.length cap bs ∧ A = C :: R

end Go.Ost

/- Ranges over functions, over chunks of memory: the iterator's contract and the loop's rule. Conditions: none. -/
set_option linter.unusedSimpArgs false
set_option linter.unusedVariables false
namespace Go.Ost
open Go

variable {P : Program} {n : Nat} {α : Type}

/-- How a call of a loop's body ends: it goes on (true), or it wants no more (false). -/
structure YMeets (P : Program) (l : Nat) (args : List Value) (Jin Jout Jstop : Chunk → Prop) : Prop where
  out : ∀ C, Jin C → ∀ (F : Chunk) (w : World), Hold w [F, C] → YieldAt (FW none) 0 P l args.toArray w
    (EndsW w fun v S => ∃ (b : Bool) (C' : Chunk), v = .bool b ∧ S = [F, C'] ∧ (b = true → Jout C') ∧ (b = false → Jstop C'))

/-- An iterator's contract: Next pre x: behind pre comes x; Done pre: behind pre there is no more. -/
structure IMeets (P : Program) (f : FuncId) (first captured : List Value) (encs : α → List Value) (A : State) (Next : List α → α → Prop) (Done : List α → Prop) (inf : Bool) : Prop where
  able : callable P f = true
  out : ∀ (l : Nat) (J Jx : List α → Chunk → Prop), (inf = true → ∃ N, ∀ pre C, J pre C → pre.length ≤ N) →
    (∀ pre x, Next pre x → YMeets P l (encs x) (J pre) (J (pre ++ [x])) (Jx (pre ++ [x]))) →
    ∀ C, J [] C → ∀ (F : Chunk) (w : World), Hold w (F :: C :: A) → CallsIn (FW none) 0 P f (first ++ [Value.func (.yield l) #[] #[]] ++ captured).toArray w
      (EndsW w fun _ S => ∃ C', S = F :: C' :: A ∧ ((∃ pre, Done pre ∧ J pre C') ∨ (∃ pre x, Next pre x ∧ Jx (pre ++ [x]) C')))

/-- An iterator's contract, from its function's at each loop's body. -/
theorem iter_intro {f : FuncId} {first captured : List Value} {encs : α → List Value} {A : State} {Next : List α → α → Prop} {Done : List α → Prop} {inf : Bool} (ha : callable P f = true)
    (h : ∀ (l : Nat) (J Jx : List α → Chunk → Prop), (inf = true → ∃ N, ∀ pre C, J pre C → pre.length ≤ N) → (∀ pre x, Next pre x → YMeets P l (encs x) (J pre) (J (pre ++ [x])) (Jx (pre ++ [x]))) →
      ∀ C, J [] C → Meets P f (first ++ [Value.func (.yield l) #[] #[]] ++ captured) (C :: A) fun _ S => ∃ C', S = C' :: A ∧ ((∃ pre, Done pre ∧ J pre C') ∨ (∃ pre x, Next pre x ∧ Jx (pre ++ [x]) C'))) :
    IMeets P f first captured encs A Next Done inf :=
  ⟨ha, fun l J Jx hN hY C hC F w hw => ((h l J Jx hN hY C hC).out F w hw).mono fun e w' ⟨v, S, a, b, c, A', d, C', e', r⟩ => ⟨v, S, a, b, c, C', by rw [d, e'], r⟩⟩

/-- In the iterator's own walk: yield is called. -/
theorem yield_meets {l : Nat} {args : List Value} {Jin Jout Jstop : Chunk → Prop} {S G : State} {C : Chunk} {κ : Value → State → Prop} (h : YMeets P l args Jin Jout Jstop) (hC : Jin C) (ht : Take [C] S G)
    (k1 : ∀ C', Jout C' → κ (.bool true) (C' :: G)) (k2 : ∀ C', Jstop C' → κ (.bool false) (C' :: G)) : YieldW P l args.toArray S κ := by
  refine ⟨fun w hw => ?_⟩
  have h1 := h.out C hC G.flatten w (hw.perm (ht.perm.trans (by simp only [List.flatten_append, List.flatten_cons, List.flatten_nil, List.append_nil]; exact List.perm_append_comm)))
  obtain ⟨fn, tm, asg, bd, hr, hR⟩ := h1
  refine ⟨fn, tm, asg, bd, hr, hR.mono ?_⟩
  rintro e w' ⟨v, S', rfl, he, hh, b, C', rfl, rfl, j1, j2⟩
  refine ⟨.bool b, C' :: G, rfl, he, hh.perm (by simp only [List.flatten_cons, List.flatten_nil, List.append_nil]; exact List.perm_append_comm), ?_⟩
  cases b
  · exact k2 C' (j2 rfl)
  · exact k1 C' (j1 rfl)

def putAll (n : Nat) : List Tmp → List Value → Env → Env
  | p :: ps, v :: vs, L => putAll n ps vs (putT n (some p) v L)
  | _, _, L => L

theorem agree_all {D : List Nat} : ∀ (ps : List Tmp) (vs : List Value) (L : Env) (t : Array Value), Agree n L D { tmps := t, defers := D.map markD } →
    Agree n (putAll n ps vs L) D { tmps := (ps.zip vs).foldl (fun t (p, v) => t.setIfInBounds p v) t, defers := D.map markD }
  | [], vs, L, t, h => by cases vs <;> exact h
  | p :: ps, [], L, t, h => h
  | p :: ps, v :: vs, L, t, h => by
    simp only [putAll, List.zip_cons_cons, List.foldl_cons]
    exact agree_all ps vs _ _ (h.put (some p) v)

/-- What the body of a loop must come to. -/
def bodyK (l : Nat) (r : Loop) (F : Chunk) (I : State → Prop) (Ix : Code → State → Prop) : Cont
  | .normal, _, _, S => ∃ C', I C' ∧ Among ([(l, .loop r)] :: F :: C') S
  | .exit id, _, _, S => ∃ C', Ix (.exit id) C' ∧ Among ([(l, .loop r)] :: F :: C') S
  | .goto t, _, _, S => ∃ C', Ix (.goto t) C' ∧ Among ([(l, .loop r)] :: F :: C') S
  | .ret, _, _, S => ∃ C', Ix .ret C' ∧ Among ([(l, .loop r)] :: F :: C') S
  | _, _, _, _ => False
def assignK (P : Program) (n : Nat) (l : Nat) (r : Loop) (body : Code) (F : Chunk) (I : State → Prop) (Ix : Code → State → Prop) : Cont
  | .normal, D, L, S => ∃ T, Among ([(l, .loop r)] :: T) S ∧ ∀ r', r'.defers = r.defers → CodeW P n (some l) body (bodyK l r' F I Ix) D L ([(l, .loop r')] :: T)
  | _, _, _, _ => False

theorem put_hold {w : World} {l : Nat} {o o' : Obj} {T : State} (hw : Hold w ([(l, o)] :: T)) : Hold (w.putObj l o') ([(l, o')] :: T) :=
  (Upd.one (S := T)).hold hw (World.putObj_heap_same (hw.lt (b := l) (o := o) (by simp))) (fun k hk => World.putObj_heap_other hk)
theorem put_ext (w : World) (l : Nat) (o : Obj) : Ext w (w.putObj l o) := ⟨rfl, rfl, rfl, by simp⟩

/-- One round, from what the loop's code does. -/
theorem round_meets {l : Nat} {fn : FuncId} {t : Array Value} {ps : Array Tmp} {assign body : Code} {dB : Nat} {L : Env} {vs : List Value} {I Iout : State → Prop} {Ix : Code → State → Prop}
    (hag : Agree n L [] { tmps := t, defers := [] }) (hps : vs.length = ps.size)
    (h : ∀ (F : Chunk) (C : State) (r : Loop), r.defers = dB → I C → CodeW P n (some l) assign (assignK P n l r body F Iout Ix) [] (putAll n ps.toList vs L) ([(l, .loop r)] :: F :: C)) :
    YMeets P l vs (fun C => ∃ C0 : State, C = (l, .loop { state := .ready, pending := none, fn, tmps := t, params := ps, assign, body, defers := dB }) :: C0.flatten ∧ I C0)
      (fun C => ∃ C0 : State, C = (l, .loop { state := .ready, pending := none, fn, tmps := t, params := ps, assign, body, defers := dB }) :: C0.flatten ∧ Iout C0)
      (fun C => ∃ (c : Code) (C0 : State), C = (l, .loop { state := .done, pending := some c, fn, tmps := t, params := ps, assign, body, defers := dB }) :: C0.flatten ∧ Ix c C0) := by
  refine ⟨?_⟩
  rintro C ⟨C0, rfl, hI⟩ F w hw
  obtain ⟨r0, hr0⟩ : ∃ r0 : Loop, r0 = { state := .ready, pending := none, fn, tmps := t, params := ps, assign, body, defers := dB } := ⟨_, rfl⟩
  rw [← hr0] at hw ⊢
  have hw' : Hold w ([(l, .loop r0)] :: F :: C0) := hw.perm (by simp only [List.flatten_cons, List.flatten_nil, List.append_nil, List.cons_append, List.nil_append]; exact List.perm_middle)
  have hl : w.heap[l]? = some (.loop r0) := hw'.get l _ (by simp)
  have hy := run_yield (P := P) (args := vs.toArray) hl (by rw [hr0]; simpa using hps)
  refine ⟨_, _, _, _, hy, roundIn_of_wpIn trivial ?_⟩
  have hag' : Agree n (putAll n ps.toList vs L) [] { tmps := (r0.params.zip vs.toArray).foldl (fun t (p, v) => t.setIfInBounds p v) r0.tmps, defers := [] } := by
    have := agree_all ps.toList vs L t hag
    rw [hr0]
    simp only
    rw [← Array.foldl_toList, Array.toList_zip]
    exact this
  have ha := (h F C0 r0 (by rw [hr0]) hI).out _ w hag' hw'
  rw [show r0.assign = assign from by rw [hr0]]
  refine wpIn_mono ha ?_
  rintro e a1 w1 ⟨D1, L1, S1, hk, hag1, he1, hh1⟩
  cases e <;> first | exact hk.elim | skip
  obtain ⟨T, hT, hbody⟩ := hk
  have hw1 := hT.hold hh1
  have hl1 : w1.heap[l]? = some (.loop r0) := hw1.get l _ (by simp)
  refine ⟨_, run_beginRound hl1 (by rw [hr0]), ?_⟩
  obtain ⟨rb, hrb⟩ : ∃ rb : Loop, rb = { r0 with state := .busy } := ⟨_, rfl⟩
  rw [← hrb]
  have hb := (hbody rb (by rw [hrb])).out a1 _ hag1 (put_hold hw1)
  rw [show r0.body = body from by rw [hr0]]
  refine wpIn_mono hb ?_
  have fin : ∀ (jump : Option Code) (S2 : State) (w2 : World) (C' : State), Ext (w1.putObj l (.loop rb)) w2 → Hold w2 S2 → Among ([(l, .loop rb)] :: F :: C') S2 →
      ∃ w3, (Instr.endRound l jump).run P w2 = .ok (.bool jump.isNone) w3 ∧ Ext w w3 ∧
        Hold w3 [F, (l, .loop { state := if jump.isNone then .ready else .done, pending := jump, fn, tmps := t, params := ps, assign, body, defers := dB }) :: C'.flatten] := by
    intro jump S2 w2 C' he hh hS
    have hw2 := hS.hold hh
    have hl2 : w2.heap[l]? = some (.loop rb) := hw2.get l _ (by simp)
    refine ⟨_, run_endRound (P := P) jump hl2, ((he1.trans (put_ext _ _ _)).trans he).trans (put_ext _ _ _), ?_⟩
    have := put_hold (o' := .loop { rb with state := if jump.isNone then .ready else .done, pending := jump }) hw2
    rw [hrb, hr0] at this
    rw [hrb, hr0]
    exact this.perm (by simp only [List.flatten_cons, List.flatten_nil, List.append_nil, List.cons_append, List.nil_append]; exact List.perm_middle.symm)
  rintro e a2 w2 ⟨D2, L2, S2, hk, hag2, he2, hh2⟩
  cases e with
  | normal =>
    obtain ⟨C', hI', hS⟩ := hk
    obtain ⟨w3, hr, he, hh⟩ := fin none S2 w2 C' he2 hh2 hS
    exact ⟨_, w3, hr, _, _, rfl, he, hh, true, _, rfl, rfl, fun _ => ⟨C', by rw [hr0]; rfl, hI'⟩, fun h => by cases h⟩
  | ret =>
    obtain ⟨C', hI', hS⟩ := hk
    obtain ⟨w3, hr, he, hh⟩ := fin (some .ret) S2 w2 C' he2 hh2 hS
    exact ⟨_, w3, hr, _, _, rfl, he, hh, false, _, rfl, rfl, fun h => (by cases h), fun _ => ⟨.ret, C', by simp, hI'⟩⟩
  | exit id =>
    obtain ⟨C', hI', hS⟩ := hk
    obtain ⟨w3, hr, he, hh⟩ := fin (some (.exit id)) S2 w2 C' he2 hh2 hS
    exact ⟨_, w3, hr, _, _, rfl, he, hh, false, _, rfl, rfl, fun h => (by cases h), fun _ => ⟨.exit id, C', by simp, hI'⟩⟩
  | goto t =>
    obtain ⟨C', hI', hS⟩ := hk
    obtain ⟨w3, hr, he, hh⟩ := fin (some (.goto t)) S2 w2 C' he2 hh2 hS
    exact ⟨_, w3, hr, _, _, rfl, he, hh, false, _, rfl, rfl, fun h => (by cases h), fun _ => ⟨.goto t, C', by simp, hI'⟩⟩
  | panic ch => exact hk.elim
  | outgrown => exact hk.elim

/-- The core of both rules: the record l (and whatever else is new) lies; the iterator is called. -/
theorem range_core {ro : Option Nat} {fn : FuncId} {t : Array Value} {ps : Array Tmp} {assign body : Code} {dB l : Nat} {L : Env} {f : FuncId} {first captured : List Value} {encs : α → List Value} {A C0 M : State}
    {Next : List α → α → Prop} {Done : List α → Prop} {inf : Bool} {Q : Exit → Act → World → Prop} {a' : Act} {w w1 : World}
    (hit : IMeets P f first captured encs A Next Done inf) (I : List α → State → Prop) (Ix : Code → List α → State → Prop)
    (hinf : inf = true → ∃ N, ∀ pre C, I pre C → pre.length ≤ N) (hag : Agree n L [] { tmps := t, defers := [] }) (hps : ∀ x, (encs x).length = ps.size) (h0 : I [] C0) (he : Ext w w1)
    (hw1 : Hold w1 ([(l, .loop { state := .ready, pending := none, fn, tmps := t, params := ps, assign, body, defers := dB })] :: M ++ C0 ++ A))
    (hround : ∀ (F : Chunk) (C : State) (r : Loop) (pre : List α) (x : α), Next pre x → I pre C → CodeW P n (some l) assign (assignK P n l r body F (I (pre ++ [x])) (fun c => Ix c (pre ++ [x]))) [] (putAll n ps.toList (encs x) L) ([(l, .loop r)] :: F :: C))
    (hdone : ∀ (pre : List α) (C : State) (w2 : World), Done pre → I pre C → Ext w w2 → Hold w2 (M ++ C ++ A) → Q .normal a' w2)
    (hstop : ∀ (c : Code) (pre : List α) (x : α) (C : State) (w2 : World), Next pre x → Ix c (pre ++ [x]) C → Ext w w2 → Hold w2 (M ++ C ++ A) → c.wpIn (FW ro) 0 P Q a' w2) :
    CallsIn (FW none) 0 P f (first ++ [Value.func (.yield l) #[] #[]] ++ captured).toArray w1 (rangePost (FW ro) 0 P l Q a') := by
  have h1 := hit.out l (fun pre C => ∃ C1 : State, C = (l, .loop { state := .ready, pending := none, fn, tmps := t, params := ps, assign, body, defers := dB }) :: C1.flatten ∧ I pre C1)
    (fun pre C => ∃ (c : Code) (C1 : State), C = (l, .loop { state := .done, pending := some c, fn, tmps := t, params := ps, assign, body, defers := dB }) :: C1.flatten ∧ Ix c pre C1)
    (fun h => let ⟨N, hN⟩ := hinf h; ⟨N, fun pre C ⟨C1, _, hI⟩ => hN pre C1 hI⟩)
    (fun pre x hx => round_meets hag (hps x) fun F C r _ hI => hround F C r pre x hx hI) _ ⟨C0, rfl, h0⟩ M.flatten w1
    (hw1.perm (by
      simp only [List.flatten_append, List.flatten_cons, List.cons_append, List.append_assoc, List.nil_append]
      exact List.perm_middle.symm))
  refine h1.mono ?_
  rintro e w2 ⟨v, S, rfl, he2, hh, C', rfl, (⟨pre, hd, C1, rfl, hI⟩ | ⟨pre, x, hx, c, C1, rfl, hI⟩)⟩
  · have hw2 : Hold w2 ([(l, .loop { state := .ready, pending := none, fn, tmps := t, params := ps, assign, body, defers := dB })] :: (M ++ C1 ++ A)) := hh.perm (by
      simp only [List.flatten_append, List.flatten_cons, List.cons_append, List.append_assoc, List.nil_append]
      exact List.perm_middle)
    have hl2 : w2.heap[l]? = some (.loop { state := .ready, pending := none, fn, tmps := t, params := ps, assign, body, defers := dB }) := hw2.get l _ (by simp)
    refine ⟨none, _, run_endLoop (P := P) hl2 (by simp), hdone pre C1 _ hd hI ((he.trans he2).trans (put_ext _ _ _)) ?_⟩
    exact (put_hold hw2).sub (by simp)
  · have hw2 : Hold w2 ([(l, .loop { state := .done, pending := some c, fn, tmps := t, params := ps, assign, body, defers := dB })] :: (M ++ C1 ++ A)) := hh.perm (by
      simp only [List.flatten_append, List.flatten_cons, List.cons_append, List.append_assoc, List.nil_append]
      exact List.perm_middle)
    have hl2 : w2.heap[l]? = some (.loop { state := .done, pending := some c, fn, tmps := t, params := ps, assign, body, defers := dB }) := hw2.get l _ (by simp)
    refine ⟨some c, _, run_endLoop (P := P) hl2 (by simp), hstop c pre x C1 _ hx hI ((he.trans he2).trans (put_ext _ _ _)) ?_⟩
    exact (put_hold hw2).sub (by simp)

theorem enters_able {f : FuncId} (h : callable P f = true) (args : Array Value) (w : World) : (callFunc f args).run P w = .ok (.enter f args) w := by
  unfold callable at h
  split at h
  · rename_i fn hf
    simp only [Bool.and_eq_true, bne_iff_ne, ne_eq] at h
    obtain ⟨hn, hb⟩ := h
    obtain ⟨c, hc⟩ := Option.isSome_iff_exists.1 hb
    simp [callFunc, program, Sem.run_bind, Sem.run, hf, hn, hc, Result.andThen]
  · cases h

theorem zip_size {x y : List Value} : True := trivial

/-- 'for .. := range f { .. }', in no other such loop's body. -/
theorem code_range {g : Operand} {ps : Array Tmp} {assign body : Code} {K : Cont} {D : List Nat} {L : Env} {S A C0 : State} {f : FuncId} {first captured : Array Value} {encs : α → List Value}
    {Next : List α → α → Prop} {Done : List α → Prop} {inf : Bool} (hg : evT L g = some (.func (.func f) first captured)) (hit : IMeets P f first.toList captured.toList encs A Next Done inf)
    (ht : Take A S C0) (I : List α → State → Prop) (Ix : Code → List α → State → Prop) (hinf : inf = true → ∃ N, ∀ pre C, I pre C → pre.length ≤ N) (hps : ∀ x, (encs x).length = ps.size) (h0 : I [] C0)
    (hround : ∀ (l : Nat) (F : Chunk) (C : State) (r : Loop) (pre : List α) (x : α), Next pre x → I pre C → CodeW P n (some l) assign (assignK P n l r body F (I (pre ++ [x])) (fun c => Ix c (pre ++ [x]))) [] (putAll n ps.toList (encs x) L) ([(l, .loop r)] :: F :: C))
    (hdone : ∀ (d : Nat) (pre : List α) (C : State), Done pre → I pre C → K .normal (d :: D) L ([(d, .deferred (some []))] :: (C ++ A)))
    (hstop : ∀ (d : Nat) (c : Code) (pre : List α) (x : α) (C : State), Next pre x → Ix c (pre ++ [x]) C → CodeW P n none c K (d :: D) L ([(d, .deferred (some []))] :: (C ++ A))) :
    CodeW P n none (.rangeFunc g ps assign body) K D L S := by
  refine ⟨fun a w ha hw => wpIn_rangeFunc fun fn _ => ?_⟩
  obtain ⟨W1, hW1⟩ : ∃ W1 : World, W1 = (w.alloc (.deferred (some []))).alloc (.loop { state := .ready, pending := none, fn, tmps := a.tmps, params := ps, assign, body, defers := w.heap.size }) := ⟨_, rfl⟩
  refine ⟨w.heap.size + 1, [markD w.heap.size], W1,
    { target := .fn (.func f) captured, args := first ++ #[.func (.yield (w.heap.size + 1)) #[] #[]] }, W1, f, (first.toList ++ [Value.func (.yield (w.heap.size + 1)) #[] #[]] ++ captured.toList).toArray, W1,
    by rw [hW1]; exact run_enterLoop_outer fn a.tmps ps assign body, ?_, fun _ _ => trivial, ?_, fun h => (by cases h), ?_⟩
  · simp only [resolve, ha.ev hg]
    simp [Deferred.ofValue, Act.eval]
  · simp only [invoke]
    rw [enters_able hit.able]
    congr 2
    apply Array.ext'; simp
  · have e1 : (w.alloc (.deferred (some []))).heap = w.heap.push (.deferred (some [])) := rfl
    have hw1 := hw.new (w' := w.alloc (.deferred (some []))) (o := .deferred (some [])) rfl
    have hw2 := hw1.new (w' := (w.alloc (.deferred (some []))).alloc (.loop { state := .ready, pending := none, fn, tmps := a.tmps, params := ps, assign, body, defers := w.heap.size })) rfl
    rw [World.size_alloc, ← hW1] at hw2
    refine range_core (n := n) (L := L) (dB := w.heap.size) (t := a.tmps) (fn := fn) (C0 := C0) (M := [[(w.heap.size, .deferred (some []))]]) (w := w) hit I Ix hinf ⟨ha.size, ha.get, rfl⟩ hps h0
      (by rw [hW1]; exact ⟨rfl, rfl, rfl, by simp only [World.size_alloc]; omega⟩) ?_ (fun F C r pre x hx hI => hround _ F C r pre x hx hI) ?_ ?_
    · refine hw2.perm ?_
      simp only [List.flatten_append, List.flatten_cons, List.cons_append, List.append_assoc, List.nil_append, List.flatten_nil]
      refine List.Perm.cons _ (List.Perm.cons _ ?_)
      have := ht.perm
      rw [List.flatten_append] at this
      exact this.trans List.perm_append_comm
    · intro pre C w2 hd hI he hh
      exact ⟨_, L, _, hdone w.heap.size pre C hd hI, ⟨ha.size, ha.get, by simp [ha.marks]⟩, he, hh.perm (by simp)⟩
    · intro c pre x C w2 hx hI he hh
      refine wpIn_mono ((hstop w.heap.size c pre x C hx hI).out { a with defers := [markD w.heap.size] ++ a.defers } w2 ⟨ha.size, ha.get, by simp [ha.marks]⟩ (hh.perm (by simp))) fun _ _ _ hq => hq.ext he

/-- The same in the body of such a loop (of the record l₀). -/
theorem code_range_in {l₀ : Nat} {r₀ : Loop} {g : Operand} {ps : Array Tmp} {assign body : Code} {K : Cont} {D : List Nat} {L : Env} {S A C0 : State} {f : FuncId} {first captured : Array Value} {encs : α → List Value}
    {Next : List α → α → Prop} {Done : List α → Prop} {inf : Bool} (hg : evT L g = some (.func (.func f) first captured)) (hl : Lies l₀ (.loop r₀) S) (hit : IMeets P f first.toList captured.toList encs A Next Done inf)
    (ht : Take A S C0) (I : List α → State → Prop) (Ix : Code → List α → State → Prop) (hinf : inf = true → ∃ N, ∀ pre C, I pre C → pre.length ≤ N) (hps : ∀ x, (encs x).length = ps.size) (h0 : I [] C0)
    (hround : ∀ (l : Nat) (F : Chunk) (C : State) (r : Loop) (pre : List α) (x : α), Next pre x → I pre C → CodeW P n (some l) assign (assignK P n l r body F (I (pre ++ [x])) (fun c => Ix c (pre ++ [x]))) [] (putAll n ps.toList (encs x) L) ([(l, .loop r)] :: F :: C))
    (hdone : ∀ (pre : List α) (C : State), Done pre → I pre C → K .normal D L (C ++ A))
    (hstop : ∀ (c : Code) (pre : List α) (x : α) (C : State), Next pre x → Ix c (pre ++ [x]) C → CodeW P n (some l₀) c K D L (C ++ A)) :
    CodeW P n (some l₀) (.rangeFunc g ps assign body) K D L S := by
  refine ⟨fun a w ha hw => wpIn_rangeFunc fun fn _ => ?_⟩
  have hr := hl.get hw
  obtain ⟨W1, hW1⟩ : ∃ W1 : World, W1 = w.alloc (.loop { state := .ready, pending := none, fn, tmps := a.tmps, params := ps, assign, body, defers := r₀.defers }) := ⟨_, rfl⟩
  refine ⟨w.heap.size, [], W1,
    { target := .fn (.func f) captured, args := first ++ #[.func (.yield w.heap.size) #[] #[]] }, W1, f, (first.toList ++ [Value.func (.yield w.heap.size) #[] #[]] ++ captured.toList).toArray, W1,
    by rw [hW1]; exact run_enterLoop_inner hr fn a.tmps ps assign body, ?_, fun _ _ => trivial, ?_, fun h => (by cases h), ?_⟩
  · simp only [resolve, ha.ev hg]
    simp [Deferred.ofValue, Act.eval]
  · simp only [invoke]
    rw [enters_able hit.able]
    congr 2
    apply Array.ext'; simp
  · have hw1 := hw.new (w' := w.alloc (.loop { state := .ready, pending := none, fn, tmps := a.tmps, params := ps, assign, body, defers := r₀.defers })) rfl
    rw [← hW1] at hw1
    refine range_core (n := n) (L := L) (dB := r₀.defers) (t := a.tmps) (fn := fn) (C0 := C0) (M := []) (w := w) hit I Ix hinf ⟨ha.size, ha.get, rfl⟩ hps h0
      (by rw [hW1]; exact ⟨rfl, rfl, rfl, by simp only [World.size_alloc]; omega⟩) ?_ (fun F C r pre x hx hI => hround _ F C r pre x hx hI) ?_ ?_
    · refine hw1.perm ?_
      simp only [List.flatten_append, List.flatten_cons, List.cons_append, List.append_assoc, List.nil_append, List.flatten_nil]
      refine List.Perm.cons _ ?_
      have := ht.perm
      rw [List.flatten_append] at this
      exact this.trans List.perm_append_comm
    · intro pre C w2 hd hI he hh
      exact ⟨_, L, _, hdone pre C hd hI, ⟨ha.size, ha.get, by simp [ha.marks]⟩, he, hh.perm (by simp)⟩
    · intro c pre x C w2 hx hI he hh
      refine wpIn_mono ((hstop c pre x C hx hI).out { a with defers := [] ++ a.defers } w2 ⟨ha.size, ha.get, by simp [ha.marks]⟩ (hh.perm (by simp))) fun _ _ _ hq => hq.ext he

end Go.Ost

/- Slices of structures: elements of several cells, as plain data. Conditions: as each says. -/
set_option linter.unusedSimpArgs false
set_option linter.unusedVariables false
namespace Go.Ost
open Go

variable {P : Program}

theorem add_add (a : Addr) (n m : Nat) : (a.add n).add m = a.add (n + m) := by
  unfold Addr.add
  by_cases h1 : n = 0
  · subst h1; simp
  · rw [if_neg h1, if_neg (show n + m ≠ 0 by omega)]
    by_cases h2 : m = 0
    · subst h2; simp
    · rw [if_neg h2]; simp [Nat.add_assoc]
theorem elA_add (a : Option Addr) (n m : Nat) : (elA a n).add m = elA a (n + m) := by unfold elA; exact add_add _ _ _

/-- A field's place, behind any place. -/
theorem field_at {s i off ft : Nat} {a : Addr} {κ : Value → Prop} [h : TField P s i off ft] : PureW P (Instr.fieldAt s (.pointer (some a)) i) κ = κ (.pointer (some (a.add off))) :=
  pureW_eq (fun w => by
    obtain ⟨fs, f, hu, hf, h1, h2, j, hj, hz⟩ := field_parts h.ok
    have hs : (sizeOf f.type).run P w = .ok j.size w := by
      rw [h2]; simp [sizeOf, typeInfo, program, Sem.run_bind, Sem.run, hj, Result.andThen]
    simp only [Instr.fieldAt, Sem.run_bind, run_und hu, Result.andThen, hf, Instr.sureAddr, Sem.run_pure, fieldPlace, hs]
    rw [if_neg hz]
    simp [h1, Result.andThen]) κ
theorem field_el {s i off ft : Nat} {a : Option Addr} {n : Nat} {κ : Value → Prop} [h : TField P s i off ft] : PureW P (Instr.fieldAt s (.pointer (some (elA a n))) i) κ = κ (.pointer (some (elA a (n + off)))) := by
  rw [field_at, elA_add]

section own
variable {s : Nat} {e : TypeId} {C : Chunk} {a : Option Addr} {len cap : Nat} {us : List Value} {S G : State}

theorem own_some (h : Own s e C a len cap us) (hl : 0 < us.length) : ∃ b o cs m, a = some ⟨b, o, none⟩ ∧ C = [(b, .cells cs e m)] ∧ Soft cs.size m ∧ o + cap * s ≤ cs.size ∧ ∀ i, i < us.length → cs[o + i]? = us[i]? := by
  obtain ⟨h1, h2, h3, h4 | h4⟩ := h
  · obtain ⟨h5, _⟩ := h4
    have : len = 0 := by omega
    subst this
    rw [Nat.zero_mul] at h3
    omega
  · exact h4
theorem rd_some (h : Rd s S a len us) (hl : 0 < us.length) : ∃ b o, a = some ⟨b, o, none⟩ := by
  obtain ⟨b, o, _, _, _, h1, _⟩ := h.2 (List.length_pos_iff.1 hl)
  exact ⟨b, o, h1⟩

/-- An element's place. -/
theorem el_at {t e : TypeId} {z : Value} {by_ : Nat} {k : IntKind} {i : Int} {κ : Value → Prop} [h : TSlice P t e] [hs : TSized P e z s by_] (hr : Rd s S a len us) (h0 : 0 ≤ i) (h1 : i < len) (hp : 0 < s) :
    PureW P (Instr.indexAt t (.slice a len cap) (.int k i)) κ = κ (.pointer (some (elA a (i.toNat * s)))) := by
  have hpos : 0 < us.length := by rw [hr.1]; exact Nat.mul_pos (by omega) hp
  obtain ⟨b, o, rfl⟩ := rd_some hr hpos
  rw [index_addr h0 h1]
  simp [elA, add_mk]
/-- A cell of an element. -/
theorem el_load {t : TypeId} {i : Nat} {v : Value} {κ : Value → Prop} [hf : TFlat P t] (hr : Rd s S a len us) (hv : us[i]? = some v) (k : κ v) : ReadW P (Instr.loadAt t (.pointer (some (elA a i)))) S κ := by
  have hi := (List.getElem?_eq_some_iff.1 hv).1
  obtain ⟨hl, hne⟩ := hr
  obtain ⟨b, o, cs, et, m, rfl, hb, hc⟩ := hne (by intro e; subst e; simp at hi)
  simp only [elA, Option.getD_some, add_mk]
  exact load_one hb (by rw [hc i hi]; exact hv) k
/-- Cells of an element, together. -/
theorem el_load_agg {t : TypeId} {z : Value} {n by_ i : Nat} {κ : Value → Prop} [hf : TDeep P t] [hs : TSized P t z n by_] (hr : Rd s S a len us) (hn : 0 < n) (hi : i + n ≤ us.length) (k : κ (.agg ((us.drop i).take n).toArray)) :
    ReadW P (Instr.loadAt t (.pointer (some (elA a i)))) S κ := by
  obtain ⟨hl, hne⟩ := hr
  obtain ⟨b, o, cs, et, m, rfl, hb, hc⟩ := hne (by intro e; subst e; simp at hi; omega)
  simp only [elA, Option.getD_some, add_mk]
  have hsz : o + us.length ≤ cs.size := by
    have := hc (us.length - 1) (by omega)
    rw [List.getElem?_eq_getElem (by omega)] at this
    have := (Array.getElem?_eq_some_iff.1 this).1
    omega
  refine load_agg hb (by omega) ?_
  have e : cs.extract (o + i) (o + i + n) = ((us.drop i).take n).toArray := by
    apply Array.ext_getElem?
    intro j
    rw [Array.getElem?_extract]
    simp only [List.getElem?_toArray]
    by_cases hj : j < n
    · rw [if_pos (by omega), show o + i + j = o + (i + j) from by omega, hc _ (by omega), List.getElem?_take_of_lt hj, List.getElem?_drop]
    · rw [if_neg (by omega), List.getElem?_eq_none (by rw [List.length_take]; omega)]
  rw [e]; exact k

def setL (us : List Value) (i : Nat) : List Value → List Value
  | [] => us
  | v :: l => setL (us.set i v) (i + 1) l
theorem setL_length : ∀ (vs us : List Value) (i : Nat), (setL us i vs).length = us.length
  | [], _, _ => rfl
  | v :: l, us, i => by simp [setL, setL_length l]
theorem setL_cells : ∀ (vs : List Value) (cs : Array Value) (us : List Value) (o i : Nat), o + us.length ≤ cs.size → (∀ j, j < us.length → cs[o + j]? = us[j]?) → i + vs.length ≤ us.length →
    ∀ j, j < us.length → (setCells cs (o + i) vs)[o + j]? = (setL us i vs)[j]?
  | [], cs, us, o, i, _, h, _, j, hj => h j hj
  | v :: vs, cs, us, o, i, hs, h, hi, j, hj => by
    simp only [List.length_cons] at hi
    rw [setCells, setL]
    refine setL_cells vs _ _ o (i + 1) (by simpa using hs) (fun q hq => ?_) (by simp; omega) j (by simpa using hj)
    simp only [List.length_set] at hq
    by_cases e : q = i
    · subst e
      rw [Array.getElem?_setIfInBounds_self, if_pos (by omega)]
      simp [hq]
    · rw [Array.getElem?_setIfInBounds_ne (by omega), h q hq, List.getElem?_set_ne (by omega)]

theorem own_store_gen {t : TypeId} {z : Value} {n by_ i : Nat} {v : Value} {κ : State → Prop} [hs : TSized P t z n by_] (ho : Own s e C a len cap us) (hp : Pick C S G) (hn : 0 < n) (hvs : v.cells.size = n) (hc1 : ∀ u ∈ v.cells.toList, Value.cell1 u) (hi : i + n ≤ us.length)
    (k : ∀ C', Own s e C' a len cap (setL us i v.cells.toList) → κ (C' :: G)) : UnitW P (Instr.storeAt t (.pointer (some (elA a i))) v) S κ := by
  refine ⟨fun w hw => ?_⟩
  obtain ⟨b, o, cs, m, rfl, rfl, hsoft, hbig, hc⟩ := own_some ho (by omega)
  have hCG := hw.perm hp.perm
  obtain ⟨lo, hi'⟩ := m
  have hsz : o + us.length ≤ cs.size := by
    have := hc (us.length - 1) (by omega)
    rw [List.getElem?_eq_getElem (by omega)] at this
    have := (Array.getElem?_eq_some_iff.1 this).1
    omega
  obtain ⟨w', q1, q2, q3, q4⟩ := run_storeCells (P := P) (b := b) (o := o + i) v.cells.toList 0 w cs (hCG.get b (.cells cs e (lo, hi')) (by simp)) hc1 (by simp [hvs]; omega) hsoft.or
  refine ⟨w', _, ?_, q2, (Upd.one (S := G)).hold hCG q3 q4, k [(b, .cells (setCells cs (o + i + 0) v.cells.toList) e (lo, hi'))] ⟨ho.1, ho.2.1, by rw [setL_length]; exact ho.2.2.1, .inr ⟨b, o, _, (lo, hi'), rfl, rfl, by rw [setCells_size]; exact hsoft, by rw [setCells_size]; exact hbig, fun j hj => ?_⟩⟩⟩
  · simp only [elA, Option.getD_some, add_mk]
    simp [Instr.storeAt, Instr.sureAddr, storeVar, Sem.run_bind, run_size hs, Result.andThen, hvs, q1]
  · rw [setL_length] at hj
    rw [Nat.add_zero]
    exact setL_cells _ cs us o i hsz hc (by simp [hvs]; omega) j hj
/-- A cell of an element of one's own is set. -/
theorem own_store1 {t : TypeId} {z : Value} {by_ i : Nat} {v : Value} {κ : State → Prop} [hs : TSized P t z 1 by_] (ho : Own s e C a len cap us) (hp : Pick C S G) (hc : Value.cell1 v) (hi : i < us.length)
    (k : ∀ C', Own s e C' a len cap (us.set i v) → κ (C' :: G)) : UnitW P (Instr.storeAt t (.pointer (some (elA a i))) v) S κ := by
  have hcs : v.cells = #[v] := by cases v <;> first | exact hc.elim | rfl
  exact own_store_gen (n := 1) ho hp (by omega) (by rw [hcs]; rfl) (by rw [hcs]; simpa using hc) (by omega) (by rw [hcs]; exact k)
theorem own_store_agg {t : TypeId} {z : Value} {n by_ i : Nat} {vs : List Value} {κ : State → Prop} [hs : TSized P t z n by_] (ho : Own s e C a len cap us) (hp : Pick C S G) (hn : 0 < n) (hvs : vs.length = n) (hc : ∀ u ∈ vs, Value.cell1 u) (hi : i + n ≤ us.length)
    (k : ∀ C', Own s e C' a len cap (setL us i vs) → κ (C' :: G)) : UnitW P (Instr.storeAt t (.pointer (some (elA a i))) (.agg vs.toArray)) S κ :=
  own_store_gen (v := .agg vs.toArray) ho hp hn (by simpa [Value.cells] using hvs) (by simpa [Value.cells] using hc) hi (by simpa [Value.cells] using k)
end own

/-! ### Rows of elements -/

theorem setL_app : ∀ (vs p u r : List Value), u.length = vs.length → setL (p ++ (u ++ r)) p.length vs = p ++ (vs ++ r)
  | [], p, [], r, _ => rfl
  | v :: vs, p, x :: u, r, h => by
    have ih := setL_app vs (p ++ [v]) u r (by simpa using h)
    rw [setL]
    have e : (p ++ (x :: u ++ r)).set p.length v = p ++ [v] ++ (u ++ r) := by simp
    rw [e, show p.length + 1 = (p ++ [v]).length from by simp, ih]
    simp
section rows
variable {α : Type} (enc : α → List Value) (s : Nat) (hs : ∀ x, (enc x).length = s)
include hs
theorem flat_len : ∀ l : List α, (l.flatMap enc).length = l.length * s
  | [] => by simp
  | x :: l => by rw [List.flatMap_cons, List.length_append, hs, flat_len l, List.length_cons, Nat.add_mul]; omega
theorem flat_drop : ∀ (l : List α) (i : Nat), (l.flatMap enc).drop (i * s) = (l.drop i).flatMap enc
  | l, 0 => by simp
  | [], i + 1 => by simp
  | x :: l, i + 1 => by
    rw [List.flatMap_cons, Nat.add_mul, Nat.one_mul, Nat.add_comm, ← List.drop_drop, List.drop_left' (hs x), flat_drop l i, List.drop_succ_cons]
theorem flat_el (l : List α) (i : Nat) (h : i < l.length) : ((l.flatMap enc).drop (i * s)).take s = enc l[i] := by
  rw [flat_drop enc s hs, List.drop_eq_getElem_cons h, List.flatMap_cons, List.take_left' (hs _)]
theorem flat_get (l : List α) (i j : Nat) (h : i < l.length) (hj : j < s) : (l.flatMap enc)[i * s + j]? = (enc l[i])[j]? := by
  rw [← List.getElem?_drop, ← flat_el enc s hs l i h, List.getElem?_take_of_lt hj]
theorem flat_set : ∀ (l : List α) (i j : Nat) (v : Value) (h : i < l.length) (x : α), (enc l[i]).set j v = enc x → j < s → (l.flatMap enc).set (i * s + j) v = (l.set i x).flatMap enc
  | [], i, j, v, h, x, _, _ => by simp at h
  | y :: l, 0, j, v, h, x, hx, hj => by
    simp only [List.getElem_cons_zero] at hx
    rw [Nat.zero_mul, Nat.zero_add, List.flatMap_cons, List.set_append_left _ _ (by rw [hs]; exact hj), hx]; rfl
  | y :: l, i + 1, j, v, h, x, hx, hj => by
    have ih := flat_set l i j v (by simpa using h) x (by simpa using hx) hj
    rw [List.flatMap_cons, List.set_append_right _ _ (by rw [hs, Nat.add_mul]; omega), hs, show (i + 1) * s + j - s = i * s + j from by rw [Nat.add_mul]; omega, ih]; rfl
theorem flat_setL (l : List α) (i : Nat) (h : i < l.length) (x : α) : setL (l.flatMap enc) (i * s) (enc x) = (l.set i x).flatMap enc := by
  have e1 : l.flatMap enc = (l.take i).flatMap enc ++ (enc l[i] ++ (l.drop (i + 1)).flatMap enc) := by
    conv => lhs; rw [← List.take_append_drop i l, List.flatMap_append, List.drop_eq_getElem_cons h, List.flatMap_cons]
  have e2 : ((l.take i).flatMap enc).length = i * s := by rw [flat_len enc s hs, List.length_take]; congr 1; omega
  rw [e1, ← e2, setL_app (enc x) _ (enc l[i]) _ (by rw [hs, hs]), List.set_eq_take_append_cons_drop, if_pos h, List.flatMap_append, List.flatMap_cons]
end rows

end Go.Ost
