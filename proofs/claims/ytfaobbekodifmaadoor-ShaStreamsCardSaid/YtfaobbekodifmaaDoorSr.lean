/- The operations, one rule each: numbers, boxes, cells. Conditions: as each says. -/
import Derived.Test.YtfaobbekodifmaaDoorSf
set_option linter.unusedSimpArgs false
set_option linter.unusedVariables false
namespace Go.Ost
open Go

variable {P : Program}

/-! ### Pure operations -/

theorem pureW_eq {m : Sem Value} {v0 : Value} (h : ∀ w, m.run P w = .ok v0 w) (κ : Value → Prop) : PureW P m κ = κ v0 :=
  propext ⟨fun ⟨v, a, b⟩ => by have e := (a default).symm.trans (h default); cases e; exact b, fun k => ⟨v0, h, k⟩⟩

section ints
variable (t : TypeId) (x y : Operand) (k : IntKind) (a b : Int) (κ : Value → Prop)
theorem bin_add : PureW P (do eqGuard .add t x y (.int k a) (.int k b); binOp .add t (.int k a) (.int k b)) κ = κ (.int k (k.wrap (a + b))) :=
  pureW_eq (fun w => by simp [eqGuard, binOp, Op.intArith]) κ
theorem bin_sub : PureW P (do eqGuard .sub t x y (.int k a) (.int k b); binOp .sub t (.int k a) (.int k b)) κ = κ (.int k (k.wrap (a - b))) :=
  pureW_eq (fun w => by simp [eqGuard, binOp, Op.intArith]) κ
theorem bin_mul : PureW P (do eqGuard .mul t x y (.int k a) (.int k b); binOp .mul t (.int k a) (.int k b)) κ = κ (.int k (k.wrap (a * b))) :=
  pureW_eq (fun w => by simp [eqGuard, binOp, Op.intArith]) κ
theorem bin_quo (hb : b ≠ 0) : PureW P (do eqGuard .quo t x y (.int k a) (.int k b); binOp .quo t (.int k a) (.int k b)) κ = κ (.int k (k.wrap (a.tdiv b))) :=
  pureW_eq (fun w => by simp [eqGuard, binOp, Op.intDiv, hb]) κ
theorem bin_rem (hb : b ≠ 0) : PureW P (do eqGuard .rem t x y (.int k a) (.int k b); binOp .rem t (.int k a) (.int k b)) κ = κ (.int k (a.tmod b)) :=
  pureW_eq (fun w => by simp [eqGuard, binOp, Op.intDiv, hb]) κ
theorem bin_quo_pos (hb : b ≠ 0) (ha : 0 ≤ a) : PureW P (do eqGuard .quo t x y (.int k a) (.int k b); binOp .quo t (.int k a) (.int k b)) κ = κ (.int k (k.wrap (a / b))) := by
  rw [bin_quo t x y k a b κ hb, Int.tdiv_eq_ediv_of_nonneg ha]
theorem bin_rem_pos (hb : b ≠ 0) (ha : 0 ≤ a) : PureW P (do eqGuard .rem t x y (.int k a) (.int k b); binOp .rem t (.int k a) (.int k b)) κ = κ (.int k (a % b)) := by
  rw [bin_rem t x y k a b κ hb, Int.tmod_eq_emod_of_nonneg ha]
theorem bin_eql : PureW P (do eqGuard .eql t x y (.int k a) (.int k b); binOp .eql t (.int k a) (.int k b)) κ = κ (.bool (a == b)) :=
  pureW_eq (fun w => by simp [eqGuard, binOp, Op.intCmp]) κ
theorem bin_neq : PureW P (do eqGuard .neq t x y (.int k a) (.int k b); binOp .neq t (.int k a) (.int k b)) κ = κ (.bool (a != b)) :=
  pureW_eq (fun w => by simp [eqGuard, binOp, Op.intCmp]) κ
theorem bin_lss : PureW P (do eqGuard .lss t x y (.int k a) (.int k b); binOp .lss t (.int k a) (.int k b)) κ = κ (.bool (decide (a < b))) :=
  pureW_eq (fun w => by simp [eqGuard, binOp, Op.intCmp]) κ
theorem bin_leq : PureW P (do eqGuard .leq t x y (.int k a) (.int k b); binOp .leq t (.int k a) (.int k b)) κ = κ (.bool (decide (a ≤ b))) :=
  pureW_eq (fun w => by simp [eqGuard, binOp, Op.intCmp]) κ
theorem bin_gtr : PureW P (do eqGuard .gtr t x y (.int k a) (.int k b); binOp .gtr t (.int k a) (.int k b)) κ = κ (.bool (decide (b < a))) :=
  pureW_eq (fun w => by simp [eqGuard, binOp, Op.intCmp]) κ
theorem bin_geq : PureW P (do eqGuard .geq t x y (.int k a) (.int k b); binOp .geq t (.int k a) (.int k b)) κ = κ (.bool (decide (b ≤ a))) :=
  pureW_eq (fun w => by simp [eqGuard, binOp, Op.intCmp]) κ
end ints

theorem un_not (b : Bool) (κ : Value → Prop) : PureW P (Op.unary .not (.bool b)) κ = κ (.bool !b) := pureW_eq (fun w => by simp [Op.unary]) κ
theorem un_neg (k : IntKind) (a : Int) (κ : Value → Prop) : PureW P (Op.unary .neg (.int k a)) κ = κ (.int k (k.wrap (0 - a))) := pureW_eq (fun w => by simp [Op.unary, Op.intArith]) κ
theorem min_two (ats : Array TypeId) (t : TypeId) (k j : IntKind) (a b : Int) (κ : Value → Prop) :
    PureW P (Builtin.min_ ats t [.int k a, .int j b].toArray) κ = κ (.int k (if b < a then b else a)) := pureW_eq (fun w => by simp [Builtin.min_, Builtin.min2]) κ
theorem max_two (ats : Array TypeId) (t : TypeId) (k j : IntKind) (a b : Int) (κ : Value → Prop) :
    PureW P (Builtin.max_ ats t [.int k a, .int j b].toArray) κ = κ (.int k (if a < b then b else a)) := pureW_eq (fun w => by simp [Builtin.max_, Builtin.max2]) κ

/-! ### Wraps that do nothing -/

theorem wrap_i64 {n : Int} (h1 : -9223372036854775808 ≤ n) (h2 : n ≤ 9223372036854775807) : IntKind.i64.wrap n = n := by
  show (if (decide (n % (2 ^ 64 : Int) ≥ (2 ^ 63 : Int))) = true then n % (2 ^ 64 : Int) - (2 ^ 64 : Int) else n % (2 ^ 64 : Int)) = n
  simp only [decide_eq_true_eq]
  split <;> omega
theorem wrap_u64 {n : Int} (h1 : 0 ≤ n) (h2 : n ≤ 18446744073709551615) : IntKind.u64.wrap n = n := by
  show n % (2 ^ 64 : Int) = n
  omega
theorem wrap_i32 {n : Int} (h1 : -2147483648 ≤ n) (h2 : n ≤ 2147483647) : IntKind.i32.wrap n = n := by
  show (if (decide (n % (2 ^ 32 : Int) ≥ (2 ^ 31 : Int))) = true then n % (2 ^ 32 : Int) - (2 ^ 32 : Int) else n % (2 ^ 32 : Int)) = n
  simp only [decide_eq_true_eq]
  split <;> omega
theorem wrap_u32 {n : Int} (h1 : 0 ≤ n) (h2 : n ≤ 4294967295) : IntKind.u32.wrap n = n := by
  show n % (2 ^ 32 : Int) = n
  omega
theorem wrap_u16 {n : Int} (h1 : 0 ≤ n) (h2 : n ≤ 65535) : IntKind.u16.wrap n = n := by
  show n % (2 ^ 16 : Int) = n
  omega
theorem wrap_u8 {n : Int} (h1 : 0 ≤ n) (h2 : n ≤ 255) : IntKind.u8.wrap n = n := by
  show n % (2 ^ 8 : Int) = n
  omega

/-! ### What a type is -/

class TInt (P : Program) (t : TypeId) (k : outParam IntKind) : Prop where
  und : P.underlying t = some (.int k)
class TStr (P : Program) (t : TypeId) : Prop where
  und : P.underlying t = some .string
class TSlice (P : Program) (t : TypeId) (e : outParam TypeId) : Prop where
  und : P.underlying t = some (.slice e)
class TStruct (P : Program) (t : TypeId) (fs : outParam (Array Field)) : Prop where
  und : P.underlying t = some (.struct fs)
class TArr (P : Program) (t : TypeId) (n : outParam Nat) (e : outParam TypeId) : Prop where
  und : P.underlying t = some (.array n e)
class TPtr (P : Program) (t : TypeId) (e : outParam TypeId) : Prop where
  und : P.underlying t = some (.pointer e)
class TMap (P : Program) (t : TypeId) (k e : outParam TypeId) : Prop where
  und : P.underlying t = some (.map k e)
class TBool (P : Program) (t : TypeId) : Prop where
  und : P.underlying t = some .bool
/-- Field i of a struct type: where it lies, its type. (No field without cells.) -/
def fieldB (P : Program) (s i off ft : Nat) : Bool :=
  match P.underlying s with
  | some (.struct fs) =>
    match fs[i]? with
    | some f => f.offset == off && f.type == ft && (match P.info? ft with | some j => j.size != 0 | none => false)
    | none => false
  | _ => false
class TField (P : Program) (s i : Nat) (off ft : outParam Nat) : Prop where
  ok : fieldB P s i off ft = true
/-- The type's zero value, its cells, its bytes. -/
class TSized (P : Program) (t : TypeId) (z : outParam Value) (s by_ : outParam Nat) : Prop where
  info : (P.info? t).map (fun i => (i.zero, i.size, i.bytes)) = some (some z, s, by_)
class TFlat (P : Program) (t : TypeId) : Prop where
  und : (match P.underlying t with | some (.struct _) | some (.array _ _) | none => false | _ => true) = true
class TDeep (P : Program) (t : TypeId) : Prop where
  und : (match P.underlying t with | some (.struct _) | some (.array _ _) => true | _ => false) = true

variable {t e : TypeId} {z : Value} {s by_ : Nat}

theorem run_und {d : TypeDesc} (h : P.underlying t = some d) (w : World) : (underlying t).run P w = .ok d w := by
  simp [underlying, program, Sem.run_bind, Sem.run, h, Result.andThen]
theorem sized_parts (h : (P.info? t).map (fun i => (i.zero, i.size, i.bytes)) = some (some z, s, by_)) :
    ∃ i, P.info? t = some i ∧ i.zero = some z ∧ i.size = s ∧ i.bytes = by_ := by
  cases hi : P.info? t with
  | none => simp [hi] at h
  | some i => simp [hi] at h; exact ⟨i, rfl, h⟩
theorem run_size (h : TSized P t z s by_) (w : World) : (sizeOf t).run P w = .ok s w := by
  obtain ⟨i, hi, _, h2, _⟩ := sized_parts h.info
  simp [sizeOf, typeInfo, program, Sem.run_bind, Sem.run, hi, h2, Result.andThen]
theorem run_zero (h : TSized P t z s by_) (w : World) : (zeroValue t).run P w = .ok z w := by
  obtain ⟨i, hi, h1, _, _⟩ := sized_parts h.info
  simp [zeroValue, typeInfo, program, Sem.run_bind, Sem.run, hi, h1, Result.andThen]
theorem run_isAgg_flat (h : TFlat P t) (w : World) : (isAgg t).run P w = .ok false w := by
  have := h.und
  cases hu : P.underlying t with
  | none => simp [hu] at this
  | some d =>
    rw [isAgg, Sem.run_bind, run_und hu]
    rw [hu] at this
    cases d <;> simp_all [Result.andThen]
theorem run_isAgg_deep (h : TDeep P t) (w : World) : (isAgg t).run P w = .ok true w := by
  have := h.und
  cases hu : P.underlying t with
  | none => simp [hu] at this
  | some d =>
    rw [isAgg, Sem.run_bind, run_und hu]
    rw [hu] at this
    cases d <;> simp_all [Result.andThen]

theorem conv_int {src dst : TypeId} {j k : IntKind} {i : IntKind} [hs : TInt P src j] [hd : TInt P dst k] (n : Int) (κ : Value → Prop) :
    PureW P (convert src dst (.int i n)) κ = κ (.int k (k.wrap n)) :=
  pureW_eq (fun w => by simp [convert, Sem.run_bind, run_und hs.und, run_und hd.und, Result.andThen, Conv.intToInt]) κ

/-! ### Cells -/

theorem add_mk (b o n : Nat) : (Addr.mk b o none).add n = ⟨b, o + n, none⟩ := by
  unfold Addr.add; split
  · subst_vars; simp
  · rfl

theorem cell_of {w : World} {b o : Nat} {cs : Array Value} {m : Nat × Nat} (h : w.heap[b]? = some (.cells cs e m)) : w.cell? ⟨b, o, none⟩ = cs[o]? := by
  simp [World.cell?, h]
theorem frozen_of {w : World} {b o : Nat} {cs : Array Value} {lo hi : Nat} (h : w.heap[b]? = some (.cells cs e (lo, hi))) : w.frozen? ⟨b, o, none⟩ = (decide (lo ≤ o) && decide (o < hi)) := by
  simp [World.frozen?, h]
theorem set_heap {w : World} {b o : Nat} {cs : Array Value} {m : Nat × Nat} (h : w.heap[b]? = some (.cells cs e m)) (v : Value) :
    (w.setCell ⟨b, o, none⟩ v).heap[b]? = some (.cells (cs.setIfInBounds o v) e m) ∧ ∀ k, k ≠ b → (w.setCell ⟨b, o, none⟩ v).heap[k]? = w.heap[k]? := by
  simp only [World.setCell, Array.getElem?_modify]
  refine ⟨by simp [h], fun k hk => by rw [if_neg (Ne.symm hk)]⟩

theorem run_load {w : World} {a : Addr} {v : Value} (h : w.cell? a = some v) : (load a).run P w = .ok v w := by simp [load, Sem.run, h]

theorem run_loadCells {w : World} {b : Nat} {cs : Array Value} {m : Nat × Nat} (h : w.heap[b]? = some (.cells cs e m)) (o : Nat) : ∀ (n i : Nat) (acc : Array Value), o + i + n ≤ cs.size →
    (loadCellsFrom ⟨b, o, none⟩ i n acc).run P w = .ok (acc ++ cs.extract (o + i) (o + i + n)) w
  | 0, i, acc, _ => by simp [loadCellsFrom]; omega
  | n + 1, i, acc, hle => by
    have hlt : o + i < cs.size := by omega
    rw [loadCellsFrom, add_mk, Sem.run_bind, run_load (v := cs[o + i]) (by rw [cell_of h]; simp [hlt])]
    simp only [Result.andThen]
    rw [run_loadCells h o n (i + 1) _ (by omega)]
    congr 1
    rw [show o + (i + 1) = o + i + 1 from by omega, show o + i + 1 + n = o + i + (n + 1) from by omega]
    apply Array.ext'
    simp only [Array.toList_append, Array.toList_push, Array.toList_extract, List.append_assoc, List.extract_eq_take_drop]
    congr 1
    rw [show o + i + (n + 1) - (o + i) = n + 1 from by omega, show o + i + (n + 1) - (o + i + 1) = n from by omega]
    rw [List.drop_eq_getElem_cons (l := cs.toList) (i := o + i) (by simpa using hlt), List.take_succ_cons]
    simp

theorem load_one {S : State} {κ : Value → Prop} {b o : Nat} {cs : Array Value} {m : Nat × Nat} {v : Value} [hf : TFlat P t] (hl : Lies b (.cells cs e m) S) (hv : cs[o]? = some v) (k : κ v) :
    ReadW P (Instr.loadAt t (.pointer (some ⟨b, o, none⟩))) S κ := by
  refine ⟨v, fun w hw => ?_, k⟩
  have hc := hl.get hw
  simp [Instr.loadAt, Instr.sureAddr, loadVar, Sem.run_bind, run_isAgg_flat hf, Result.andThen, run_load (P := P) (w := w) (a := ⟨b, o, none⟩) (v := v) (by rw [cell_of hc]; exact hv)]
theorem load_box {S : State} {κ : Value → Prop} {b : Nat} {m : Nat × Nat} {v : Value} [hf : TFlat P t] (hl : Lies b (.cells #[v] e m) S) (k : κ v) :
    ReadW P (Instr.loadAt t (.pointer (some ⟨b, 0, none⟩))) S κ := load_one hl rfl k
theorem load_agg {S : State} {κ : Value → Prop} {b o : Nat} {cs : Array Value} {m : Nat × Nat} [hf : TDeep P t] [hs : TSized P t z s by_] (hl : Lies b (.cells cs e m) S) (hv : o + s ≤ cs.size)
    (k : κ (.agg (cs.extract o (o + s)))) : ReadW P (Instr.loadAt t (.pointer (some ⟨b, o, none⟩))) S κ := by
  refine ⟨_, fun w hw => ?_, k⟩
  have hc := hl.get hw
  simp [Instr.loadAt, Instr.sureAddr, loadVar, Sem.run_bind, run_isAgg_deep hf, run_size hs, Result.andThen, loadCells, run_loadCells (P := P) hc o s 0 #[] (by omega)]

def setCells (cs : Array Value) (o : Nat) : List Value → Array Value
  | [] => cs
  | v :: l => setCells (cs.setIfInBounds o v) (o + 1) l
theorem setCells_size : ∀ (l : List Value) (cs : Array Value) (o : Nat), (setCells cs o l).size = cs.size
  | [], _, _ => rfl
  | v :: l, cs, o => by simp [setCells, setCells_size l]

/-- A value that one cell holds. -/
def Value.cell1 : Value → Prop
  | .agg _ | .tuple _ => False
  | _ => True

theorem run_store {w : World} {a : Addr} {v u : Value} (hv : Value.cell1 v) (h : w.cell? a = some u) (hf : w.frozen? a = false) : (store a v).run P w = .ok () (w.setCell a v) := by
  cases v <;> first | exact hv.elim | simp [store, Sem.run, h, hf]

theorem ext_set (w : World) (a : Addr) (v : Value) : Ext w (w.setCell a v) := ⟨rfl, rfl, rfl, by simp [World.setCell]⟩

theorem run_storeCells {b o : Nat} {lo hi : Nat} : ∀ (l : List Value) (i : Nat) (w : World) (cs : Array Value), w.heap[b]? = some (.cells cs e (lo, hi)) → (∀ v ∈ l, Value.cell1 v) → o + i + l.length ≤ cs.size → (hi ≤ lo ∨ cs.size ≤ lo) →
    ∃ w', (storeCells ⟨b, o, none⟩ l i).run P w = .ok () w' ∧ Ext w w' ∧ w'.heap[b]? = some (.cells (setCells cs (o + i) l) e (lo, hi)) ∧ ∀ k, k ≠ b → w'.heap[k]? = w.heap[k]?
  | [], i, w, cs, h, _, _, _ => ⟨w, rfl, Ext.refl w, h, fun _ _ => rfl⟩
  | v :: l, i, w, cs, h, hv, hle, hm => by
    have hlt : o + i < cs.size := by simp at hle; omega
    have hs := set_heap (o := o + i) h v
    obtain ⟨w', h1, h2, h3, h4⟩ := run_storeCells (o := o) l (i + 1) (w.setCell ⟨b, o + i, none⟩ v) (cs.setIfInBounds (o + i) v) hs.1 (fun u hu => hv u (List.mem_cons_of_mem _ hu)) (by simp at hle ⊢; omega) (by simpa using hm)
    refine ⟨w', ?_, (ext_set _ _ _).trans h2, h3, fun k hk => (h4 k hk).trans (hs.2 k hk)⟩
    rw [storeCells, add_mk, Sem.run_bind, run_store (u := cs[o + i]) (hv v (List.mem_cons_self ..)) (by rw [cell_of h]; simp [hlt]) (by rw [frozen_of h]; simp; omega)]
    exact h1

theorem store_one {S S' : State} {κ : State → Prop} {b o : Nat} {cs : Array Value} {v : Value} [hs : TSized P t z 1 by_] (hc : Value.cell1 v) (hu : Upd b (.cells cs e (0, 0)) (.cells (cs.setIfInBounds o v) e (0, 0)) S S')
    (ho : o < cs.size) (k : κ S') : UnitW P (Instr.storeAt t (.pointer (some ⟨b, o, none⟩)) v) S κ := by
  refine ⟨fun w hw => ?_⟩
  have hg := hu.get hw
  obtain ⟨w', h1, h2, h3, h4⟩ := run_storeCells (P := P) (b := b) (o := o) [v] 0 w cs hg (fun u hm => by simp at hm; subst hm; exact hc) (by simp; omega) (.inl (Nat.le_refl _))
  refine ⟨w', S', ?_, h2, hu.hold hw h3 h4, k⟩
  have hcs : v.cells = #[v] := by cases v <;> first | exact hc.elim | rfl
  simp [Instr.storeAt, Instr.sureAddr, storeVar, Sem.run_bind, run_size hs, Result.andThen, hcs, h1]
theorem store_box {S S' : State} {κ : State → Prop} {b : Nat} {u v : Value} [hs : TSized P t z 1 by_] (hc : Value.cell1 v) (hu : Upd b (.cells #[u] e (0, 0)) (.cells #[v] e (0, 0)) S S')
    (k : κ S') : UnitW P (Instr.storeAt t (.pointer (some ⟨b, 0, none⟩)) v) S κ := store_one (cs := #[u]) hc hu (by simp) k
theorem store_agg {S S' : State} {κ : State → Prop} {b o : Nat} {cs : Array Value} {vs : Array Value} [hs : TSized P t z s by_] (hz : vs.size = s) (hc : ∀ v ∈ vs.toList, Value.cell1 v)
    (hu : Upd b (.cells cs e (0, 0)) (.cells (setCells cs o vs.toList) e (0, 0)) S S') (ho : o + s ≤ cs.size) (k : κ S') : UnitW P (Instr.storeAt t (.pointer (some ⟨b, o, none⟩)) (.agg vs)) S κ := by
  refine ⟨fun w hw => ?_⟩
  have hg := hu.get hw
  obtain ⟨w', h1, h2, h3, h4⟩ := run_storeCells (P := P) (b := b) (o := o) vs.toList 0 w cs hg hc (by simp [hz]; omega) (.inl (Nat.le_refl _))
  refine ⟨w', S', ?_, h2, hu.hold hw h3 h4, k⟩
  simp [Instr.storeAt, Instr.sureAddr, storeVar, Sem.run_bind, run_size hs, Result.andThen, Value.cells, h1, hz]

theorem ext_push {w w' : World} {o : Obj} (h : w' = { w with heap := w.heap.push o }) : Ext w w' := by subst h; exact ⟨rfl, rfl, rfl, by simp⟩

/-- A new variable. -/
theorem alloc_new {S : State} {κ : Value → State → Prop} [hs : TSized P t z s by_] (k : ∀ b : Nat, κ (.pointer (some ⟨b, 0, none⟩)) ([(b, .cells z.cells t (0, 0))] :: S)) :
    ValW P (Instr.alloc t true (.tuple #[])) S κ := by
  refine ⟨fun w hw => ?_⟩
  refine ⟨.pointer (some ⟨w.heap.size, 0, none⟩), { w with heap := w.heap.push (.cells z.cells t) }, _, ?_, ext_push rfl, hw.new rfl, k _⟩
  simp [Instr.alloc, Sem.run_bind, run_zero hs, Result.andThen, newVar, newRow, newObj, Sem.run]
theorem box_new {S : State} {κ : Value → State → Prop} {v : Value} (k : ∀ b : Nat, κ (.pointer (some ⟨b, 0, none⟩)) ([(b, .cells v.cells t (0, 0))] :: S)) :
    ValW P (Instr.box t v) S κ := by
  refine ⟨fun w hw => ?_⟩
  refine ⟨.pointer (some ⟨w.heap.size, 0, none⟩), { w with heap := w.heap.push (.cells v.cells t) }, _, ?_, ext_push rfl, hw.new rfl, k _⟩
  simp [Instr.box, Sem.run_bind, Result.andThen, newVar, newRow, newObj, Sem.run]


theorem field_parts {s i off ft : Nat} (h : fieldB P s i off ft = true) :
    ∃ fs f, P.underlying s = some (.struct fs) ∧ fs[i]? = some f ∧ f.offset = off ∧ f.type = ft ∧ ∃ j, P.info? ft = some j ∧ j.size ≠ 0 := by
  unfold fieldB at h
  split at h
  · rename_i fs hu
    split at h
    · rename_i f hf
      simp only [Bool.and_eq_true, beq_iff_eq] at h
      obtain ⟨⟨h1, h2⟩, h3⟩ := h
      split at h3
      · rename_i j hj
        exact ⟨fs, f, hu, hf, h1, h2, j, hj, by simpa using h3⟩
      · cases h3
    · cases h
  · cases h

theorem field_addr {s i off ft b o : Nat} {κ : Value → Prop} [h : TField P s i off ft] :
    PureW P (Instr.fieldAt s (.pointer (some ⟨b, o, none⟩)) i) κ = κ (.pointer (some ⟨b, o + off, none⟩)) :=
  pureW_eq (fun w => by
    obtain ⟨fs, f, hu, hf, h1, h2, j, hj, hz⟩ := field_parts h.ok
    have hs : (sizeOf f.type).run P w = .ok j.size w := by
      rw [h2]; simp [sizeOf, typeInfo, program, Sem.run_bind, Sem.run, hj, Result.andThen]
    simp only [Instr.fieldAt, Sem.run_bind, run_und hu, Result.andThen, hf, Instr.sureAddr, Sem.run_pure, fieldPlace, hs]
    rw [if_neg hz]
    simp [add_mk, h1, Result.andThen]) κ

theorem equal_ptr_nil {t e : TypeId} (h : TPtr P t e) (d : Nat) (a : Option Addr) (w : World) : (Op.equalIn (d + 1) t (.pointer a) (.pointer none)).run P w = .ok a.isNone w := by
  rw [Op.equalIn, Sem.run_bind, run_und h.und]
  cases a <;> rfl
theorem equal_bool {t : TypeId} (h : TBool P t) (d : Nat) (a b : Bool) (w : World) : (Op.equalIn (d + 1) t (.bool a) (.bool b)).run P w = .ok (a == b) w := by
  rw [Op.equalIn, Sem.run_bind, run_und h.und]
  rfl
theorem nil_eql {t e : TypeId} {x y : Operand} {κ : Value → Prop} [h : TPtr P t e] (a : Option Addr) :
    PureW P (do eqGuard .eql t x y (.pointer a) (.pointer none); binOp .eql t (.pointer a) (.pointer none)) κ = κ (.bool a.isNone) :=
  pureW_eq (fun w => by
    have e : (do eqGuard .eql t x y (.pointer a) (.pointer none); binOp .eql t (.pointer a) (.pointer none) : Sem Value) = (do pure (.bool (← Op.equalIn (9999 + 1) t (.pointer a) (.pointer none)))) := by
      cases a <;> rfl
    rw [e, Sem.run_bind, equal_ptr_nil h]; rfl) κ
theorem nil_neq {t e : TypeId} {x y : Operand} {κ : Value → Prop} [h : TPtr P t e] (a : Option Addr) :
    PureW P (do eqGuard .neq t x y (.pointer a) (.pointer none); binOp .neq t (.pointer a) (.pointer none)) κ = κ (.bool a.isSome) :=
  pureW_eq (fun w => by
    have e : (do eqGuard .neq t x y (.pointer a) (.pointer none); binOp .neq t (.pointer a) (.pointer none) : Sem Value) = (do pure (.bool (!(← Op.equalIn (9999 + 1) t (.pointer a) (.pointer none))))) := by
      cases a <;> rfl
    rw [e, Sem.run_bind, equal_ptr_nil h]; cases a <;> rfl) κ
theorem bool_eql {t : TypeId} {x y : Operand} {κ : Value → Prop} [h : TBool P t] (a b : Bool) :
    PureW P (do eqGuard .eql t x y (.bool a) (.bool b); binOp .eql t (.bool a) (.bool b)) κ = κ (.bool (a == b)) :=
  pureW_eq (fun w => by
    have e : (do eqGuard .eql t x y (.bool a) (.bool b); binOp .eql t (.bool a) (.bool b) : Sem Value) = (do pure (.bool (← Op.equalIn (9999 + 1) t (.bool a) (.bool b)))) := rfl
    rw [e, Sem.run_bind, equal_bool h]; rfl) κ
theorem bool_neq {t : TypeId} {x y : Operand} {κ : Value → Prop} [h : TBool P t] (a b : Bool) :
    PureW P (do eqGuard .neq t x y (.bool a) (.bool b); binOp .neq t (.bool a) (.bool b)) κ = κ (.bool (a != b)) :=
  pureW_eq (fun w => by
    have e : (do eqGuard .neq t x y (.bool a) (.bool b); binOp .neq t (.bool a) (.bool b) : Sem Value) = (do pure (.bool (!(← Op.equalIn (9999 + 1) t (.bool a) (.bool b))))) := rfl
    rw [e, Sem.run_bind, equal_bool h]; rfl) κ

theorem len_slice {ats : Array TypeId} {t u e : TypeId} {a : Option Addr} {n c : Nat} {κ : Value → Prop} (ha : ats[0]? = some t) [h : TSlice P t e] :
    PureW P (Builtin.len_ ats u #[.slice a n c]) κ = κ (.int .i64 n) :=
  pureW_eq (fun w => by simp [Builtin.len_, ha, Sem.run_bind, run_und h.und, Result.andThen, goInt]) κ
theorem len_string {ats : Array TypeId} {t u : TypeId} {s : ByteArray} {κ : Value → Prop} (ha : ats[0]? = some t) [h : TStr P t] :
    PureW P (Builtin.len_ ats u #[.string s]) κ = κ (.int .i64 s.size) :=
  pureW_eq (fun w => by simp [Builtin.len_, ha, Sem.run_bind, run_und h.und, Result.andThen, goInt]) κ

theorem len_slice1 {t u e : TypeId} {a : Option Addr} {n c : Nat} {κ : Value → Prop} [h : TSlice P t e] : PureW P (Builtin.len_ #[t] u #[.slice a n c]) κ = κ (.int .i64 n) := len_slice (h := h) rfl
theorem len_string1 {t u : TypeId} {s : ByteArray} {κ : Value → Prop} [h : TStr P t] : PureW P (Builtin.len_ #[t] u #[.string s]) κ = κ (.int .i64 s.size) := len_string (h := h) rfl

/-- An element's place. -/
theorem index_addr {t e : TypeId} {z : Value} {s by_ b o n c : Nat} {k : IntKind} {i : Int} {κ : Value → Prop} [h : TSlice P t e] [hs : TSized P e z s by_] (h0 : 0 ≤ i) (h1 : i < n) :
    PureW P (Instr.indexAt t (.slice (some ⟨b, o, none⟩) n c) (.int k i)) κ = κ (.pointer (some ⟨b, o + i.toNat * s, none⟩)) :=
  pureW_eq (fun w => by
    simp [Instr.indexAt, asIntOf, Sem.run_bind, run_und h.und, Result.andThen, run_size hs, h0, h1, add_mk]) κ

theorem arr_addr {t e n : Nat} {z : Value} {s by_ b o : Nat} {k : IntKind} {i : Int} {κ : Value → Prop} [h : TArr P t n e] [hs : TSized P e z s by_] (h0 : 0 ≤ i) (h1 : i < n) :
    PureW P (Instr.indexAt t (.pointer (some ⟨b, o, none⟩)) (.int k i)) κ = κ (.pointer (some ⟨b, o + i.toNat * s, none⟩)) :=
  pureW_eq (fun w => by
    simp [Instr.indexAt, asIntOf, Sem.run_bind, run_und h.und, Result.andThen, run_size hs, h0, h1, add_mk, Instr.sureAddr]) κ
theorem arr_index {t e n : Nat} {z : Value} {by_ : Nat} {k : IntKind} {i : Int} {cs : Array Value} {v : Value} {κ : Value → Prop} [h : TArr P t n e] [hs : TSized P e z 1 by_] [hf : TFlat P e] (h0 : 0 ≤ i) (h1 : i < n) (hv : cs[i.toNat]? = some v) :
    PureW P (Instr.index t (.agg cs) (.int k i)) κ = κ v :=
  pureW_eq (fun w => by
    simp [Instr.index, asIntOf, Sem.run_bind, run_und h.und, Result.andThen, run_size hs, h0, h1, part, run_isAgg_flat hf, hv]) κ

/-- An array written out. -/
theorem build_arr {t e n : Nat} {z z' : Value} {s by_ s' by' : Nat} {ps : List (Nat × Value)} {cs : Array Value} {κ : Value → Prop} [h : TArr P t n e] [hs : TSized P t z s by_] [he : TSized P e z' s' by']
    (hf : Instr.fill (fun i => some (i * s', s')) z.cells ps = some cs) : PureW P (Instr.build t ps.toArray) κ = κ (.agg cs) :=
  pureW_eq (fun w => by
    simp [Instr.build, Sem.run_bind, run_und h.und, run_zero hs, run_size he, Result.andThen, hf]) κ
/-- A structure written out. -/
def placesB (P : Program) (t : TypeId) (pl : List (Nat × Nat)) : Bool :=
  match P.underlying t with
  | some (.struct fs) => fs.toList.map (fun f => (f.offset, (P.info? f.type).map (·.size))) == pl.map fun p => (p.1, some p.2)
  | _ => false
class TPlaces (P : Program) (t : TypeId) (pl : outParam (List (Nat × Nat))) : Prop where
  ok : placesB P t pl = true
theorem build_struct {t : Nat} {z : Value} {s by_ : Nat} {pl : List (Nat × Nat)} {ps : List (Nat × Value)} {cs : Array Value} {κ : Value → Prop} [h : TPlaces P t pl] [hs : TSized P t z s by_]
    (hf : Instr.fill (pl[·]?) z.cells ps = some cs) : PureW P (Instr.build t ps.toArray) κ = κ (.agg cs) := by
  refine pureW_eq (fun w => ?_) κ
  have hk := h.ok
  unfold placesB at hk
  split at hk
  · rename_i fs hu
    have hk := eq_of_beq hk
    have key : ∀ (g : Field → Sem (Nat × Nat)), (∀ f s, (P.info? f.type).map (·.size) = some s → (g f).run P w = .ok (f.offset, s) w) → ∀ (l : List Field) (pl : List (Nat × Nat)),
        l.map (fun f => (f.offset, (P.info? f.type).map (·.size))) = pl.map (fun p => (p.1, some p.2)) → (l.mapM g).run P w = .ok pl w := by
      intro g hg l
      induction l with
      | nil => intro pl h; cases pl with
        | nil => rfl
        | cons p pl => simp at h
      | cons f l ih => intro pl h; cases pl with
        | nil => simp at h
        | cons p pl =>
          simp only [List.map_cons, List.cons.injEq, Prod.mk.injEq] at h
          obtain ⟨⟨h1, h2⟩, h3⟩ := h
          rw [List.mapM_cons, Sem.run_bind, hg f p.2 h2]
          simp only [Result.andThen]
          rw [Sem.run_bind, ih pl h3]
          simp only [Result.andThen]
          rw [h1]; rfl
    have hm : ∀ (g : Field → Sem (Nat × Nat)), (∀ f s, (P.info? f.type).map (·.size) = some s → (g f).run P w = .ok (f.offset, s) w) → (fs.mapM g).run P w = .ok pl.toArray w := by
      intro g hg
      rw [Array.mapM_eq_mapM_toList]
      show ((fs.toList.mapM g >>= fun x => pure x.toArray : Sem (Array (Nat × Nat)))).run P w = _
      rw [Sem.run_bind, key g hg fs.toList pl hk]
      rfl
    unfold Instr.build
    rw [Sem.run_bind, run_zero hs]
    simp only [Result.andThen]
    rw [Sem.run_bind, run_und hu]
    simp only [Result.andThen]
    rw [Sem.run_bind, hm _ (fun f s hfs => by
      rw [Option.map_eq_some_iff] at hfs
      obtain ⟨i, hi, hi2⟩ := hfs
      simp [sizeOf, typeInfo, program, Sem.run_bind, Sem.run, hi, hi2, Result.andThen])]
    simp only [Result.andThen]
    have e : (fun i : Nat => pl.toArray[i]?) = (fun i : Nat => pl[i]?) := by funext i; simp
    rw [e, hf]
    rfl
  · cases hk

end Go.Ost
