/- Texts in a row: the walk's rules and contracts, as each says. Conditions: as each says. -/
import Derived.Test.YtdeenhhfafeanaaDoorM2d428461
import Derived.Laws.StructEq
import Derived.Lib.MakeNoZero
import Derived.Laws.Externs
import Derived.Test.YtdeenhhfafeanaaDoorMf6d9189d
import Derived.Lib.Builder
import Derived.Lib.UnsafeStr
import Derived.Carry
import Derived.ProofKit
import Derived.OpenShut
import Derived.Shelf.Bytes.SlJoin
import Derived.Deep.Matrix
import Derived.Lib.LaidTab
import Derived.Test.YtdeenhhfafeanaaDoorMcae88136
import Derived.Test.YtdeenhhfafeanaaDoorProg
import Derived.Test.YtdeenhhfafeanaaDoorMe6ff7bc8
/- Structures compared: cell by cell. Conditions: as each says. -/
set_option linter.unusedSimpArgs false
set_option linter.unusedVariables false
namespace Go.Ost
open Go

variable {P : Program}

inductive EK | i | s | b
def ekB (P : Program) (t : TypeId) : EK → Bool
  | .i => match P.underlying t with | some (.int _) => true | _ => false
  | .s => match P.underlying t with | some .string => true | _ => false
  | .b => match P.underlying t with | some .bool => true | _ => false
def eqFieldsB (P : Program) : Nat → List Field → List EK → Bool
  | _, [], [] => true
  | i, f :: fs, k :: ks => f.name != "_" && (f.offset == i && (ekB P f.type k && eqFieldsB P (i + 1) fs ks))
  | _, _, _ => false
def eqB (P : Program) (t : TypeId) (ks : List EK) : Bool :=
  match P.underlying t with
  | some (.struct fs) => eqFieldsB P 0 fs.toList ks && (!P.stoodInHeld t && !P.eqGuardType P.depth t)
  | _ => false
class TEq (P : Program) (t : TypeId) (ks : outParam (List EK)) : Prop where
  ok : eqB P t ks = true

def eqL : List EK → List Value → List Value → Option Bool
  | [], [], [] => some true
  | .i :: ks, .int k a :: xs, .int k' b :: ys => if k = k' then (eqL ks xs ys).map fun r => (a == b) && r else none
  | .s :: ks, .string a :: xs, .string b :: ys => (eqL ks xs ys).map fun r => (a.data.toList == b.data.toList) && r
  | .b :: ks, .bool a :: xs, .bool b :: ys => (eqL ks xs ys).map fun r => (a == b) && r
  | _, _, _ => none

theorem part_plain {t : TypeId} {k : EK} (h : ekB P t k = true) {X : Array Value} {i : Nat} {v : Value} (hv : X[i]? = some v) (w : World) : (part t X i).run P w = .ok v w := by
  have hu : ∃ u, P.underlying t = some u ∧ (∀ fs, u ≠ .struct fs) ∧ ∀ n e, u ≠ .array n e := by
    cases k <;> simp only [ekB] at h <;> (cases hu : P.underlying t with | none => rw [hu] at h; cases h | some u => rw [hu] at h; cases u <;> first | (cases h; done) | exact ⟨_, rfl, by simp, by simp⟩)
  obtain ⟨u, hu, h1, h2⟩ := hu
  have hA : (isAgg t).run P w = .ok false w := by
    simp only [isAgg, Sem.run_bind, run_underlying hu, Result.andThen_ok]
    cases u <;> first | rfl | exact absurd rfl (h1 _) | exact absurd rfl (h2 _ _)
  simp [part, Sem.run_bind, hA, Result.andThen, hv]

theorem eq_fields (d : Nat) (X Y : Array Value) (w : World) : ∀ (fs : List Field) (ks : List EK) (i : Nat) (xs ys : List Value) (r : Bool), eqFieldsB P i fs ks = true → eqL ks xs ys = some r →
    (∀ j, j < xs.length → X[i + j]? = xs[j]?) → (∀ j, j < ys.length → Y[i + j]? = ys[j]?) → (Op.eqFields (d + 1) X Y fs).run P w = .ok r w := by
  intro fs
  induction fs with
  | nil =>
    intro ks i xs ys r h1 h2 hX hY
    cases ks with
    | cons k ks => cases h1
    | nil =>
      cases xs with
      | cons x xs => cases h2
      | nil =>
        cases ys with
        | cons y ys => cases h2
        | nil => cases h2; simp [Op.eqFields]
  | cons f fs ih =>
    intro ks i xs ys r h1 h2 hX hY
    cases ks with
    | nil => cases h1
    | cons k ks =>
      simp only [eqFieldsB, Bool.and_eq_true, bne_iff_ne, ne_eq, beq_iff_eq] at h1
      obtain ⟨hn, ho, hk, hr⟩ := h1
      have step : ∀ (x y : Value) (xs' ys' : List Value) (q r' : Bool), xs = x :: xs' → ys = y :: ys' → (Op.equalIn (d + 1) f.type x y).run P w = .ok q w → eqL ks xs' ys' = some r' → r = (q && r') → (Op.eqFields (d + 1) X Y (f :: fs)).run P w = .ok r w := by
        rintro x y xs' ys' q r' rfl rfl hq hl rfl
        have e1 := part_plain hk (X := X) (i := f.offset) (v := x) (by rw [ho]; simpa using hX 0 (by simp)) w
        have e2 := part_plain hk (X := Y) (i := f.offset) (v := y) (by rw [ho]; simpa using hY 0 (by simp)) w
        have ht := ih ks (i + 1) xs' ys' r' hr hl (fun j hj => by have := hX (j + 1) (by simpa using hj); rw [← Nat.add_assoc, Nat.add_right_comm] at this; simpa using this)
          (fun j hj => by have := hY (j + 1) (by simpa using hj); rw [← Nat.add_assoc, Nat.add_right_comm] at this; simpa using this)
        simp only [Op.eqFields, hn, ne_eq, not_false_eq_true, if_true, Sem.run_bind, e1, e2, hq, Result.andThen_ok]
        cases q
        · simp
        · simpa using ht
      cases k with
      | i =>
        cases xs with
        | nil => cases h2
        | cons x xs =>
          cases x <;> first | (cases h2; done) | skip
          cases ys with
          | nil => cases h2
          | cons y ys =>
            cases y <;> first | (cases h2; done) | skip
            rename_i k a k' b
            simp only [eqL] at h2
            split at h2
            · subst_vars
              cases hl : eqL ks xs ys with
              | none => rw [hl] at h2; cases h2
              | some r' =>
                rw [hl] at h2
                simp only [Option.map_some, Option.some.injEq] at h2
                simp only [ekB] at hk
                refine step _ _ xs ys (a == b) r' rfl rfl ?_ hl h2.symm
                cases hu : P.underlying f.type with
                | none => rw [hu] at hk; cases hk
                | some u =>
                  rw [hu] at hk
                  cases u <;> first | (cases hk; done) | exact run_equalIn_int w d f.type _ _ a b hu
            · cases h2
      | s =>
        cases xs with
        | nil => cases h2
        | cons x xs =>
          cases x <;> first | (cases h2; done) | skip
          cases ys with
          | nil => cases h2
          | cons y ys =>
            cases y <;> first | (cases h2; done) | skip
            rename_i a b
            simp only [eqL] at h2
            cases hl : eqL ks xs ys with
            | none => rw [hl] at h2; cases h2
            | some r' =>
              rw [hl] at h2
              simp only [Option.map_some, Option.some.injEq] at h2
              simp only [ekB] at hk
              refine step _ _ xs ys (a.data.toList == b.data.toList) r' rfl rfl ?_ hl h2.symm
              cases hu : P.underlying f.type with
              | none => rw [hu] at hk; cases hk
              | some u =>
                rw [hu] at hk
                cases u <;> first | (cases hk; done) | (rw [run_equalIn_string w d f.type a b hu, ByteArray.toList_eq, ByteArray.toList_eq]; done)
      | b =>
        cases xs with
        | nil => cases h2
        | cons x xs =>
          cases x <;> first | (cases h2; done) | skip
          cases ys with
          | nil => cases h2
          | cons y ys =>
            cases y <;> first | (cases h2; done) | skip
            rename_i a b
            simp only [eqL] at h2
            cases hl : eqL ks xs ys with
            | none => rw [hl] at h2; cases h2
            | some r' =>
              rw [hl] at h2
              simp only [Option.map_some, Option.some.injEq] at h2
              simp only [ekB] at hk
              refine step _ _ xs ys (a == b) r' rfl rfl ?_ hl h2.symm
              cases hu : P.underlying f.type with
              | none => rw [hu] at hk; cases hk
              | some u =>
                rw [hu] at hk
                cases u <;> first | (cases hk; done) | exact run_equalIn_bool' w d f.type a b hu

section rules
variable {t : TypeId} {ks : List EK} {x y : Operand} {xs ys : List Value} {r : Bool} {κ : Value → Prop}
theorem eq_run [h : TEq P t ks] (hl : eqL ks xs ys = some r) (w : World) : P.eqGuardType P.depth t = false ∧ (Op.equalIn 10000 t (.agg xs.toArray) (.agg ys.toArray)).run P w = .ok r w := by
  have hk := h.ok
  unfold eqB at hk
  split at hk
  · rename_i fs hu
    simp only [Bool.and_eq_true, Bool.not_eq_true'] at hk
    obtain ⟨h1, h2, h3⟩ := hk
    have hf : P.fieldsOf t = fs := by unfold Program.fieldsOf; rw [hu]
    refine ⟨h3, ?_⟩
    rw [show 10000 = 9998 + 1 + 1 from rfl, run_equalIn_agg w (9998 + 1) t xs.toArray ys.toArray (by rw [hf]; exact hu) h2, hf]
    exact eq_fields 9998 _ _ w _ ks 0 xs ys r h1 hl (fun j _ => by simp) (fun j _ => by simp)
  · cases hk
theorem agg_eql [h : TEq P t ks] (hl : eqL ks xs ys = some r) : PureW P (do eqGuard .eql t x y (.agg xs.toArray) (.agg ys.toArray); binOp .eql t (.agg xs.toArray) (.agg ys.toArray)) κ = κ (.bool r) :=
  pureW_eq (fun w => by
    obtain ⟨h1, h2⟩ := eq_run (P := P) (t := t) hl w
    simp only [Sem.run_bind, run_eqGuard_agg w .eql t x y xs.toArray ys.toArray h1, Result.andThen_ok, run_eql_struct, h2]) κ
theorem agg_neq [h : TEq P t ks] (hl : eqL ks xs ys = some r) : PureW P (do eqGuard .neq t x y (.agg xs.toArray) (.agg ys.toArray); binOp .neq t (.agg xs.toArray) (.agg ys.toArray)) κ = κ (.bool (!r)) :=
  pureW_eq (fun w => by
    obtain ⟨h1, h2⟩ := eq_run (P := P) (t := t) hl w
    simp only [Sem.run_bind, run_eqGuard_agg w .neq t x y xs.toArray ys.toArray h1, Result.andThen_ok, run_neq_struct, h2]) κ
end rules

end Go.Ost

/- Copying into one's own bytes; new bytes of whatever content. Conditions: as each says. -/
set_option linter.unusedSimpArgs false
set_option linter.unusedVariables false
namespace Go.Ost
open Go

variable {P : Program}

/-- A function of the library's without a text is called. -/
theorem calls_extern {f : FuncId} {fn : Func} {e : Array Value → Sem Value} {args : List Value} {S : State} {κ : Value → State → Prop} (hf : P.funcs[f]? = some fn) (hname : (fn.name == "runtime.NumGoroutine") = false) (hb : fn.body.isNone = true)
    (hn : Extern.findNext fn = none) (he : Extern.find fn = some e) (h : ValW P (e args.toArray) S κ) : CallsW P f args.toArray S κ := by
  refine ⟨fun w hw => ?_⟩
  obtain ⟨v, w', S', h1, h2, h3, h4⟩ := h.out w hw
  refine ⟨.value v, w', ?_, S', h2, h3, h4⟩
  rw [run_callFunc_extern hf hname hb hn he, h1]; rfl

theorem make_nozero {ps : Array TypeId} {t e : TypeId} [ht : TSlice P t e] {n : Nat} {S : State} {κ : Value → State → Prop} (hn : n ≤ 1000000)
    (k : ∀ b cap us C, Own 1 e C (some ⟨b, 0, none⟩) n cap us → κ (.slice (some ⟨b, 0, none⟩) n cap) (C :: S)) : ValW P (Extern.BytealgMakeNoZero.makeNoZero ps #[t] #[.int .i64 n]) S κ := by
  refine ⟨fun w hw => ?_⟩
  obtain ⟨cs, h1, h2, h3⟩ := Lib.run_makeNoZero (P := P) w ps t e ht.und n (by omega)
  refine ⟨_, _, [(w.heap.size, .cells cs e (0, 0))] :: S, h1, ⟨rfl, rfl, rfl, by simp⟩, Hold.new (w := w) hw rfl, k _ _ (cs.toList.take n) [(w.heap.size, .cells cs e (0, 0))] ⟨h2, h3 (by simp [maxLen]; omega), by simp; omega, .inr ⟨_, 0, cs, (0, 0), rfl, rfl, .inl rfl, by simp, fun i hi => ?_⟩⟩⟩
  simp only [List.length_take] at hi
  rw [Nat.zero_add, List.getElem?_take_of_lt (by omega), Array.getElem?_toList]

/-- copy into one's own, from place l on. -/
theorem copy_own {t t2 ty e : TypeId} {z : Value} {by_ : Nat} [ht : TSlice P t e] [hs : TSized P e z 1 by_] {S G : State} {κ : Value → State → Prop} {C : Chunk} {a b : Option Addr} {len cap l d dc n c : Nat} {us vs : List Value}
    (ho : Own 1 e C a len cap us) (hp : Pick C S G) (hr : Rd 1 S b n vs) (h1 : ∀ v ∈ vs, Value.cell1 v) (hl : l + d ≤ len) {a' : Option Addr} (ha : 0 < min n d → a' = a.map (·.add l))
    (k : ∀ C', Own 1 e C' a len cap (us.take l ++ (vs.take (min n d) ++ us.drop (l + min n d))) → κ (.int .i64 (min n d : Nat)) (C' :: G)) :
    ValW P (Builtin.copy_ #[t, t2] ty #[.slice a' d dc, .slice b n c]) S κ := by
  refine ⟨fun w hw => ?_⟩
  have hCG := hw.perm hp.perm
  have hful : us.length = len := by have := ho.2.2.1; omega
  have hvl : vs.length = n := by have := hr.1; omega
  have hcut : Rd 1 S b (min n d) (vs.take (min n d)) := by
    have := rd_cut hr (l := 0) (h' := min n d) (m := 0) (Nat.zero_le _) (Nat.min_le_left _ _)
    refine ⟨by simp; omega, fun hne => ?_⟩
    obtain ⟨b', o, cs, e', m, h2, h3, h4⟩ := hr.2 (by intro e0; subst e0; simp at hne)
    refine ⟨b', o, cs, e', m, h2, h3, fun i hi => ?_⟩
    simp only [List.length_take] at hi
    rw [List.getElem?_take_of_lt (by omega), h4 i (by omega)]
  have f := rd_first (P := P) (c := c) hcut hw
  have f' : (Builtin.firstCells 1 (min n d) (.slice b n c)).run P w = .ok (vs.take (min n d)).toArray w := by
    have e : Builtin.firstCells 1 (min n d) (.slice b n c) = Builtin.firstCells 1 (min n d) (.slice b (min n d) c) := by
      cases b <;> rfl
    rw [e]; exact f
  by_cases h0 : min n d = 0
  · refine ⟨.int .i64 (min n d : Nat), w, C :: G, ?_, Ext.refl w, hCG, k C ?_⟩
    · have f2 := f'
      rw [h0] at f2
      cases a' <;> simp [Builtin.copy_, Sem.run_bind, run_und ht.und, run_size hs, Result.andThen, Builtin.lenOf, h0, goInt, storeCells, f2, show n.min d = 0 from h0]
    · rw [h0]; simpa using ho
  · obtain ⟨b0, o, cs, m, rfl, rfl, hsoft, hbig, hc⟩ := own_some ho (by omega)
    obtain rfl := ha (by omega)
    obtain ⟨lo, hi'⟩ := m
    have hsz : o + us.length ≤ cs.size := by
      have := hc (us.length - 1) (by omega)
      rw [List.getElem?_eq_getElem (by omega)] at this
      have := (Array.getElem?_eq_some_iff.1 this).1
      omega
    obtain ⟨w', q1, q2, q3, q4⟩ := run_storeCells (P := P) (b := b0) (o := o + l) (vs.take (min n d)) 0 w cs (hCG.get b0 (.cells cs e (lo, hi')) (by simp)) (fun u hu => h1 u (List.mem_of_mem_take hu)) (by simp; omega) hsoft.or
    refine ⟨_, w', _, ?_, q2, (Upd.one (S := G)).hold hCG q3 q4, k [(b0, .cells (setCells cs (o + l + 0) (vs.take (min n d))) e (lo, hi'))] ⟨ho.1, ho.2.1, by simp; omega, .inr ⟨b0, o, _, (lo, hi'), rfl, rfl, by rw [setCells_size]; exact hsoft, by rw [setCells_size]; exact hbig, fun j hj => ?_⟩⟩⟩
    · simp only [Option.map_some, add_mk]
      simp [Builtin.copy_, Sem.run_bind, run_und ht.und, run_size hs, Result.andThen, Builtin.lenOf, goInt, f', q1, show n.min d = min n d from rfl]
    · simp only [List.length_append, List.length_take, List.length_drop] at hj
      rw [Nat.add_zero, get_setCells _ _ _ _ (by simp; omega)]
      simp only [List.length_take]
      by_cases h2 : o + l ≤ o + j ∧ o + j < o + l + min (min n d) vs.length
      · rw [if_pos h2, List.getElem?_append_right (by simp; omega), List.getElem?_append_left (by simp; omega)]
        congr 1; simp; omega
      · rw [if_neg h2, hc j (by omega)]
        by_cases h3 : j < l
        · rw [List.getElem?_append_left (by simp; omega), List.getElem?_take_of_lt h3]
        · rw [List.getElem?_append_right (by simp; omega), List.getElem?_append_right (by simp; omega), List.getElem?_drop]
          congr 1; simp; omega

end Go.Ost

/- A builder of texts. Conditions: as each says. -/
set_option linter.unusedSimpArgs false
set_option linter.unusedVariables false
namespace Go.Ost
open Go

variable {P : Program}

class TUns (P : Program) (t : TypeId) : Prop where
  und : P.underlying t = some .unsafePointer
class TLies (P : Program) (u : TypeId) : Prop where
  lies : ∃ j, P.info? u = some j ∧ j.size = 2 ∧ liesAt P P.depth u (2 / P.cellsOf u) 0 u 1 = true

theorem shape_of {w : World} {b : Nat} {cs : Array Value} {e : TypeId} {m : Nat × Nat} (h : w.heap[b]? = some (.cells cs e m)) : w.shape? b = some (e, cs.size) := by
  simp [World.shape?, h]
/-- A pointer as an unsafe one, and back. -/
theorem to_unsafe {s d u : TypeId} {S : State} {κ : Value → State → Prop} {b : Nat} {v1 v2 : Value} {m : Nat × Nat} [hs : TPtr P s u] [hd : TUns P d] [hu : TLies P u] (hl : Lies b (.cells #[v1, v2] u m) S) (k : κ (.pointer (some ⟨b, 0, none⟩)) S) :
    ConvW P s d (.pointer (some ⟨b, 0, none⟩)) S κ := by
  obtain ⟨j, h1, h2, h3⟩ := hu.lies
  exact ⟨fun w hw => ⟨_, w, S, Lib.run_to_unsafe w ⟨b, 0, none⟩ hs.und hd.und h1 (by rw [h2]; decide) (shape_of (hl.get hw)) (show 0 < 2 by decide), Ext.refl w, hw, k⟩⟩
theorem from_unsafe {s d u : TypeId} {S : State} {κ : Value → State → Prop} {b : Nat} {v1 v2 : Value} {m : Nat × Nat} [hs : TUns P s] [hd : TPtr P d u] [hu : TLies P u] (hl : Lies b (.cells #[v1, v2] u m) S) (k : κ (.pointer (some ⟨b, 0, none⟩)) S) :
    ConvW P s d (.pointer (some ⟨b, 0, none⟩)) S κ := by
  obtain ⟨j, h1, h2, h3⟩ := hu.lies
  exact ⟨fun w hw => ⟨_, w, S, Lib.run_from_unsafe w ⟨b, 0, none⟩ hs.und hd.und h1 (shape_of (hl.get hw)) h3, Ext.refl w, hw, k⟩⟩
/-- One pointer is itself. -/
theorem ptr_neq_self {t e : TypeId} {x y : Operand} {a : Addr} {κ : Value → Prop} {z : Value} {s by_ : Nat} [h : TPtr P t e] [hs : TSized P e z s by_] :
    PureW P (do eqGuard .neq t x y (.pointer (some a)) (.pointer (some a)); binOp .neq t (.pointer (some a)) (.pointer (some a))) κ = κ (.bool false) :=
  pureW_eq (fun w => by
    obtain ⟨j, hj, _⟩ := sized_parts hs.info
    have h1 := Lib.run_neq_ptr_same (P := P) w a h.und hj
    show (binOp .neq t (.pointer (some a)) (.pointer (some a))).run P w = _
    exact h1) κ
/-- Where a slice's cells begin. -/
theorem slice_data {ats : Array TypeId} {ty : TypeId} {S : State} {κ : Value → State → Prop} {a : Option Addr} {n c : Nat} (hc : c ≠ 0 ∨ a = none) (k : κ (.pointer a) S) : ValW P (Builtin.unsafeSliceData_ ats ty #[.slice a n c]) S κ :=
  ⟨fun w hw => by
    cases a with
    | none => exact ⟨_, w, S, Lib.run_unsafeSliceData_nil w ats ty n c, Ext.refl w, hw, k⟩
    | some a => exact ⟨_, w, S, Lib.run_unsafeSliceData_row w ats ty a n c (by rcases hc with h | h; exact h; cases h), Ext.refl w, hw, k⟩⟩
theorem unsafe_none {pt it ty : TypeId} {S : State} {κ : Value → State → Prop} {p : Option Addr} (k : κ (.string (str [])) S) : ValW P (Builtin.unsafeString_ #[pt, it] ty #[.pointer p, .int .i64 0]) S κ :=
  ⟨fun w hw => ⟨_, w, S, Lib.run_unsafeString_none w pt it ty p, Ext.refl w, hw, k⟩⟩
theorem run_unsafe_str {w : World} {pt it ty e : TypeId} (hp : P.underlying pt = some (.pointer e)) (hc : P.cellsOf e = 1) {g o cells : Nat} (hsh : w.shape? g = some (e, cells)) {l : List UInt8} (h0 : l ≠ []) (hn : o + l.length ≤ cells) (h63 : l.length ≤ 9223372036854775807)
    (hcell : ∀ j x, l[j]? = some x → w.cell? ((⟨g, o, none⟩ : Addr).add j) = some (.int .u8 x.toNat)) :
    (Builtin.unsafeString_ #[pt, it] ty #[.pointer (some ⟨g, o, none⟩), .int .i64 l.length]).run P w = .ok (.string (str l)) (w.freeze ⟨g, o, none⟩ l.length) := by
  have hl : l.length ≠ 0 := by simpa using h0
  have hlb := Lib.run_loadBytes (P := P) w l ⟨g, o, none⟩ .empty hcell
  have hlies : liesAt P P.depth e (cells / P.cellsOf e) o e l.length = true := by
    have hd : P.depth = (2 * (P.types.size + Made.depth) + 1) + 1 := rfl
    have hn2 : o + l.length ≤ cells / P.cellsOf e := by rw [hc, Nat.div_one]; exact hn
    rw [hd]
    simp only [liesAt, Bool.or_eq_true]
    left
    rw [hd]
    have hn3 : o + l.length ≤ cells := hn
    simp [rowAt, hc, Nat.div_one, Nat.mod_one, hn3, sameLayout]
  have h63' : ¬ (9223372036854775807 : Int) < (l.length : Int) := by omega
  have hdef : Builtin.unsafeString_ #[pt, it] ty #[.pointer (some ⟨g, o, none⟩), .int .i64 l.length] =
      (do
        let n ← asInt (.int .i64 l.length)
        if n < 0 then runtimePanic (.error "unsafe.String: len out of range")
        if n > IntKind.i64.max then unsupported (.unsafePointer "String: a length above the largest int")
        if n = 0 then pure (.string .empty)
        else if ← variablesAt ⟨g, o, none⟩ (← elemOf pt) n.toNat then do
          let s ← loadBytes ⟨g, o, none⟩ .empty n.toNat
          freeze ⟨g, o, none⟩ n.toNat
          pure (.string s)
        else unsupported (.unsafePointer "String: not so many bytes at ptr")) := rfl
  rw [hdef]
  have hmax : IntKind.i64.max = 9223372036854775807 := rfl
  have hneg : ¬ (l.length : Int) < 0 := by omega
  simp [asInt, asIntOf, hmax, h63', hneg, hl, variablesAt, hsh, elemOf, run_underlying hp, hlies, hlb, str]
theorem unsafe_row {pt it ty e : TypeId} {z : Value} {by_ : Nat} {S G : State} {κ : Value → State → Prop} {C : Chunk} {a : Option Addr} {cap : Nat} {l : List UInt8} [hp : TPtr P pt e] [he : TSized P e z 1 by_]
    (ho : Own 1 e C a l.length cap (l.map b8)) (hpk : Pick C S G) (h0 : l ≠ []) (h63 : l.length ≤ 9223372036854775807) (k : κ (.string (str l)) G) : ValW P (Builtin.unsafeString_ #[pt, it] ty #[.pointer a, .int .i64 l.length]) S κ := by
  have hpos : 0 < l.length := List.length_pos_iff.2 h0
  obtain ⟨b, o, cs, m, rfl, rfl, hsoft, hsz, hc⟩ := own_some ho (by rw [List.length_map]; exact hpos)
  obtain ⟨hle, _, _, _⟩ := ho
  obtain ⟨j, hj, _, hj2, _⟩ := sized_parts he.info
  have hce : P.cellsOf e = 1 := by simp [Program.cellsOf, hj, hj2]
  refine ⟨fun w hw => ?_⟩
  have hw2 := hw.perm hpk.perm
  have hb : w.heap[b]? = some (.cells cs e m) := hw2.get b _ (by simp)
  obtain ⟨sz, hsz2⟩ : ∃ n, cs.size = n := ⟨_, rfl⟩
  have hcell : ∀ j x, l[j]? = some x → w.cell? ((⟨b, o, none⟩ : Addr).add j) = some (.int .u8 x.toNat) := fun j x hx => by
    rw [add_mk, cell_of hb, hc j (by rw [List.length_map]; exact (List.getElem?_eq_some_iff.1 hx).1), List.getElem?_map, hx]; rfl
  refine ⟨.string (str l), w.freeze ⟨b, o, none⟩ l.length, G, ?_, ?_, ?_, k⟩
  · exact run_unsafe_str hp.und hce (shape_of hb) h0 (by omega) h63 hcell
  · unfold World.freeze
    split
    · exact Ext.refl w
    · exact ⟨rfl, rfl, rfl, by simp⟩
  · refine (Hold.sub (S := [(b, .cells cs e m)] :: G) (T := G) hw2 (by simp)) |> fun hG => ⟨hG.nd, fun c p hm => ?_⟩
    have hne : c ≠ b := by
      intro hcb; subst hcb
      have nd := hw2.nd
      simp only [List.flatten_cons, List.map_append, List.map_cons, List.map_nil, List.cons_append, List.nil_append, List.nodup_cons] at nd
      exact nd.1 (List.mem_map.2 ⟨(c, p), hm, rfl⟩)
    unfold World.freeze
    split
    · exact hG.get c p hm
    · show (w.heap.modify b _)[c]? = some p
      rw [Array.getElem?_modify, if_neg (Ne.symm hne)]
      exact hG.get c p hm

/-- A text's bytes are put behind bytes. -/
theorem app_str {t t2 ty e : TypeId} [ht : TSlice P t e] [ht2 : TStr P t2] [hs : TSized P e (.int .u8 0) 1 1] {S G : State} {κ : Value → State → Prop} {C : Chunk}
    {a : Option Addr} {len cap : Nat} {bs xs : List UInt8} (ho : Own 1 e C a len cap (bs.map b8)) (hC : C = [] ∧ G = S ∨ Pick C S G) (hm : len + xs.length ≤ 1000000)
    (k : ∀ C' a' cap', Own 1 e C' a' (len + xs.length) cap' ((bs ++ xs).map b8) → κ (.slice a' (len + xs.length) cap') (C' :: G)) : ValW P (Builtin.append_ #[t, t2] ty #[.slice a len cap, .string (str xs)]) S κ := by
  have k : ∀ C' a' cap', Own 1 e C' a' (len + xs.length) cap' (bs.map b8 ++ xs.map b8) → κ (.slice a' (len + xs.length) cap') (C' :: G) := fun C' a' cap' h => k C' a' cap' (by rw [List.map_append]; exact h)
  have hlv : (xs.map b8).length = xs.length * 1 := by simp
  have h1 := cells8 xs
  have f2 : ∀ (w : World), (Builtin.firstCells 1 xs.length (.string (str xs))).run P w = .ok (xs.map b8).toArray w := fun w => by
    show Result.ok (((str xs).extract 0 xs.length).data.map fun b => Value.int .u8 b.toNat) w = _
    rw [str_ext, List.take_length, List.drop_zero]
    congr 1
    apply Array.ext'
    simp [str, b8]
  have hsz0 : (str xs).size = xs.length := rfl
  have hz : (Value.int .u8 0).cells.size = 1 := rfl
  have h0 : 0 < 1 := Nat.one_pos
  obtain ⟨us, hus⟩ : ∃ us, bs.map b8 = us := ⟨_, rfl⟩
  rw [hus] at ho k
  obtain ⟨vs, hvs⟩ : ∃ vs, xs.map b8 = vs := ⟨_, rfl⟩
  rw [hvs] at k hlv h1
  have f2 : ∀ (w : World), (Builtin.firstCells 1 xs.length (.string (str xs))).run P w = .ok vs.toArray w := fun w => by rw [f2 w, hvs]
  obtain ⟨n, hn0⟩ : ∃ n, xs.length = n := ⟨_, rfl⟩
  rw [hn0] at hm k hlv f2 hsz0
  have hm0 : len + n ≤ maxLen := by simp only [maxLen]; omega
  have hb : (len + n) * 1 ≤ 140737488355328 := by omega
  refine ⟨fun w hw => ?_⟩
  have hCG : Hold w (C :: G) := by
    rcases hC with ⟨rfl, rfl⟩ | hp
    · exact hw.perm (by simp)
    · exact hw.perm hp.perm
  have hrd : Rd 1 (C :: G) a len us := ho.rd (List.mem_cons_self ..)
  have f1 := fun (w : World) hw => rd_first (P := P) (s := 1) (c := cap) hrd (w := w) hw
  obtain ⟨i, hi, hz1, hsz, hby⟩ := sized_parts hs.info
  obtain ⟨hle, hmax, hlen, hcase⟩ := ho
  by_cases hroom : len + n ≤ cap
  · rcases hcase with ⟨rfl, rfl⟩ | ⟨b', o, cs, m, rfl, rfl, hsoft, hbig, hcs⟩
    · obtain rfl : len = 0 := by omega
      obtain rfl : n = 0 := by omega
      obtain rfl : us = [] := List.length_eq_zero_iff.1 (by simpa using hlen)
      obtain rfl : vs = [] := List.length_eq_zero_iff.1 (by simpa using hlv)
      refine ⟨.slice a 0 0, w, _, ?_, Ext.refl w, hCG, k [] a 0 ⟨Nat.le_refl _, Nat.zero_le _, by simp, .inl ⟨rfl, rfl⟩⟩⟩
      cases a <;> simp [Builtin.append_, Sem.run_bind, run_und ht.und, run_und ht2.und, run_size hs, Result.andThen, Builtin.lenOf, f2 w, hsz0, storeCells]
    · have hg : w.heap[b']? = some (.cells cs e m) := hCG.get _ _ (by simp)
      obtain ⟨w', q1, q2, q3, q4⟩ := run_storeCells (P := P) (b := b') (o := o + len * 1) vs 0 w cs hg h1 (by
        have : (len + n) * 1 ≤ cap * 1 := Nat.mul_le_mul_right 1 hroom
        rw [Nat.add_mul] at this
        omega) hsoft.or
      rw [Nat.mul_one] at q1
      refine ⟨.slice (some ⟨b', o, none⟩) (len + n) cap, w', _, ?_, q2, (Upd.one (S := G)).hold hCG q3 q4, k _ _ cap ⟨hroom, hmax, ?_, .inr ⟨b', o, _, m, rfl, rfl, by rw [setCells_size]; exact hsoft, ?_, ?_⟩⟩⟩
      · simp [Builtin.append_, Sem.run_bind, run_und ht.und, run_und ht2.und, run_size hs, Result.andThen, Builtin.lenOf, f2 w, hsz0, hroom, add_mk, q1]
      · rw [List.length_append, hlen, hlv, Nat.add_mul]
      · rw [setCells_size]; exact hbig
      · intro j hj
        rw [List.length_append] at hj
        have hmul : (len + n) * 1 ≤ cap * 1 := Nat.mul_le_mul_right 1 hroom
        rw [Nat.add_mul] at hmul
        rw [get_setCells _ _ _ _ (by omega)]
        by_cases hlt : j < us.length
        · rw [if_neg (by omega), hcs j hlt, List.getElem?_append_left hlt]
        · rw [if_pos (by omega), List.getElem?_append_right (by omega)]
          congr 1; omega
  · have hge := grownCap_ge w (len + n) cap e
    have hcm := grownCap_le_maxLen w (len + n) cap e hm0
    have hn : ¬ (len + n ≤ cap) := hroom
    have h63' : ¬ (9223372036854775807 < ((len : Int) + (n : Int))) := by simp only [maxLen] at hm0; omega
    have h48' : ¬ (281474976710656 < Builtin.nextslicecap (len + n) cap * i.bytes) := by
      rw [hby]
      have := growslice_fits (by omega : cap < len + n) hb
      omega
    have f1' := f1 w.drew ⟨hCG.nd, hCG.get⟩
    have f2' := f2 w.drew
    obtain ⟨cells, hcells⟩ : ∃ cells : Array Value, cells = us.toArray ++ vs.toArray ++ Builtin.zeroCells (Value.int .u8 0).cells (grownCap w (len + n) cap e - (len + n)) := ⟨_, rfl⟩
    refine ⟨.slice (some ⟨w.heap.size, 0, none⟩) (len + n) (grownCap w (len + n) cap e), w.drew.alloc (.cells cells e), [(w.heap.size, .cells cells e (0, 0))] :: G, ?_, ⟨rfl, rfl, rfl, by simp⟩, ?_, k _ _ _ ⟨hge, hcm, ?_, .inr ⟨_, 0, cells, (0, 0), rfl, rfl, .inl rfl, ?_, ?_⟩⟩⟩
    · rw [hcells]
      simp [Builtin.append_, Sem.run_bind, run_und ht.und, run_und ht2.und, run_size hs, run_zero hs, Result.andThen, typeInfo, program, Sem.run, hi, hn, h63', h48', Question.forced, Builtin.lenOf, f1', f2', hsz0, newRow, newObj, grownCap, choose]
      generalize Builtin.zeroCells _ _ = X
      rw [show us.toArray ++ (vs.toArray ++ X) = (us ++ vs).toArray ++ X from by apply Array.ext'; simp]
      rfl
    · refine Hold.new (w := w) (o := .cells cells e (0, 0)) ?_ rfl
      exact hCG.sub (by simp)
    · rw [List.length_append, hlen, hlv, Nat.add_mul]
    · rw [hcells]
      simp only [Array.size_append, List.size_toArray, size_zeroCells, hz, hlen, hlv, ← Nat.add_mul]
      rw [Nat.zero_add]
      exact Nat.mul_le_mul_right 1 (by omega)
    · intro j hj
      rw [hcells, Nat.zero_add, Array.getElem?_append_left (by simpa using hj)]
      simp


end Go.Ost

/- From a contract to a law's row: all of the world's blocks are as they were. Conditions: as each says. -/
set_option linter.unusedSimpArgs false
set_option linter.unusedVariables false
namespace Go.Ost
open Go Go.ChangeShapes Go.WideShapes Go.ChangeAt Go.RowKit

variable {P : Program}

/-- The blocks of a world. -/
def blocksOf (w : World) : Chunk := (List.range w.heap.size).map fun b => (b, (w.heap[b]?).getD (.deferred (some [])))
theorem blocks_in {w : World} {b : Nat} {o : Obj} (h : w.heap[b]? = some o) : (b, o) ∈ blocksOf w :=
  List.mem_map.2 ⟨b, List.mem_range.2 (Array.getElem?_eq_some_iff.1 h).1, by rw [h]; rfl⟩
theorem blocks_out {w : World} {b : Nat} {o : Obj} (h : (b, o) ∈ blocksOf w) : w.heap[b]? = some o := by
  obtain ⟨c, hc, he⟩ := List.mem_map.1 h
  have hlt := List.mem_range.1 hc
  cases he
  rw [Array.getElem?_eq_getElem hlt]; rfl
theorem hold_blocks (w : World) : Hold w [blocksOf w] := by
  refine ⟨?_, fun b o hm => blocks_out (by simpa using hm)⟩
  have e : (blocksOf w).map (·.1) = List.range w.heap.size := by
    unfold blocksOf
    rw [List.map_map]
    exact (List.map_congr_left fun a _ => rfl).trans (List.map_id _)
  simp only [List.flatten_cons, List.flatten_nil, List.append_nil, e]
  exact List.nodup_range

/-- What a law's contract gives of its call: true, and all that was there as it was. -/
theorem law_calls {f : FuncId} {args : Array Value} (w : World) (h : ∀ C : Chunk, (∀ k o, w.heap[k]? = some o → (k, o) ∈ C) → Meets P f args.toList [C] fun v A => v = .bool true ∧ A = [C]) :
    Calls P f args w fun e w' => e = .returned (.bool true) ∧ Below w.heap.size w w' := by
  have h1 := (h (blocksOf w) fun k o => blocks_in).out [] w (by simpa [List.flatten] using (hold_blocks w).perm (by simp))
  refine callsIn_wide.1 (h1.mono ?_)
  rintro e w' ⟨v, S, rfl, he, hh, A, rfl, rfl, rfl⟩
  refine ⟨rfl, he.os, he.tape, he.output, he.size, fun k hk => ?_⟩
  rw [Array.getElem?_eq_getElem hk]
  exact hh.get _ _ (by simpa using blocks_in (Array.getElem?_eq_getElem hk))

theorem Meets.keep {f : FuncId} {args : List Value} {x : Value} (C : Chunk) (h : Meets P f args [] fun v A => v = x ∧ A = []) : Meets P f args [C] fun v A => v = x ∧ A = [C] := by
  refine ⟨h.1, fun F w hw => (h.2 (F ++ C) w (hw.perm (by simp))).mono ?_⟩
  rintro e w' ⟨v, S, rfl, he, hh, A, rfl, rfl, rfl⟩
  exact ⟨_, _, rfl, he, hh.perm (T := [F, C]) (by simp), _, rfl, rfl, rfl⟩

/-- A slice of numbers, as the reading ahead of the call has it: its block lies in C. -/
def Row (C : Chunk) (k : IntKind) (v : Value) (zs : List Int) : Prop :=
  (∀ z ∈ zs, (Lit.int k z).wf = true) ∧ ∃ a len cap, v = .slice a len cap ∧ len ≤ cap ∧ cap ≤ maxLen ∧ zs.length = len ∧
    (0 < len → ∃ b o cs e m, a = some ⟨b, o, none⟩ ∧ (b, Obj.cells cs e m) ∈ C ∧ ∀ i, i < len → cs[o + i]? = some (.int k (zs.getD i 0)))

theorem open_slc {H : Type} {enc : TypeId × Value → H} {W : World} {base : Nat} {t e : TypeId} {k : IntKind} {v : Value} {d : DataW H} {ps : List MemPlace} (ht : P.underlying t = some (.slice e)) (he : P.underlying e = some (.int k)) (hc : P.cellsOf e = 1)
    (hval : Value.okWide P W .any base t v) (h : DataW.Trod enc P W 0 (fun _ => true) true t v d ps) :
    ∃ zs, ∀ C : Chunk, (∀ k o, W.heap[k]? = some o → (k, o) ∈ C) → Row C k v zs := by
  obtain ⟨a0, len0, cap0, rfl⟩ := okWide_slice ht hval
  obtain ⟨fuel, hf⟩ := h
  rcases open_ints ht he hc hf with ⟨hcs, hx⟩ | ⟨a, len, cap, zs, hcs, _, hle, hmax, hall, hx, hcell, hwf⟩
  · simp [Value.cells] at hcs
    obtain ⟨rfl, rfl, rfl⟩ := hcs
    exact ⟨[], fun C hC => ⟨by simp, none, 0, 0, rfl, Nat.le_refl _, Nat.zero_le _, rfl, fun h => absurd h (Nat.lt_irrefl 0)⟩⟩
  · simp [Value.cells] at hcs
    obtain ⟨rfl, rfl, rfl⟩ := hcs
    simp only [if_true] at hall
    refine ⟨zs.take len0, fun C hC => ⟨fun z hz => hwf z (List.mem_of_mem_take hz), some a, len0, cap0, rfl, hle, hmax, by simp; omega, fun hpos => ?_⟩⟩
    obtain ⟨b, o, rfl, hat⟩ := ints_at hcell (by omega)
    have h0 := hat 0 (by omega)
    unfold World.cell? at h0
    cases hb : W.heap[b]? with
    | none => simp [hb] at h0
    | some ob =>
      cases ob with
      | cells cs e m =>
        refine ⟨b, o, cs, e, m, rfl, hC b _ hb, fun i hi => ?_⟩
        have h1 := hat i (by omega)
        unfold World.cell? at h1
        simp only [hb, Option.isSome_none, Bool.false_eq_true, if_false] at h1
        rw [h1]
        simp [List.getD, List.getElem?_take, hi]
      | _ => simp [hb] at h0

def rowed (P : Program) (ts : List TypeId) : Bool := ts.all fun t => P.readableRec t && decide (t < P.types.size)

theorem trodAll_still {H : Type} {enc : TypeId × Value → H} (hl : laidOutB P = true) {W W' : World} (hb : Below W.heap.size W W') {sp : Nat → Bool} :
    ∀ {ts : List TypeId} {vs : List Value} {ds : List (DataW H)} {ps : List MemPlace}, rowed P ts = true → (∀ p ∈ ps, p.block < W.heap.size ∧ sp p.block = true) →
      DataW.TrodAll enc P W 0 (fun _ => true) true ts vs ds ps → DataW.TrodAll enc P W' 0 sp true ts vs ds ps
  | [], vs, ds, ps, _, _, h => by
    obtain ⟨rfl, rfl, rfl⟩ := trodAll_nil h
    exact trodAll_mk0
  | t :: ts, vs, ds, ps, hr, hp, h => by
    obtain ⟨v, vs, d, ds, p, q, rfl, rfl, rfl, h1, h2⟩ := trodAll_cons h
    simp only [rowed, List.all_cons, Bool.and_eq_true, decide_eq_true_eq] at hr
    exact trodAll_cons_mk (WideElems.Trod_stays hl hr.1.1 hr.1.2 h1 (fun x hx => hb.same (hp x (List.mem_append_left _ hx)).1) (fun x hx => (hp x (List.mem_append_left _ hx)).2))
      (trodAll_still hl hb hr.2 (fun x hx => hp x (List.mem_append_right _ hx)) h2)

theorem below_kept {W W' : World} (hb : Below W.heap.size W W') (may : MemPlace → Prop) : W.keptBut W' may := by
  refine ⟨hb.os, hb.output, fun i hi => ?_⟩
  rw [hb.block i hi]
  cases h : W.heap[i]? with
  | none => trivial
  | some o => cases o <;> first | exact ⟨rfl, rfl, rfl, fun _ _ => rfl⟩ | exact .inr ⟨rfl, rfl⟩ | rfl

/-- A law that returns true, reads its arguments and no variable. -/
theorem law_post {H : Type} {enc : TypeId × Value → H} {f : Func} {s : ChangeSpec} {fresh handsOn again : Bool} {W W' : World} {args : Array Value} {ds gs : List (DataW H)} {before : List MemPlace} {tb : TypeId}
    (hl : laidOutB P = true) (hr : rowed P f.params.toList = true) (hv : s.vars = []) (ht : f.resultTypes = #[tb]) (hu : P.underlying tb = some .bool)
    (hW : DataW.Whole enc P f.params.toList s.vars false W args.toList ds gs before) (hb : Below W.heap.size W W')
    (hs : gs = [] → (s.fn H ds) = { results := [.lit (.bool true)], args := ds }) :
    s.post enc P f false fresh handsOn again W args (.bool true) W' := by
  have hlt := hW.lt
  have hW' := hW
  obtain ⟨p, q, hA, hV, rfl, hz, hn⟩ := hW
  rw [hv] at hV
  obtain ⟨rfl, rfl⟩ := trodVars_none hV
  have e := hs rfl
  simp only [List.append_nil] at hlt hW' hz hn
  have hT : ∀ sp : Nat → Bool, (∀ x ∈ p, sp x.block = true) → DataW.TrodAll enc P W' 0 sp true f.params.toList args.toList ds p := fun sp h =>
    trodAll_still hl hb hr (fun x hx => ⟨hlt x hx, h x hx⟩) hA
  have hR : ∀ (b : Nat) (sp : Nat → Bool) (hd : Bool), DataW.TrodAll enc P W' b sp hd f.resultTypes.toList ((Value.bool true).resultList f.resultTypes.size) [.lit (.bool true)] [] := by
    intro b sp hd
    rw [ht]
    exact trodAll_cons_mk (shut_bool hu _) trodAll_mk0
  have hvv : ∀ sp : Nat → Bool, DataW.TrodVars enc P W' sp s.vars [] [] := by
    intro sp; rw [hv]; rfl
  refine ⟨ds, [], p, [], p, [], hW', ?_, ?_, ?_, World.keptBut_mono (fun x hx => ⟨hx, .inr (.inl hx)⟩) (below_kept hb (· ∈ p)), fun _ => ⟨?_, ?_⟩⟩
  · simp only [List.append_nil, e]; exact hR _ _ _
  · simp only [List.append_nil, e]; exact hT _ (fun x hx => by simpa using hlt x hx)
  · simp only [List.append_nil, e]; exact hvv _
  · intro j t r h1 h2
    rw [ht] at h1 h2
    exact ok_one (f := f) ht rfl (okWide_bool_mk hu true) j t r (by rw [ht]; exact h1) (by rw [ht]; exact h2)
  · refine ⟨_, _, ([] ++ p) ++ [], ⟨[] ++ p, [], trodAll_append (hT _ (fun _ _ => rfl)) (hR _ _ _), hvv _, rfl, ?_, fun h => by cases h⟩, fun x hx _ => by simpa using hx⟩
    intro b off hx
    have hx : MemPlace.cell b off ∈ p := by simpa using hx
    have hz' := hz b off hx
    unfold World.frozen? at hz' ⊢
    rw [hb.block b (hlt _ hx)]
    exact hz'

end Go.Ost

/- From a contract of the kit's shelf to one over chunks. Conditions: as each says. -/
set_option linter.unusedSimpArgs false
set_option linter.unusedVariables false
namespace Go.Ost
open Go Go.RowKit

variable {P : Program}

/-- The chunk is one block, that may be written over so many cells. -/
def Loose (C : Chunk) (a : Option Addr) (n : Nat) : Prop := 0 < n → ∃ b cs e lo hi, a = some ⟨b, 0, none⟩ ∧ C = [(b, .cells cs e (lo, hi))] ∧ ∀ i, i < n → ¬ (lo ≤ i ∧ i < hi)
/-- A slice of bytes that is new, beside R. -/
def Got8 (bs : List UInt8) (R : State) (v : Value) (A : State) : Prop := ∃ C a cap, v = .slice a bs.length cap ∧ bs.length ≤ cap ∧ Rd 1 [C] a bs.length (bs.map b8) ∧ Loose C a bs.length ∧ A = C :: R

theorem meets_of_calls {f : FuncId} {fn : Func} {args : List Value} {A : State} {R : Value → State → Prop} (hf : P.funcs[f]? = some fn) (hb : fn.body.isSome = true) (hn : (fn.name != "runtime.NumGoroutine") = true)
    (h : ∀ w, Hold w A → Calls P f args.toArray w fun e w' => ∃ v, e = .returned v ∧ Below w.heap.size w w' ∧ ∃ C : Chunk, (∀ k o, (k, o) ∈ C → w.heap.size ≤ k ∧ w'.heap[k]? = some o) ∧ (C.map (·.1)).Nodup ∧ R v (C :: A)) : Meets P f args A R := by
  refine ⟨?_, fun F w hw => ?_⟩
  · obtain ⟨c, hc⟩ := Option.isSome_iff_exists.1 hb
    simp [callable, hf, hc]; simpa using hn
  · have hA : Hold w A := hw.sub (by simp)
    refine (callsIn_wide.2 (h w hA)).mono ?_
    rintro e w' ⟨v, rfl, hbe, C, hC, hnd, hR⟩
    refine ⟨v, F :: C :: A, rfl, ⟨hbe.os, hbe.tape, hbe.output, hbe.size⟩, ?_, C :: A, rfl, hR⟩
    have hall : Hold w' (C :: F :: A) := by
      refine ⟨?_, fun k o hm => ?_⟩
      · simp only [List.flatten_cons, List.map_append]
        rw [List.nodup_append]
        refine ⟨hnd, by have := hw.nd; simpa only [List.flatten_cons, List.map_append] using this, ?_⟩
        intro x hx y hy hxy
        obtain ⟨⟨k, o⟩, hk, rfl⟩ := List.mem_map.1 hx
        have h1 := (hC k o hk).1
        have hy' : y ∈ ((F :: A).flatten.map (·.1)) := by simpa only [List.flatten_cons, List.map_append] using hy
        obtain ⟨⟨k2, o2⟩, hk2, e2⟩ := List.mem_map.1 hy'
        have h2 := hw.lt hk2
        simp only at e2 hxy
        omega
      · simp only [List.flatten_cons, List.mem_append] at hm
        rcases hm with hm | hm
        · exact (hC k o hm).2
        · have hm' : (k, o) ∈ (F :: A).flatten := by simpa only [List.flatten_cons, List.mem_append] using hm
          rw [hbe.block k (hw.lt hm')]
          exact hw.get k o hm'
    exact hall.perm (by
      simp only [List.flatten_cons]
      rw [← List.append_assoc, ← List.append_assoc]
      exact List.Perm.append_right _ List.perm_append_comm)

theorem fresh_chunk {B : Nat} {w' : World} {v : Value} {l : List UInt8} (h : Lib.FreshBytes B w' v l) :
    ∃ C a cap, v = .slice a l.length cap ∧ l.length ≤ cap ∧ (∀ k o, (k, o) ∈ C → B ≤ k ∧ w'.heap[k]? = some o) ∧ (C.map (·.1)).Nodup ∧ Rd 1 [C] a l.length (l.map b8) ∧ Loose C a l.length := by
  obtain ⟨g, cap, zs, rfl, hg, hle, _, hz, hr, hb, hc, hf⟩ := h
  by_cases h0 : l.length = 0
  · have : l = [] := List.length_eq_zero_iff.1 h0
    subst this
    exact ⟨[], _, cap, rfl, hle, fun k o hm => (by cases hm), by simp, Rd.nil, fun h => absurd h (by simp)⟩
  · have hc0 := hc 0 (by omega)
    unfold World.cell? at hc0
    cases hob : w'.heap[g]? with
    | none => simp [hob] at hc0
    | some ob =>
      cases ob with
      | cells cs e m =>
        obtain ⟨lo, hi⟩ := m
        refine ⟨[(g, .cells cs e (lo, hi))], _, cap, rfl, hle, fun k o hm => ?_, by simp, ⟨by simp, fun _ => ⟨g, 0, cs, e, (lo, hi), rfl, Lies.one, fun i hi' => ?_⟩⟩, fun _ => ⟨g, cs, e, lo, hi, rfl, rfl, fun i hi' => ?_⟩⟩
        · simp only [List.mem_singleton, Prod.mk.injEq] at hm
          obtain ⟨rfl, rfl⟩ := hm
          exact ⟨hg, hob⟩
        · simp only [List.length_map] at hi'
          have h1 := hc i (by omega)
          unfold World.cell? at h1
          simp only [hob, Option.isSome_none, Bool.false_eq_true, if_false] at h1
          rw [Nat.zero_add, h1]
          have h2 : l[i]? = some (UInt8.ofNat (zs.getD i 0).toNat) := by
            rw [← hb]
            simp only [Lib.bytesOf, List.getElem?_map, List.getElem?_take, if_pos hi']
            rw [List.getElem?_eq_getElem (by omega), List.getD, List.getElem?_eq_getElem (by omega)]; rfl
          have h3 := hr (zs.getD i 0) (by
            rw [List.getD, List.getElem?_eq_getElem (by omega)]
            exact List.getElem_mem _)
          rw [List.getElem?_map, h2]
          simp only [Option.map_some, b8, UInt8.toNat_ofNat']
          congr 2; omega
        · have h1 := hf i (by omega)
          unfold World.frozen? at h1
          simp only [hob] at h1
          intro hlt
          simp [hlt.1, hlt.2] at h1
      | _ => simp [hob] at hc0

/-- Slices of bytes in a row. -/
def Parts (A : State) (a : Option Addr) (n : Nat) (ls : List (List UInt8)) : Prop :=
  ls.length = n ∧ ∃ vs : List Value, Rd 1 A a n vs ∧ ∀ (i : Nat) (v : Value) (l : List UInt8), vs[i]? = some v → ls[i]? = some l → ∃ p c, v = .slice p l.length c ∧ l.length ≤ c ∧ Rd 1 A p l.length (l.map b8)

theorem rd_cell {S : State} {a : Option Addr} {len : Nat} {us : List Value} (h : Rd 1 S a len us) {w : World} (hw : Hold w S) {i : Nat} {v : Value} (hi : us[i]? = some v) : ∃ b o, a = some ⟨b, o, none⟩ ∧ w.cell? ⟨b, o + i, none⟩ = some v := by
  have hlt := (List.getElem?_eq_some_iff.1 hi).1
  obtain ⟨b, o, cs, e, m, rfl, hl, hc⟩ := h.2 (by intro e; subst e; simp at hi)
  exact ⟨b, o, rfl, by rw [cell_of (hl.get hw), hc i hlt, hi]⟩
theorem holds_of {S : State} {p : Option Addr} {c : Nat} {l : List UInt8} (h : Rd 1 S p l.length (l.map b8)) {w : World} (hw : Hold w S) : Lib.HoldsBytes w (.slice p l.length c) l := by
  refine ⟨p, c, rfl, fun hp => ?_, fun a ha i x hx => ?_⟩
  · subst hp
    cases l with
    | nil => rfl
    | cons x l => obtain ⟨_, _, _, _, _, h3, _⟩ := h.2 (by simp); cases h3
  · obtain ⟨b, o, e, hc⟩ := rd_cell h hw (i := i) (v := b8 x) (by simp [hx])
    subst ha
    cases e
    rw [add_mk]
    exact hc

/-- The same blocks, otherwise in chunks. -/
theorem Meets.perm {f : FuncId} {args : List Value} {A B : State} {R R' : Value → State → Prop} (h : Meets P f args A R) (hAB : B.flatten.Perm A.flatten) (hR : ∀ v A', R v A' → ∃ B', A'.flatten.Perm B'.flatten ∧ R' v B') : Meets P f args B R' := by
  refine ⟨h.1, fun F w hw => (h.2 F w (hw.perm (by simp only [List.flatten_cons]; exact hAB.append_left F))).mono ?_⟩
  rintro e w' ⟨v, S, rfl, he, hh, A', rfl, hr⟩
  obtain ⟨B', hp, hr'⟩ := hR v A' hr
  exact ⟨v, F :: B', rfl, he, hh.perm (by simp only [List.flatten_cons]; exact hp.append_left F), B', rfl, hr'⟩

end Go.Ost

/- Slices of slices of bytes, as the reading ahead of the call has them. Conditions: as each says. -/
set_option linter.unusedSimpArgs false
set_option linter.unusedVariables false
namespace Go.Ost
open Go Go.ChangeShapes Go.WideShapes Go.ChangeAt Go.RowKit Go.Deep

variable {P : Program}

def RowS (C : Chunk) (v : Value) (ls : List (List UInt8)) : Prop := ∃ a cap, v = .slice a ls.length cap ∧ ls.length ≤ cap ∧ cap ≤ maxLen ∧ Parts [C] a ls.length ls

theorem cell_block {w : World} {a : Addr} {v : Value} (h : w.cell? a = some v) : ∃ b o cs e m, a = ⟨b, o, none⟩ ∧ w.heap[b]? = some (.cells cs e m) := by
  unfold World.cell? at h
  split at h
  · rename_i c t fr hb
    split at h
    · cases h
    · rename_i hs
      obtain ⟨b, o, sp⟩ := a
      cases sp with
      | none => exact ⟨b, o, c, t, fr, rfl, hb⟩
      | some s => simp at hs
  · cases h
/-- Cells of a world, one behind the other, as a chunk's. -/
theorem rd_cells {w : World} {a : Addr} {us : List Value} {C : Chunk} (hC : ∀ k o, w.heap[k]? = some o → (k, o) ∈ C) (h : ∀ i v, us[i]? = some v → w.cell? (a.add i) = some v) : Rd 1 [C] (some a) us.length us := by
  refine ⟨by simp, fun hne => ?_⟩
  obtain ⟨u, us', rfl⟩ := List.exists_cons_of_ne_nil hne
  have h0 := h 0 u rfl
  obtain ⟨b, o', cs, e, m, he, hb⟩ := cell_block h0
  obtain ⟨ba, o, sp⟩ := a
  cases sp with
  | some s =>
    exfalso
    have hx : (Addr.add ⟨ba, o, some s⟩ 0).spot.isSome = true := by simp [Addr.add]
    rw [he] at hx; cases hx
  | none =>
    rw [add_mk] at he
    obtain ⟨hb1, ho1⟩ : b = ba ∧ o' = o := by cases he; exact ⟨rfl, rfl⟩
    subst hb1 ho1
    refine ⟨_, _, cs, e, m, rfl, .here (hC _ _ hb), fun i hi => ?_⟩
    have hu := h i _ (List.getElem?_eq_getElem hi)
    rw [add_mk, cell_of hb] at hu
    rw [hu, List.getElem?_eq_getElem hi]

theorem open_slcs {H : Type} {enc : TypeId × Value → H} {W : World} {base : Nat} {t e q : TypeId} {v : Value} {d : DataW H} {ps : List MemPlace} (ht : P.underlying t = some (.slice e)) (he : P.underlying e = some (.slice q)) (hq : P.underlying q = some (.int .u8)) (ce : P.cellsOf e = 1) (cq : P.cellsOf q = 1)
    (hval : Value.okWide P W .any base t v) (h : DataW.Trod enc P W 0 (fun _ => true) true t v d ps) :
    ∃ ls, ∀ C : Chunk, (∀ k o, W.heap[k]? = some o → (k, o) ∈ C) → RowS C v ls := by
  obtain ⟨a0, len0, cap0, rfl⟩ := okWide_slice ht hval
  obtain ⟨fuel, hf⟩ := h
  rcases open_int_rows ht he hq ce cq hf with ⟨hcs, hx⟩ | ⟨a, len, cap, A, L, Cp, Z, hcs, _, hle, hmax, hx, hall⟩
  · simp [Value.cells] at hcs
    obtain ⟨rfl, rfl, rfl⟩ := hcs
    exact ⟨[], fun C hC => ⟨none, 0, rfl, Nat.le_refl _, Nat.zero_le _, rfl, [], Rd.nil, fun i v l hv => by simp at hv⟩⟩
  · simp [Value.cells] at hcs
    obtain ⟨rfl, rfl, rfl⟩ := hcs
    refine ⟨(List.range len0).map fun r => ((Z r).take (L r)).map fun z => UInt8.ofNat z.toNat, fun C hC => ⟨some a, cap0, by simp, by simpa using hle, hmax, rfl, (List.range len0).map fun r => .slice (A r) (L r) (Cp r), ?_, ?_⟩⟩
    · have q := rd_cells (w := W) (a := a) (us := (List.range len0).map fun r => Value.slice (A r) (L r) (Cp r)) hC (fun i v hv => by
        rw [List.getElem?_map] at hv
        by_cases hi : i < len0
        · rw [List.getElem?_range hi] at hv
          simp only [Option.map_some, Option.some.injEq] at hv
          rw [← hv]; exact (hall i (by omega)).1
        · rw [List.getElem?_eq_none (by simp; omega)] at hv; cases hv)
      simpa using q
    · intro i v l hv hl
      rw [List.getElem?_map] at hv hl
      by_cases hi : i < len0
      · rw [List.getElem?_range hi] at hv hl
        simp only [Option.map_some, Option.some.injEq] at hv hl
        obtain ⟨_, h2, _, h4, h5, h6, h7⟩ := hall i (by omega)
        subst hv hl
        have hlen : (((Z i).take (L i)).map fun z => UInt8.ofNat z.toNat).length = L i := by simp; omega
        refine ⟨A i, Cp i, by rw [hlen], by rw [hlen]; exact h2, ?_⟩
        cases hA : A i with
        | none =>
          have : L i = 0 := by have := h6 hA; omega
          have h0 : (((Z i).take (L i)).map fun z => UInt8.ofNat z.toNat) = [] := List.length_eq_zero_iff.1 (by rw [hlen, this])
          rw [h0]; exact Rd.nil
        | some a' =>
          have q := rd_cells (w := W) (a := a') (us := (((Z i).take (L i)).map fun z => UInt8.ofNat z.toNat).map b8) hC (fun c v hv => by
            simp only [List.getElem?_map, List.getElem?_take] at hv
            by_cases hc : c < L i
            · rw [if_pos hc, List.getElem?_eq_getElem (by omega)] at hv
              simp only [Option.map_some, Option.some.injEq] at hv
              rw [(h7 a' hA).2 c (by omega), ← hv]
              have hw := h5 (Z i)[c] (List.getElem_mem _)
              simp only [Lit.wf, Bool.and_eq_true, decide_eq_true_eq] at hw
              have hw2 : 0 ≤ (Z i)[c] ∧ (Z i)[c] ≤ 255 := ⟨hw.1, hw.2⟩
              rw [List.getD, List.getElem?_eq_getElem (by omega)]
              simp only [Option.getD_some, b8, UInt8.toNat_ofNat']
              congr 2; omega
            · rw [if_neg hc] at hv; simp at hv)
          rw [List.length_map] at q
          exact q
      · rw [List.getElem?_eq_none (by simp; omega)] at hv; cases hv

end Go.Ost

/- Slices of structures, as the reading ahead of the call has them. Conditions: as each says. -/
set_option linter.unusedSimpArgs false
set_option linter.unusedVariables false
namespace Go.Ost
open Go Go.ChangeShapes Go.WideShapes Go.ChangeAt Go.RowKit Go.Deep

variable {P : Program}

inductive FK | int (k : IntKind) | str | bool | bytes
def FieldW (C : Chunk) : FK → Value → Prop
  | .int k, v => ∃ z, v = .int k z ∧ (Lit.int k z).wf = true
  | .str, v => ∃ l : List UInt8, v = .string (str l) ∧ l.length ≤ maxLen
  | .bool, v => ∃ b, v = .bool b
  | .bytes, v => ∃ (a : Option Addr) (c : Nat) (bs : List UInt8), v = .slice a bs.length c ∧ bs.length ≤ c ∧ c ≤ maxLen ∧ Rd 1 [C] a bs.length (bs.map b8)
def RowW (C : Chunk) : List FK → List Value → Prop
  | [], [] => True
  | k :: ks, v :: vs => FieldW C k v ∧ RowW C ks vs
  | _, _ => False
def RowsK (C : Chunk) (ks : List FK) (v : Value) (rows : List (List Value)) : Prop :=
  ∃ a cap, v = .slice a rows.length cap ∧ rows.length ≤ cap ∧ cap ≤ maxLen ∧ Rd ks.length [C] a rows.length rows.flatten ∧ ∀ r ∈ rows, RowW C ks r

def fkB (P : Program) (t : TypeId) : FK → Bool
  | .int k => match P.underlying t with | some (.int k') => k' == k && P.cellsOf t == 1 | _ => false
  | .str => match P.underlying t with | some .string => P.cellsOf t == 1 | _ => false
  | .bool => match P.underlying t with | some .bool => P.cellsOf t == 1 | _ => false
  | .bytes => match P.underlying t with | some (.slice e) => (match P.underlying e with | some (.int k) => k == .u8 && P.cellsOf e == 1 && P.cellsOf t == 1 | _ => false) | _ => false
def fieldsB (P : Program) : Nat → List Field → List FK → Bool
  | _, [], [] => true
  | i, f :: fs, k :: ks => f.offset == i && (fkB P f.type k && fieldsB P (i + 1) fs ks)
  | _, _, _ => false
def rowB (P : Program) (e : TypeId) (ks : List FK) : Bool :=
  match P.underlying e with
  | some (.struct fs) => fieldsB P 0 fs.toList ks && (P.cellsOf e == ks.length && decide (0 < ks.length))
  | _ => false

section
variable {H : Type} {enc : TypeId × Value → H} {W : World} {C : Chunk}

theorem bytes_field {t e : TypeId} {fuel : Nat} {cs : List Value} {x : DataW H × List MemPlace} (ht : P.underlying t = some (.slice e)) (he : P.underlying e = some (.int .u8)) (hc : P.cellsOf e = 1) (hC : ∀ k o, W.heap[k]? = some o → (k, o) ∈ C)
    (h : DataW.trod enc P W 0 (fun _ => true) true fuel t cs = some x) : ∃ v, cs = [v] ∧ FieldW C .bytes v := by
  rcases open_ints ht he hc h with ⟨hcs, _⟩ | ⟨a, len, cap, zs, hcs, _, hle, hmax, hall, hx, hcell, hwf⟩
  · exact ⟨_, hcs, none, 0, [], rfl, Nat.le_refl _, Nat.zero_le _, Rd.nil⟩
  · simp only [if_true] at hall
    have hl : ((zs.take len).map fun z => UInt8.ofNat z.toNat).length = len := by simp; omega
    refine ⟨_, hcs, some a, cap, (zs.take len).map fun z => UInt8.ofNat z.toNat, by rw [hl], by rw [hl]; exact hle, hmax, ?_⟩
    have q := rd_cells (w := W) (a := a) (us := ((zs.take len).map fun z => UInt8.ofNat z.toNat).map b8) hC (fun c v hv => by
      simp only [List.getElem?_map, List.getElem?_take] at hv
      by_cases hc : c < len
      · rw [if_pos hc, List.getElem?_eq_getElem (by omega)] at hv
        simp only [Option.map_some, Option.some.injEq] at hv
        rw [hcell c (by omega), ← hv]
        have hw := hwf zs[c] (List.getElem_mem _)
        simp only [Lit.wf, Bool.and_eq_true, decide_eq_true_eq] at hw
        have hw2 : 0 ≤ zs[c] ∧ zs[c] ≤ 255 := ⟨hw.1, hw.2⟩
        rw [List.getD, List.getElem?_eq_getElem (by omega)]
        simp only [Option.getD_some, b8, UInt8.toNat_ofNat']
        congr 2; omega
      · rw [if_neg hc] at hv; simp at hv)
    rw [List.length_map] at q
    exact q

theorem one_field {t : TypeId} {k : FK} {fuel : Nat} {cs : List Value} {x : DataW H × List MemPlace} (hk : fkB P t k = true) (hC : ∀ k o, W.heap[k]? = some o → (k, o) ∈ C) (h : DataW.trod enc P W 0 (fun _ => true) true fuel t cs = some x) :
    ∃ v, cs = [v] ∧ FieldW C k v ∧ P.cellsOf t = 1 := by
  cases k with
  | int k =>
    simp only [fkB] at hk
    split at hk
    · rename_i k' hu
      simp only [Bool.and_eq_true, beq_iff_eq] at hk
      obtain ⟨rfl, hc⟩ := hk
      obtain ⟨n, rfl, _, hw⟩ := DataW.trod_int hu h
      exact ⟨_, rfl, ⟨n, rfl, hw⟩, hc⟩
    · cases hk
  | str =>
    simp only [fkB] at hk
    split at hk
    · rename_i hu
      simp only [beq_iff_eq] at hk
      obtain ⟨s, rfl, _, hw⟩ := DataW.trod_string hu h
      exact ⟨_, rfl, ⟨s.data.toList, rfl, by simpa using hw⟩, hk⟩
    · cases hk
  | bool =>
    simp only [fkB] at hk
    split at hk
    · rename_i hu
      simp only [beq_iff_eq] at hk
      obtain ⟨b, rfl, _⟩ := DataW.trod_bool hu h
      exact ⟨_, rfl, ⟨b, rfl⟩, hk⟩
    · cases hk
  | bytes =>
    simp only [fkB] at hk
    split at hk
    · rename_i e hu
      split at hk
      · rename_i k' hu2
        simp only [Bool.and_eq_true, beq_iff_eq] at hk
        obtain ⟨⟨rfl, h1⟩, h2⟩ := hk
        obtain ⟨v, h3, h4⟩ := bytes_field hu hu2 h1 hC h
        exact ⟨v, h3, h4, h2⟩
      · cases hk
    · cases hk

theorem fields_row (hC : ∀ k o, W.heap[k]? = some o → (k, o) ∈ C) {cs : List Value} {n : Nat} : ∀ (fs : List Field) (ks : List FK) (i : Nat), fieldsB P i fs ks = true → cs.length = i + ks.length →
    (∀ (j : Nat) (f : Field), fs[j]? = some f → ∃ x, DataW.trod enc P W 0 (fun _ => true) true n f.type ((cs.drop f.offset).take (P.cellsOf f.type)) = some x) → RowW C ks (cs.drop i)
  | [], [], i, _, hl, _ => by rw [List.drop_of_length_le (by simpa using Nat.le_of_eq hl)]; trivial
  | [], _ :: _, _, h, _, _ => by cases h
  | _ :: _, [], _, h, _, _ => by cases h
  | f :: fs, k :: ks, i, h, hl, hf => by
    simp only [fieldsB, Bool.and_eq_true, beq_iff_eq] at h
    obtain ⟨ho, hk, hr⟩ := h
    obtain ⟨x, hx⟩ := hf 0 f rfl
    obtain ⟨v, h1, h2, h3⟩ := one_field hk hC hx
    rw [h3, ho] at h1
    have hi : i < cs.length := by rw [hl]; simp
    rw [List.drop_eq_getElem_cons hi] at h1 ⊢
    simp only [List.take_succ_cons, List.take_zero, List.cons.injEq, and_true] at h1
    rw [h1]
    exact ⟨h2, fields_row hC fs ks (i + 1) hr (by rw [hl, List.length_cons]; omega) fun j g hg => hf (j + 1) g hg⟩

theorem open_rows {base : Nat} {t e : TypeId} {ks : List FK} {v : Value} {d : DataW H} {ps : List MemPlace} (ht : P.underlying t = some (.slice e)) (hr : rowB P e ks = true) (hval : Value.okWide P W .any base t v)
    (h : DataW.Trod enc P W 0 (fun _ => true) true t v d ps) : ∃ rows, ∀ C : Chunk, (∀ k o, W.heap[k]? = some o → (k, o) ∈ C) → RowsK C ks v rows := by
  obtain ⟨a0, len0, cap0, rfl⟩ := okWide_slice ht hval
  obtain ⟨fuel, hf⟩ := h
  unfold rowB at hr
  split at hr
  · rename_i fs hu
    simp only [Bool.and_eq_true, beq_iff_eq, decide_eq_true_eq] at hr
    obtain ⟨hfs, hce, hpos⟩ := hr
    rcases DataW.trod_slice ht hf with ⟨hcs, _⟩ | ⟨a, len, cap, elems, rest, n, _, hcs, _, _, hle, hmax, hlen, hel, _⟩
    · simp [Value.cells] at hcs
      obtain ⟨rfl, rfl, rfl⟩ := hcs
      exact ⟨[], fun C hC => ⟨none, 0, rfl, Nat.le_refl _, Nat.zero_le _, ⟨by simp, by simp⟩, by simp⟩⟩
    · simp [Value.cells] at hcs
      obtain ⟨rfl, rfl, rfl⟩ := hcs
      have key : ∀ i, i < len0 → ∃ cs y, W.cells? 0 (a.add (i * ks.length)) ks.length = some cs ∧ DataW.trod enc P W 0 (fun _ => true) true n e cs = some y := by
        intro i hi
        have h1 := hel i hi
        rw [hce, List.getElem?_eq_getElem (by omega), Option.bind_eq_some_iff] at h1
        obtain ⟨cs, h2, h3⟩ := h1
        exact ⟨cs, _, h2, h3⟩
      let g : Nat → List Value := fun i => if i < len0 then (W.cells? 0 (a.add (i * ks.length)) ks.length).getD [] else List.replicate ks.length undef
      have hg : ∀ i, i < len0 → W.cells? 0 (a.add (i * ks.length)) ks.length = some (g i) := by
        intro i hi
        obtain ⟨cs, _, h1, _⟩ := key i hi
        simp only [g, if_pos hi, h1, Option.getD_some]
      have hgl : ∀ i, (g i).length = ks.length := by
        intro i
        by_cases hi : i < len0
        · exact (World.cells?_some (hg i hi)).2.1
        · simp only [g, if_neg hi, List.length_replicate]
      refine ⟨(List.range len0).map g, fun C hC => ⟨some a, cap0, by simp, by simpa using hle, hmax, ⟨?_, ?_⟩, ?_⟩⟩
      · rw [← List.flatMap_def, flat_len g ks.length hgl]; simp
      · intro hne
        refine (rd_cells (w := W) (a := a) (us := ((List.range len0).map g).flatten) hC (fun i v hv => ?_)).2 hne
        rw [← List.flatMap_def] at hv
        have hi := (List.getElem?_eq_some_iff.1 hv).1
        rw [flat_len g ks.length hgl, List.length_range] at hi
        have hq : i / ks.length < len0 := Nat.div_lt_of_lt_mul (by rw [Nat.mul_comm]; exact hi)
        have hm : i % ks.length < ks.length := Nat.mod_lt _ hpos
        have hdm : i / ks.length * ks.length + i % ks.length = i := by rw [Nat.mul_comm]; exact Nat.div_add_mod i ks.length
        have h1 := flat_get g ks.length hgl (List.range len0) (i / ks.length) (i % ks.length) (by simpa using hq) hm
        rw [hdm, hv, List.getElem_range] at h1
        have h2 := (World.cells?_some (hg _ hq)).2.2 _ hm
        rw [add_add, hdm] at h2
        rw [h2, h1]
      · intro r hr
        obtain ⟨i, hi, rfl⟩ := List.mem_map.1 hr
        have hi := List.mem_range.1 hi
        obtain ⟨cs, y, h1, h2⟩ := key i hi
        have e1 : cs = g i := by have := hg i hi; rw [h1] at this; exact Option.some.inj this
        subst e1
        obtain ⟨xs, m, rfl, _, _, hxl, hfld⟩ := DataW.trod_struct hu h2
        have := fields_row (enc := enc) (P := P) hC (cs := g i) (n := m) fs.toList ks 0 hfs (by rw [hgl]; omega) (fun j f hj => by
          have hj' : fs[j]? = some f := by simpa using hj
          have := hfld j f hj'
          have hjl : j < xs.length := by rw [hxl]; exact (Array.getElem?_eq_some_iff.1 hj').1
          rw [List.getElem?_eq_getElem hjl] at this
          exact ⟨_, this⟩)
        simpa using this
  · cases hr
end

end Go.Ost

/- A listed variable that is an array of structures of numbers: what its block holds. Conditions: as each says. -/
set_option linter.unusedSimpArgs false
set_option linter.unusedVariables false
namespace Go.Ost
open Go Go.ChangeShapes Go.WideShapes Go.ChangeAt Go.RowKit Go.Deep

variable {P : Program} {H : Type} {enc : TypeId × Value → H} {W : World}

def litV : Lit → Value
  | .int k n => .int k n
  | _ => undef
theorem fields_at : ∀ (fs : List Field) (ks : List FK) (i j : Nat) (f : Field), fieldsB P i fs ks = true → fs[j]? = some f → ∃ k, ks[j]? = some k ∧ f.offset = i + j ∧ fkB P f.type k = true
  | [], ks, i, j, f, h, hf => by simp at hf
  | g :: fs, [], i, j, f, h, hf => by cases h
  | g :: fs, k :: ks, i, 0, f, h, hf => by
    simp only [fieldsB, Bool.and_eq_true, beq_iff_eq] at h
    simp only [List.getElem?_cons_zero, Option.some.injEq] at hf
    subst hf
    exact ⟨k, rfl, h.1, h.2.1⟩
  | g :: fs, k :: ks, i, j + 1, f, h, hf => by
    simp only [fieldsB, Bool.and_eq_true, beq_iff_eq] at h
    obtain ⟨k', h1, h2, h3⟩ := fields_at fs ks (i + 1) j f h.2.2 (by simpa using hf)
    exact ⟨k', by simpa using h1, by omega, h3⟩
theorem fields_len : ∀ (fs : List Field) (ks : List FK) (i : Nat), fieldsB P i fs ks = true → fs.length = ks.length
  | [], [], _, _ => rfl
  | [], _ :: _, _, h => by cases h
  | _ :: _, [], _, h => by cases h
  | f :: fs, k :: ks, i, h => by
    simp only [fieldsB, Bool.and_eq_true, beq_iff_eq] at h
    simp [fields_len fs ks (i + 1) h.2.2]

theorem struct_lits {base : Nat} {sp : Nat → Bool} {held : Bool} {fuel : Nat} {e : TypeId} {ks : List IntKind} {ch : List Value} {r : List Lit} {q : List MemPlace} (hr : rowB P e (ks.map FK.int) = true)
    (h : DataW.trod enc P W base sp held fuel e ch = some (.agg (r.map DataW.lit), q)) : ch = r.map litV ∧ ch.length = ks.length := by
  unfold rowB at hr
  split at hr
  · rename_i fs hu
    simp only [Bool.and_eq_true, beq_iff_eq, decide_eq_true_eq, List.length_map] at hr
    obtain ⟨hfs, hce, hpos⟩ := hr
    have hfl := fields_len _ _ _ hfs
    rw [List.length_map, Array.length_toList] at hfl
    obtain ⟨xs, m, _, hx, hl, hxl, hf⟩ := DataW.trod_struct hu h
    have hx1 : r.map (DataW.lit (H := H)) = xs.map (·.1) := by
      have := congrArg Prod.fst hx
      simpa using this
    have hrl : r.length = ks.length := by
      have := congrArg List.length hx1
      rw [List.length_map, List.length_map] at this; omega
    refine ⟨?_, by rw [hl, hce]⟩
    apply List.ext_getElem?
    intro j
    by_cases hj : j < ks.length
    · have hfj : fs.toList[j]? = some fs[j] := by rw [Array.getElem?_toList]; exact Array.getElem?_eq_getElem (by omega)
      obtain ⟨k, hk, ho, hkb⟩ := fields_at _ _ _ _ _ hfs hfj
      rw [List.getElem?_map] at hk
      obtain ⟨k0, _, rfl⟩ := Option.map_eq_some_iff.1 hk
      have h1 := hf j fs[j] (Array.getElem?_eq_getElem (by omega))
      rw [List.getElem?_eq_getElem (by omega)] at h1
      simp only [fkB] at hkb
      split at hkb
      · rename_i k' hu2
        simp only [Bool.and_eq_true, beq_iff_eq] at hkb
        obtain ⟨rfl, hc1⟩ := hkb
        obtain ⟨n, hcs, hxn, _⟩ := DataW.trod_int hu2 h1
        rw [hc1, ho, Nat.zero_add] at hcs
        have hch : ch[j]? = some (.int k' n) := by
          have := congrArg (·[0]?) hcs
          simpa [List.getElem?_take, List.getElem?_drop] using this
        have hrj : (r.map (DataW.lit (H := H)))[j]? = some (.lit (.int k' n)) := by
          rw [hx1, List.getElem?_map, List.getElem?_eq_getElem (by omega), hxn]; rfl
        rw [List.getElem?_map] at hrj
        obtain ⟨y, hy, he⟩ := Option.map_eq_some_iff.1 hrj
        simp only [DataW.lit.injEq] at he
        rw [hch, List.getElem?_map, hy, he]; rfl
      · cases hkb
    · rw [List.getElem?_eq_none (by rw [hl, hce]; omega), List.getElem?_eq_none (by rw [List.length_map]; omega)]
  · cases hr

theorem rows_lits {base : Nat} {sp : Nat → Bool} {held : Bool} {fuel : Nat} {t e : TypeId} {n : Nat} {ks : List IntKind} {cs : List Value} {rows : List (List Lit)} {q : List MemPlace} (ht : P.underlying t = some (.array n e)) (hr : rowB P e (ks.map FK.int) = true) (hce : P.cellsOf e = ks.length) (hpos : 0 < ks.length) (hct : P.cellsOf t = n * ks.length)
    (h : DataW.trod enc P W base sp held fuel t cs = some (.agg (rows.map fun r => .agg (r.map DataW.lit)), q)) : cs = rows.flatMap fun r => r.map litV := by
  cases fuel with
  | zero => simp [DataW.trod] at h
  | succ fuel =>
    simp only [DataW.trod, ht, hce, hct] at h
    split at h
    · rename_i hl
      obtain ⟨xs, hm, hx⟩ := Option.map_eq_some_iff.1 h
      have hxs : xs.map (·.1) = rows.map fun r => (DataW.agg (r.map DataW.lit) : DataW H) := by
        have := congrArg Prod.fst hx
        simpa using this
      have hxl : xs.length = n := by simpa using Lib.mapM_length hm
      have hrl : rows.length = n := by
        have := congrArg List.length hxs
        rw [List.length_map, List.length_map] at this; omega
      have key : ∀ i, (hi : i < n) → (cs.drop (i * ks.length)).take ks.length = (rows[i]'(by omega)).map litV := by
        intro i hi
        obtain ⟨b, hb, hf⟩ := Lib.mapM_at hm i i (by simp [hi])
        have hb1 : b.1 = .agg ((rows[i]'(by omega)).map DataW.lit) := by
          have h2 : (xs.map (·.1))[i]? = some b.1 := by simp [hb]
          rw [hxs, List.getElem?_map, List.getElem?_eq_getElem (by omega)] at h2
          exact (Option.some.inj h2).symm
        obtain ⟨b1, b2⟩ := b
        simp only at hb1
        subst hb1
        exact (struct_lits hr hf).1
      have hkl : ∀ i, (hi : i < n) → ((rows[i]'(by omega)).map litV).length = ks.length := by
        intro i hi
        rw [← key i hi, List.length_take, List.length_drop, hl]
        have : (i + 1) * ks.length ≤ n * ks.length := Nat.mul_le_mul_right _ hi
        rw [Nat.add_mul] at this; omega
      have all : ∀ (m i : Nat), i + m = n → cs.drop (i * ks.length) = (rows.drop i).flatMap fun r => r.map litV := by
        intro m
        induction m with
        | zero =>
          intro i hi
          have : i = n := by omega
          subst this
          rw [List.drop_of_length_le (by omega), List.drop_of_length_le (by omega)]; rfl
        | succ m ih =>
          intro i hi
          have hin : i < n := by omega
          rw [List.drop_eq_getElem_cons (l := rows) (by omega), List.flatMap_cons, ← key i hin, ← ih (i + 1) (by omega)]
          rw [Nat.add_mul, Nat.one_mul, ← List.drop_drop, List.take_append_drop]
      have := all n 0 (by omega)
      simpa using this
    · cases h

/-- The first of the list. -/
theorem rows_head {name : String} {rows : List (List Lit)} {rest : List (String × DataW Unit)} {ps : List MemPlace} {g : Nat} {t e : TypeId} {n : Nat} {ks : List IntKind}
    (hg : P.globalNamed name = some g) (hty : (P.globals[g]?).map (·.type) = some t) (ht : P.underlying t = some (.array n e)) (hr : rowB P e (ks.map FK.int) = true) (hce : P.cellsOf e = ks.length) (hpos : 0 < ks.length) (hct : P.cellsOf t = n * ks.length)
    (h : DataW.LaidVars P W ((name, .agg (rows.map fun r => .agg (r.map DataW.lit))) :: rest) ps) : (∃ ty m, W.heap[g]? = some (.cells (rows.flatMap fun r => r.map litV).toArray ty m)) ∧ ∃ qs, DataW.LaidVars P W rest qs := by
  obtain ⟨g', t', cs, fuel, p, q, hg', ht', hvar, hd, hrest, _⟩ := h
  obtain rfl := Option.some.inj (hg.symm.trans hg')
  obtain rfl := Option.some.inj (hty.symm.trans ht')
  refine ⟨?_, q, hrest⟩
  have hcs := rows_lits ht hr hce hpos hct hd
  simp only [World.var?, hg, Option.bind_some] at hvar
  split at hvar
  · rename_i c ty fr hb
    cases hvar
    refine ⟨ty, fr, ?_⟩
    rw [hb, ← hcs]
  · cases hvar

end Go.Ost

/- What the types of this program are, each by the reckoning of its tables. Conditions: none. -/
namespace Go.Proofs.YtdeenhhfafeanaaDoor
open Go.Ost
-- 3 int
instance : TInt Tryd.prog 3 .i64 := ⟨by kernel_rfl⟩
instance : TSized Tryd.prog 3 (.int .i64 0) 1 8 := ⟨by kernel_rfl⟩
instance : TFlat Tryd.prog 3 := ⟨by kernel_rfl⟩
-- 4 bool
instance : TBool Tryd.prog 4 := ⟨by kernel_rfl⟩
instance : TSized Tryd.prog 4 (.bool false) 1 1 := ⟨by kernel_rfl⟩
instance : TFlat Tryd.prog 4 := ⟨by kernel_rfl⟩
-- 5 uint8
instance : TInt Tryd.prog 5 .u8 := ⟨by kernel_rfl⟩
instance : TSized Tryd.prog 5 (.int .u8 0) 1 1 := ⟨by kernel_rfl⟩
instance : TFlat Tryd.prog 5 := ⟨by kernel_rfl⟩
-- 9 string
instance : TStr Tryd.prog 9 := ⟨by kernel_rfl⟩
instance : TSized Tryd.prog 9 (.string ⟨#[]⟩) 1 16 := ⟨by kernel_rfl⟩
instance : TFlat Tryd.prog 9 := ⟨by kernel_rfl⟩
-- 21 int32
instance : TInt Tryd.prog 21 .i32 := ⟨by kernel_rfl⟩
instance : TSized Tryd.prog 21 (.int .i32 0) 1 4 := ⟨by kernel_rfl⟩
instance : TFlat Tryd.prog 21 := ⟨by kernel_rfl⟩
-- 24 []ostiaryref04.Sign
instance : TSlice Tryd.prog 24 27 := ⟨by kernel_rfl⟩
instance : TSized Tryd.prog 24 (.slice none 0 0) 1 24 := ⟨by kernel_rfl⟩
instance : TFlat Tryd.prog 24 := ⟨by kernel_rfl⟩
-- 27 ostiaryref04.Sign
instance : TSized Tryd.prog 27 (.agg #[.int .i64 0, .int .i64 0]) 2 16 := ⟨by kernel_rfl⟩
instance : TDeep Tryd.prog 27 := ⟨by kernel_rfl⟩
instance : TField Tryd.prog 27 0 0 3 := ⟨by kernel_rfl⟩ -- At
instance : TField Tryd.prog 27 1 1 3 := ⟨by kernel_rfl⟩ -- R
-- 32 []uint8
instance : TSlice Tryd.prog 32 5 := ⟨by kernel_rfl⟩
instance : TSized Tryd.prog 32 (.slice none 0 0) 1 24 := ⟨by kernel_rfl⟩
instance : TFlat Tryd.prog 32 := ⟨by kernel_rfl⟩
-- 39 api.Errno
instance : TInt Tryd.prog 39 .i64 := ⟨by kernel_rfl⟩
instance : TSized Tryd.prog 39 (.int .i64 0) 1 8 := ⟨by kernel_rfl⟩
instance : TFlat Tryd.prog 39 := ⟨by kernel_rfl⟩
-- 52 func(int32) bool
instance : TSized Tryd.prog 52 (.nilFunc) 1 8 := ⟨by kernel_rfl⟩
instance : TFlat Tryd.prog 52 := ⟨by kernel_rfl⟩
-- 54 name.form
instance : TSized Tryd.prog 54 (.agg #[.int .i64 0, .int .u8 0, .int .u8 0, .int .i32 0]) 4 16 := ⟨by kernel_rfl⟩
instance : TDeep Tryd.prog 54 := ⟨by kernel_rfl⟩
instance : TField Tryd.prog 54 0 0 3 := ⟨by kernel_rfl⟩ -- size
instance : TField Tryd.prog 54 1 1 5 := ⟨by kernel_rfl⟩ -- mask
instance : TField Tryd.prog 54 2 2 5 := ⟨by kernel_rfl⟩ -- lead
instance : TField Tryd.prog 54 3 3 21 := ⟨by kernel_rfl⟩ -- least
-- 55 [4]name.form
instance : TArr Tryd.prog 55 4 54 := ⟨by kernel_rfl⟩
instance : TSized Tryd.prog 55 (.agg #[.int .i64 0, .int .u8 0, .int .u8 0, .int .i32 0, .int .i64 0, .int .u8 0, .int .u8 0, .int .i32 0, .int .i64 0, .int .u8 0, .int .u8 0, .int .i32 0, .int .i64 0, .int .u8 0, .int .u8 0, .int .i32 0]) 16 64 := ⟨by kernel_rfl⟩
instance : TDeep Tryd.prog 55 := ⟨by kernel_rfl⟩
-- 60 []name.span
instance : TSlice Tryd.prog 60 62 := ⟨by kernel_rfl⟩
instance : TSized Tryd.prog 60 (.slice none 0 0) 1 24 := ⟨by kernel_rfl⟩
instance : TFlat Tryd.prog 60 := ⟨by kernel_rfl⟩
-- 62 name.span
instance : TSized Tryd.prog 62 (.agg #[.int .i32 0, .int .i32 0]) 2 8 := ⟨by kernel_rfl⟩
instance : TDeep Tryd.prog 62 := ⟨by kernel_rfl⟩
instance : TField Tryd.prog 62 0 0 21 := ⟨by kernel_rfl⟩ -- from
instance : TField Tryd.prog 62 1 1 21 := ⟨by kernel_rfl⟩ -- to
-- 63 [9]name.span
instance : TArr Tryd.prog 63 9 62 := ⟨by kernel_rfl⟩
instance : TSized Tryd.prog 63 (.agg #[.int .i32 0, .int .i32 0, .int .i32 0, .int .i32 0, .int .i32 0, .int .i32 0, .int .i32 0, .int .i32 0, .int .i32 0, .int .i32 0, .int .i32 0, .int .i32 0, .int .i32 0, .int .i32 0, .int .i32 0, .int .i32 0, .int .i32 0, .int .i32 0]) 18 72 := ⟨by kernel_rfl⟩
instance : TDeep Tryd.prog 63 := ⟨by kernel_rfl⟩
-- 66 *strings.Builder
instance : TPtr Tryd.prog 66 68 := ⟨by kernel_rfl⟩
instance : TSized Tryd.prog 66 (.pointer none) 1 8 := ⟨by kernel_rfl⟩
instance : TFlat Tryd.prog 66 := ⟨by kernel_rfl⟩
-- 68 strings.Builder
instance : TSized Tryd.prog 68 (.agg #[.pointer none, .slice none 0 0]) 2 32 := ⟨by kernel_rfl⟩
instance : TDeep Tryd.prog 68 := ⟨by kernel_rfl⟩
instance : TField Tryd.prog 68 0 0 66 := ⟨by kernel_rfl⟩ -- addr
instance : TField Tryd.prog 68 1 1 32 := ⟨by kernel_rfl⟩ -- buf
-- 79 [6]name.span
instance : TArr Tryd.prog 79 6 62 := ⟨by kernel_rfl⟩
instance : TSized Tryd.prog 79 (.agg #[.int .i32 0, .int .i32 0, .int .i32 0, .int .i32 0, .int .i32 0, .int .i32 0, .int .i32 0, .int .i32 0, .int .i32 0, .int .i32 0, .int .i32 0, .int .i32 0]) 12 48 := ⟨by kernel_rfl⟩
instance : TDeep Tryd.prog 79 := ⟨by kernel_rfl⟩
-- 80 [5]name.span
instance : TArr Tryd.prog 80 5 62 := ⟨by kernel_rfl⟩
instance : TSized Tryd.prog 80 (.agg #[.int .i32 0, .int .i32 0, .int .i32 0, .int .i32 0, .int .i32 0, .int .i32 0, .int .i32 0, .int .i32 0, .int .i32 0, .int .i32 0]) 10 40 := ⟨by kernel_rfl⟩
instance : TDeep Tryd.prog 80 := ⟨by kernel_rfl⟩
-- 81 *uint8
instance : TPtr Tryd.prog 81 5 := ⟨by kernel_rfl⟩
instance : TSized Tryd.prog 81 (.pointer none) 1 8 := ⟨by kernel_rfl⟩
instance : TFlat Tryd.prog 81 := ⟨by kernel_rfl⟩
-- 83 unsafe.Pointer
instance : TSized Tryd.prog 83 (.pointer none) 1 8 := ⟨by kernel_rfl⟩
instance : TFlat Tryd.prog 83 := ⟨by kernel_rfl⟩
end Go.Proofs.YtdeenhhfafeanaaDoor

/- Signs: what the variables hold; a sign as it is read of bytes, by the program and by the document. Conditions: as each says. -/
set_option linter.unusedSimpArgs false
set_option linter.unusedVariables false
namespace Go.Proofs.YtdeenhhfafeanaaDoor
open Go Go.Ost Go.Nam

def formV (i : Nat) : List Value := [.int .i64 ((i : Int) + 1), b8 (mk i), b8 (ld i), .int .i32 (ls i)]
def formsV : List Value := [0, 1, 2, 3].flatMap formV
def spanV (p : Int × Int) : List Value := [.int .i32 p.1, .int .i32 p.2]
/-- The variables that the code reads. -/
structure GNam (C : Chunk) : Prop where
  g0 : ∃ t m, (0, Obj.cells formsV.toArray t m) ∈ C
  g1 : ∃ t m, (1, Obj.cells (barred.flatMap spanV).toArray t m) ∈ C
  g2 : ∃ t m, (2, Obj.cells (blanks.flatMap spanV).toArray t m) ∈ C
  g3 : ∃ t m, (3, Obj.cells (nothing.flatMap spanV).toArray t m) ∈ C

theorem sign_spec (r : Int) : Meets Tryd.prog 33 [.int .i32 r] [] fun v A => v = .bool (sgn r) ∧ A = [] := by
  refine spec_intro Tryd.func33 rfl (by kernel_rfl) (by rw [Tryd.ntmps33]; simp) fun F => ?_; rw [Tryd.ntmps33, Tryd.results33]
  (repeat (first | (with_reducible refine then_n ?_) | (with_reducible refine then_r ?_) | (with_reducible refine then_e ?_) | (with_reducible refine block_n ?_) | (with_reducible refine block_r ?_) | (with_reducible refine block_e ?_) | refine block_o ?_ | (with_reducible refine scope_n ?_) | (with_reducible refine scope_r ?_) | (with_reducible refine scope_e ?_) | (with_reducible refine code_seq ?_) | (with_reducible refine code_skip ?_) | (with_reducible refine code_label ?_) | (with_reducible refine code_block ?_) | (with_reducible refine code_scope ?_) | (with_reducible refine code_exit ?_) | (with_reducible refine code_ret ?_) | refine regq_to ?_ | (with_reducible refine run_nil ?_) | ((with_reducible refine run_probe ?_); refine runq_more ?_) | (with_reducible refine draw_nil ?_) | ((with_reducible refine draw_probe ?_); (first | refine drawq_more ?_ | refine drawq_as ?_)) | refine code_then ?_ | refine code_else ?_))
  unfold sgn
  by_cases h1 : 0 ≤ r
  · rw [decide_eq_true h1]
    (repeat (first | (with_reducible refine then_n ?_) | (with_reducible refine then_r ?_) | (with_reducible refine then_e ?_) | (with_reducible refine block_n ?_) | (with_reducible refine block_r ?_) | (with_reducible refine block_e ?_) | refine block_o ?_ | (with_reducible refine scope_n ?_) | (with_reducible refine scope_r ?_) | (with_reducible refine scope_e ?_) | (with_reducible refine code_seq ?_) | (with_reducible refine code_skip ?_) | (with_reducible refine code_label ?_) | (with_reducible refine code_block ?_) | (with_reducible refine code_scope ?_) | (with_reducible refine code_exit ?_) | (with_reducible refine code_ret ?_) | refine regq_to ?_ | (with_reducible refine run_nil ?_) | ((with_reducible refine run_probe ?_); refine runq_more ?_) | (with_reducible refine draw_nil ?_) | ((with_reducible refine draw_probe ?_); (first | refine drawq_more ?_ | refine drawq_as ?_)) | refine code_then ?_ | refine code_else ?_))
    by_cases h2 : r ≤ 1114111
    · rw [decide_eq_true h2]
      (repeat (first | (with_reducible refine then_n ?_) | (with_reducible refine then_r ?_) | (with_reducible refine then_e ?_) | (with_reducible refine block_n ?_) | (with_reducible refine block_r ?_) | (with_reducible refine block_e ?_) | refine block_o ?_ | (with_reducible refine scope_n ?_) | (with_reducible refine scope_r ?_) | (with_reducible refine scope_e ?_) | (with_reducible refine code_seq ?_) | (with_reducible refine code_skip ?_) | (with_reducible refine code_label ?_) | (with_reducible refine code_block ?_) | (with_reducible refine code_scope ?_) | (with_reducible refine code_exit ?_) | (with_reducible refine code_ret ?_) | refine regq_to ?_ | (with_reducible refine run_nil ?_) | ((with_reducible refine run_probe ?_); refine runq_more ?_) | (with_reducible refine draw_nil ?_) | ((with_reducible refine draw_probe ?_); (first | refine drawq_more ?_ | refine drawq_as ?_)) | refine code_then ?_ | refine code_else ?_))
      by_cases h3 : r < 55296
      · rw [decide_eq_true h3]
        (repeat (first | (with_reducible refine then_n ?_) | (with_reducible refine then_r ?_) | (with_reducible refine then_e ?_) | (with_reducible refine block_n ?_) | (with_reducible refine block_r ?_) | (with_reducible refine block_e ?_) | refine block_o ?_ | (with_reducible refine scope_n ?_) | (with_reducible refine scope_r ?_) | (with_reducible refine scope_e ?_) | (with_reducible refine code_seq ?_) | (with_reducible refine code_skip ?_) | (with_reducible refine code_label ?_) | (with_reducible refine code_block ?_) | (with_reducible refine code_scope ?_) | (with_reducible refine code_exit ?_) | (with_reducible refine code_ret ?_) | refine regq_to ?_ | (with_reducible refine run_nil ?_) | ((with_reducible refine run_probe ?_); refine runq_more ?_) | (with_reducible refine draw_nil ?_) | ((with_reducible refine draw_probe ?_); (first | refine drawq_more ?_ | refine drawq_as ?_)) | refine code_then ?_ | refine code_else ?_))
        refine back_tmp [] ?_; exact ⟨rfl, rfl⟩
      · rw [decide_eq_false h3]
        (repeat (first | (with_reducible refine then_n ?_) | (with_reducible refine then_r ?_) | (with_reducible refine then_e ?_) | (with_reducible refine block_n ?_) | (with_reducible refine block_r ?_) | (with_reducible refine block_e ?_) | refine block_o ?_ | (with_reducible refine scope_n ?_) | (with_reducible refine scope_r ?_) | (with_reducible refine scope_e ?_) | (with_reducible refine code_seq ?_) | (with_reducible refine code_skip ?_) | (with_reducible refine code_label ?_) | (with_reducible refine code_block ?_) | (with_reducible refine code_scope ?_) | (with_reducible refine code_exit ?_) | (with_reducible refine code_ret ?_) | refine regq_to ?_ | (with_reducible refine run_nil ?_) | ((with_reducible refine run_probe ?_); refine runq_more ?_) | (with_reducible refine draw_nil ?_) | ((with_reducible refine draw_probe ?_); (first | refine drawq_more ?_ | refine drawq_as ?_)) | refine code_then ?_ | refine code_else ?_))
        refine back_tmp [] ?_; exact ⟨rfl, rfl⟩
    · rw [decide_eq_false h2]
      (repeat (first | (with_reducible refine then_n ?_) | (with_reducible refine then_r ?_) | (with_reducible refine then_e ?_) | (with_reducible refine block_n ?_) | (with_reducible refine block_r ?_) | (with_reducible refine block_e ?_) | refine block_o ?_ | (with_reducible refine scope_n ?_) | (with_reducible refine scope_r ?_) | (with_reducible refine scope_e ?_) | (with_reducible refine code_seq ?_) | (with_reducible refine code_skip ?_) | (with_reducible refine code_label ?_) | (with_reducible refine code_block ?_) | (with_reducible refine code_scope ?_) | (with_reducible refine code_exit ?_) | (with_reducible refine code_ret ?_) | refine regq_to ?_ | (with_reducible refine run_nil ?_) | ((with_reducible refine run_probe ?_); refine runq_more ?_) | (with_reducible refine draw_nil ?_) | ((with_reducible refine draw_probe ?_); (first | refine drawq_more ?_ | refine drawq_as ?_)) | refine code_then ?_ | refine code_else ?_))
      refine back_tmp [] ?_; exact ⟨rfl, rfl⟩
  · rw [decide_eq_false h1]
    (repeat (first | (with_reducible refine then_n ?_) | (with_reducible refine then_r ?_) | (with_reducible refine then_e ?_) | (with_reducible refine block_n ?_) | (with_reducible refine block_r ?_) | (with_reducible refine block_e ?_) | refine block_o ?_ | (with_reducible refine scope_n ?_) | (with_reducible refine scope_r ?_) | (with_reducible refine scope_e ?_) | (with_reducible refine code_seq ?_) | (with_reducible refine code_skip ?_) | (with_reducible refine code_label ?_) | (with_reducible refine code_block ?_) | (with_reducible refine code_scope ?_) | (with_reducible refine code_exit ?_) | (with_reducible refine code_ret ?_) | refine regq_to ?_ | (with_reducible refine run_nil ?_) | ((with_reducible refine run_probe ?_); refine runq_more ?_) | (with_reducible refine draw_nil ?_) | ((with_reducible refine draw_probe ?_); (first | refine drawq_more ?_ | refine drawq_as ?_)) | refine code_then ?_ | refine code_else ?_))
    refine back_tmp [] ?_; exact ⟨rfl, rfl⟩
theorem tail_spec (c : UInt8) : Meets Tryd.prog 45 [b8 c] [] fun v A => v = .bool (isTail c) ∧ A = [] := by
  refine spec_intro Tryd.func45 rfl (by kernel_rfl) (by rw [Tryd.ntmps45]; simp) fun F => ?_; rw [Tryd.ntmps45, Tryd.results45]
  (repeat (first | (with_reducible refine then_n ?_) | (with_reducible refine then_r ?_) | (with_reducible refine then_e ?_) | (with_reducible refine block_n ?_) | (with_reducible refine block_r ?_) | (with_reducible refine block_e ?_) | refine block_o ?_ | (with_reducible refine scope_n ?_) | (with_reducible refine scope_r ?_) | (with_reducible refine scope_e ?_) | (with_reducible refine code_seq ?_) | (with_reducible refine code_skip ?_) | (with_reducible refine code_label ?_) | (with_reducible refine code_block ?_) | (with_reducible refine code_scope ?_) | (with_reducible refine code_exit ?_) | (with_reducible refine code_ret ?_) | refine regq_to ?_ | (with_reducible refine run_nil ?_) | ((with_reducible refine run_probe ?_); refine runq_more ?_) | (with_reducible refine draw_nil ?_) | ((with_reducible refine draw_probe ?_); (first | refine drawq_more ?_ | refine drawq_as ?_)) | refine code_then ?_ | refine code_else ?_))
  have hlt := c.toNat_lt
  by_cases h1 : (128 : Int) ≤ c.toNat
  · rw [decide_eq_true h1]
    (repeat (first | (with_reducible refine then_n ?_) | (with_reducible refine then_r ?_) | (with_reducible refine then_e ?_) | (with_reducible refine block_n ?_) | (with_reducible refine block_r ?_) | (with_reducible refine block_e ?_) | refine block_o ?_ | (with_reducible refine scope_n ?_) | (with_reducible refine scope_r ?_) | (with_reducible refine scope_e ?_) | (with_reducible refine code_seq ?_) | (with_reducible refine code_skip ?_) | (with_reducible refine code_label ?_) | (with_reducible refine code_block ?_) | (with_reducible refine code_scope ?_) | (with_reducible refine code_exit ?_) | (with_reducible refine code_ret ?_) | refine regq_to ?_ | (with_reducible refine run_nil ?_) | ((with_reducible refine run_probe ?_); refine runq_more ?_) | (with_reducible refine draw_nil ?_) | ((with_reducible refine draw_probe ?_); (first | refine drawq_more ?_ | refine drawq_as ?_)) | refine code_then ?_ | refine code_else ?_))
    rw [show decide ((c.toNat : Int) ≤ 191) = isTail c from by unfold isTail; rw [decide_eq_true (show 128 ≤ c.toNat by omega), Bool.true_and]; by_cases h : c.toNat ≤ 191; rw [decide_eq_true h, decide_eq_true (by omega)]; rw [decide_eq_false h, decide_eq_false (by omega)]]
    refine back_tmp [] ?_; exact ⟨rfl, rfl⟩
  · rw [decide_eq_false h1]
    (repeat (first | (with_reducible refine then_n ?_) | (with_reducible refine then_r ?_) | (with_reducible refine then_e ?_) | (with_reducible refine block_n ?_) | (with_reducible refine block_r ?_) | (with_reducible refine block_e ?_) | refine block_o ?_ | (with_reducible refine scope_n ?_) | (with_reducible refine scope_r ?_) | (with_reducible refine scope_e ?_) | (with_reducible refine code_seq ?_) | (with_reducible refine code_skip ?_) | (with_reducible refine code_label ?_) | (with_reducible refine code_block ?_) | (with_reducible refine code_scope ?_) | (with_reducible refine code_exit ?_) | (with_reducible refine code_ret ?_) | refine regq_to ?_ | (with_reducible refine run_nil ?_) | ((with_reducible refine run_probe ?_); refine runq_more ?_) | (with_reducible refine draw_nil ?_) | ((with_reducible refine draw_probe ?_); (first | refine drawq_more ?_ | refine drawq_as ?_)) | refine code_then ?_ | refine code_else ?_))
    rw [show isTail c = false from by unfold isTail; rw [decide_eq_false (show ¬ 128 ≤ c.toNat by omega), Bool.false_and]]
    refine back_tmp [] ?_; exact ⟨rfl, rfl⟩

theorem within_spec {C : Chunk} {a : Option Addr} {cap : Nat} (l : List (Int × Int)) (hl : l.length ≤ 100) (hr : Rd 2 [C] a l.length (l.flatMap spanV)) (r : Int) :
    Meets Tryd.prog 36 [.int .i32 r, .slice a l.length cap] [C] fun v A => v = .bool (Nam.within r l) ∧ A = [C] := by
  have hs : ∀ p : Int × Int, (spanV p).length = 2 := fun _ => rfl
  refine spec_intro Tryd.func36 rfl (by kernel_rfl) (by rw [Tryd.ntmps36]; simp) fun F => ?_; rw [Tryd.ntmps36, Tryd.results36]
  (repeat (first | (with_reducible refine then_n ?_) | (with_reducible refine then_r ?_) | (with_reducible refine then_e ?_) | (with_reducible refine block_n ?_) | (with_reducible refine block_r ?_) | (with_reducible refine block_e ?_) | refine block_o ?_ | (with_reducible refine scope_n ?_) | (with_reducible refine scope_r ?_) | (with_reducible refine scope_e ?_) | (with_reducible refine code_seq ?_) | (with_reducible refine code_skip ?_) | (with_reducible refine code_label ?_) | (with_reducible refine code_block ?_) | (with_reducible refine code_scope ?_) | (with_reducible refine code_exit ?_) | (with_reducible refine code_ret ?_) | refine regq_to ?_ | (with_reducible refine run_nil ?_) | ((with_reducible refine run_probe ?_); refine runq_more ?_) | (with_reducible refine draw_nil ?_) | ((with_reducible refine draw_probe ?_); (first | refine drawq_more ?_ | refine drawq_as ?_)) | refine code_then ?_ | refine code_else ?_))
  refine loop_i (fun q D L S => ∃ i : Nat, i ≤ l.length ∧ Nam.within r l = Nam.within r (l.drop i) ∧ q = l.length - i ∧ D = [] ∧ L = [(9, .int .i64 i), (8, .int .i64 l.length), (7, .slice a l.length cap), (0, .int .i32 r)] ∧ S = [C, F])
    ⟨0, by omega, rfl, rfl, rfl, rfl, rfl⟩ ?_
  rintro q D L S ⟨i, hi, hw, rfl, rfl, rfl, rfl⟩
  (repeat (first | (with_reducible refine then_n ?_) | (with_reducible refine then_r ?_) | (with_reducible refine then_e ?_) | (with_reducible refine block_n ?_) | (with_reducible refine block_r ?_) | (with_reducible refine block_e ?_) | refine block_o ?_ | (with_reducible refine scope_n ?_) | (with_reducible refine scope_r ?_) | (with_reducible refine scope_e ?_) | (with_reducible refine code_seq ?_) | (with_reducible refine code_skip ?_) | (with_reducible refine code_label ?_) | (with_reducible refine code_block ?_) | (with_reducible refine code_scope ?_) | (with_reducible refine code_exit ?_) | (with_reducible refine code_ret ?_) | refine regq_to ?_ | (with_reducible refine run_nil ?_) | ((with_reducible refine run_probe ?_); refine runq_more ?_) | (with_reducible refine draw_nil ?_) | ((with_reducible refine draw_probe ?_); (first | refine drawq_more ?_ | refine drawq_as ?_)) | refine code_then ?_ | refine code_else ?_))
  refine if_d (fun hc => ?_) (fun hc => ?_)
  · have hil : i < l.length := by omega
    have hx : l[i]? = some l[i] := List.getElem?_eq_getElem hil
    rw [List.drop_eq_getElem_cons hil] at hw
    generalize l[i] = p at *
    obtain ⟨f, t⟩ := p
    simp only [Nam.within] at hw
    (repeat (first | (with_reducible refine then_n ?_) | (with_reducible refine then_r ?_) | (with_reducible refine then_e ?_) | (with_reducible refine block_n ?_) | (with_reducible refine block_r ?_) | (with_reducible refine block_e ?_) | refine block_o ?_ | (with_reducible refine scope_n ?_) | (with_reducible refine scope_r ?_) | (with_reducible refine scope_e ?_) | (with_reducible refine code_seq ?_) | (with_reducible refine code_skip ?_) | (with_reducible refine code_label ?_) | (with_reducible refine code_block ?_) | (with_reducible refine code_scope ?_) | (with_reducible refine code_exit ?_) | (with_reducible refine code_ret ?_) | refine regq_to ?_ | (with_reducible refine run_nil ?_) | ((with_reducible refine run_probe ?_); refine runq_more ?_) | (with_reducible refine draw_nil ?_) | ((with_reducible refine draw_probe ?_); (first | refine drawq_more ?_ | refine drawq_as ?_)) | refine code_then ?_ | refine code_else ?_))
    refine run_op fun K hK => ?_; rw [el_at hr (by omega) (by omega) (by decide), Int.toNat_natCast]; refine hK _ _ ?_; clear hK K
    refine run_op fun K hK => ?_; refine load_rd_agg hr hs hx (by decide) (by (repeat (first | with_reducible assumption | with_reducible exact List.mem_cons_self .. | with_reducible apply List.mem_cons_of_mem))) ?_; refine hK _ _ ?_; clear hK K
    refine run_op fun K hK => ?_; refine alloc_new fun b6 => ?_; (try simp only [Value.cells]); refine hK _ _ ?_; clear hK K
    (repeat (first | (with_reducible refine then_n ?_) | (with_reducible refine then_r ?_) | (with_reducible refine then_e ?_) | (with_reducible refine block_n ?_) | (with_reducible refine block_r ?_) | (with_reducible refine block_e ?_) | refine block_o ?_ | (with_reducible refine scope_n ?_) | (with_reducible refine scope_r ?_) | (with_reducible refine scope_e ?_) | (with_reducible refine code_seq ?_) | (with_reducible refine code_skip ?_) | (with_reducible refine code_label ?_) | (with_reducible refine code_block ?_) | (with_reducible refine code_scope ?_) | (with_reducible refine code_exit ?_) | (with_reducible refine code_ret ?_) | refine regq_to ?_ | (with_reducible refine run_nil ?_) | ((with_reducible refine run_probe ?_); refine runq_more ?_) | (with_reducible refine draw_nil ?_) | ((with_reducible refine draw_probe ?_); (first | refine drawq_more ?_ | refine drawq_as ?_)) | refine code_then ?_ | refine code_else ?_))
    refine run_op fun K hK => ?_; refine store_all (vs := [.int .i32 f, .int .i32 t]) rfl (by simp [Value.cell1]) (by (repeat (first | with_reducible exact Upd.one | with_reducible apply Upd.next))) (by rfl) ?_; refine hK _ _ ?_; clear hK K
    (repeat (first | (with_reducible refine then_n ?_) | (with_reducible refine then_r ?_) | (with_reducible refine then_e ?_) | (with_reducible refine block_n ?_) | (with_reducible refine block_r ?_) | (with_reducible refine block_e ?_) | refine block_o ?_ | (with_reducible refine scope_n ?_) | (with_reducible refine scope_r ?_) | (with_reducible refine scope_e ?_) | (with_reducible refine code_seq ?_) | (with_reducible refine code_skip ?_) | (with_reducible refine code_label ?_) | (with_reducible refine code_block ?_) | (with_reducible refine code_scope ?_) | (with_reducible refine code_exit ?_) | (with_reducible refine code_ret ?_) | refine regq_to ?_ | (with_reducible refine run_nil ?_) | ((with_reducible refine run_probe ?_); refine runq_more ?_) | (with_reducible refine draw_nil ?_) | ((with_reducible refine draw_probe ?_); (first | refine drawq_more ?_ | refine drawq_as ?_)) | refine code_then ?_ | refine code_else ?_))
    by_cases h1 : f ≤ r
    · rw [decide_eq_true h1] at hw ⊢
      (repeat (first | (with_reducible refine then_n ?_) | (with_reducible refine then_r ?_) | (with_reducible refine then_e ?_) | (with_reducible refine block_n ?_) | (with_reducible refine block_r ?_) | (with_reducible refine block_e ?_) | refine block_o ?_ | (with_reducible refine scope_n ?_) | (with_reducible refine scope_r ?_) | (with_reducible refine scope_e ?_) | (with_reducible refine code_seq ?_) | (with_reducible refine code_skip ?_) | (with_reducible refine code_label ?_) | (with_reducible refine code_block ?_) | (with_reducible refine code_scope ?_) | (with_reducible refine code_exit ?_) | (with_reducible refine code_ret ?_) | refine regq_to ?_ | (with_reducible refine run_nil ?_) | ((with_reducible refine run_probe ?_); refine runq_more ?_) | (with_reducible refine draw_nil ?_) | ((with_reducible refine draw_probe ?_); (first | refine drawq_more ?_ | refine drawq_as ?_)) | refine code_then ?_ | refine code_else ?_))
      refine if_d (fun hc => ?_) (fun hc => ?_)
      · rw [decide_eq_true hc, Bool.true_and, Bool.true_or] at hw
        rw [hw]
        (repeat (first | (with_reducible refine then_n ?_) | (with_reducible refine then_r ?_) | (with_reducible refine then_e ?_) | (with_reducible refine block_n ?_) | (with_reducible refine block_r ?_) | (with_reducible refine block_e ?_) | refine block_o ?_ | (with_reducible refine scope_n ?_) | (with_reducible refine scope_r ?_) | (with_reducible refine scope_e ?_) | (with_reducible refine code_seq ?_) | (with_reducible refine code_skip ?_) | (with_reducible refine code_label ?_) | (with_reducible refine code_block ?_) | (with_reducible refine code_scope ?_) | (with_reducible refine code_exit ?_) | (with_reducible refine code_ret ?_) | refine regq_to ?_ | (with_reducible refine run_nil ?_) | ((with_reducible refine run_probe ?_); refine runq_more ?_) | (with_reducible refine draw_nil ?_) | ((with_reducible refine draw_probe ?_); (first | refine drawq_more ?_ | refine drawq_as ?_)) | refine code_then ?_ | refine code_else ?_))
        refine back_tmp [C] ?_; exact ⟨rfl, rfl⟩
      · rw [decide_eq_false hc, Bool.and_false, Bool.false_or] at hw
        (repeat (first | (with_reducible refine then_n ?_) | (with_reducible refine then_r ?_) | (with_reducible refine then_e ?_) | (with_reducible refine block_n ?_) | (with_reducible refine block_r ?_) | (with_reducible refine block_e ?_) | refine block_o ?_ | (with_reducible refine scope_n ?_) | (with_reducible refine scope_r ?_) | (with_reducible refine scope_e ?_) | (with_reducible refine code_seq ?_) | (with_reducible refine code_skip ?_) | (with_reducible refine code_label ?_) | (with_reducible refine code_block ?_) | (with_reducible refine code_scope ?_) | (with_reducible refine code_exit ?_) | (with_reducible refine code_ret ?_) | refine regq_to ?_ | (with_reducible refine run_nil ?_) | ((with_reducible refine run_probe ?_); refine runq_more ?_) | (with_reducible refine draw_nil ?_) | ((with_reducible refine draw_probe ?_); (first | refine drawq_more ?_ | refine drawq_as ?_)) | refine code_then ?_ | refine code_else ?_))
        exact again ⟨i + 1, by omega, hw, rfl, rfl, rfl, rfl⟩
    · rw [decide_eq_false h1] at hw ⊢
      rw [Bool.false_and, Bool.false_or] at hw
      (repeat (first | (with_reducible refine then_n ?_) | (with_reducible refine then_r ?_) | (with_reducible refine then_e ?_) | (with_reducible refine block_n ?_) | (with_reducible refine block_r ?_) | (with_reducible refine block_e ?_) | refine block_o ?_ | (with_reducible refine scope_n ?_) | (with_reducible refine scope_r ?_) | (with_reducible refine scope_e ?_) | (with_reducible refine code_seq ?_) | (with_reducible refine code_skip ?_) | (with_reducible refine code_label ?_) | (with_reducible refine code_block ?_) | (with_reducible refine code_scope ?_) | (with_reducible refine code_exit ?_) | (with_reducible refine code_ret ?_) | refine regq_to ?_ | (with_reducible refine run_nil ?_) | ((with_reducible refine run_probe ?_); refine runq_more ?_) | (with_reducible refine draw_nil ?_) | ((with_reducible refine draw_probe ?_); (first | refine drawq_more ?_ | refine drawq_as ?_)) | refine code_then ?_ | refine code_else ?_))
      exact again ⟨i + 1, by omega, hw, rfl, rfl, rfl, rfl⟩
  · obtain rfl : i = l.length := by omega
    rw [List.drop_length] at hw
    rw [hw]
    (repeat (first | (with_reducible refine then_n ?_) | (with_reducible refine then_r ?_) | (with_reducible refine then_e ?_) | (with_reducible refine block_n ?_) | (with_reducible refine block_r ?_) | (with_reducible refine block_e ?_) | refine block_o ?_ | (with_reducible refine scope_n ?_) | (with_reducible refine scope_r ?_) | (with_reducible refine scope_e ?_) | (with_reducible refine code_seq ?_) | (with_reducible refine code_skip ?_) | (with_reducible refine code_label ?_) | (with_reducible refine code_block ?_) | (with_reducible refine code_scope ?_) | (with_reducible refine code_exit ?_) | (with_reducible refine code_ret ?_) | refine regq_to ?_ | (with_reducible refine run_nil ?_) | ((with_reducible refine run_probe ?_); refine runq_more ?_) | (with_reducible refine draw_nil ?_) | ((with_reducible refine draw_probe ?_); (first | refine drawq_more ?_ | refine drawq_as ?_)) | refine code_then ?_ | refine code_else ?_))
    refine back_tmp [C] ?_; exact ⟨rfl, rfl⟩

theorem form_ext (i : Nat) (h : i < 4) : formsV.toArray.extract (i * 4) (i * 4 + 4) = (formV i).toArray := by
  match i, h with
  | 0, _ => rfl
  | 1, _ => rfl
  | 2, _ => rfl
  | 3, _ => rfl
  | i + 4, h => omega
theorem or_add (m k : Nat) (h : k < 64) : m * 64 ||| k = m * 64 + k := by
  have := Nat.two_pow_add_eq_or_of_lt (i := 6) (b := k) (by omega) m
  rw [Nat.mul_comm m 64]; exact this.symm
theorem getD_drop (c : UInt8) (l : List UInt8) (k : Nat) (h1 : 1 ≤ k) (h2 : k ≤ l.length) : l.drop (k - 1) = (c :: l).getD k 0 :: l.drop k := by
  obtain ⟨k, rfl⟩ : ∃ j, k = j + 1 := ⟨k - 1, by omega⟩
  rw [Nat.add_sub_cancel, List.drop_eq_getElem_cons (by omega)]
  congr 1
  rw [List.getD, List.getElem?_cons_succ, List.getElem?_eq_getElem (by omega), Option.getD_some]

theorem tail_int (x : UInt8) : (((x &&& ~~~(UInt8.ofNat 63)).toNat : Int) != 128) = !isTail x :=
  eq_of_beq (all8 (fun x => (((x &&& ~~~(UInt8.ofNat 63)).toNat : Int) != 128) == !isTail x) (by decide +kernel) x)

end Go.Proofs.YtdeenhhfafeanaaDoor
