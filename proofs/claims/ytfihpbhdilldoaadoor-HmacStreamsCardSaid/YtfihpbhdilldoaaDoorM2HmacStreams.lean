/- Texts in a row: the walk's rules and contracts, as each says. Conditions: as each says. -/
import Derived.Test.YtfihpbhdilldoaaDoorM1HmacStreams
import Derived.Lib.MakeNoZero
import Derived.Laws.Externs
import Derived.Shelf.Bytes.SlJoin
import Derived.Carry
import Derived.ProofKit
import Derived.OpenShut
import Derived.Deep.Matrix
import Derived.Test.YtfihpbhdilldoaaDoorProg
/- Slices of structures: elements of several cells, as plain data. Conditions: as each says. -/
set_option linter.unusedSimpArgs false
set_option linter.unusedVariables false
namespace Go.Ost
open Go

variable {P : Program}

theorem add_add (a : Addr) (n m : Nat) : (a.add n).add m = a.add (n + m) := by
  unfold Addr.add
  by_cases h1 : n = 0
  · subst h1; simp
  · rw [if_neg h1, if_neg (show n + m ≠ 0 by omega)]
    by_cases h2 : m = 0
    · subst h2; simp
    · rw [if_neg h2]; simp [Nat.add_assoc]
theorem elA_add (a : Option Addr) (n m : Nat) : (elA a n).add m = elA a (n + m) := by unfold elA; exact add_add _ _ _

/-- A field's place, behind any place. -/
theorem field_at {s i off ft : Nat} {a : Addr} {κ : Value → Prop} [h : TField P s i off ft] : PureW P (Instr.fieldAt s (.pointer (some a)) i) κ = κ (.pointer (some (a.add off))) :=
  pureW_eq (fun w => by
    obtain ⟨fs, f, hu, hf, h1, h2, j, hj, hz⟩ := field_parts h.ok
    have hs : (sizeOf f.type).run P w = .ok j.size w := by
      rw [h2]; simp [sizeOf, typeInfo, program, Sem.run_bind, Sem.run, hj, Result.andThen]
    simp only [Instr.fieldAt, Sem.run_bind, run_und hu, Result.andThen, hf, Instr.sureAddr, Sem.run_pure, fieldPlace, hs]
    rw [if_neg hz]
    simp [h1, Result.andThen]) κ
theorem field_el {s i off ft : Nat} {a : Option Addr} {n : Nat} {κ : Value → Prop} [h : TField P s i off ft] : PureW P (Instr.fieldAt s (.pointer (some (elA a n))) i) κ = κ (.pointer (some (elA a (n + off)))) := by
  rw [field_at, elA_add]

section own
variable {s : Nat} {e : TypeId} {C : Chunk} {a : Option Addr} {len cap : Nat} {us : List Value} {S G : State}

theorem own_some (h : Own s e C a len cap us) (hl : 0 < us.length) : ∃ b o cs m, a = some ⟨b, o, none⟩ ∧ C = [(b, .cells cs e m)] ∧ Soft cs.size m ∧ o + cap * s ≤ cs.size ∧ ∀ i, i < us.length → cs[o + i]? = us[i]? := by
  obtain ⟨h1, h2, h3, h4 | h4⟩ := h
  · obtain ⟨h5, _⟩ := h4
    have : len = 0 := by omega
    subst this
    rw [Nat.zero_mul] at h3
    omega
  · exact h4
theorem rd_some (h : Rd s S a len us) (hl : 0 < us.length) : ∃ b o, a = some ⟨b, o, none⟩ := by
  obtain ⟨b, o, _, _, _, h1, _⟩ := h.2 (List.length_pos_iff.1 hl)
  exact ⟨b, o, h1⟩

/-- An element's place. -/
theorem el_at {t e : TypeId} {z : Value} {by_ : Nat} {k : IntKind} {i : Int} {κ : Value → Prop} [h : TSlice P t e] [hs : TSized P e z s by_] (hr : Rd s S a len us) (h0 : 0 ≤ i) (h1 : i < len) (hp : 0 < s) :
    PureW P (Instr.indexAt t (.slice a len cap) (.int k i)) κ = κ (.pointer (some (elA a (i.toNat * s)))) := by
  have hpos : 0 < us.length := by rw [hr.1]; exact Nat.mul_pos (by omega) hp
  obtain ⟨b, o, rfl⟩ := rd_some hr hpos
  rw [index_addr h0 h1]
  simp [elA, add_mk]
/-- A cell of an element. -/
theorem el_load {t : TypeId} {i : Nat} {v : Value} {κ : Value → Prop} [hf : TFlat P t] (hr : Rd s S a len us) (hv : us[i]? = some v) (k : κ v) : ReadW P (Instr.loadAt t (.pointer (some (elA a i)))) S κ := by
  have hi := (List.getElem?_eq_some_iff.1 hv).1
  obtain ⟨hl, hne⟩ := hr
  obtain ⟨b, o, cs, et, m, rfl, hb, hc⟩ := hne (by intro e; subst e; simp at hi)
  simp only [elA, Option.getD_some, add_mk]
  exact load_one hb (by rw [hc i hi]; exact hv) k
/-- Cells of an element, together. -/
theorem el_load_agg {t : TypeId} {z : Value} {n by_ i : Nat} {κ : Value → Prop} [hf : TDeep P t] [hs : TSized P t z n by_] (hr : Rd s S a len us) (hn : 0 < n) (hi : i + n ≤ us.length) (k : κ (.agg ((us.drop i).take n).toArray)) :
    ReadW P (Instr.loadAt t (.pointer (some (elA a i)))) S κ := by
  obtain ⟨hl, hne⟩ := hr
  obtain ⟨b, o, cs, et, m, rfl, hb, hc⟩ := hne (by intro e; subst e; simp at hi; omega)
  simp only [elA, Option.getD_some, add_mk]
  have hsz : o + us.length ≤ cs.size := by
    have := hc (us.length - 1) (by omega)
    rw [List.getElem?_eq_getElem (by omega)] at this
    have := (Array.getElem?_eq_some_iff.1 this).1
    omega
  refine load_agg hb (by omega) ?_
  have e : cs.extract (o + i) (o + i + n) = ((us.drop i).take n).toArray := by
    apply Array.ext_getElem?
    intro j
    rw [Array.getElem?_extract]
    simp only [List.getElem?_toArray]
    by_cases hj : j < n
    · rw [if_pos (by omega), show o + i + j = o + (i + j) from by omega, hc _ (by omega), List.getElem?_take_of_lt hj, List.getElem?_drop]
    · rw [if_neg (by omega), List.getElem?_eq_none (by rw [List.length_take]; omega)]
  rw [e]; exact k

def setL (us : List Value) (i : Nat) : List Value → List Value
  | [] => us
  | v :: l => setL (us.set i v) (i + 1) l
theorem setL_length : ∀ (vs us : List Value) (i : Nat), (setL us i vs).length = us.length
  | [], _, _ => rfl
  | v :: l, us, i => by simp [setL, setL_length l]
theorem setL_cells : ∀ (vs : List Value) (cs : Array Value) (us : List Value) (o i : Nat), o + us.length ≤ cs.size → (∀ j, j < us.length → cs[o + j]? = us[j]?) → i + vs.length ≤ us.length →
    ∀ j, j < us.length → (setCells cs (o + i) vs)[o + j]? = (setL us i vs)[j]?
  | [], cs, us, o, i, _, h, _, j, hj => h j hj
  | v :: vs, cs, us, o, i, hs, h, hi, j, hj => by
    simp only [List.length_cons] at hi
    rw [setCells, setL]
    refine setL_cells vs _ _ o (i + 1) (by simpa using hs) (fun q hq => ?_) (by simp; omega) j (by simpa using hj)
    simp only [List.length_set] at hq
    by_cases e : q = i
    · subst e
      rw [Array.getElem?_setIfInBounds_self, if_pos (by omega)]
      simp [hq]
    · rw [Array.getElem?_setIfInBounds_ne (by omega), h q hq, List.getElem?_set_ne (by omega)]

theorem own_store_gen {t : TypeId} {z : Value} {n by_ i : Nat} {v : Value} {κ : State → Prop} [hs : TSized P t z n by_] (ho : Own s e C a len cap us) (hp : Pick C S G) (hn : 0 < n) (hvs : v.cells.size = n) (hc1 : ∀ u ∈ v.cells.toList, Value.cell1 u) (hi : i + n ≤ us.length)
    (k : ∀ C', Own s e C' a len cap (setL us i v.cells.toList) → κ (C' :: G)) : UnitW P (Instr.storeAt t (.pointer (some (elA a i))) v) S κ := by
  refine ⟨fun w hw => ?_⟩
  obtain ⟨b, o, cs, m, rfl, rfl, hsoft, hbig, hc⟩ := own_some ho (by omega)
  have hCG := hw.perm hp.perm
  obtain ⟨lo, hi'⟩ := m
  have hsz : o + us.length ≤ cs.size := by
    have := hc (us.length - 1) (by omega)
    rw [List.getElem?_eq_getElem (by omega)] at this
    have := (Array.getElem?_eq_some_iff.1 this).1
    omega
  obtain ⟨w', q1, q2, q3, q4⟩ := run_storeCells (P := P) (b := b) (o := o + i) v.cells.toList 0 w cs (hCG.get b (.cells cs e (lo, hi')) (by simp)) hc1 (by simp [hvs]; omega) hsoft.or
  refine ⟨w', _, ?_, q2, (Upd.one (S := G)).hold hCG q3 q4, k [(b, .cells (setCells cs (o + i + 0) v.cells.toList) e (lo, hi'))] ⟨ho.1, ho.2.1, by rw [setL_length]; exact ho.2.2.1, .inr ⟨b, o, _, (lo, hi'), rfl, rfl, by rw [setCells_size]; exact hsoft, by rw [setCells_size]; exact hbig, fun j hj => ?_⟩⟩⟩
  · simp only [elA, Option.getD_some, add_mk]
    simp [Instr.storeAt, Instr.sureAddr, storeVar, Sem.run_bind, run_size hs, Result.andThen, hvs, q1]
  · rw [setL_length] at hj
    rw [Nat.add_zero]
    exact setL_cells _ cs us o i hsz hc (by simp [hvs]; omega) j hj
/-- A cell of an element of one's own is set. -/
theorem own_store1 {t : TypeId} {z : Value} {by_ i : Nat} {v : Value} {κ : State → Prop} [hs : TSized P t z 1 by_] (ho : Own s e C a len cap us) (hp : Pick C S G) (hc : Value.cell1 v) (hi : i < us.length)
    (k : ∀ C', Own s e C' a len cap (us.set i v) → κ (C' :: G)) : UnitW P (Instr.storeAt t (.pointer (some (elA a i))) v) S κ := by
  have hcs : v.cells = #[v] := by cases v <;> first | exact hc.elim | rfl
  exact own_store_gen (n := 1) ho hp (by omega) (by rw [hcs]; rfl) (by rw [hcs]; simpa using hc) (by omega) (by rw [hcs]; exact k)
theorem own_store_agg {t : TypeId} {z : Value} {n by_ i : Nat} {vs : List Value} {κ : State → Prop} [hs : TSized P t z n by_] (ho : Own s e C a len cap us) (hp : Pick C S G) (hn : 0 < n) (hvs : vs.length = n) (hc : ∀ u ∈ vs, Value.cell1 u) (hi : i + n ≤ us.length)
    (k : ∀ C', Own s e C' a len cap (setL us i vs) → κ (C' :: G)) : UnitW P (Instr.storeAt t (.pointer (some (elA a i))) (.agg vs.toArray)) S κ :=
  own_store_gen (v := .agg vs.toArray) ho hp hn (by simpa [Value.cells] using hvs) (by simpa [Value.cells] using hc) hi (by simpa [Value.cells] using k)
end own

/-! ### Rows of elements -/

theorem setL_app : ∀ (vs p u r : List Value), u.length = vs.length → setL (p ++ (u ++ r)) p.length vs = p ++ (vs ++ r)
  | [], p, [], r, _ => rfl
  | v :: vs, p, x :: u, r, h => by
    have ih := setL_app vs (p ++ [v]) u r (by simpa using h)
    rw [setL]
    have e : (p ++ (x :: u ++ r)).set p.length v = p ++ [v] ++ (u ++ r) := by simp
    rw [e, show p.length + 1 = (p ++ [v]).length from by simp, ih]
    simp
section rows
variable {α : Type} (enc : α → List Value) (s : Nat) (hs : ∀ x, (enc x).length = s)
include hs
theorem flat_len : ∀ l : List α, (l.flatMap enc).length = l.length * s
  | [] => by simp
  | x :: l => by rw [List.flatMap_cons, List.length_append, hs, flat_len l, List.length_cons, Nat.add_mul]; omega
theorem flat_drop : ∀ (l : List α) (i : Nat), (l.flatMap enc).drop (i * s) = (l.drop i).flatMap enc
  | l, 0 => by simp
  | [], i + 1 => by simp
  | x :: l, i + 1 => by
    rw [List.flatMap_cons, Nat.add_mul, Nat.one_mul, Nat.add_comm, ← List.drop_drop, List.drop_left' (hs x), flat_drop l i, List.drop_succ_cons]
theorem flat_el (l : List α) (i : Nat) (h : i < l.length) : ((l.flatMap enc).drop (i * s)).take s = enc l[i] := by
  rw [flat_drop enc s hs, List.drop_eq_getElem_cons h, List.flatMap_cons, List.take_left' (hs _)]
theorem flat_get (l : List α) (i j : Nat) (h : i < l.length) (hj : j < s) : (l.flatMap enc)[i * s + j]? = (enc l[i])[j]? := by
  rw [← List.getElem?_drop, ← flat_el enc s hs l i h, List.getElem?_take_of_lt hj]
theorem flat_set : ∀ (l : List α) (i j : Nat) (v : Value) (h : i < l.length) (x : α), (enc l[i]).set j v = enc x → j < s → (l.flatMap enc).set (i * s + j) v = (l.set i x).flatMap enc
  | [], i, j, v, h, x, _, _ => by simp at h
  | y :: l, 0, j, v, h, x, hx, hj => by
    simp only [List.getElem_cons_zero] at hx
    rw [Nat.zero_mul, Nat.zero_add, List.flatMap_cons, List.set_append_left _ _ (by rw [hs]; exact hj), hx]; rfl
  | y :: l, i + 1, j, v, h, x, hx, hj => by
    have ih := flat_set l i j v (by simpa using h) x (by simpa using hx) hj
    rw [List.flatMap_cons, List.set_append_right _ _ (by rw [hs, Nat.add_mul]; omega), hs, show (i + 1) * s + j - s = i * s + j from by rw [Nat.add_mul]; omega, ih]; rfl
theorem flat_setL (l : List α) (i : Nat) (h : i < l.length) (x : α) : setL (l.flatMap enc) (i * s) (enc x) = (l.set i x).flatMap enc := by
  have e1 : l.flatMap enc = (l.take i).flatMap enc ++ (enc l[i] ++ (l.drop (i + 1)).flatMap enc) := by
    conv => lhs; rw [← List.take_append_drop i l, List.flatMap_append, List.drop_eq_getElem_cons h, List.flatMap_cons]
  have e2 : ((l.take i).flatMap enc).length = i * s := by rw [flat_len enc s hs, List.length_take]; congr 1; omega
  rw [e1, ← e2, setL_app (enc x) _ (enc l[i]) _ (by rw [hs, hs]), List.set_eq_take_append_cons_drop, if_pos h, List.flatMap_append, List.flatMap_cons]
end rows

end Go.Ost

/- Maps that are keyed by texts: what is found, put and taken away. Conditions: as each says. -/
set_option linter.unusedSimpArgs false
set_option linter.unusedVariables false
namespace Go.Ost
open Go

variable {P : Program}

section plain
variable {α : Type} {β : Type}
def mget : List (List UInt8 × α) → List UInt8 → Option α
  | [], _ => none
  | (k, v) :: l, q => if q = k then some v else mget l q
def mput : List (List UInt8 × α) → List UInt8 → α → List (List UInt8 × α)
  | [], q, v => [(q, v)]
  | (k, u) :: l, q, v => if q = k then (q, v) :: l else (k, u) :: mput l q v
def mdel : List (List UInt8 × α) → List UInt8 → List (List UInt8 × α)
  | [], _ => []
  | (k, u) :: l, q => if q = k then l else (k, u) :: mdel l q
def mfind : List (List UInt8 × α) → List UInt8 → Nat → Option (Nat × α)
  | [], _, _ => none
  | (k, v) :: l, q, i => if q = k then some (i, v) else mfind l q (i + 1)
def mval (f : α → β) (m : List (List UInt8 × α)) : List (List UInt8 × β) := m.map fun p => (p.1, f p.2)

theorem mget_val (f : α → β) : ∀ (m : List (List UInt8 × α)) (q : List UInt8), mget (mval f m) q = (mget m q).map f
  | [], q => rfl
  | (k, v) :: l, q => by
    have ih := mget_val f l q
    simp only [mval, List.map_cons, mget] at ih ⊢
    split
    · rfl
    · exact ih
theorem mput_val (f : α → β) : ∀ (m : List (List UInt8 × α)) (q : List UInt8) (v : α), mput (mval f m) q (f v) = mval f (mput m q v)
  | [], q, v => rfl
  | (k, u) :: l, q, v => by
    have ih := mput_val f l q v
    simp only [mval, List.map_cons, mput] at ih ⊢
    split
    · simp
    · simp [ih]
theorem mdel_val (f : α → β) : ∀ (m : List (List UInt8 × α)) (q : List UInt8), mdel (mval f m) q = mval f (mdel m q)
  | [], q => rfl
  | (k, u) :: l, q => by
    have ih := mdel_val f l q
    simp only [mval, List.map_cons, mdel] at ih ⊢
    split
    · rfl
    · simp [ih]

theorem mfind_some {q : List UInt8} {j : Nat} {v : α} : ∀ (m : List (List UInt8 × α)) (i : Nat), mfind m q i = some (j, v) →
    ∃ pre post, m = pre ++ (q, v) :: post ∧ j = i + pre.length ∧ mget m q = some v ∧ (∀ u, mput m q u = pre ++ (q, u) :: post) ∧ mdel m q = pre ++ post
  | [], i, h => by cases h
  | (k, u) :: l, i, h => by
    simp only [mfind] at h
    split at h
    · rename_i hk
      subst hk
      cases h
      exact ⟨[], l, rfl, by simp, by simp [mget], fun w => by simp [mput], by simp [mdel]⟩
    · rename_i hk
      obtain ⟨pre, post, h1, h2, h3, h4, h5⟩ := mfind_some l (i + 1) h
      refine ⟨(k, u) :: pre, post, by rw [h1]; rfl, by simp; omega, ?_, fun w => ?_, ?_⟩
      · simp only [mget]; rw [if_neg hk]; exact h3
      · simp only [mput]; rw [if_neg hk, h4]; rfl
      · simp only [mdel]; rw [if_neg hk, h5]; rfl
theorem mfind_none {q : List UInt8} : ∀ (m : List (List UInt8 × α)) (i : Nat), mfind m q i = none → mget m q = none ∧ (∀ u, mput m q u = m ++ [(q, u)]) ∧ mdel m q = m
  | [], i, h => ⟨rfl, fun u => rfl, rfl⟩
  | (k, u) :: l, i, h => by
    simp only [mfind] at h
    split at h
    · cases h
    · rename_i hk
      obtain ⟨h1, h2, h3⟩ := mfind_none l (i + 1) h
      refine ⟨?_, fun w => ?_, ?_⟩
      · simp only [mget]; rw [if_neg hk]; exact h1
      · simp only [mput]; rw [if_neg hk, h2]; rfl
      · simp only [mdel]; rw [if_neg hk, h3]
end plain

theorem str_beq (a b : List UInt8) : (str a == str b) = decide (a = b) := by
  have e : (str a == str b) = (a == b) := by
    have h := ByteArray.toList_eq (str a)
    have h2 := ByteArray.toList_eq (str b)
    show ((str a).data == (str b).data) = _
    simp [str]
  rw [e]
  by_cases h : a = b <;> simp [h]

/-- The chunk is a map of these texts and values. -/
def IsMap (C : Chunk) (r : Nat) (m : List (List UInt8 × Value)) : Prop :=
  ∃ es clock, C = [(r, .map es clock)] ∧ es.toList.map (fun e => (e.key, e.val)) = m.map fun p => (Value.string (str p.1), p.2)

theorem find_now (q : List UInt8) : ∀ (es : List MapEntry) (m : List (List UInt8 × Value)) (i : Nat), es.map (fun e => (e.key, e.val)) = m.map (fun p => (Value.string (str p.1), p.2)) →
    Instr.findNow .string (.string (str q)) es i = some (mfind m q i)
  | [], [], i, _ => rfl
  | [], _ :: _, i, h => by simp at h
  | _ :: _, [], i, h => by simp at h
  | e :: es, (k, v) :: m, i, h => by
    simp only [List.map_cons, List.cons.injEq, Prod.mk.injEq] at h
    obtain ⟨⟨h1, h2⟩, h3⟩ := h
    simp only [Instr.findNow, mfind, h1, Instr.sameNow, str_beq]
    by_cases hk : q = k
    · simp [hk, h2]
    · simp only [hk, decide_false, if_false]
      exact find_now q es m (i + 1) h3

theorem run_find {kt : TypeId} (hk : P.underlying kt = some .string) (q : List UInt8) {es : List MapEntry} {m : List (List UInt8 × Value)} (h : es.map (fun e => (e.key, e.val)) = m.map (fun p => (Value.string (str p.1), p.2))) (w : World) :
    (Instr.findKey kt (.string (str q)) es).run P w = .ok (mfind m q 0) w := by
  unfold Instr.findKey
  rw [Sem.run_bind, run_und hk]
  simp only [Result.andThen, find_now q es m 0 h]
  rfl
theorem run_check {kt : TypeId} (hk : P.underlying kt = some .string) (b : Bool) (q : List UInt8) (w : World) : (Instr.checkKey b 10000 kt (.string (str q))).run P w = .ok () w := by
  rw [Instr.checkKey, Sem.run_bind, run_und hk]
  rfl
theorem run_obj {w : World} {r : Nat} {es : Array MapEntry} {c : Nat} (h : w.heap[r]? = some (.map es c)) : (getObj r).run P w = .ok (.map es c) w := by
  simp [getObj, Sem.run, h]

theorem look_run {t kt et : TypeId} {z : Value} {s b : Nat} [ht : TMap P t kt et] [hk : TStr P kt] [hz : TSized P et z s b] {C : Chunk} {r : Nat} {m : List (List UInt8 × Value)} (hm : IsMap C r m) (q : List UInt8) (ok : Bool) {w : World} {S : State} (hC : C ∈ S) (hw : Hold w S) :
    (Instr.lookup t (.map (some r)) (.string (str q)) ok).run P w = .ok (if ok then .tuple #[(mget m q).getD z, .bool (mget m q).isSome] else (mget m q).getD z) w := by
  obtain ⟨es, clock, rfl, he⟩ := hm
  have hb := (Lies.of_mem (b := r) (o := .map es clock) (List.mem_singleton.2 rfl) hC).get hw
  unfold Instr.lookup
  rw [Sem.run_bind, run_und ht.und]
  simp only [Result.andThen]
  simp only [Sem.run_bind, run_obj hb, Result.andThen, Sem.run_pure, run_check hk.und, run_find hk.und q he]
  cases hf : mfind m q 0 with
  | none =>
    have h1 := (mfind_none m 0 hf).1
    simp only [h1, Sem.run_bind, run_zero hz, Result.andThen, Sem.run_pure, Option.getD_none, Option.isSome_none]
  | some p =>
    obtain ⟨j, v⟩ := p
    obtain ⟨_, _, _, _, h1, _⟩ := mfind_some m 0 hf
    simp only [h1, Sem.run_bind, Sem.run_pure, Result.andThen, Option.getD_some, Option.isSome_some]
theorem map_look2 {t kt et : TypeId} {z : Value} {s b : Nat} [ht : TMap P t kt et] [hk : TStr P kt] [hz : TSized P et z s b] {C : Chunk} {r : Nat} {m : List (List UInt8 × Value)} {q : List UInt8} {S : State} {κ : Value → Prop} (hm : IsMap C r m) (hC : C ∈ S)
    (k : κ (.tuple #[(mget m q).getD z, .bool (mget m q).isSome])) : ReadW P (Instr.lookup t (.map (some r)) (.string (str q)) true) S κ :=
  ⟨_, fun w hw => look_run hm q true hC hw, k⟩
theorem map_look1 {t kt et : TypeId} {z : Value} {s b : Nat} [ht : TMap P t kt et] [hk : TStr P kt] [hz : TSized P et z s b] {C : Chunk} {r : Nat} {m : List (List UInt8 × Value)} {q : List UInt8} {S : State} {κ : Value → Prop} (hm : IsMap C r m) (hC : C ∈ S)
    (k : κ ((mget m q).getD z)) : ReadW P (Instr.lookup t (.map (some r)) (.string (str q)) false) S κ :=
  ⟨_, fun w hw => look_run hm q false hC hw, k⟩

theorem run_setObj {w : World} {r : Nat} {es : Array MapEntry} {c : Nat} {o' : Obj} (h : w.heap[r]? = some (.map es c)) : (setObj r o').run P w = .ok () (w.putObj r o') := by
  simp [setObj, Sem.run, h, World.putObj]

theorem stay_same (q : List UInt8) (w : World) : (Instr.keyThatStays (.string (str q)) (.string (str q))).run P w = .ok (.string (str q)) w := by
  unfold Instr.keyThatStays
  have : Instr.sameBits 10000 (.string (str q)) (.string (str q)) = true := by simp [Instr.sameBits, str_beq]
  rw [if_pos this]; rfl

theorem map_put {t kt et : TypeId} [ht : TMap P t kt et] [hk : TStr P kt] {C : Chunk} {r : Nat} {m : List (List UInt8 × Value)} {q : List UInt8} {v : Value} {S G : State} {κ : State → Prop} (hm : IsMap C r m) (hp : Pick C S G)
    (k : ∀ C', IsMap C' r (mput m q v) → κ (C' :: G)) : UnitW P (Instr.mapUpdate t (.map (some r)) (.string (str q)) v) S κ := by
  refine ⟨fun w hw => ?_⟩
  obtain ⟨es, clock, rfl, he⟩ := hm
  have hCG := hw.perm hp.perm
  have hb := hCG.get r (.map es clock) (by simp)
  have hlen : es.size = m.length := by have := congrArg List.length he; simpa using this
  cases hf : mfind m q 0 with
  | none =>
    obtain ⟨_, h2, _⟩ := mfind_none m 0 hf
    refine ⟨w.putObj r (.map (es.push { key := .string (str q), val := v, born := clock }) (clock + 1)), _, ?_, put_ext _ _ _, put_hold hCG, k [(r, .map (es.push { key := .string (str q), val := v, born := clock }) (clock + 1))] ⟨_, _, rfl, ?_⟩⟩
    · unfold Instr.mapUpdate
      rw [Sem.run_bind, run_und ht.und]
      simp only [Result.andThen, Sem.run_bind, run_obj hb, run_check hk.und, run_find hk.und q he, hf, run_setObj hb]
    · rw [h2]; simp [he]
  | some p =>
    obtain ⟨j, u⟩ := p
    obtain ⟨pre, post, h1, h2, h3, h4, h5⟩ := mfind_some m 0 hf
    have hj : j < es.size := by rw [hlen, h1]; simp; omega
    have hkey : es[j].key = .string (str q) := by
      have e := congrArg (fun l => l[j]?) he
      simp only [List.getElem?_map, h1] at e
      rw [List.getElem?_append_right (by omega), show j - pre.length = 0 from by omega] at e
      have e2 : es.toList[j]? = some es[j] := by simp [hj]
      rw [e2] at e
      simp only [Option.map_some, List.getElem?_cons_zero, Option.some.injEq, Prod.mk.injEq] at e
      exact e.1
    refine ⟨w.putObj r (.map (es.modify j fun e => { e with key := .string (str q), val := v }) clock), _, ?_, put_ext _ _ _, put_hold hCG, k [(r, .map (es.modify j fun e => { e with key := .string (str q), val := v }) clock)] ⟨_, _, rfl, ?_⟩⟩
    · unfold Instr.mapUpdate
      rw [Sem.run_bind, run_und ht.und]
      have hg : ((es[j]?).map (·.key)).getD (.string (str q)) = .string (str q) := by simp [hj, hkey]
      simp only [Result.andThen, Sem.run_bind, run_obj hb, run_check hk.und, run_find hk.und q he, hf, hg, stay_same, run_setObj hb]
    · rw [h4]
      have e := he
      rw [h1] at e
      apply List.ext_getElem?
      intro i
      have ei := congrArg (fun l => l[i]?) e
      simp only [List.getElem?_map, Array.getElem?_toList, Array.getElem?_modify] at ei ⊢
      by_cases hij : j = i
      · subst hij
        rw [if_pos rfl, List.getElem?_append_right (by omega), h2, show 0 + pre.length - pre.length = 0 from by omega, Array.getElem?_eq_getElem (by rw [← h2]; exact hj)]
        rfl
      · rw [if_neg hij, ei]
        congr 1
        rcases Nat.lt_or_ge i pre.length with hlt | hge
        · rw [List.getElem?_append_left hlt, List.getElem?_append_left hlt]
        · rw [List.getElem?_append_right hge, List.getElem?_append_right hge]
          obtain ⟨n, hn⟩ : ∃ n, i - pre.length = n + 1 := ⟨i - pre.length - 1, by omega⟩
          rw [hn]; rfl

theorem map_del {t kt et ty kt2 : TypeId} [ht : TMap P t kt et] [hk : TStr P kt] {C : Chunk} {r : Nat} {m : List (List UInt8 × Value)} {q : List UInt8} {S G : State} {κ : Value → State → Prop} (hm : IsMap C r m) (hp : Pick C S G)
    (k : ∀ C', IsMap C' r (mdel m q) → κ (.tuple #[]) (C' :: G)) : ValW P (Builtin.delete_ #[t, kt2] ty #[.map (some r), .string (str q)]) S κ := by
  refine ⟨fun w hw => ?_⟩
  obtain ⟨es, clock, rfl, he⟩ := hm
  have hCG := hw.perm hp.perm
  have hb := hCG.get r (.map es clock) (by simp)
  have hlen : es.size = m.length := by have := congrArg List.length he; simpa using this
  cases hf : mfind m q 0 with
  | none =>
    obtain ⟨_, _, h2⟩ := mfind_none m 0 hf
    refine ⟨.tuple #[], w.putObj r (.map es clock), _, ?_, put_ext _ _ _, put_hold hCG, k [(r, .map es clock)] ⟨_, _, rfl, by rw [h2]; exact he⟩⟩
    simp only [Builtin.delete_, List.getElem?_toArray, List.getElem?_cons_zero, List.getElem?_cons_succ, Sem.run_bind, run_und ht.und, Result.andThen, run_obj hb, run_check hk.und, run_find hk.und q he, hf, run_setObj hb, Sem.run_pure]
  | some p =>
    obtain ⟨j, u⟩ := p
    obtain ⟨pre, post, h1, h2, h3, h4, h5⟩ := mfind_some m 0 hf
    have hj : j < es.size := by rw [hlen, h1]; simp; omega
    refine ⟨.tuple #[], w.putObj r (.map (es.eraseIdxIfInBounds j) clock), _, ?_, put_ext _ _ _, put_hold hCG, k [(r, .map (es.eraseIdxIfInBounds j) clock)] ⟨_, _, rfl, ?_⟩⟩
    · simp only [Builtin.delete_, List.getElem?_toArray, List.getElem?_cons_zero, List.getElem?_cons_succ, Sem.run_bind, run_und ht.und, Result.andThen, run_obj hb, run_check hk.und, run_find hk.und q he, hf, run_setObj hb, Sem.run_pure]
    · rw [h5]
      have e3 : j = 0 + pre.length := h2
      have e4 : (es.eraseIdxIfInBounds j).toList = es.toList.eraseIdx j := by simp [Array.eraseIdxIfInBounds, hj]
      have e5 : ∀ (l : List MapEntry) (f : MapEntry → Value × Value) (i : Nat), (l.eraseIdx i).map f = (l.map f).eraseIdx i := by
        intro l f
        induction l with
        | nil => intro i; simp
        | cons x l ih => intro i; cases i <;> simp [ih]
      rw [e4, e5, he, h1, e3]
      simp [List.eraseIdx_append_of_length_le]

theorem map_len {t kt et ty : TypeId} [ht : TMap P t kt et] {C : Chunk} {r : Nat} {m : List (List UInt8 × Value)} {S : State} {κ : Value → Prop} (hm : IsMap C r m) (hC : C ∈ S) (k : κ (.int .i64 m.length)) :
    ReadW P (Builtin.len_ #[t] ty #[.map (some r)]) S κ := by
  obtain ⟨es, clock, rfl, he⟩ := hm
  have hlen : es.size = m.length := by have := congrArg List.length he; simpa using this
  refine ⟨_, fun w hw => ?_, k⟩
  have hb := (Lies.of_mem (b := r) (o := .map es clock) (List.mem_singleton.2 rfl) hC).get hw
  simp [Builtin.len_, Sem.run_bind, run_und ht.und, Result.andThen, run_obj hb, goInt, hlen]

theorem map_new {t : TypeId} {S : State} {κ : Value → State → Prop} (k : ∀ r C, IsMap C r [] → κ (.map (some r)) (C :: S)) : ValW P (Instr.makeMap t none) S κ := by
  refine ⟨fun w hw => ?_⟩
  refine ⟨.map (some w.heap.size), { w with heap := w.heap.push (.map #[] 0) }, _, ?_, ext_push rfl, hw.new rfl, k _ _ ⟨#[], 0, rfl, rfl⟩⟩
  simp [Instr.makeMap, Sem.run_bind, Result.andThen, newObj, Sem.run]

end Go.Ost

/- The walk's steps in one word each: their side conditions are found by themselves. Conditions: none. -/
set_option linter.unusedSimpArgs false
set_option linter.unusedVariables false
namespace Go.Ost
open Go

variable {P : Program} {n : Nat} {ro : Option Nat}

/-! ### Rules whose facts lie among the hypotheses -/

section facts
variable {S : State} {a : Option Addr} {len cap : Nat} {us : List Value} {bs : List UInt8} {H : Chunk} {κ : Value → Prop} {t e : TypeId} {z : Value} {s by_ : Nat} {k : IntKind} {i : Int}
theorem index_rda [TSlice P t e] [TSized P e z 1 by_] (hr : Rd 1 [H] a len us) (h0 : 0 ≤ i) (h1 : i < len) (q : κ (.pointer (some (elA a i.toNat)))) : PureW P (Instr.indexAt t (.slice a len cap) (.int k i)) κ := by rw [index_rd hr h0 h1]; exact q
theorem index_owa [TSlice P t e] [TSized P e z 1 by_] {e' : TypeId} {cap' : Nat} (ho : Own 1 e' H a len cap' us) (h0 : 0 ≤ i) (h1 : i < len) (q : κ (.pointer (some (elA a i.toNat)))) : PureW P (Instr.indexAt t (.slice a len cap) (.int k i)) κ := by
  rw [index_rd (ho.rd (S := [H]) (List.mem_cons_self ..)) h0 h1]; exact q
theorem load_rda8 {i : Nat} [TFlat P t] (hr : Rd 1 [H] a len (bs.map b8)) (hH : H ∈ S) (hi : i < bs.length) (q : κ (b8 (bs.getD i 0))) : ReadW P (Instr.loadAt t (.pointer (some (elA a i)))) S κ := rd_load8 (hr.mem hH) hi q
theorem load_owa8 {i : Nat} [TFlat P t] {e' : TypeId} (hr : Own 1 e' H a len cap (bs.map b8)) (hH : H ∈ S) (hi : i < bs.length) (q : κ (b8 (bs.getD i 0))) : ReadW P (Instr.loadAt t (.pointer (some (elA a i)))) S κ := rd_load8 (hr.rd hH) hi q
theorem load_rda {i : Nat} {v : Value} [TFlat P t] (hr : Rd 1 [H] a len us) (hv : us[i]? = some v) (hH : H ∈ S) (q : κ v) : ReadW P (Instr.loadAt t (.pointer (some (elA a i)))) S κ := rd_load (hr.mem hH) hv q
theorem load_owa {i : Nat} {v : Value} [TFlat P t] {e' : TypeId} (hr : Own 1 e' H a len cap us) (hv : us[i]? = some v) (hH : H ∈ S) (q : κ v) : ReadW P (Instr.loadAt t (.pointer (some (elA a i)))) S κ := rd_load (hr.rd hH) hv q
end facts

/-- From a list of operations to what is left of it. -/
structure Runs (P : Program) (n : Nat) (ops : Array Oper) (l : List Oper) (L : Env) (S : State) (l' : List Oper) (L' : Env) (S' : State) : Prop where
  out : ∀ K : Env → State → Prop, runW P n ops K l' L' S' → runW P n ops K l L S
structure Draws (P : Program) (n : Nat) (ops : Array Oper) (l : List Entry) (L : Env) (S : State) (l' : List Entry) (L' : Env) (S' : State) : Prop where
  out : ∀ K : Env → State → Prop, drawW P n ops K l' L' S' → drawW P n ops K l L S

section steps
variable {ops : Array Oper} {K : Env → State → Prop} {o : Oper} {l l' : List Oper} {L L' : Env} {S S' : State}

theorem run_to (k : runW P n ops K l' L' S') (h : Runs P n ops l L S l' L' S' := by exact ⟨fun K0 hK0 => by (repeat ((with_reducible refine run_cons fun K hK => ?_); (try simp only [gos, gob, Nat.reduceBEq, if_true, reduceIte, reduceCtorEq, Nat.reduceLT, Nat.reduceEqDiff, Nat.reduceAdd, Nat.reduceSub, Int.reduceLT, Int.reduceLE, Int.reduceBEq, Int.reduceBNe, Int.reduceToNat, Int.reduceAdd, Int.reduceSub, Int.reduceMul, Int.reduceDiv, Int.reduceMod, Int.reducePow, Int.toNat_natCast, Nat.sub_zero]); (try (simp (disch := omega) only [gow, gobw]; try simp only [gos, gob, Nat.reduceBEq, if_true, reduceIte, reduceCtorEq, Nat.reduceLT, Nat.reduceEqDiff, Nat.reduceAdd, Nat.reduceSub, Int.reduceLT, Int.reduceLE, Int.reduceBEq, Int.reduceBNe, Int.reduceToNat, Int.reduceAdd, Int.reduceSub, Int.reduceMul, Int.reduceDiv, Int.reduceMod, Int.reducePow, Int.toNat_natCast, Nat.sub_zero])); (first | (with_reducible refine hK _ _ ?_) | ((with_reducible apply load_box); (· (repeat (first | with_reducible exact Lies.one | with_reducible apply Lies.next))); (with_reducible refine hK _ _ ?_)) | ((with_reducible apply load_one); (· (repeat (first | with_reducible exact Lies.one | with_reducible apply Lies.next))); (· exact rfl); (with_reducible refine hK _ _ ?_)) | ((with_reducible apply store_box); (· exact trivial); (· (repeat (first | with_reducible exact Upd.one | with_reducible apply Upd.next))); (with_reducible refine hK _ _ ?_)) | ((with_reducible apply store_one); (· exact trivial); (· (repeat (first | with_reducible exact Upd.one | with_reducible apply Upd.next))); (· simp); (with_reducible refine hK _ _ ?_)) | (first | ((with_reducible apply index_rda); (· assumption); (· (first | omega | assumption | (simp only [List.length_append, List.length_take, List.length_drop, List.length_map, List.length_replicate, List.length_range, List.length_set, List.length_cons, List.length_nil]; omega))); (· (first | omega | assumption | (simp only [List.length_append, List.length_take, List.length_drop, List.length_map, List.length_replicate, List.length_range, List.length_set, List.length_cons, List.length_nil]; omega))); (with_reducible refine hK _ _ ?_)) | ((with_reducible apply index_owa); (· assumption); (· (first | omega | assumption | (simp only [List.length_append, List.length_take, List.length_drop, List.length_map, List.length_replicate, List.length_range, List.length_set, List.length_cons, List.length_nil]; omega))); (· (first | omega | assumption | (simp only [List.length_append, List.length_take, List.length_drop, List.length_map, List.length_replicate, List.length_range, List.length_set, List.length_cons, List.length_nil]; omega))); (with_reducible refine hK _ _ ?_)) | ((with_reducible apply load_rda8); (· assumption); (· (repeat (first | with_reducible assumption | with_reducible exact List.mem_cons_self .. | with_reducible apply List.mem_cons_of_mem))); (· (first | omega | assumption | (simp only [List.length_append, List.length_take, List.length_drop, List.length_map, List.length_replicate, List.length_range, List.length_set, List.length_cons, List.length_nil]; omega))); (with_reducible refine hK _ _ ?_)) | ((with_reducible apply load_owa8); (· assumption); (· (repeat (first | with_reducible assumption | with_reducible exact List.mem_cons_self .. | with_reducible apply List.mem_cons_of_mem))); (· (first | omega | assumption | (simp only [List.length_append, List.length_take, List.length_drop, List.length_map, List.length_replicate, List.length_range, List.length_set, List.length_cons, List.length_nil]; omega))); (with_reducible refine hK _ _ ?_)) | ((with_reducible apply load_rda); (· assumption); (· assumption); (· (repeat (first | with_reducible assumption | with_reducible exact List.mem_cons_self .. | with_reducible apply List.mem_cons_of_mem))); (with_reducible refine hK _ _ ?_)) | ((with_reducible apply load_owa); (· assumption); (· assumption); (· (repeat (first | with_reducible assumption | with_reducible exact List.mem_cons_self .. | with_reducible apply List.mem_cons_of_mem))); (with_reducible refine hK _ _ ?_)))); clear hK K)); exact hK0⟩) : runW P n ops K l L S := h.out K k
theorem run_one {l1 : List Oper} (k : runW P n ops K l1 L' S') (h : Runs P n ops (o :: l) L S l1 L' S' := by exact ⟨fun K0 hK0 => by ((with_reducible refine run_cons fun K hK => ?_); (try simp only [gos, gob, Nat.reduceBEq, if_true, reduceIte, reduceCtorEq, Nat.reduceLT, Nat.reduceEqDiff, Nat.reduceAdd, Nat.reduceSub, Int.reduceLT, Int.reduceLE, Int.reduceBEq, Int.reduceBNe, Int.reduceToNat, Int.reduceAdd, Int.reduceSub, Int.reduceMul, Int.reduceDiv, Int.reduceMod, Int.reducePow, Int.toNat_natCast, Nat.sub_zero]); (try (simp (disch := omega) only [gow, gobw]; try simp only [gos, gob, Nat.reduceBEq, if_true, reduceIte, reduceCtorEq, Nat.reduceLT, Nat.reduceEqDiff, Nat.reduceAdd, Nat.reduceSub, Int.reduceLT, Int.reduceLE, Int.reduceBEq, Int.reduceBNe, Int.reduceToNat, Int.reduceAdd, Int.reduceSub, Int.reduceMul, Int.reduceDiv, Int.reduceMod, Int.reducePow, Int.toNat_natCast, Nat.sub_zero])); (first | (with_reducible refine hK _ _ ?_) | ((with_reducible apply load_box); (· (repeat (first | with_reducible exact Lies.one | with_reducible apply Lies.next))); (with_reducible refine hK _ _ ?_)) | ((with_reducible apply load_one); (· (repeat (first | with_reducible exact Lies.one | with_reducible apply Lies.next))); (· exact rfl); (with_reducible refine hK _ _ ?_)) | ((with_reducible apply store_box); (· exact trivial); (· (repeat (first | with_reducible exact Upd.one | with_reducible apply Upd.next))); (with_reducible refine hK _ _ ?_)) | ((with_reducible apply store_one); (· exact trivial); (· (repeat (first | with_reducible exact Upd.one | with_reducible apply Upd.next))); (· simp); (with_reducible refine hK _ _ ?_)) | (first | ((with_reducible apply index_rda); (· assumption); (· (first | omega | assumption | (simp only [List.length_append, List.length_take, List.length_drop, List.length_map, List.length_replicate, List.length_range, List.length_set, List.length_cons, List.length_nil]; omega))); (· (first | omega | assumption | (simp only [List.length_append, List.length_take, List.length_drop, List.length_map, List.length_replicate, List.length_range, List.length_set, List.length_cons, List.length_nil]; omega))); (with_reducible refine hK _ _ ?_)) | ((with_reducible apply index_owa); (· assumption); (· (first | omega | assumption | (simp only [List.length_append, List.length_take, List.length_drop, List.length_map, List.length_replicate, List.length_range, List.length_set, List.length_cons, List.length_nil]; omega))); (· (first | omega | assumption | (simp only [List.length_append, List.length_take, List.length_drop, List.length_map, List.length_replicate, List.length_range, List.length_set, List.length_cons, List.length_nil]; omega))); (with_reducible refine hK _ _ ?_)) | ((with_reducible apply load_rda8); (· assumption); (· (repeat (first | with_reducible assumption | with_reducible exact List.mem_cons_self .. | with_reducible apply List.mem_cons_of_mem))); (· (first | omega | assumption | (simp only [List.length_append, List.length_take, List.length_drop, List.length_map, List.length_replicate, List.length_range, List.length_set, List.length_cons, List.length_nil]; omega))); (with_reducible refine hK _ _ ?_)) | ((with_reducible apply load_owa8); (· assumption); (· (repeat (first | with_reducible assumption | with_reducible exact List.mem_cons_self .. | with_reducible apply List.mem_cons_of_mem))); (· (first | omega | assumption | (simp only [List.length_append, List.length_take, List.length_drop, List.length_map, List.length_replicate, List.length_range, List.length_set, List.length_cons, List.length_nil]; omega))); (with_reducible refine hK _ _ ?_)) | ((with_reducible apply load_rda); (· assumption); (· assumption); (· (repeat (first | with_reducible assumption | with_reducible exact List.mem_cons_self .. | with_reducible apply List.mem_cons_of_mem))); (with_reducible refine hK _ _ ?_)) | ((with_reducible apply load_owa); (· assumption); (· assumption); (· (repeat (first | with_reducible assumption | with_reducible exact List.mem_cons_self .. | with_reducible apply List.mem_cons_of_mem))); (with_reducible refine hK _ _ ?_)))); clear hK K); exact hK0⟩) : runW P n ops K (o :: l) L S := h.out K k
theorem run_end {q : Prop} (k : q) (e : K L S = q := by ((try simp only [Cont.then, Cont.block, Cont.noGoto, reduceIte, Nat.reduceEqDiff]); (first | done | exact rfl))) : runW P n ops K [] L S := run_nil (e ▸ k)
theorem run_op {X : (Env → State → Prop) → Prop} (h : ∀ N : Env → State → Prop, (∀ L S, runW P n ops K l L S → N L S) → X N)
    (e : ∀ N : Env → State → Prop, guardW ops o L (stepW P o.op o.type L S fun v S' => N (putT n o.dst v L) S') (N (putT n o.dst undef L) S) = X N := by (intro N; (try simp only [gos, gob, Nat.reduceBEq, if_true, reduceIte, reduceCtorEq, Nat.reduceLT, Nat.reduceEqDiff, Nat.reduceAdd, Nat.reduceSub, Int.reduceLT, Int.reduceLE, Int.reduceBEq, Int.reduceBNe, Int.reduceToNat, Int.reduceAdd, Int.reduceSub, Int.reduceMul, Int.reduceDiv, Int.reduceMod, Int.reducePow, Int.toNat_natCast, Nat.sub_zero]); (try (simp (disch := omega) only [gow, gobw]; try simp only [gos, gob, Nat.reduceBEq, if_true, reduceIte, reduceCtorEq, Nat.reduceLT, Nat.reduceEqDiff, Nat.reduceAdd, Nat.reduceSub, Int.reduceLT, Int.reduceLE, Int.reduceBEq, Int.reduceBNe, Int.reduceToNat, Int.reduceAdd, Int.reduceSub, Int.reduceMul, Int.reduceDiv, Int.reduceMod, Int.reducePow, Int.toNat_natCast, Nat.sub_zero])); (first | done | exact rfl))) : runW P n ops K (o :: l) L S :=
  run_cons fun N hN => (e N) ▸ h N hN

variable {i : Nat} {pd : List Nat} {p p' : List Entry}
theorem draw_to (k : drawW P n ops K p' L' S') (h : Draws P n ops p L S p' L' S' := by exact ⟨fun K0 hK0 => by (repeat (refine draw_quiet (by simp only [List.getElem?_toArray, List.getElem?_cons_succ, List.getElem?_cons_zero]; rfl) fun K hK => ?_; (try simp only [gos, gob, Nat.reduceBEq, if_true, reduceIte, reduceCtorEq, Nat.reduceLT, Nat.reduceEqDiff, Nat.reduceAdd, Nat.reduceSub, Int.reduceLT, Int.reduceLE, Int.reduceBEq, Int.reduceBNe, Int.reduceToNat, Int.reduceAdd, Int.reduceSub, Int.reduceMul, Int.reduceDiv, Int.reduceMod, Int.reducePow, Int.toNat_natCast, Nat.sub_zero, goq]); (try (simp (disch := omega) only [gow, gobw]; try simp only [gos, gob, Nat.reduceBEq, if_true, reduceIte, reduceCtorEq, Nat.reduceLT, Nat.reduceEqDiff, Nat.reduceAdd, Nat.reduceSub, Int.reduceLT, Int.reduceLE, Int.reduceBEq, Int.reduceBNe, Int.reduceToNat, Int.reduceAdd, Int.reduceSub, Int.reduceMul, Int.reduceDiv, Int.reduceMod, Int.reducePow, Int.toNat_natCast, Nat.sub_zero, goq])); (first | (with_reducible refine hK _ _ ?_) | ((with_reducible apply load_box); (· (repeat (first | with_reducible exact Lies.one | with_reducible apply Lies.next))); (with_reducible refine hK _ _ ?_)) | ((with_reducible apply load_one); (· (repeat (first | with_reducible exact Lies.one | with_reducible apply Lies.next))); (· exact rfl); (with_reducible refine hK _ _ ?_)) | ((with_reducible apply store_box); (· exact trivial); (· (repeat (first | with_reducible exact Upd.one | with_reducible apply Upd.next))); (with_reducible refine hK _ _ ?_)) | ((with_reducible apply store_one); (· exact trivial); (· (repeat (first | with_reducible exact Upd.one | with_reducible apply Upd.next))); (· simp); (with_reducible refine hK _ _ ?_)) | (first | ((with_reducible apply index_rda); (· assumption); (· (first | omega | assumption | (simp only [List.length_append, List.length_take, List.length_drop, List.length_map, List.length_replicate, List.length_range, List.length_set, List.length_cons, List.length_nil]; omega))); (· (first | omega | assumption | (simp only [List.length_append, List.length_take, List.length_drop, List.length_map, List.length_replicate, List.length_range, List.length_set, List.length_cons, List.length_nil]; omega))); (with_reducible refine hK _ _ ?_)) | ((with_reducible apply index_owa); (· assumption); (· (first | omega | assumption | (simp only [List.length_append, List.length_take, List.length_drop, List.length_map, List.length_replicate, List.length_range, List.length_set, List.length_cons, List.length_nil]; omega))); (· (first | omega | assumption | (simp only [List.length_append, List.length_take, List.length_drop, List.length_map, List.length_replicate, List.length_range, List.length_set, List.length_cons, List.length_nil]; omega))); (with_reducible refine hK _ _ ?_)) | ((with_reducible apply load_rda8); (· assumption); (· (repeat (first | with_reducible assumption | with_reducible exact List.mem_cons_self .. | with_reducible apply List.mem_cons_of_mem))); (· (first | omega | assumption | (simp only [List.length_append, List.length_take, List.length_drop, List.length_map, List.length_replicate, List.length_range, List.length_set, List.length_cons, List.length_nil]; omega))); (with_reducible refine hK _ _ ?_)) | ((with_reducible apply load_owa8); (· assumption); (· (repeat (first | with_reducible assumption | with_reducible exact List.mem_cons_self .. | with_reducible apply List.mem_cons_of_mem))); (· (first | omega | assumption | (simp only [List.length_append, List.length_take, List.length_drop, List.length_map, List.length_replicate, List.length_range, List.length_set, List.length_cons, List.length_nil]; omega))); (with_reducible refine hK _ _ ?_)) | ((with_reducible apply load_rda); (· assumption); (· assumption); (· (repeat (first | with_reducible assumption | with_reducible exact List.mem_cons_self .. | with_reducible apply List.mem_cons_of_mem))); (with_reducible refine hK _ _ ?_)) | ((with_reducible apply load_owa); (· assumption); (· assumption); (· (repeat (first | with_reducible assumption | with_reducible exact List.mem_cons_self .. | with_reducible apply List.mem_cons_of_mem))); (with_reducible refine hK _ _ ?_)))); clear hK K)); exact hK0⟩) : drawW P n ops K p L S := h.out K k
theorem draw_end {q : Prop} (k : q) (e : K L S = q := by ((try simp only [Cont.then, Cont.block, Cont.noGoto, reduceIte, Nat.reduceEqDiff]); (first | done | exact rfl))) : drawW P n ops K [] L S := draw_nil (e ▸ k)
theorem draw_op {X : (Env → State → Prop) → Prop} (h : ∀ N : Env → State → Prop, (∀ L S, drawW P n ops K p L S → N L S) → X N)
    (ho : ops[i]? = some o := by (simp only [List.getElem?_toArray, List.getElem?_cons_succ, List.getElem?_cons_zero]; exact rfl))
    (e : ∀ N : Env → State → Prop, guardW ops o L (stepW P o.op o.type L S fun v S' => stillAll P ops pd (putT n o.dst v L) S' (N (putT n o.dst v L) S')) (stillAll P ops pd (putT n o.dst undef L) S (N (putT n o.dst undef L) S)) = X N := by (intro N; (try simp only [gos, gob, Nat.reduceBEq, if_true, reduceIte, reduceCtorEq, Nat.reduceLT, Nat.reduceEqDiff, Nat.reduceAdd, Nat.reduceSub, Int.reduceLT, Int.reduceLE, Int.reduceBEq, Int.reduceBNe, Int.reduceToNat, Int.reduceAdd, Int.reduceSub, Int.reduceMul, Int.reduceDiv, Int.reduceMod, Int.reducePow, Int.toNat_natCast, Nat.sub_zero, goq]); (try (simp (disch := omega) only [gow, gobw]; try simp only [gos, gob, Nat.reduceBEq, if_true, reduceIte, reduceCtorEq, Nat.reduceLT, Nat.reduceEqDiff, Nat.reduceAdd, Nat.reduceSub, Int.reduceLT, Int.reduceLE, Int.reduceBEq, Int.reduceBNe, Int.reduceToNat, Int.reduceAdd, Int.reduceSub, Int.reduceMul, Int.reduceDiv, Int.reduceMod, Int.reducePow, Int.toNat_natCast, Nat.sub_zero, goq])); (first | done | exact rfl))) :
    drawW P n ops K ((i, true, pd) :: p) L S := draw_effect ho fun N hN => (e N) ▸ h N hN

variable {K : Cont} {D : List Nat} {id : Nat}
theorem reg_to (k : runW P n l.toArray (K .normal D) l' L' S') (h : Runs P n l.toArray l L S l' L' S' := by exact ⟨fun K0 hK0 => by (repeat ((with_reducible refine run_cons fun K hK => ?_); (try simp only [gos, gob, Nat.reduceBEq, if_true, reduceIte, reduceCtorEq, Nat.reduceLT, Nat.reduceEqDiff, Nat.reduceAdd, Nat.reduceSub, Int.reduceLT, Int.reduceLE, Int.reduceBEq, Int.reduceBNe, Int.reduceToNat, Int.reduceAdd, Int.reduceSub, Int.reduceMul, Int.reduceDiv, Int.reduceMod, Int.reducePow, Int.toNat_natCast, Nat.sub_zero]); (try (simp (disch := omega) only [gow, gobw]; try simp only [gos, gob, Nat.reduceBEq, if_true, reduceIte, reduceCtorEq, Nat.reduceLT, Nat.reduceEqDiff, Nat.reduceAdd, Nat.reduceSub, Int.reduceLT, Int.reduceLE, Int.reduceBEq, Int.reduceBNe, Int.reduceToNat, Int.reduceAdd, Int.reduceSub, Int.reduceMul, Int.reduceDiv, Int.reduceMod, Int.reducePow, Int.toNat_natCast, Nat.sub_zero])); (first | (with_reducible refine hK _ _ ?_) | ((with_reducible apply load_box); (· (repeat (first | with_reducible exact Lies.one | with_reducible apply Lies.next))); (with_reducible refine hK _ _ ?_)) | ((with_reducible apply load_one); (· (repeat (first | with_reducible exact Lies.one | with_reducible apply Lies.next))); (· exact rfl); (with_reducible refine hK _ _ ?_)) | ((with_reducible apply store_box); (· exact trivial); (· (repeat (first | with_reducible exact Upd.one | with_reducible apply Upd.next))); (with_reducible refine hK _ _ ?_)) | ((with_reducible apply store_one); (· exact trivial); (· (repeat (first | with_reducible exact Upd.one | with_reducible apply Upd.next))); (· simp); (with_reducible refine hK _ _ ?_)) | (first | ((with_reducible apply index_rda); (· assumption); (· (first | omega | assumption | (simp only [List.length_append, List.length_take, List.length_drop, List.length_map, List.length_replicate, List.length_range, List.length_set, List.length_cons, List.length_nil]; omega))); (· (first | omega | assumption | (simp only [List.length_append, List.length_take, List.length_drop, List.length_map, List.length_replicate, List.length_range, List.length_set, List.length_cons, List.length_nil]; omega))); (with_reducible refine hK _ _ ?_)) | ((with_reducible apply index_owa); (· assumption); (· (first | omega | assumption | (simp only [List.length_append, List.length_take, List.length_drop, List.length_map, List.length_replicate, List.length_range, List.length_set, List.length_cons, List.length_nil]; omega))); (· (first | omega | assumption | (simp only [List.length_append, List.length_take, List.length_drop, List.length_map, List.length_replicate, List.length_range, List.length_set, List.length_cons, List.length_nil]; omega))); (with_reducible refine hK _ _ ?_)) | ((with_reducible apply load_rda8); (· assumption); (· (repeat (first | with_reducible assumption | with_reducible exact List.mem_cons_self .. | with_reducible apply List.mem_cons_of_mem))); (· (first | omega | assumption | (simp only [List.length_append, List.length_take, List.length_drop, List.length_map, List.length_replicate, List.length_range, List.length_set, List.length_cons, List.length_nil]; omega))); (with_reducible refine hK _ _ ?_)) | ((with_reducible apply load_owa8); (· assumption); (· (repeat (first | with_reducible assumption | with_reducible exact List.mem_cons_self .. | with_reducible apply List.mem_cons_of_mem))); (· (first | omega | assumption | (simp only [List.length_append, List.length_take, List.length_drop, List.length_map, List.length_replicate, List.length_range, List.length_set, List.length_cons, List.length_nil]; omega))); (with_reducible refine hK _ _ ?_)) | ((with_reducible apply load_rda); (· assumption); (· assumption); (· (repeat (first | with_reducible assumption | with_reducible exact List.mem_cons_self .. | with_reducible apply List.mem_cons_of_mem))); (with_reducible refine hK _ _ ?_)) | ((with_reducible apply load_owa); (· assumption); (· assumption); (· (repeat (first | with_reducible assumption | with_reducible exact List.mem_cons_self .. | with_reducible apply List.mem_cons_of_mem))); (with_reducible refine hK _ _ ?_)))); clear hK K)); exact hK0⟩) : CodeW P n ro (.region id l.toArray false) K D L S :=
  code_reg (h.out _ k)
end steps

section control
variable {K : Cont} {D : List Nat} {L : Env} {S : State}
theorem code_if {c : Operand} {x y : Code} {b : Bool} (ht : b = true → CodeW P n ro x K D L S) (hf : b = false → CodeW P n ro y K D L S) (hc : evT L c = some (.bool b) := by (try simp only [evT, lookT_hit, lookT_miss, Nat.reduceBEq]); (first | done | exact rfl)) : CodeW P n ro (.cond c x y) K D L S := code_cond hc ht hf
theorem code_then {c : Operand} {x y : Code} (k : CodeW P n ro x K D L S) (hc : evT L c = some (.bool true) := by (try simp only [evT, lookT_hit, lookT_miss, Nat.reduceBEq]); (first | done | exact rfl)) : CodeW P n ro (.cond c x y) K D L S := code_true hc k
theorem code_else {c : Operand} {x y : Code} (k : CodeW P n ro y K D L S) (hc : evT L c = some (.bool false) := by (try simp only [evT, lookT_hit, lookT_miss, Nat.reduceBEq]); (first | done | exact rfl)) : CodeW P n ro (.cond c x y) K D L S := code_false hc k
theorem code_back {q : Prop} (k : q) (e : K .ret D L S = q := by ((try simp -implicitDefEqProofs only [Cont.then, Cont.block, Cont.noGoto, reduceIte]); (first | done | exact rfl))) : CodeW P n ro .ret K D L S := code_ret (e ▸ k)
theorem code_leave {q : Prop} {id : Nat} (k : q) (e : K (.exit id) D L S = q := by ((try simp only [Cont.then, Cont.block, Cont.noGoto, reduceIte, Nat.reduceEqDiff]); (first | done | exact rfl))) : CodeW P n ro (.exit id) K D L S := code_exit (e ▸ k)
theorem calls_to {f : FuncId} {args : List Value} {A G : State} {R κ : Value → State → Prop} (h : Meets P f args A R) (k : ∀ v A', R v A' → κ v (A' ++ G)) (ht : Take A S G := by (repeat (first | with_reducible exact Take.nil _ | with_reducible exact Pick.head _ _ | with_reducible apply Pick.tail | with_reducible apply Take.cons))) : CallsW P f args.toArray S κ := calls_spec h ht k
theorem back_tmp {R : Value → State → Prop} {F : Chunk} {t : Nat} {v : Value} (A' : State) (hR : R v A') (hv : lookT L t = some v := by (try simp only [evT, lookT_hit, lookT_miss, Nat.reduceBEq]); (first | done | exact rfl)) (hs : Among (F :: A') S := by first | ((repeat (first | with_reducible exact Among.nil _ | with_reducible exact Pick.head _ _ | with_reducible apply Pick.tail | with_reducible apply Among.cons)); done) | ((repeat (first | exact Among.nil _ | exact Pick.head _ _ | apply Pick.tail | apply Among.cons)); done)) : RetK P [.tmp t] R F .ret [] L S := ret_tmp A' hv hR hs
theorem back_tmp_n {R : Value → State → Prop} {F : Chunk} {t : Nat} {v : Value} (A' : State) (hR : R v A') (hv : lookT L t = some v := by (try simp only [evT, lookT_hit, lookT_miss, Nat.reduceBEq]); (first | done | exact rfl)) (hs : Among (F :: A') S := by first | ((repeat (first | with_reducible exact Among.nil _ | with_reducible exact Pick.head _ _ | with_reducible apply Pick.tail | with_reducible apply Among.cons)); done) | ((repeat (first | exact Among.nil _ | exact Pick.head _ _ | apply Pick.tail | apply Among.cons)); done)) : RetK P [.tmp t] R F .normal [] L S := ret_tmp_n A' hv hR hs
theorem back_none {R : Value → State → Prop} {F : Chunk} (A' : State) (hR : R (.tuple #[]) A') (hs : Among (F :: A') S := by first | ((repeat (first | with_reducible exact Among.nil _ | with_reducible exact Pick.head _ _ | with_reducible apply Pick.tail | with_reducible apply Among.cons)); done) | ((repeat (first | exact Among.nil _ | exact Pick.head _ _ | apply Pick.tail | apply Among.cons)); done)) : RetK P [] R F .ret [] L S := ret_none A' hR hs
theorem back_none_n {R : Value → State → Prop} {F : Chunk} (A' : State) (hR : R (.tuple #[]) A') (hs : Among (F :: A') S := by first | ((repeat (first | with_reducible exact Among.nil _ | with_reducible exact Pick.head _ _ | with_reducible apply Pick.tail | with_reducible apply Among.cons)); done) | ((repeat (first | exact Among.nil _ | exact Pick.head _ _ | apply Pick.tail | apply Among.cons)); done)) : RetK P [] R F .normal [] L S := ret_none_n A' hR hs
theorem again {I : Nat → List Nat → Env → State → Prop} {m m' : Nat} {L'' : Env} {S'' : State} (hI : I m' D L'' S'') (hm : m' < m := by omega) (hL : Knows L'' L := by (repeat (first | exact True.intro | (refine And.intro ?_ ?_; (· (try simp only [evT, lookT_hit, lookT_miss, Nat.reduceBEq]); (first | done | exact rfl)))))) (hS : Among S'' S := by first | ((repeat (first | with_reducible exact Among.nil _ | with_reducible exact Pick.head _ _ | with_reducible apply Pick.tail | with_reducible apply Among.cons)); done) | ((repeat (first | exact Among.nil _ | exact Pick.head _ _ | apply Pick.tail | apply Among.cons)); done)) : Again I m D L S := ⟨m', L'', S'', hm, hI, hL, hS⟩
theorem loop0 {I : Nat → List Nat → Env → State → Prop} {m : Nat} {L0 : Env} {S0 : State} (hI : I m D L0 S0) (hL : Knows L0 L := by (repeat (first | exact True.intro | (refine And.intro ?_ ?_; (· (try simp only [evT, lookT_hit, lookT_miss, Nat.reduceBEq]); (first | done | exact rfl)))))) (hS : Among S0 S := by first | ((repeat (first | with_reducible exact Among.nil _ | with_reducible exact Pick.head _ _ | with_reducible apply Pick.tail | with_reducible apply Among.cons)); done) | ((repeat (first | exact Among.nil _ | exact Pick.head _ _ | apply Pick.tail | apply Among.cons)); done)) : ∃ m L0 S0, I m D L0 S0 ∧ Knows L0 L ∧ Among S0 S := ⟨m, L0, S0, hI, hL, hS⟩
theorem pend {a b : Prop} (k : b) (h : a := by (first | exact trivial | ((with_reducible apply load_box); (· (repeat (first | with_reducible exact Lies.one | with_reducible apply Lies.next))); (· exact rfl)) | ((with_reducible apply load_one); (· (repeat (first | with_reducible exact Lies.one | with_reducible apply Lies.next))); (· exact rfl); (· exact rfl)) | (first | ((with_reducible apply load_rda8); (· assumption); (· (repeat (first | with_reducible assumption | with_reducible exact List.mem_cons_self .. | with_reducible apply List.mem_cons_of_mem))); (· (first | omega | assumption | (simp only [List.length_append, List.length_take, List.length_drop, List.length_map, List.length_replicate, List.length_range, List.length_set, List.length_cons, List.length_nil]; omega))); exact rfl) | ((with_reducible apply load_owa8); (· assumption); (· (repeat (first | with_reducible assumption | with_reducible exact List.mem_cons_self .. | with_reducible apply List.mem_cons_of_mem))); (· (first | omega | assumption | (simp only [List.length_append, List.length_take, List.length_drop, List.length_map, List.length_replicate, List.length_range, List.length_set, List.length_cons, List.length_nil]; omega))); exact rfl) | ((with_reducible apply load_rda); (· assumption); (· assumption); (· (repeat (first | with_reducible assumption | with_reducible exact List.mem_cons_self .. | with_reducible apply List.mem_cons_of_mem))); exact rfl) | ((with_reducible apply load_owa); (· assumption); (· assumption); (· (repeat (first | with_reducible assumption | with_reducible exact List.mem_cons_self .. | with_reducible apply List.mem_cons_of_mem))); exact rfl)))) : a ∧ b := ⟨h, k⟩
theorem less {c : Code} {L' : Env} {S' : State} (h : CodeW P n ro c K D L' S') (hL : Knows L' L := by (repeat (first | exact True.intro | (refine And.intro ?_ ?_; (· (try simp only [evT, lookT_hit, lookT_miss, Nat.reduceBEq]); (first | done | exact rfl)))))) (hS : Among S' S := by first | ((repeat (first | with_reducible exact Among.nil _ | with_reducible exact Pick.head _ _ | with_reducible apply Pick.tail | with_reducible apply Among.cons)); done) | ((repeat (first | exact Among.nil _ | exact Pick.head _ _ | apply Pick.tail | apply Among.cons)); done)) : CodeW P n ro c K D L S := code_less hL hS h
end control

/-- The results of a function that has rounds of loops to shut, or cells to read. -/
theorem back_cells {rs : List ResultVar} {R : Value → State → Prop} {F : Chunk} {D : List Nat} {L : Env} {S S1 : State} {vs : List Value} (A' : State) (hR : R (tupled vs) A')
    (ht : Take (marksOf D) S S1 := by (simp only [marksOf, List.map_cons, List.map_nil]; (repeat (first | with_reducible exact Take.nil _ | with_reducible exact Pick.head _ _ | with_reducible apply Pick.tail | with_reducible apply Take.cons))))
    (hr : ∀ κ : List Value → Prop, κ vs → resW P rs L S1 κ := by (intro κ hκ; simp only [resW, withV, lookT_hit, lookT_miss, Nat.reduceBEq]; (repeat (first | refine load_box (by (repeat (first | with_reducible exact Lies.one | with_reducible apply Lies.next))) ?_ | refine load_one (by (repeat (first | with_reducible exact Lies.one | with_reducible apply Lies.next))) rfl ?_)); exact hκ))
    (hs : Among (F :: A') S1 := by first | ((repeat (first | with_reducible exact Among.nil _ | with_reducible exact Pick.head _ _ | with_reducible apply Pick.tail | with_reducible apply Among.cons)); done) | ((repeat (first | exact Among.nil _ | exact Pick.head _ _ | apply Pick.tail | apply Among.cons)); done)) : RetK P rs R F .ret D L S := ⟨S1, ht, hr _ ⟨A', hR, hs⟩⟩
theorem back_cells_n {rs : List ResultVar} {R : Value → State → Prop} {F : Chunk} {D : List Nat} {L : Env} {S S1 : State} {vs : List Value} (A' : State) (hR : R (tupled vs) A')
    (ht : Take (marksOf D) S S1 := by (simp only [marksOf, List.map_cons, List.map_nil]; (repeat (first | with_reducible exact Take.nil _ | with_reducible exact Pick.head _ _ | with_reducible apply Pick.tail | with_reducible apply Take.cons))))
    (hr : ∀ κ : List Value → Prop, κ vs → resW P rs L S1 κ := by (intro κ hκ; simp only [resW, withV, lookT_hit, lookT_miss, Nat.reduceBEq]; (repeat (first | refine load_box (by (repeat (first | with_reducible exact Lies.one | with_reducible apply Lies.next))) ?_ | refine load_one (by (repeat (first | with_reducible exact Lies.one | with_reducible apply Lies.next))) rfl ?_)); exact hκ))
    (hs : Among (F :: A') S1 := by first | ((repeat (first | with_reducible exact Among.nil _ | with_reducible exact Pick.head _ _ | with_reducible apply Pick.tail | with_reducible apply Among.cons)); done) | ((repeat (first | exact Among.nil _ | exact Pick.head _ _ | apply Pick.tail | apply Among.cons)); done)) : RetK P rs R F .normal D L S := ⟨S1, ht, hr _ ⟨A', hR, hs⟩⟩

end Go.Ost

/- The walk through statements, what comes next laid out. Conditions: none. -/
set_option linter.unusedSimpArgs false
set_option linter.unusedVariables false
namespace Go.Ost
open Go

variable {P : Program} {n : Nat} {ro : Option Nat} {K : Cont} {N : List Nat → Env → State → Prop} {D : List Nat} {L : Env} {S : State}

theorem then_n (k : N D L S) : Cont.then N K .normal D L S := k
theorem then_r (k : K .ret D L S) : Cont.then N K .ret D L S := k
theorem then_e {i : Nat} (k : K (.exit i) D L S) : Cont.then N K (.exit i) D L S := k
theorem block_n {b : Nat} (k : K .normal D L S) : Cont.block b K .normal D L S := k
theorem block_r {b : Nat} (k : K .ret D L S) : Cont.block b K .ret D L S := k
theorem block_e {b : Nat} (k : K .normal D L S) : Cont.block b K (.exit b) D L S := by simp only [Cont.block, if_true]; exact k
theorem block_o {b i : Nat} (k : K (.exit i) D L S) (h : i ≠ b := by decide) : Cont.block b K (.exit i) D L S := by simp only [Cont.block]; rw [if_neg h]; exact k
theorem scope_n (k : K .normal D L S) : Cont.noGoto K .normal D L S := k
theorem scope_r (k : K .ret D L S) : Cont.noGoto K .ret D L S := k
theorem scope_e {i : Nat} (k : K (.exit i) D L S) : Cont.noGoto K (.exit i) D L S := k

variable {l l' : List Oper} {L' : Env} {S' : State} {id : Nat} {x y : Code}
theorem code_dr {ops : Array Oper} (A : List (List Nat)) (pl : List Entry) (h : drawW P n ops (K .normal D) pl L S) (hm : P.follows .mixedOrders = true := by kernel_rfl)
    (hok : okDraw ops A n pl = true := by kernel_rfl) : CodeW P n ro (.region id ops true) K D L S := code_draw A pl hm hok h

/-- A condition that is decided. -/
theorem if_d {c : Operand} {p : Prop} [Decidable p] (ht : p → CodeW P n ro x K D L S) (hf : ¬ p → CodeW P n ro y K D L S) (hc : evT L c = some (.bool (decide p)) := by (try simp only [evT, lookT_hit, lookT_miss, Nat.reduceBEq]); (first | done | exact rfl)) : CodeW P n ro (.cond c x y) K D L S :=
  code_cond hc (fun h => ht (of_decide_eq_true h)) (fun h => hf (of_decide_eq_false h))
theorem if_b {c : Operand} {α : Type} [BEq α] [LawfulBEq α] {a b : α} (ht : a = b → CodeW P n ro x K D L S) (hf : a ≠ b → CodeW P n ro y K D L S) (hc : evT L c = some (.bool (a == b)) := by (try simp only [evT, lookT_hit, lookT_miss, Nat.reduceBEq]); (first | done | exact rfl)) : CodeW P n ro (.cond c x y) K D L S :=
  code_cond hc (fun h => ht (eq_of_beq h)) (fun h => hf (fun e => by subst e; simp at h))
theorem if_nb {c : Operand} {α : Type} [BEq α] [LawfulBEq α] {a b : α} (ht : a ≠ b → CodeW P n ro x K D L S) (hf : a = b → CodeW P n ro y K D L S) (hc : evT L c = some (.bool (a != b)) := by (try simp only [evT, lookT_hit, lookT_miss, Nat.reduceBEq]); (first | done | exact rfl)) : CodeW P n ro (.cond c x y) K D L S :=
  code_cond hc (fun h => ht (fun e => by subst e; simp at h)) (fun h => hf (by simpa using h))
theorem if_n {c : Operand} {b : Bool} (ht : b = false → CodeW P n ro x K D L S) (hf : b = true → CodeW P n ro y K D L S) (hc : evT L c = some (.bool (!b)) := by (try simp only [evT, lookT_hit, lookT_miss, Nat.reduceBEq]); (first | done | exact rfl)) : CodeW P n ro (.cond c x y) K D L S :=
  code_cond hc (fun h => ht (by simpa using h)) (fun h => hf (by simpa using h))

theorem run_probe {ops : Array Oper} {KK : Env → State → Prop} {o : Oper} {l : List Oper} (k : runW P n ops KK (o :: l) L S) : runW P n ops KK (o :: l) L S := k
theorem draw_probe {ops : Array Oper} {KK : Env → State → Prop} {p0 : Entry} {p : List Entry} (k : drawW P n ops KK (p0 :: p) L S) : drawW P n ops KK (p0 :: p) L S := k
theorem run_more {ops : Array Oper} {KK : Env → State → Prop} {o : Oper} {l : List Oper} (k : runW P n ops KK l' L' S') (h : Runs P n ops (o :: l) L S l' L' S' := by exact ⟨fun K0 hK0 => by ((with_reducible refine run_cons fun K hK => ?_); (try simp only [gos, gob, Nat.reduceBEq, if_true, reduceIte, reduceCtorEq, Nat.reduceLT, Nat.reduceEqDiff, Nat.reduceAdd, Nat.reduceSub, Int.reduceLT, Int.reduceLE, Int.reduceBEq, Int.reduceBNe, Int.reduceToNat, Int.reduceAdd, Int.reduceSub, Int.reduceMul, Int.reduceDiv, Int.reduceMod, Int.reducePow, Int.toNat_natCast, Nat.sub_zero]); (try (simp (disch := omega) only [gow, gobw]; try simp only [gos, gob, Nat.reduceBEq, if_true, reduceIte, reduceCtorEq, Nat.reduceLT, Nat.reduceEqDiff, Nat.reduceAdd, Nat.reduceSub, Int.reduceLT, Int.reduceLE, Int.reduceBEq, Int.reduceBNe, Int.reduceToNat, Int.reduceAdd, Int.reduceSub, Int.reduceMul, Int.reduceDiv, Int.reduceMod, Int.reducePow, Int.toNat_natCast, Nat.sub_zero])); (first | (with_reducible refine hK _ _ ?_) | ((with_reducible apply load_box); (· (repeat (first | with_reducible exact Lies.one | with_reducible apply Lies.next))); (with_reducible refine hK _ _ ?_)) | ((with_reducible apply load_one); (· (repeat (first | with_reducible exact Lies.one | with_reducible apply Lies.next))); (· exact rfl); (with_reducible refine hK _ _ ?_)) | ((with_reducible apply store_box); (· exact trivial); (· (repeat (first | with_reducible exact Upd.one | with_reducible apply Upd.next))); (with_reducible refine hK _ _ ?_)) | ((with_reducible apply store_one); (· exact trivial); (· (repeat (first | with_reducible exact Upd.one | with_reducible apply Upd.next))); (· simp); (with_reducible refine hK _ _ ?_)) | (first | ((with_reducible apply index_rda); (· assumption); (· (first | omega | assumption | (simp only [List.length_append, List.length_take, List.length_drop, List.length_map, List.length_replicate, List.length_range, List.length_set, List.length_cons, List.length_nil]; omega))); (· (first | omega | assumption | (simp only [List.length_append, List.length_take, List.length_drop, List.length_map, List.length_replicate, List.length_range, List.length_set, List.length_cons, List.length_nil]; omega))); (with_reducible refine hK _ _ ?_)) | ((with_reducible apply index_owa); (· assumption); (· (first | omega | assumption | (simp only [List.length_append, List.length_take, List.length_drop, List.length_map, List.length_replicate, List.length_range, List.length_set, List.length_cons, List.length_nil]; omega))); (· (first | omega | assumption | (simp only [List.length_append, List.length_take, List.length_drop, List.length_map, List.length_replicate, List.length_range, List.length_set, List.length_cons, List.length_nil]; omega))); (with_reducible refine hK _ _ ?_)) | ((with_reducible apply load_rda8); (· assumption); (· (repeat (first | with_reducible assumption | with_reducible exact List.mem_cons_self .. | with_reducible apply List.mem_cons_of_mem))); (· (first | omega | assumption | (simp only [List.length_append, List.length_take, List.length_drop, List.length_map, List.length_replicate, List.length_range, List.length_set, List.length_cons, List.length_nil]; omega))); (with_reducible refine hK _ _ ?_)) | ((with_reducible apply load_owa8); (· assumption); (· (repeat (first | with_reducible assumption | with_reducible exact List.mem_cons_self .. | with_reducible apply List.mem_cons_of_mem))); (· (first | omega | assumption | (simp only [List.length_append, List.length_take, List.length_drop, List.length_map, List.length_replicate, List.length_range, List.length_set, List.length_cons, List.length_nil]; omega))); (with_reducible refine hK _ _ ?_)) | ((with_reducible apply load_rda); (· assumption); (· assumption); (· (repeat (first | with_reducible assumption | with_reducible exact List.mem_cons_self .. | with_reducible apply List.mem_cons_of_mem))); (with_reducible refine hK _ _ ?_)) | ((with_reducible apply load_owa); (· assumption); (· assumption); (· (repeat (first | with_reducible assumption | with_reducible exact List.mem_cons_self .. | with_reducible apply List.mem_cons_of_mem))); (with_reducible refine hK _ _ ?_)))); clear hK K); (repeat ((with_reducible refine run_cons fun K hK => ?_); (try simp only [gos, gob, Nat.reduceBEq, if_true, reduceIte, reduceCtorEq, Nat.reduceLT, Nat.reduceEqDiff, Nat.reduceAdd, Nat.reduceSub, Int.reduceLT, Int.reduceLE, Int.reduceBEq, Int.reduceBNe, Int.reduceToNat, Int.reduceAdd, Int.reduceSub, Int.reduceMul, Int.reduceDiv, Int.reduceMod, Int.reducePow, Int.toNat_natCast, Nat.sub_zero]); (try (simp (disch := omega) only [gow, gobw]; try simp only [gos, gob, Nat.reduceBEq, if_true, reduceIte, reduceCtorEq, Nat.reduceLT, Nat.reduceEqDiff, Nat.reduceAdd, Nat.reduceSub, Int.reduceLT, Int.reduceLE, Int.reduceBEq, Int.reduceBNe, Int.reduceToNat, Int.reduceAdd, Int.reduceSub, Int.reduceMul, Int.reduceDiv, Int.reduceMod, Int.reducePow, Int.toNat_natCast, Nat.sub_zero])); (first | (with_reducible refine hK _ _ ?_) | ((with_reducible apply load_box); (· (repeat (first | with_reducible exact Lies.one | with_reducible apply Lies.next))); (with_reducible refine hK _ _ ?_)) | ((with_reducible apply load_one); (· (repeat (first | with_reducible exact Lies.one | with_reducible apply Lies.next))); (· exact rfl); (with_reducible refine hK _ _ ?_)) | ((with_reducible apply store_box); (· exact trivial); (· (repeat (first | with_reducible exact Upd.one | with_reducible apply Upd.next))); (with_reducible refine hK _ _ ?_)) | ((with_reducible apply store_one); (· exact trivial); (· (repeat (first | with_reducible exact Upd.one | with_reducible apply Upd.next))); (· simp); (with_reducible refine hK _ _ ?_)) | (first | ((with_reducible apply index_rda); (· assumption); (· (first | omega | assumption | (simp only [List.length_append, List.length_take, List.length_drop, List.length_map, List.length_replicate, List.length_range, List.length_set, List.length_cons, List.length_nil]; omega))); (· (first | omega | assumption | (simp only [List.length_append, List.length_take, List.length_drop, List.length_map, List.length_replicate, List.length_range, List.length_set, List.length_cons, List.length_nil]; omega))); (with_reducible refine hK _ _ ?_)) | ((with_reducible apply index_owa); (· assumption); (· (first | omega | assumption | (simp only [List.length_append, List.length_take, List.length_drop, List.length_map, List.length_replicate, List.length_range, List.length_set, List.length_cons, List.length_nil]; omega))); (· (first | omega | assumption | (simp only [List.length_append, List.length_take, List.length_drop, List.length_map, List.length_replicate, List.length_range, List.length_set, List.length_cons, List.length_nil]; omega))); (with_reducible refine hK _ _ ?_)) | ((with_reducible apply load_rda8); (· assumption); (· (repeat (first | with_reducible assumption | with_reducible exact List.mem_cons_self .. | with_reducible apply List.mem_cons_of_mem))); (· (first | omega | assumption | (simp only [List.length_append, List.length_take, List.length_drop, List.length_map, List.length_replicate, List.length_range, List.length_set, List.length_cons, List.length_nil]; omega))); (with_reducible refine hK _ _ ?_)) | ((with_reducible apply load_owa8); (· assumption); (· (repeat (first | with_reducible assumption | with_reducible exact List.mem_cons_self .. | with_reducible apply List.mem_cons_of_mem))); (· (first | omega | assumption | (simp only [List.length_append, List.length_take, List.length_drop, List.length_map, List.length_replicate, List.length_range, List.length_set, List.length_cons, List.length_nil]; omega))); (with_reducible refine hK _ _ ?_)) | ((with_reducible apply load_rda); (· assumption); (· assumption); (· (repeat (first | with_reducible assumption | with_reducible exact List.mem_cons_self .. | with_reducible apply List.mem_cons_of_mem))); (with_reducible refine hK _ _ ?_)) | ((with_reducible apply load_owa); (· assumption); (· assumption); (· (repeat (first | with_reducible assumption | with_reducible exact List.mem_cons_self .. | with_reducible apply List.mem_cons_of_mem))); (with_reducible refine hK _ _ ?_)))); clear hK K)); exact hK0⟩) : runW P n ops KK (o :: l) L S := h.out _ k
theorem draw_as {ops : Array Oper} {KK : Env → State → Prop} {p0 : Entry} {p p' : List Entry} (k : drawW P n ops KK p' L' S') (h : Draws P n ops (p0 :: p) L S p' L' S' := by exact ⟨fun K0 hK0 => by refine draw_effect (by simp only [List.getElem?_toArray, List.getElem?_cons_succ, List.getElem?_cons_zero]; rfl) fun K hK => ?_; (try simp only [gos, gob, Nat.reduceBEq, if_true, reduceIte, reduceCtorEq, Nat.reduceLT, Nat.reduceEqDiff, Nat.reduceAdd, Nat.reduceSub, Int.reduceLT, Int.reduceLE, Int.reduceBEq, Int.reduceBNe, Int.reduceToNat, Int.reduceAdd, Int.reduceSub, Int.reduceMul, Int.reduceDiv, Int.reduceMod, Int.reducePow, Int.toNat_natCast, Nat.sub_zero, goq]); (try (simp (disch := omega) only [gow, gobw]; try simp only [gos, gob, Nat.reduceBEq, if_true, reduceIte, reduceCtorEq, Nat.reduceLT, Nat.reduceEqDiff, Nat.reduceAdd, Nat.reduceSub, Int.reduceLT, Int.reduceLE, Int.reduceBEq, Int.reduceBNe, Int.reduceToNat, Int.reduceAdd, Int.reduceSub, Int.reduceMul, Int.reduceDiv, Int.reduceMod, Int.reducePow, Int.toNat_natCast, Nat.sub_zero, goq])); (first | ((repeat refine pend ?_); (with_reducible refine hK _ _ ?_)) | ((with_reducible apply store_box); (· exact trivial); (· (repeat (first | with_reducible exact Upd.one | with_reducible apply Upd.next))); (repeat refine pend ?_); (with_reducible refine hK _ _ ?_)) | ((with_reducible apply store_one); (· exact trivial); (· (repeat (first | with_reducible exact Upd.one | with_reducible apply Upd.next))); (· simp); (repeat refine pend ?_); (with_reducible refine hK _ _ ?_))); clear hK K; exact hK0⟩) : drawW P n ops KK (p0 :: p) L S := h.out _ k
theorem draw_more {ops : Array Oper} {KK : Env → State → Prop} {p0 : Entry} {p p' : List Entry} (k : drawW P n ops KK p' L' S') (h : Draws P n ops (p0 :: p) L S p' L' S' := by exact ⟨fun K0 hK0 => by refine draw_quiet (by simp only [List.getElem?_toArray, List.getElem?_cons_succ, List.getElem?_cons_zero]; rfl) fun K hK => ?_; (try simp only [gos, gob, Nat.reduceBEq, if_true, reduceIte, reduceCtorEq, Nat.reduceLT, Nat.reduceEqDiff, Nat.reduceAdd, Nat.reduceSub, Int.reduceLT, Int.reduceLE, Int.reduceBEq, Int.reduceBNe, Int.reduceToNat, Int.reduceAdd, Int.reduceSub, Int.reduceMul, Int.reduceDiv, Int.reduceMod, Int.reducePow, Int.toNat_natCast, Nat.sub_zero, goq]); (try (simp (disch := omega) only [gow, gobw]; try simp only [gos, gob, Nat.reduceBEq, if_true, reduceIte, reduceCtorEq, Nat.reduceLT, Nat.reduceEqDiff, Nat.reduceAdd, Nat.reduceSub, Int.reduceLT, Int.reduceLE, Int.reduceBEq, Int.reduceBNe, Int.reduceToNat, Int.reduceAdd, Int.reduceSub, Int.reduceMul, Int.reduceDiv, Int.reduceMod, Int.reducePow, Int.toNat_natCast, Nat.sub_zero, goq])); (first | (with_reducible refine hK _ _ ?_) | ((with_reducible apply load_box); (· (repeat (first | with_reducible exact Lies.one | with_reducible apply Lies.next))); (with_reducible refine hK _ _ ?_)) | ((with_reducible apply load_one); (· (repeat (first | with_reducible exact Lies.one | with_reducible apply Lies.next))); (· exact rfl); (with_reducible refine hK _ _ ?_)) | ((with_reducible apply store_box); (· exact trivial); (· (repeat (first | with_reducible exact Upd.one | with_reducible apply Upd.next))); (with_reducible refine hK _ _ ?_)) | ((with_reducible apply store_one); (· exact trivial); (· (repeat (first | with_reducible exact Upd.one | with_reducible apply Upd.next))); (· simp); (with_reducible refine hK _ _ ?_)) | (first | ((with_reducible apply index_rda); (· assumption); (· (first | omega | assumption | (simp only [List.length_append, List.length_take, List.length_drop, List.length_map, List.length_replicate, List.length_range, List.length_set, List.length_cons, List.length_nil]; omega))); (· (first | omega | assumption | (simp only [List.length_append, List.length_take, List.length_drop, List.length_map, List.length_replicate, List.length_range, List.length_set, List.length_cons, List.length_nil]; omega))); (with_reducible refine hK _ _ ?_)) | ((with_reducible apply index_owa); (· assumption); (· (first | omega | assumption | (simp only [List.length_append, List.length_take, List.length_drop, List.length_map, List.length_replicate, List.length_range, List.length_set, List.length_cons, List.length_nil]; omega))); (· (first | omega | assumption | (simp only [List.length_append, List.length_take, List.length_drop, List.length_map, List.length_replicate, List.length_range, List.length_set, List.length_cons, List.length_nil]; omega))); (with_reducible refine hK _ _ ?_)) | ((with_reducible apply load_rda8); (· assumption); (· (repeat (first | with_reducible assumption | with_reducible exact List.mem_cons_self .. | with_reducible apply List.mem_cons_of_mem))); (· (first | omega | assumption | (simp only [List.length_append, List.length_take, List.length_drop, List.length_map, List.length_replicate, List.length_range, List.length_set, List.length_cons, List.length_nil]; omega))); (with_reducible refine hK _ _ ?_)) | ((with_reducible apply load_owa8); (· assumption); (· (repeat (first | with_reducible assumption | with_reducible exact List.mem_cons_self .. | with_reducible apply List.mem_cons_of_mem))); (· (first | omega | assumption | (simp only [List.length_append, List.length_take, List.length_drop, List.length_map, List.length_replicate, List.length_range, List.length_set, List.length_cons, List.length_nil]; omega))); (with_reducible refine hK _ _ ?_)) | ((with_reducible apply load_rda); (· assumption); (· assumption); (· (repeat (first | with_reducible assumption | with_reducible exact List.mem_cons_self .. | with_reducible apply List.mem_cons_of_mem))); (with_reducible refine hK _ _ ?_)) | ((with_reducible apply load_owa); (· assumption); (· assumption); (· (repeat (first | with_reducible assumption | with_reducible exact List.mem_cons_self .. | with_reducible apply List.mem_cons_of_mem))); (with_reducible refine hK _ _ ?_)))); clear hK K; (repeat (refine draw_quiet (by simp only [List.getElem?_toArray, List.getElem?_cons_succ, List.getElem?_cons_zero]; rfl) fun K hK => ?_; (try simp only [gos, gob, Nat.reduceBEq, if_true, reduceIte, reduceCtorEq, Nat.reduceLT, Nat.reduceEqDiff, Nat.reduceAdd, Nat.reduceSub, Int.reduceLT, Int.reduceLE, Int.reduceBEq, Int.reduceBNe, Int.reduceToNat, Int.reduceAdd, Int.reduceSub, Int.reduceMul, Int.reduceDiv, Int.reduceMod, Int.reducePow, Int.toNat_natCast, Nat.sub_zero, goq]); (try (simp (disch := omega) only [gow, gobw]; try simp only [gos, gob, Nat.reduceBEq, if_true, reduceIte, reduceCtorEq, Nat.reduceLT, Nat.reduceEqDiff, Nat.reduceAdd, Nat.reduceSub, Int.reduceLT, Int.reduceLE, Int.reduceBEq, Int.reduceBNe, Int.reduceToNat, Int.reduceAdd, Int.reduceSub, Int.reduceMul, Int.reduceDiv, Int.reduceMod, Int.reducePow, Int.toNat_natCast, Nat.sub_zero, goq])); (first | (with_reducible refine hK _ _ ?_) | ((with_reducible apply load_box); (· (repeat (first | with_reducible exact Lies.one | with_reducible apply Lies.next))); (with_reducible refine hK _ _ ?_)) | ((with_reducible apply load_one); (· (repeat (first | with_reducible exact Lies.one | with_reducible apply Lies.next))); (· exact rfl); (with_reducible refine hK _ _ ?_)) | ((with_reducible apply store_box); (· exact trivial); (· (repeat (first | with_reducible exact Upd.one | with_reducible apply Upd.next))); (with_reducible refine hK _ _ ?_)) | ((with_reducible apply store_one); (· exact trivial); (· (repeat (first | with_reducible exact Upd.one | with_reducible apply Upd.next))); (· simp); (with_reducible refine hK _ _ ?_)) | (first | ((with_reducible apply index_rda); (· assumption); (· (first | omega | assumption | (simp only [List.length_append, List.length_take, List.length_drop, List.length_map, List.length_replicate, List.length_range, List.length_set, List.length_cons, List.length_nil]; omega))); (· (first | omega | assumption | (simp only [List.length_append, List.length_take, List.length_drop, List.length_map, List.length_replicate, List.length_range, List.length_set, List.length_cons, List.length_nil]; omega))); (with_reducible refine hK _ _ ?_)) | ((with_reducible apply index_owa); (· assumption); (· (first | omega | assumption | (simp only [List.length_append, List.length_take, List.length_drop, List.length_map, List.length_replicate, List.length_range, List.length_set, List.length_cons, List.length_nil]; omega))); (· (first | omega | assumption | (simp only [List.length_append, List.length_take, List.length_drop, List.length_map, List.length_replicate, List.length_range, List.length_set, List.length_cons, List.length_nil]; omega))); (with_reducible refine hK _ _ ?_)) | ((with_reducible apply load_rda8); (· assumption); (· (repeat (first | with_reducible assumption | with_reducible exact List.mem_cons_self .. | with_reducible apply List.mem_cons_of_mem))); (· (first | omega | assumption | (simp only [List.length_append, List.length_take, List.length_drop, List.length_map, List.length_replicate, List.length_range, List.length_set, List.length_cons, List.length_nil]; omega))); (with_reducible refine hK _ _ ?_)) | ((with_reducible apply load_owa8); (· assumption); (· (repeat (first | with_reducible assumption | with_reducible exact List.mem_cons_self .. | with_reducible apply List.mem_cons_of_mem))); (· (first | omega | assumption | (simp only [List.length_append, List.length_take, List.length_drop, List.length_map, List.length_replicate, List.length_range, List.length_set, List.length_cons, List.length_nil]; omega))); (with_reducible refine hK _ _ ?_)) | ((with_reducible apply load_rda); (· assumption); (· assumption); (· (repeat (first | with_reducible assumption | with_reducible exact List.mem_cons_self .. | with_reducible apply List.mem_cons_of_mem))); (with_reducible refine hK _ _ ?_)) | ((with_reducible apply load_owa); (· assumption); (· assumption); (· (repeat (first | with_reducible assumption | with_reducible exact List.mem_cons_self .. | with_reducible apply List.mem_cons_of_mem))); (with_reducible refine hK _ _ ?_)))); clear hK K)); exact hK0⟩) : drawW P n ops KK (p0 :: p) L S := h.out _ k

/-- What holds where two roads come together. -/
structure Mid (Q : List Nat → Env → State → Prop) (D : List Nat) (L : Env) (S : State) : Prop where
  out : ∃ L' S', Q D L' S' ∧ Knows L' L ∧ Among S' S
theorem mid {Q : List Nat → Env → State → Prop} {L' : Env} {S' : State} (h : Q D L' S') (hL : Knows L' L := by (repeat (first | exact True.intro | (refine And.intro ?_ ?_; (· (try simp only [evT, lookT_hit, lookT_miss, Nat.reduceBEq]); (first | done | exact rfl)))))) (hS : Among S' S := by first | ((repeat (first | with_reducible exact Among.nil _ | with_reducible exact Pick.head _ _ | with_reducible apply Pick.tail | with_reducible apply Among.cons)); done) | ((repeat (first | exact Among.nil _ | exact Pick.head _ _ | apply Pick.tail | apply Among.cons)); done)) : Mid Q D L S := ⟨L', S', h, hL, hS⟩
theorem seq_mid {c d : Code} (Q : List Nat → Env → State → Prop) (h1 : CodeW P n ro c (Cont.then (Mid Q) K) D L S) (h2 : ∀ D L S, Q D L S → CodeW P n ro d K D L S) : CodeW P n ro (.seq c d) K D L S :=
  code_seq (code_mono h1 fun e D L S h => by
    cases e <;> first | exact h | skip
    obtain ⟨L', S', hq, hL, hS⟩ := h
    exact code_less hL hS (h2 D L' S' hq))

/-- A loop: what holds at its head. -/
theorem loop_i {c : Code} (I : Nat → List Nat → Env → State → Prop) {m : Nat} {L0 : Env} {S0 : State} (h0 : I m D L0 S0) (round : ∀ m D L S, I m D L S → CodeW P n ro c (Cont.then (Again I m) K) D L S)
    (hL : Knows L0 L := by (repeat (first | exact True.intro | (refine And.intro ?_ ?_; (· (try simp only [evT, lookT_hit, lookT_miss, Nat.reduceBEq]); (first | done | exact rfl)))))) (hS : Among S0 S := by first | ((repeat (first | with_reducible exact Among.nil _ | with_reducible exact Pick.head _ _ | with_reducible apply Pick.tail | with_reducible apply Among.cons)); done) | ((repeat (first | exact Among.nil _ | exact Pick.head _ _ | apply Pick.tail | apply Among.cons)); done)) : CodeW P n ro (.loop c) K D L S := code_loop I ⟨m, L0, S0, h0, hL, hS⟩ round

/-- The same chunks, otherwise. -/
theorem code_cut {c : Code} {A B : Chunk} (h : CodeW P n ro c K D L (A :: B :: S)) : CodeW P n ro c K D L ((A ++ B) :: S) :=
  ⟨fun a w ha hw => h.out a w ha (hw.perm (by simp))⟩
theorem code_sub {c : Code} {S' : State} (h : CodeW P n ro c K D L S') (hs : Among S' S := by first | ((repeat (first | with_reducible exact Among.nil _ | with_reducible exact Pick.head _ _ | with_reducible apply Pick.tail | with_reducible apply Among.cons)); done) | ((repeat (first | exact Among.nil _ | exact Pick.head _ _ | apply Pick.tail | apply Among.cons)); done)) : CodeW P n ro c K D L S := ⟨fun a w ha hw => h.out a w ha (hs.hold hw)⟩

end Go.Ost

/- Copying into one's own bytes; new bytes of whatever content. Conditions: as each says. -/
set_option linter.unusedSimpArgs false
set_option linter.unusedVariables false
namespace Go.Ost
open Go

variable {P : Program}

/-- A function of the library's without a text is called. -/
theorem calls_extern {f : FuncId} {fn : Func} {e : Array Value → Sem Value} {args : List Value} {S : State} {κ : Value → State → Prop} (hf : P.funcs[f]? = some fn) (hname : (fn.name == "runtime.NumGoroutine") = false) (hb : fn.body.isNone = true)
    (hn : Extern.findNext fn = none) (he : Extern.find fn = some e) (h : ValW P (e args.toArray) S κ) : CallsW P f args.toArray S κ := by
  refine ⟨fun w hw => ?_⟩
  obtain ⟨v, w', S', h1, h2, h3, h4⟩ := h.out w hw
  refine ⟨.value v, w', ?_, S', h2, h3, h4⟩
  rw [run_callFunc_extern hf hname hb hn he, h1]; rfl

theorem make_nozero {ps : Array TypeId} {t e : TypeId} [ht : TSlice P t e] {n : Nat} {S : State} {κ : Value → State → Prop} (hn : n ≤ 1000000)
    (k : ∀ b cap us C, Own 1 e C (some ⟨b, 0, none⟩) n cap us → κ (.slice (some ⟨b, 0, none⟩) n cap) (C :: S)) : ValW P (Extern.BytealgMakeNoZero.makeNoZero ps #[t] #[.int .i64 n]) S κ := by
  refine ⟨fun w hw => ?_⟩
  obtain ⟨cs, h1, h2, h3⟩ := Lib.run_makeNoZero (P := P) w ps t e ht.und n (by omega)
  refine ⟨_, _, [(w.heap.size, .cells cs e (0, 0))] :: S, h1, ⟨rfl, rfl, rfl, by simp⟩, Hold.new (w := w) hw rfl, k _ _ (cs.toList.take n) [(w.heap.size, .cells cs e (0, 0))] ⟨h2, h3 (by simp [maxLen]; omega), by simp; omega, .inr ⟨_, 0, cs, (0, 0), rfl, rfl, .inl rfl, by simp, fun i hi => ?_⟩⟩⟩
  simp only [List.length_take] at hi
  rw [Nat.zero_add, List.getElem?_take_of_lt (by omega), Array.getElem?_toList]

/-- copy into one's own, from place l on. -/
theorem copy_own {t t2 ty e : TypeId} {z : Value} {by_ : Nat} [ht : TSlice P t e] [hs : TSized P e z 1 by_] {S G : State} {κ : Value → State → Prop} {C : Chunk} {a b : Option Addr} {len cap l d dc n c : Nat} {us vs : List Value}
    (ho : Own 1 e C a len cap us) (hp : Pick C S G) (hr : Rd 1 S b n vs) (h1 : ∀ v ∈ vs, Value.cell1 v) (hl : l + d ≤ len) {a' : Option Addr} (ha : 0 < min n d → a' = a.map (·.add l))
    (k : ∀ C', Own 1 e C' a len cap (us.take l ++ (vs.take (min n d) ++ us.drop (l + min n d))) → κ (.int .i64 (min n d : Nat)) (C' :: G)) :
    ValW P (Builtin.copy_ #[t, t2] ty #[.slice a' d dc, .slice b n c]) S κ := by
  refine ⟨fun w hw => ?_⟩
  have hCG := hw.perm hp.perm
  have hful : us.length = len := by have := ho.2.2.1; omega
  have hvl : vs.length = n := by have := hr.1; omega
  have hcut : Rd 1 S b (min n d) (vs.take (min n d)) := by
    have := rd_cut hr (l := 0) (h' := min n d) (m := 0) (Nat.zero_le _) (Nat.min_le_left _ _)
    refine ⟨by simp; omega, fun hne => ?_⟩
    obtain ⟨b', o, cs, e', m, h2, h3, h4⟩ := hr.2 (by intro e0; subst e0; simp at hne)
    refine ⟨b', o, cs, e', m, h2, h3, fun i hi => ?_⟩
    simp only [List.length_take] at hi
    rw [List.getElem?_take_of_lt (by omega), h4 i (by omega)]
  have f := rd_first (P := P) (c := c) hcut hw
  have f' : (Builtin.firstCells 1 (min n d) (.slice b n c)).run P w = .ok (vs.take (min n d)).toArray w := by
    have e : Builtin.firstCells 1 (min n d) (.slice b n c) = Builtin.firstCells 1 (min n d) (.slice b (min n d) c) := by
      cases b <;> rfl
    rw [e]; exact f
  by_cases h0 : min n d = 0
  · refine ⟨.int .i64 (min n d : Nat), w, C :: G, ?_, Ext.refl w, hCG, k C ?_⟩
    · have f2 := f'
      rw [h0] at f2
      cases a' <;> simp [Builtin.copy_, Sem.run_bind, run_und ht.und, run_size hs, Result.andThen, Builtin.lenOf, h0, goInt, storeCells, f2, show n.min d = 0 from h0]
    · rw [h0]; simpa using ho
  · obtain ⟨b0, o, cs, m, rfl, rfl, hsoft, hbig, hc⟩ := own_some ho (by omega)
    obtain rfl := ha (by omega)
    obtain ⟨lo, hi'⟩ := m
    have hsz : o + us.length ≤ cs.size := by
      have := hc (us.length - 1) (by omega)
      rw [List.getElem?_eq_getElem (by omega)] at this
      have := (Array.getElem?_eq_some_iff.1 this).1
      omega
    obtain ⟨w', q1, q2, q3, q4⟩ := run_storeCells (P := P) (b := b0) (o := o + l) (vs.take (min n d)) 0 w cs (hCG.get b0 (.cells cs e (lo, hi')) (by simp)) (fun u hu => h1 u (List.mem_of_mem_take hu)) (by simp; omega) hsoft.or
    refine ⟨_, w', _, ?_, q2, (Upd.one (S := G)).hold hCG q3 q4, k [(b0, .cells (setCells cs (o + l + 0) (vs.take (min n d))) e (lo, hi'))] ⟨ho.1, ho.2.1, by simp; omega, .inr ⟨b0, o, _, (lo, hi'), rfl, rfl, by rw [setCells_size]; exact hsoft, by rw [setCells_size]; exact hbig, fun j hj => ?_⟩⟩⟩
    · simp only [Option.map_some, add_mk]
      simp [Builtin.copy_, Sem.run_bind, run_und ht.und, run_size hs, Result.andThen, Builtin.lenOf, goInt, f', q1, show n.min d = min n d from rfl]
    · simp only [List.length_append, List.length_take, List.length_drop] at hj
      rw [Nat.add_zero, get_setCells _ _ _ _ (by simp; omega)]
      simp only [List.length_take]
      by_cases h2 : o + l ≤ o + j ∧ o + j < o + l + min (min n d) vs.length
      · rw [if_pos h2, List.getElem?_append_right (by simp; omega), List.getElem?_append_left (by simp; omega)]
        congr 1; simp; omega
      · rw [if_neg h2, hc j (by omega)]
        by_cases h3 : j < l
        · rw [List.getElem?_append_left (by simp; omega), List.getElem?_take_of_lt h3]
        · rw [List.getElem?_append_right (by simp; omega), List.getElem?_append_right (by simp; omega), List.getElem?_drop]
          congr 1; simp; omega

end Go.Ost

/- The plain law of SHA-256: words, blocks, sums. Conditions: as each says. -/
set_option linter.unusedSimpArgs false
set_option linter.unusedVariables false
namespace Go.Sha

abbrev W := BitVec 32
def rot (n : Nat) (x : W) : W := (x >>> n) ||| (x <<< (32 - n))
def s0 (x : W) : W := rot 7 x ^^^ rot 18 x ^^^ (x >>> 3)
def s1 (x : W) : W := rot 17 x ^^^ rot 19 x ^^^ (x >>> 10)
def S0 (x : W) : W := rot 2 x ^^^ rot 13 x ^^^ rot 22 x
def S1 (x : W) : W := rot 6 x ^^^ rot 11 x ^^^ rot 25 x
def ch (e f g : W) : W := (e &&& f) ^^^ (~~~e &&& g)
def maj (a b c : W) : W := (a &&& b) ^^^ (a &&& c) ^^^ (b &&& c)

/-- Four bytes, the first is the greatest. -/
def word (a b c d : UInt8) : W := BitVec.ofNat 32 (a.toNat * 16777216 + b.toNat * 65536 + c.toNat * 256 + d.toNat)
def bytes4 (x : W) : List UInt8 := [UInt8.ofNat (x.toNat / 16777216), UInt8.ofNat (x.toNat / 65536), UInt8.ofNat (x.toNat / 256), UInt8.ofNat x.toNat]
def wordAt (bs : List UInt8) (j : Nat) : W := word (bs.getD j 0) (bs.getD (j + 1) 0) (bs.getD (j + 2) 0) (bs.getD (j + 3) 0)

theorem getD_cut (bs : List UInt8) (l k j : Nat) (h : j < k) : ((bs.drop l).take k).getD j 0 = bs.getD (l + j) 0 := by
  simp [List.getD, List.getElem?_take, h]
theorem wordAt_cut (bs : List UInt8) (l k : Nat) (h : 4 ≤ k) : wordAt ((bs.drop l).take k) 0 = wordAt bs l := by
  simp only [wordAt]
  rw [getD_cut _ _ _ _ (by omega), getD_cut _ _ _ _ (by omega), getD_cut _ _ _ _ (by omega), getD_cut _ _ _ _ (by omega)]
  rfl

def nxt (l : List W) (i : Nat) : W := l.getD (i - 16) 0 + s0 (l.getD (i - 15) 0) + l.getD (i - 7) 0 + s1 (l.getD (i - 2) 0)
/-- The first so many words of a block, then nothing. -/
def spr (bs : List UInt8) : Nat → List W
  | 0 => List.replicate 64 0
  | i + 1 => (spr bs i).set i (if i < 16 then wordAt bs (4 * i) else nxt (spr bs i) i)
theorem spr_len (bs : List UInt8) : ∀ i, (spr bs i).length = 64
  | 0 => by simp [spr]
  | i + 1 => by simp [spr, spr_len bs i]

structure St where
  a : W
  b : W
  c : W
  d : W
  e : W
  f : W
  g : W
  h : W
deriving DecidableEq

def turn (k w : W) (s : St) : St :=
  let t1 := s.h + S1 s.e + ch s.e s.f s.g + k + w
  let t2 := S0 s.a + maj s.a s.b s.c
  ⟨t1 + t2, s.a, s.b, s.c, s.d + t1, s.e, s.f, s.g⟩
def turns (ks ws : List W) : Nat → St → St
  | 0, s => s
  | i + 1, s => turn (ks.getD i 0) (ws.getD i 0) (turns ks ws i s)
def St.add (x y : St) : St := ⟨x.a + y.a, x.b + y.b, x.c + y.c, x.d + y.d, x.e + y.e, x.f + y.f, x.g + y.g, x.h + y.h⟩
def step (ks : List W) (s : St) (block : List UInt8) : St := s.add (turns ks (spr block 64) 64 s)
def St.list (s : St) : List W := [s.a, s.b, s.c, s.d, s.e, s.f, s.g, s.h]
def St.bytes (s : St) : List UInt8 := s.list.flatMap bytes4

def odd : List W := [0x428a2f98, 0x71374491, 0xb5c0fbcf, 0xe9b5dba5, 0x3956c25b, 0x59f111f1, 0x923f82a4, 0xab1c5ed5, 0xd807aa98, 0x12835b01, 0x243185be, 0x550c7dc3, 0x72be5d74, 0x80deb1fe, 0x9bdc06a7, 0xc19bf174, 0xe49b69c1, 0xefbe4786, 0x0fc19dc6, 0x240ca1cc, 0x2de92c6f, 0x4a7484aa, 0x5cb0a9dc, 0x76f988da, 0x983e5152, 0xa831c66d, 0xb00327c8, 0xbf597fc7, 0xc6e00bf3, 0xd5a79147, 0x06ca6351, 0x14292967, 0x27b70a85, 0x2e1b2138, 0x4d2c6dfc, 0x53380d13, 0x650a7354, 0x766a0abb, 0x81c2c92e, 0x92722c85, 0xa2bfe8a1, 0xa81a664b, 0xc24b8b70, 0xc76c51a3, 0xd192e819, 0xd6990624, 0xf40e3585, 0x106aa070, 0x19a4c116, 0x1e376c08, 0x2748774c, 0x34b0bcb5, 0x391c0cb3, 0x4ed8aa4a, 0x5b9cca4f, 0x682e6ff3, 0x748f82ee, 0x78a5636f, 0x84c87814, 0x8cc70208, 0x90befffa, 0xa4506ceb, 0xbef9a3f7, 0xc67178f2]
theorem odd_len : odd.length = 64 := rfl
def first : St := ⟨0x6a09e667, 0xbb67ae85, 0x3c6ef372, 0xa54ff53a, 0x510e527f, 0x9b05688c, 0x1f83d9ab, 0x5be0cd19⟩
theorem St.list_len (s : St) : s.list.length = 8 := rfl
/-- The first so many words are added. -/
def mix (s v : St) (i : Nat) : List W := (s.add v).list.take i ++ s.list.drop i
theorem mix_len (s v : St) (i : Nat) (h : i ≤ 8) : (mix s v i).length = 8 := by
  simp only [mix, List.length_append, List.length_take, List.length_drop, St.list_len]; omega
theorem mix_next (s v : St) (i : Nat) (h : i < 8) : (mix s v i).set i ((mix s v i).getD i 0 + v.list.getD i 0) = mix s v (i + 1) := by
  match i, h with
  | 0, _ => rfl
  | 1, _ => rfl
  | 2, _ => rfl
  | 3, _ => rfl
  | 4, _ => rfl
  | 5, _ => rfl
  | 6, _ => rfl
  | 7, _ => rfl

theorem nat_word (a b c d : Nat) (hb : b < 256) (hc : c < 256) (hd : d < 256) : (((a <<< 24 ||| b <<< 16) ||| c <<< 8) ||| d) = a * 16777216 + b * 65536 + c * 256 + d := by
  have e1 : a <<< 24 = (a * 256) <<< 16 := by simp [Nat.shiftLeft_eq]; omega
  have h1 : a <<< 24 ||| b <<< 16 = (a * 256 + b) <<< 16 := by
    have : a <<< 8 + b = a <<< 8 ||| b := Nat.shiftLeft_add_eq_or_of_lt hb a
    rw [show a * 256 + b = a <<< 8 ||| b from by rw [← this, Nat.shiftLeft_eq], Nat.shiftLeft_or_distrib, ← Nat.shiftLeft_add]
  have h2 : (a * 256 + b) <<< 16 ||| c <<< 8 = ((a * 256 + b) * 256 + c) <<< 8 := by
    have : (a * 256 + b) <<< 8 + c = (a * 256 + b) <<< 8 ||| c := Nat.shiftLeft_add_eq_or_of_lt hc _
    rw [show (a * 256 + b) * 256 + c = (a * 256 + b) <<< 8 ||| c from by rw [← this, Nat.shiftLeft_eq], Nat.shiftLeft_or_distrib, ← Nat.shiftLeft_add]
  have h3 : ((a * 256 + b) * 256 + c) <<< 8 ||| d = ((a * 256 + b) * 256 + c) <<< 8 + d := (Nat.shiftLeft_add_eq_or_of_lt hd _).symm
  rw [h1, h2, h3, Nat.shiftLeft_eq]
  omega
theorem word_eq (a b c d : UInt8) : ((BitVec.ofNat 32 a.toNat <<< 24 ||| BitVec.ofNat 32 b.toNat <<< 16) ||| BitVec.ofNat 32 c.toNat <<< 8) ||| BitVec.ofNat 32 d.toNat = word a b c d := by
  have ha := a.toNat_lt; have hb := b.toNat_lt; have hc := c.toNat_lt; have hd := d.toNat_lt
  apply BitVec.eq_of_toNat_eq
  have s1 : a.toNat <<< 24 < 2 ^ 32 := by rw [Nat.shiftLeft_eq]; omega
  have s2 : b.toNat <<< 16 < 2 ^ 32 := by rw [Nat.shiftLeft_eq]; omega
  have s3 : c.toNat <<< 8 < 2 ^ 32 := by rw [Nat.shiftLeft_eq]; omega
  show (((BitVec.ofNat 32 a.toNat <<< 24 ||| BitVec.ofNat 32 b.toNat <<< 16) ||| BitVec.ofNat 32 c.toNat <<< 8) ||| BitVec.ofNat 32 d.toNat).toNat = _
  simp only [word, BitVec.toNat_or, BitVec.toNat_shiftLeft, BitVec.toNat_ofNat]
  rw [Nat.mod_eq_of_lt (show a.toNat < 2 ^ 32 by omega), Nat.mod_eq_of_lt (show b.toNat < 2 ^ 32 by omega), Nat.mod_eq_of_lt (show c.toNat < 2 ^ 32 by omega), Nat.mod_eq_of_lt (show d.toNat < 2 ^ 32 by omega),
    Nat.mod_eq_of_lt s1, Nat.mod_eq_of_lt s2, Nat.mod_eq_of_lt s3, nat_word _ _ _ _ (by omega) (by omega) (by omega), Nat.mod_eq_of_lt (by omega)]


/-- Bytes as a number, the first is the greatest, of 64 bits. -/
def num (bs : List UInt8) : Nat := bs.foldl (fun n b => (n * 256 + b.toNat) % 18446744073709551616) 0
theorem num_snoc (bs : List UInt8) (b : UInt8) : num (bs ++ [b]) = (num bs * 256 + b.toNat) % 18446744073709551616 := by simp [num]
theorem num_lt (bs : List UInt8) : num bs < 18446744073709551616 := by
  rcases List.eq_nil_or_concat bs with h | ⟨l, b, h⟩
  · subst h; decide
  · subst h; rw [List.concat_eq_append, num_snoc]; exact Nat.mod_lt _ (by decide)
theorem take_next (bs : List UInt8) (i : Nat) (h : i < bs.length) : bs.take (i + 1) = bs.take i ++ [bs.getD i 0] := by
  rw [List.take_add_one, List.getD, List.getElem?_eq_getElem h]; rfl
theorem num4 (bs : List UInt8) (l : Nat) (h : l + 4 ≤ bs.length) : BitVec.ofNat 32 (num ((bs.drop l).take 4)) = wordAt bs l := by
  have e : (bs.drop l).take 4 = [bs.getD l 0, bs.getD (l + 1) 0, bs.getD (l + 2) 0, bs.getD (l + 3) 0] := by
    apply List.ext_getElem?
    intro i
    rw [List.getElem?_take]
    match i with
    | 0 => simp [List.getD, List.getElem?_eq_getElem (show l < bs.length by omega)]
    | 1 => simp [List.getD, List.getElem?_eq_getElem (show l + 1 < bs.length by omega)]
    | 2 => simp [List.getD, List.getElem?_eq_getElem (show l + 2 < bs.length by omega)]
    | 3 => simp [List.getD, List.getElem?_eq_getElem (show l + 3 < bs.length by omega)]
    | i + 4 => rw [if_neg (by omega)]; simp
  rw [e]
  simp only [num, List.foldl, wordAt, word]
  generalize bs.getD l 0 = a
  generalize bs.getD (l + 1) 0 = b
  generalize bs.getD (l + 2) 0 = c
  generalize bs.getD (l + 3) 0 = d
  have ha := a.toNat_lt; have hb := b.toNat_lt; have hc := c.toNat_lt; have hd := d.toNat_lt
  congr 1
  omega

theorem St.get0 (s : St) : s.list.getD (0 + 0 * 1) 0 = s.a := rfl
theorem St.get1 (s : St) : s.list.getD (0 + 1 * 1) 0 = s.b := rfl
theorem St.get2 (s : St) : s.list.getD (0 + 2 * 1) 0 = s.c := rfl
theorem St.get3 (s : St) : s.list.getD (0 + 3 * 1) 0 = s.d := rfl
theorem St.get4 (s : St) : s.list.getD (0 + 4 * 1) 0 = s.e := rfl
theorem St.get5 (s : St) : s.list.getD (0 + 5 * 1) 0 = s.f := rfl
theorem St.get6 (s : St) : s.list.getD (0 + 6 * 1) 0 = s.g := rfl
theorem St.get7 (s : St) : s.list.getD (0 + 7 * 1) 0 = s.h := rfl
theorem turn_list (k w : W) (s : St) : [s.h + (rot 6 s.e ^^^ rot 11 s.e ^^^ rot 25 s.e) + (s.e &&& s.f ^^^ ~~~s.e &&& s.g) + k + w + ((rot 2 s.a ^^^ rot 13 s.a ^^^ rot 22 s.a) + (s.a &&& s.b ^^^ s.a &&& s.c ^^^ s.b &&& s.c)), s.a, s.b, s.c,
    s.d + (s.h + (rot 6 s.e ^^^ rot 11 s.e ^^^ rot 25 s.e) + (s.e &&& s.f ^^^ ~~~s.e &&& s.g) + k + w), s.e, s.f, s.g] = (turn k w s).list := by
  simp only [turn, St.list, S0, S1, ch, maj]


theorem bytes4_eq (x : W) : [UInt8.ofNat (x >>> 24).toNat, UInt8.ofNat (x >>> 16).toNat, UInt8.ofNat (x >>> 8).toNat, UInt8.ofNat x.toNat] = bytes4 x := by
  have h : ∀ k : Nat, (x >>> k).toNat = x.toNat / 2 ^ k := fun k => by rw [BitVec.toNat_ushiftRight, Nat.shiftRight_eq_div_pow]
  show [UInt8.ofNat (x >>> 24).toNat, UInt8.ofNat (x >>> 16).toNat, UInt8.ofNat (x >>> 8).toNat, UInt8.ofNat x.toNat] = _
  rw [h, h, h]; rfl
theorem bytes_next (s : St) (i : Nat) (h : i < 8) : (s.list.take (i + 1)).flatMap bytes4 = (s.list.take i).flatMap bytes4 ++ bytes4 (s.list.getD i 0) := by
  match i, h with
  | 0, _ => rfl
  | 1, _ => rfl
  | 2, _ => rfl
  | 3, _ => rfl
  | 4, _ => rfl
  | 5, _ => rfl
  | 6, _ => rfl
  | 7, _ => rfl
theorem bytes_len (s : St) : s.bytes.length = 32 := rfl

/-- A number's last so many bytes, the greatest first. -/
def be (k n : Nat) : List UInt8 := (List.range k).map fun i => UInt8.ofNat (n / 256 ^ (k - 1 - i))
theorem be_len (k n : Nat) : (be k n).length = k := by simp [be]
theorem be_get (k n i : Nat) (h : i < k) : (be k n).getD i 0 = UInt8.ofNat (n / 256 ^ (k - 1 - i)) := by simp [be, List.getD, h]
theorem be_next (k n i : Nat) (h : i < k) : (be k n).take (i + 1) = (be k n).take i ++ [UInt8.ofNat (n / 256 ^ (k - 1 - i))] := by
  rw [take_next _ _ (by rw [be_len]; exact h), be_get k n i h]
theorem shift8 (n j : Nat) : ((n : Int) / 2 ^ (8 * j)) = ((n / 256 ^ j : Nat) : Int) := by
  rw [show (256 : Nat) = 2 ^ 8 from rfl, ← Nat.pow_mul]; simp
def zeros (n : Nat) : Nat := (119 - n % 64) % 64
/-- What stands behind a text of so many bytes. -/
def pad (n : Nat) : List UInt8 := 128 :: List.replicate (zeros n) 0 ++ be 8 (8 * n)
theorem rep_next (z : Nat) : (128 :: List.replicate (z + 1) 0 : List UInt8) = (128 :: List.replicate z 0) ++ [0] := by
  rw [List.replicate_succ']; rfl
theorem pad_len (n : Nat) : (pad n).length = 9 + zeros n := by simp [pad, be_len]; omega
theorem pad_whole (n : Nat) : (n + (pad n).length) % 64 = 0 := by
  rw [pad_len, zeros]; omega
theorem take_min (bs : List UInt8) (n : Nat) : bs.take (bs.take n).length = bs.take n := by
  rw [List.length_take]
  rcases Nat.le_total n bs.length with h | h
  · rw [Nat.min_eq_left h]
  · rw [Nat.min_eq_right h, List.take_length, List.take_of_length_le h]
theorem fill_back (B : List UInt8) (j : Nat) (h : j < B.length) : (List.replicate (j + 1) 0 ++ B.drop (j + 1)).set j (B.getD j 0) = List.replicate j 0 ++ B.drop j := by
  rw [List.replicate_succ', List.append_assoc, List.set_append_right _ _ (by simp)]
  simp only [List.length_replicate, Nat.sub_self, List.cons_append, List.nil_append, List.set_cons_zero]
  rw [List.drop_eq_getElem_cons h, List.getD, List.getElem?_eq_getElem h]; rfl
theorem ofNat_mod (v : Nat) : UInt8.ofNat (v % 256) = UInt8.ofNat v := by
  apply UInt8.toNat_inj.1
  rw [UInt8.toNat_ofNat', UInt8.toNat_ofNat']; omega
theorem be_back (k n i : Nat) (h : i < k) : (List.replicate (k - i) 0 ++ (be k n).drop (k - i)).set (k - 1 - i) (UInt8.ofNat (n / 256 ^ i % 256)) = List.replicate (k - (i + 1)) 0 ++ (be k n).drop (k - (i + 1)) := by
  have q := fill_back (be k n) (k - 1 - i) (by rw [be_len]; omega)
  rw [be_get _ _ _ (by omega), show k - 1 - (k - 1 - i) = i from by omega, show k - 1 - i + 1 = k - i from by omega] at q
  rw [ofNat_mod, q, show k - 1 - i = k - (i + 1) from by omega]
theorem bytes4_be (x : W) : be 4 x.toNat = bytes4 x := by
  show [UInt8.ofNat (x.toNat / 256 ^ 3), UInt8.ofNat (x.toNat / 256 ^ 2), UInt8.ofNat (x.toNat / 256 ^ 1), UInt8.ofNat (x.toNat / 256 ^ 0)] = _
  simp [bytes4]
/-- The state behind so many blocks. -/
def run : Nat → St → List UInt8 → St
  | 0, s, _ => s
  | k + 1, s, bs => run k (step odd s (bs.take 64)) (bs.drop 64)
theorem run_next : ∀ (i : Nat) (s : St) (bs : List UInt8), run (i + 1) s bs = step odd (run i s bs) ((bs.drop (64 * i)).take 64)
  | 0, s, bs => rfl
  | i + 1, s, bs => by
    rw [run, run_next i, run]
    rw [List.drop_drop, show 64 + 64 * i = 64 * (i + 1) from by omega]
def whole (s : St) (bs : List UInt8) : St := run (bs.length / 64) s bs
def digest (m : List UInt8) : List UInt8 := (whole first (m ++ pad m.length)).bytes
theorem digest_len (m : List UInt8) : (digest m).length = 32 := rfl


def digits : List UInt8 := [48, 49, 50, 51, 52, 53, 54, 55, 56, 57, 97, 98, 99, 100, 101, 102]
theorem dig1 (k : Nat) (h : k < 16) : (digits.drop k).take 1 = [digits.getD k 0] := by
  have hl : k < digits.length := h
  rw [List.drop_eq_getElem_cons hl, List.getD, List.getElem?_eq_getElem hl]; rfl
/-- Two digits. -/
def hex2 (x : UInt8) : List UInt8 := [digits.getD (x.toNat / 16) 0, digits.getD (x.toNat % 16) 0]
def hex (bs : List UInt8) : List UInt8 := bs.flatMap hex2
theorem hex_next (bs : List UInt8) (i : Nat) (h : i < bs.length) : hex (bs.take (i + 1)) = hex (bs.take i) ++ hex2 (bs.getD i 0) := by
  rw [take_next bs i h]; simp [hex]
theorem hex_len (bs : List UInt8) : (hex bs).length = 2 * bs.length := by
  induction bs with
  | nil => rfl
  | cons x l ih => simp only [hex, List.flatMap_cons, List.length_append, List.length_cons] at ih ⊢; rw [ih]; simp [hex2]; omega

end Go.Sha

/- The plain law of the sums that need a key. Conditions: none. -/
set_option linter.unusedSimpArgs false
set_option linter.unusedVariables false
namespace Go.Sha

/-- A key of 64 bytes or fewer. -/
def short (key : List UInt8) : List UInt8 := if 64 < key.length then digest key else key
theorem short_len (key : List UInt8) : (short key).length ≤ 64 := by
  unfold short; split
  · rw [digest_len]; decide
  · omega
/-- A key's 64 bytes, each turned. -/
def padK (key : List UInt8) (x : UInt8) : List UInt8 := (List.range 64).map fun i => (short key).getD i 0 ^^^ x
theorem padK_len (key : List UInt8) (x : UInt8) : (padK key x).length = 64 := by simp [padK]
def mac (key text : List UInt8) : List UInt8 := digest (padK key 92 ++ digest (padK key 54 ++ text))
theorem mac_len (key text : List UInt8) : (mac key text).length = 32 := rfl
def xorB : List UInt8 → List UInt8 → List UInt8
  | a :: l, b :: m => (a ^^^ b) :: xorB l m
  | _, _ => []
theorem xorB_len : ∀ (a b : List UInt8), (xorB a b).length = min a.length b.length
  | [], _ => by simp [xorB]
  | _ :: _, [] => by simp [xorB]
  | a :: l, b :: m => by rw [xorB, List.length_cons, xorB_len l m, List.length_cons, List.length_cons]; omega
theorem xorB_get : ∀ (a b : List UInt8) (i : Nat), i < min a.length b.length → (xorB a b)[i]? = some (a.getD i 0 ^^^ b.getD i 0)
  | [], _, i, h => absurd h (by rw [List.length_nil, Nat.zero_min]; omega)
  | _ :: _, [], i, h => absurd h (by rw [List.length_nil, Nat.min_zero]; omega)
  | a :: l, b :: m, 0, h => by simp [xorB]
  | a :: l, b :: m, i + 1, h => by
    have := xorB_get l m i (by simp only [List.length_cons] at h; omega)
    simpa [xorB] using this
theorem xorB_take (a b : List UInt8) (i : Nat) (h : i < min a.length b.length) : (xorB a b).take (i + 1) = (xorB a b).take i ++ [a.getD i 0 ^^^ b.getD i 0] := by
  rw [List.take_add_one, xorB_get a b i h]; rfl

/-- A row that is set place by place. -/
theorem set_step {α : Type} (n : Nat) (f g : Nat → α) (j : Nat) (hj : j < n) : ((List.range n).map fun i => if i < j then g i else f i).set j (g j) = (List.range n).map fun i => if i < j + 1 then g i else f i := by
  apply List.ext_getElem
  · simp
  · intro i h1 h2
    simp only [List.length_set, List.length_map, List.length_range] at h1
    rw [List.getElem_set]
    simp only [List.getElem_map, List.getElem_range]
    by_cases h : j = i
    · subst h; simp
    · rw [if_neg h]
      by_cases h3 : i < j
      · rw [if_pos h3, if_pos (by omega)]
      · rw [if_neg h3, if_neg (by omega)]
theorem getD_step {α : Type} (n : Nat) (f g : Nat → α) (j : Nat) (d : α) (hj : j < n) : ((List.range n).map fun i => if i < j then g i else f i).getD j d = f j := by
  simp [List.getD, hj]

theorem pad_begin (x : UInt8) (key : List UInt8) : List.replicate 64 x = (List.range 64).map fun i => if i < 0 then x ^^^ key.getD i 0 else x := by
  apply List.ext_getElem
  · simp
  · intro i h1 h2
    rw [List.getElem_replicate, List.getElem_map, if_neg (Nat.not_lt_zero _)]
theorem pad_end (key : List UInt8) (x : UInt8) (h : key.length ≤ 64) : ((List.range 64).map fun i => if i < key.length then x ^^^ key.getD i 0 else x) = (List.range 64).map fun i => key.getD i 0 ^^^ x := by
  apply List.map_congr_left
  intro i hi
  split
  · exact UInt8.xor_comm _ _
  · rename_i hn
    have : key.getD i 0 = 0 := by simp [List.getD, List.getElem?_eq_none (Nat.le_of_not_lt hn)]
    rw [this]; simp
theorem turn_begin (key : List UInt8) (x : UInt8) (h : key.length ≤ 64) : key ++ List.replicate (64 - key.length) 0 = (List.range 64).map fun i => if i < 0 then key.getD i 0 ^^^ x else key.getD i 0 := by
  apply List.ext_getElem
  · simp; omega
  · intro i h1 h2
    simp only [List.getElem_map, List.getElem_range, Nat.not_lt_zero, if_false]
    by_cases hi : i < key.length
    · rw [List.getElem_append_left hi]; simp [List.getD, hi]
    · rw [List.getElem_append_right (by omega)]; simp [List.getD, List.getElem?_eq_none (Nat.le_of_not_lt hi)]
theorem turn_end (key : List UInt8) (x : UInt8) : ((List.range 64).map fun i => if i < 64 then key.getD i 0 ^^^ x else key.getD i 0) = (List.range 64).map fun i => key.getD i 0 ^^^ x := by
  apply List.map_congr_left
  intro i hi
  rw [if_pos (List.mem_range.1 hi)]

/-- A password that is stretched. -/
def strT (pass : List UInt8) : List UInt8 → List UInt8 → Nat → List UInt8
  | _, t, 0 => t
  | u, t, k + 1 => strT pass (mac pass u) (xorB t (mac pass u)) k
def piece (pass salt : List UInt8) (rounds n : Nat) : List UInt8 := strT pass (mac pass (salt ++ be 4 n)) (mac pass (salt ++ be 4 n)) (rounds - 1)
theorem strT_len (pass : List UInt8) : ∀ (k : Nat) (u t : List UInt8), t.length = 32 → (strT pass u t k).length = 32
  | 0, _, _, h => h
  | k + 1, u, t, h => strT_len pass k _ _ (by rw [xorB_len, h, mac_len]; decide)
theorem piece_len (pass salt : List UInt8) (rounds n : Nat) : (piece pass salt rounds n).length = 32 := strT_len _ _ _ _ (mac_len _ _)
/-- Pieces of 32 bytes in a row. -/
def cat (blk : Nat → List UInt8) : Nat → List UInt8
  | 0 => []
  | n + 1 => cat blk n ++ blk n
theorem cat_len (blk : Nat → List UInt8) (h : ∀ k, (blk k).length = 32) : ∀ n, (cat blk n).length = 32 * n
  | 0 => rfl
  | n + 1 => by rw [cat, List.length_append, h, cat_len blk h n]; omega
/-- So many bytes: of as many pieces as are wanted. -/
def many (size : Nat) : Nat := (size + 31) / 32
def stretch (pass salt : List UInt8) (rounds size : Nat) : List UInt8 := (cat (fun k => piece pass salt rounds (k + 1)) (many size)).take size
/-- A key that is expanded. -/
def last (key info : List UInt8) : Nat → List UInt8
  | 0 => []
  | n + 1 => mac key (last key info n ++ info ++ [UInt8.ofNat (n + 1)])
theorem last_len (key info : List UInt8) (n : Nat) (h : 0 < n) : (last key info n).length = 32 := by
  cases n with
  | zero => omega
  | succ n => exact mac_len _ _
def expand (key info : List UInt8) (size : Nat) : List UInt8 := (cat (fun k => last key info (k + 1)) (many size)).take size

end Go.Sha

/- More rules of 64 bits: shifting and putting together. Conditions: as each says. -/
set_option linter.unusedSimpArgs false
set_option linter.unusedVariables false
namespace Go.Ost
open Go

variable {P : Program}

theorem u64_shl32 {t : TypeId} {x y : Operand} {j : IntKind} {a : W32} {κ : Value → Prop} : PureW P (do eqGuard .shl t x y (.int .u64 a.toNat) (.int j 32); binOp .shl t (.int .u64 a.toNat) (.int j 32)) κ = κ (.int .u64 ((a.toNat * 4294967296 : Nat) : Int)) :=
  pureW_eq (fun w => by
    show (Op.shift .shl .u64 (a.toNat : Int) j 32).run P w = _
    show Result.ok (Value.int .u64 (IntKind.u64.wrap ((a.toNat : Int) * 2 ^ 32))) w = _
    have := a.isLt
    rw [show ((a.toNat : Int) * 2 ^ 32) = ((a.toNat * 4294967296 : Nat) : Int) from by simp, wrap_u64 (by omega) (by omega)]) κ
theorem u64_or {t : TypeId} {x y : Operand} {a b : W32} {κ : Value → Prop} : PureW P (do eqGuard .or t x y (.int .u64 ((a.toNat * 4294967296 : Nat) : Int)) (.int .u64 b.toNat); binOp .or t (.int .u64 ((a.toNat * 4294967296 : Nat) : Int)) (.int .u64 b.toNat)) κ = κ (.int .u64 ((a.toNat * 4294967296 + b.toNat : Nat) : Int)) :=
  pureW_eq (fun w => by
    show Result.ok (Value.int .u64 (IntKind.u64.wrap ((BitVec.ofInt 64 ((a.toNat * 4294967296 : Nat) : Int) ||| BitVec.ofInt 64 (b.toNat : Int)).toNat : Int))) w = _
    have h1 := a.isLt
    have h2 := b.isLt
    have e : (BitVec.ofInt 64 ((a.toNat * 4294967296 : Nat) : Int) ||| BitVec.ofInt 64 (b.toNat : Int)).toNat = a.toNat * 4294967296 + b.toNat := by
      rw [BitVec.ofInt_natCast, BitVec.ofInt_natCast, BitVec.toNat_or, BitVec.toNat_ofNat, BitVec.toNat_ofNat, Nat.mod_eq_of_lt (by omega), Nat.mod_eq_of_lt (by omega)]
      have := Nat.shiftLeft_add_eq_or_of_lt (i := 32) h2 a.toNat
      rw [Nat.shiftLeft_eq] at this
      exact this.symm
    rw [e, wrap_u64 (by omega) (by omega)]) κ

/-! ### Eight words, and two cells behind them -/

theorem rowX_8 {l : List W32} (h : l.length = 8) (v u : Value) : (rowX l [v, u])[8]? = some v ∧ (rowX l [v, u])[9]? = some u := by
  simp only [rowX, List.getElem?_toArray]
  constructor
  · rw [List.getElem?_append_right (by simp [h])]; simp [h]
  · rw [List.getElem?_append_right (by simp [h])]; simp [h]
theorem load_h8 {t e : TypeId} {S : State} {κ : Value → Prop} {b : Nat} {l : List W32} {v u : Value} {m : Nat × Nat} [hf : TFlat P t] (hl : Lies b (.cells (rowX l [v, u]) e m) S) (h : l.length = 8) (k : κ v) :
    ReadW P (Instr.loadAt t (.pointer (some ⟨b, 8, none⟩))) S κ := load_one hl (rowX_8 h v u).1 k
theorem load_h9 {t e : TypeId} {S : State} {κ : Value → Prop} {b : Nat} {l : List W32} {v u : Value} {m : Nat × Nat} [hf : TFlat P t] (hl : Lies b (.cells (rowX l [v, u]) e m) S) (h : l.length = 8) (k : κ u) :
    ReadW P (Instr.loadAt t (.pointer (some ⟨b, 9, none⟩))) S κ := load_one hl (rowX_8 h v u).2 k
theorem rowX_set8 {l : List W32} (h : l.length = 8) (v u x : Value) : (rowX l [v, u]).setIfInBounds 8 x = rowX l [x, u] ∧ (rowX l [v, u]).setIfInBounds 9 x = rowX l [v, x] := by
  simp only [rowX, List.setIfInBounds_toArray]
  constructor
  · rw [List.set_append_right _ _ (by simp [h])]; simp [h]
  · rw [List.set_append_right _ _ (by simp [h])]; simp [h]
theorem store_h8 {t e : TypeId} {z : Value} {by_ : Nat} {S S' : State} {κ : State → Prop} {b : Nat} {l : List W32} {v u x : Value} [hs : TSized P t z 1 by_] (hc : Value.cell1 x) (hu : Upd b (.cells (rowX l [v, u]) e (0, 0)) (.cells (rowX l [x, u]) e (0, 0)) S S')
    (h : l.length = 8) (k : κ S') : UnitW P (Instr.storeAt t (.pointer (some ⟨b, 8, none⟩)) x) S κ :=
  store_one (cs := rowX l [v, u]) hc (by rw [(rowX_set8 h v u x).1]; exact hu) (by rw [rowX_size]; simp; omega) k
theorem store_h9 {t e : TypeId} {z : Value} {by_ : Nat} {S S' : State} {κ : State → Prop} {b : Nat} {l : List W32} {v u x : Value} [hs : TSized P t z 1 by_] (hc : Value.cell1 x) (hu : Upd b (.cells (rowX l [v, u]) e (0, 0)) (.cells (rowX l [v, x]) e (0, 0)) S S')
    (h : l.length = 8) (k : κ S') : UnitW P (Instr.storeAt t (.pointer (some ⟨b, 9, none⟩)) x) S κ :=
  store_one (cs := rowX l [v, u]) hc (by rw [(rowX_set8 h v u x).2]; exact hu) (by rw [rowX_size]; simp; omega) k

end Go.Ost

/- Whole blocks loaded and stored; what may be written over. Conditions: as each says. -/
set_option linter.unusedSimpArgs false
set_option linter.unusedVariables false
namespace Go.Ost
open Go

variable {P : Program}

theorem load_rx {t e : TypeId} {z : Value} {s by_ : Nat} {S : State} {κ : Value → Prop} {b : Nat} {l : List W32} {r : List Value} {m : Nat × Nat} [hf : TDeep P t] [hs : TSized P t z s by_] (hl : Lies b (.cells (rowX l r) e m) S) (h : l.length = s) (k : κ (.agg (rowW l))) :
    ReadW P (Instr.loadAt t (.pointer (some ⟨b, 0, none⟩))) S κ := by
  refine load_agg hl (by rw [rowX_size]; omega) ?_
  have : (rowX l r).extract 0 (0 + s) = rowW l := by
    apply Array.ext'; simp [rowX, rowW, ← h, List.take_append_of_le_length, List.take_of_length_le]
  rw [this]; exact k
theorem load_ra {t e : TypeId} {z : Value} {s by_ : Nat} {S : State} {κ : Value → Prop} {b : Nat} {l : List W32} {r : List Value} {m : Nat × Nat} [hf : TDeep P t] [hs : TSized P t z s by_] (hl : Lies b (.cells (rowX l r) e m) S) (h : l.length + r.length = s) (k : κ (.agg (rowX l r))) :
    ReadW P (Instr.loadAt t (.pointer (some ⟨b, 0, none⟩))) S κ := by
  refine load_agg hl (by rw [rowX_size]; omega) ?_
  have : (rowX l r).extract 0 (0 + s) = rowX l r := by
    apply Array.ext'
    simp only [rowX, List.extract_toArray, List.extract_eq_take_drop, List.drop_zero]
    rw [List.take_of_length_le (by simp; omega)]
  rw [this]; exact k
theorem store_ra {t e : TypeId} {z : Value} {s by_ : Nat} {S S' : State} {κ : State → Prop} {b : Nat} {l l' : List W32} {r r' : List Value} [hs : TSized P t z s by_] (hc : ∀ v ∈ r', Value.cell1 v) (hu : Upd b (.cells (rowX l r) e (0, 0)) (.cells (rowX l' r') e (0, 0)) S S')
    (h : l.length + r.length = s) (h' : l'.length + r'.length = s) (k : κ S') : UnitW P (Instr.storeAt t (.pointer (some ⟨b, 0, none⟩)) (.agg (rowX l' r'))) S κ := by
  refine store_agg (e := e) (cs := rowX l r) (S' := S') (by rw [rowX_size]; exact h') (fun v hv => ?_) ?_ (by rw [rowX_size]; omega) k
  · simp only [rowX, List.mem_append, List.mem_map] at hv
    rcases hv with ⟨x, _, rfl⟩ | hv
    · exact b32_cell x
    · exact hc v hv
  · have q := setCells_all (l'.map b32 ++ r') [] (l.map b32 ++ r) [] (by simp; omega)
    simp only [List.nil_append, List.append_nil, List.length_nil] at q
    have e2 : setCells (rowX l r) 0 (rowX l' r').toList = rowX l' r' := q
    rw [e2]; exact hu

/-! ### What may be written over -/

def Wr (C : Chunk) (a : Option Addr) (bs : List UInt8) : Prop :=
  bs ≠ [] → ∃ b o cs e lo hi, a = some ⟨b, o, none⟩ ∧ C = [(b, .cells cs e (lo, hi))] ∧ (∀ i, i < bs.length → cs[o + i]? = some (b8 (bs.getD i 0))) ∧ ∀ i, i < bs.length → ¬ (lo ≤ o + i ∧ o + i < hi)
theorem Wr.rd {C : Chunk} {a : Option Addr} {bs : List UInt8} (h : Wr C a bs) : Rd 1 [C] a bs.length (bs.map b8) := by
  refine ⟨by simp, fun hne => ?_⟩
  obtain ⟨b, o, cs, e, lo, hi, rfl, rfl, hc, _⟩ := h (by intro h0; subst h0; simp at hne)
  exact ⟨b, o, cs, e, (lo, hi), rfl, Lies.one, fun i hi => by
    simp only [List.length_map] at hi
    rw [hc i hi]; simp [List.getD, hi]⟩
theorem wr_store {t : TypeId} {z : Value} {by_ : Nat} [hs : TSized P t z 1 by_] {S G : State} {κ : State → Prop} {C : Chunk} {a : Option Addr} {i : Nat} {bs : List UInt8} {x : UInt8}
    (ho : Wr C a bs) (hp : Pick C S G) (hi : i < bs.length) (k : ∀ C', Wr C' a (bs.set i x) → κ (C' :: G)) : UnitW P (Instr.storeAt t (.pointer (some (elA a i))) (b8 x)) S κ := by
  refine ⟨fun w hw => ?_⟩
  obtain ⟨b, o, cs, e, lo, hi', rfl, rfl, hc, hfr⟩ := ho (by intro h0; subst h0; simp at hi)
  have hCG := hw.perm hp.perm
  have hg := hCG.get b (.cells cs e (lo, hi')) (by simp)
  have hst := set_heap (o := o + i) hg (b8 x)
  have hci := hc i hi
  have hlt := (Array.getElem?_eq_some_iff.1 hci).1
  have hrun := run_store (P := P) (w := w) (a := ⟨b, o + i, none⟩) (v := b8 x) (u := b8 (bs.getD i 0)) (b8_cell x) (by rw [cell_of hg, hci]) (by
    rw [frozen_of hg]
    have := hfr i hi
    simp; omega)
  refine ⟨w.setCell ⟨b, o + i, none⟩ (b8 x), _, ?_, ext_set _ _ _, (Upd.one (S := G)).hold hCG hst.1 hst.2, k [(b, .cells (cs.setIfInBounds (o + i) (b8 x)) e (lo, hi'))] (fun _ => ⟨b, o, _, e, lo, hi', rfl, rfl, fun j hj => ?_, fun j hj => hfr j (by simpa using hj)⟩)⟩
  · have e1 : (Value.cells (b8 x)) = #[b8 x] := rfl
    simp only [elA, Option.getD_some, add_mk]
    simp [Instr.storeAt, Instr.sureAddr, storeVar, Sem.run_bind, run_size hs, Result.andThen, e1, storeCells, add_mk, hrun]
  · simp only [List.length_set] at hj
    by_cases e2 : j = i
    · subst e2
      rw [Array.getElem?_setIfInBounds_self, if_pos (by omega)]
      simp [List.getD, hj]
    · rw [Array.getElem?_setIfInBounds_ne (by omega), hc j hj]
      simp [List.getD, List.getElem?_set_ne (show i ≠ j by omega)]

end Go.Ost

/- The walk's steps in one word each, for words and for a Hash. Conditions: none. -/
set_option linter.unusedSimpArgs false
set_option linter.unusedVariables false
namespace Go.Sha
open Go Go.Ost

variable {P : Program} {n : Nat} {ro : Option Nat}

section steps
variable {ops : Array Oper} {K : Env → State → Prop} {o : Oper} {l l' : List Oper} {L L' : Env} {S S' : State}
theorem runv_to (k : runW P n ops K l' L' S') (h : Runs P n ops l L S l' L' S' := by exact ⟨fun K0 hK0 => by (repeat ((with_reducible refine run_cons fun K hK => ?_); (try simp only [gos, gob, Nat.reduceBEq, if_true, reduceIte, reduceCtorEq, Nat.reduceLT, Nat.reduceEqDiff, Nat.reduceAdd, Nat.reduceSub, Int.reduceLT, Int.reduceLE, Int.reduceBEq, Int.reduceBNe, Int.reduceToNat, Int.reduceAdd, Int.reduceSub, Int.reduceMul, Int.reduceDiv, Int.reduceMod, Int.reducePow, Int.toNat_natCast, Nat.sub_zero]); (try (simp (disch := omega) only [gow, gobw]; try simp only [gos, gob, Nat.reduceBEq, if_true, reduceIte, reduceCtorEq, Nat.reduceLT, Nat.reduceEqDiff, Nat.reduceAdd, Nat.reduceSub, Int.reduceLT, Int.reduceLE, Int.reduceBEq, Int.reduceBNe, Int.reduceToNat, Int.reduceAdd, Int.reduceSub, Int.reduceMul, Int.reduceDiv, Int.reduceMod, Int.reducePow, Int.toNat_natCast, Nat.sub_zero])); (first | (with_reducible refine hK _ _ ?_) | ((with_reducible apply load_w); (· (repeat (first | with_reducible exact Lies.one | with_reducible exact Lies.here (by assumption) | with_reducible apply Lies.next))); (· (first | (rw [ld_len]; omega) | (rw [List.length_replicate]; omega) | (rw [St.list_len]; omega) | (rw [odd_len]; omega) | (rw [spr_len]; omega) | (rw [mix_len _ _ _ (by omega)]; omega))); (with_reducible refine hK _ _ ?_)) | ((with_reducible apply load_x); (· (repeat (first | with_reducible exact Lies.one | with_reducible exact Lies.here (by assumption) | with_reducible apply Lies.next))); (· (first | (rw [ld_len]; omega) | (rw [List.length_replicate]; omega) | (rw [St.list_len]; omega) | (rw [odd_len]; omega) | (rw [spr_len]; omega) | (rw [mix_len _ _ _ (by omega)]; omega))); (with_reducible refine hK _ _ ?_)) | ((with_reducible apply store_x); (· (repeat (first | with_reducible exact Upd.one | with_reducible apply Upd.next))); (· (first | (rw [ld_len]; omega) | (rw [List.length_replicate]; omega) | (rw [St.list_len]; omega) | (rw [odd_len]; omega) | (rw [spr_len]; omega) | (rw [mix_len _ _ _ (by omega)]; omega))); (with_reducible refine hK _ _ ?_)) | ((with_reducible apply store_w); (· (repeat (first | with_reducible exact Upd.one | with_reducible apply Upd.next))); (· (first | (rw [ld_len]; omega) | (rw [List.length_replicate]; omega) | (rw [St.list_len]; omega) | (rw [odd_len]; omega) | (rw [spr_len]; omega) | (rw [mix_len _ _ _ (by omega)]; omega))); (with_reducible refine hK _ _ ?_)) | ((with_reducible apply load_box); (· (repeat (first | with_reducible exact Lies.one | with_reducible apply Lies.next))); (with_reducible refine hK _ _ ?_)) | ((with_reducible apply load_one); (· (repeat (first | with_reducible exact Lies.one | with_reducible apply Lies.next))); (· exact rfl); (with_reducible refine hK _ _ ?_)) | ((with_reducible apply store_box); (· exact trivial); (· (repeat (first | with_reducible exact Upd.one | with_reducible apply Upd.next))); (with_reducible refine hK _ _ ?_))); clear hK K)); exact hK0⟩) : runW P n ops K l L S := h.out K k
theorem runh_to (k : runW P n ops K l' L' S') (h : Runs P n ops l L S l' L' S' := by exact ⟨fun K0 hK0 => by (repeat ((with_reducible refine run_cons fun K hK => ?_); (try simp only [gos, gob, Nat.reduceBEq, if_true, reduceIte, reduceCtorEq, Nat.reduceLT, Nat.reduceEqDiff, Nat.reduceAdd, Nat.reduceSub, Int.reduceLT, Int.reduceLE, Int.reduceBEq, Int.reduceBNe, Int.reduceToNat, Int.reduceAdd, Int.reduceSub, Int.reduceMul, Int.reduceDiv, Int.reduceMod, Int.reducePow, Int.toNat_natCast, Nat.sub_zero]); (try (simp (disch := omega) only [gow, gobw]; try simp only [gos, gob, Nat.reduceBEq, if_true, reduceIte, reduceCtorEq, Nat.reduceLT, Nat.reduceEqDiff, Nat.reduceAdd, Nat.reduceSub, Int.reduceLT, Int.reduceLE, Int.reduceBEq, Int.reduceBNe, Int.reduceToNat, Int.reduceAdd, Int.reduceSub, Int.reduceMul, Int.reduceDiv, Int.reduceMod, Int.reducePow, Int.toNat_natCast, Nat.sub_zero])); (first | (with_reducible refine hK _ _ ?_) | ((with_reducible apply load_h8); (· (repeat (first | with_reducible exact Lies.one | with_reducible apply Lies.next))); (· (first | exact St.list_len _ | exact ld_len _ _ | exact mix_len _ _ _ (by omega) | assumption)); (with_reducible refine hK _ _ ?_)) | ((with_reducible apply load_h9); (· (repeat (first | with_reducible exact Lies.one | with_reducible apply Lies.next))); (· (first | exact St.list_len _ | exact ld_len _ _ | exact mix_len _ _ _ (by omega) | assumption)); (with_reducible refine hK _ _ ?_)) | ((with_reducible apply load_x); (· (repeat (first | with_reducible exact Lies.one | with_reducible exact Lies.here (by assumption) | with_reducible apply Lies.next))); (· (first | (rw [ld_len]; omega) | (rw [List.length_replicate]; omega) | (rw [St.list_len]; omega) | (rw [odd_len]; omega) | (rw [spr_len]; omega) | (rw [mix_len _ _ _ (by omega)]; omega))); (with_reducible refine hK _ _ ?_)) | ((with_reducible apply store_h8); (· exact trivial); (· (repeat (first | with_reducible exact Upd.one | with_reducible apply Upd.next))); (· (first | exact St.list_len _ | exact ld_len _ _ | exact mix_len _ _ _ (by omega) | assumption)); (with_reducible refine hK _ _ ?_)) | ((with_reducible apply store_h9); (· exact trivial); (· (repeat (first | with_reducible exact Upd.one | with_reducible apply Upd.next))); (· (first | exact St.list_len _ | exact ld_len _ _ | exact mix_len _ _ _ (by omega) | assumption)); (with_reducible refine hK _ _ ?_)) | ((with_reducible apply store_x); (· (repeat (first | with_reducible exact Upd.one | with_reducible apply Upd.next))); (· (first | (rw [ld_len]; omega) | (rw [List.length_replicate]; omega) | (rw [St.list_len]; omega) | (rw [odd_len]; omega) | (rw [spr_len]; omega) | (rw [mix_len _ _ _ (by omega)]; omega))); (with_reducible refine hK _ _ ?_)) | ((with_reducible apply load_box); (· (repeat (first | with_reducible exact Lies.one | with_reducible apply Lies.next))); (with_reducible refine hK _ _ ?_)) | ((with_reducible apply load_one); (· (repeat (first | with_reducible exact Lies.one | with_reducible apply Lies.next))); (· exact rfl); (with_reducible refine hK _ _ ?_)) | ((with_reducible apply store_box); (· exact trivial); (· (repeat (first | with_reducible exact Upd.one | with_reducible apply Upd.next))); (with_reducible refine hK _ _ ?_)) | ((with_reducible apply store_one); (· exact trivial); (· (repeat (first | with_reducible exact Upd.one | with_reducible apply Upd.next))); (· simp); (with_reducible refine hK _ _ ?_))); clear hK K)); exact hK0⟩) : runW P n ops K l L S := h.out K k
variable {p p' : List Entry}
theorem drawv_to (k : drawW P n ops K p' L' S') (h : Draws P n ops p L S p' L' S' := by exact ⟨fun K0 hK0 => by (repeat (refine draw_quiet (by simp only [List.getElem?_toArray, List.getElem?_cons_succ, List.getElem?_cons_zero]; rfl) fun K hK => ?_; (try simp only [gos, gob, Nat.reduceBEq, if_true, reduceIte, reduceCtorEq, Nat.reduceLT, Nat.reduceEqDiff, Nat.reduceAdd, Nat.reduceSub, Int.reduceLT, Int.reduceLE, Int.reduceBEq, Int.reduceBNe, Int.reduceToNat, Int.reduceAdd, Int.reduceSub, Int.reduceMul, Int.reduceDiv, Int.reduceMod, Int.reducePow, Int.toNat_natCast, Nat.sub_zero, goq]); (try (simp (disch := omega) only [gow, gobw]; try simp only [gos, gob, Nat.reduceBEq, if_true, reduceIte, reduceCtorEq, Nat.reduceLT, Nat.reduceEqDiff, Nat.reduceAdd, Nat.reduceSub, Int.reduceLT, Int.reduceLE, Int.reduceBEq, Int.reduceBNe, Int.reduceToNat, Int.reduceAdd, Int.reduceSub, Int.reduceMul, Int.reduceDiv, Int.reduceMod, Int.reducePow, Int.toNat_natCast, Nat.sub_zero, goq])); (first | (with_reducible refine hK _ _ ?_) | ((with_reducible apply load_w); (· (repeat (first | with_reducible exact Lies.one | with_reducible exact Lies.here (by assumption) | with_reducible apply Lies.next))); (· (first | (rw [ld_len]; omega) | (rw [List.length_replicate]; omega) | (rw [St.list_len]; omega) | (rw [odd_len]; omega) | (rw [spr_len]; omega) | (rw [mix_len _ _ _ (by omega)]; omega))); (with_reducible refine hK _ _ ?_)) | ((with_reducible apply load_x); (· (repeat (first | with_reducible exact Lies.one | with_reducible exact Lies.here (by assumption) | with_reducible apply Lies.next))); (· (first | (rw [ld_len]; omega) | (rw [List.length_replicate]; omega) | (rw [St.list_len]; omega) | (rw [odd_len]; omega) | (rw [spr_len]; omega) | (rw [mix_len _ _ _ (by omega)]; omega))); (with_reducible refine hK _ _ ?_)) | ((with_reducible apply store_x); (· (repeat (first | with_reducible exact Upd.one | with_reducible apply Upd.next))); (· (first | (rw [ld_len]; omega) | (rw [List.length_replicate]; omega) | (rw [St.list_len]; omega) | (rw [odd_len]; omega) | (rw [spr_len]; omega) | (rw [mix_len _ _ _ (by omega)]; omega))); (with_reducible refine hK _ _ ?_)) | ((with_reducible apply store_w); (· (repeat (first | with_reducible exact Upd.one | with_reducible apply Upd.next))); (· (first | (rw [ld_len]; omega) | (rw [List.length_replicate]; omega) | (rw [St.list_len]; omega) | (rw [odd_len]; omega) | (rw [spr_len]; omega) | (rw [mix_len _ _ _ (by omega)]; omega))); (with_reducible refine hK _ _ ?_)) | ((with_reducible apply load_box); (· (repeat (first | with_reducible exact Lies.one | with_reducible apply Lies.next))); (with_reducible refine hK _ _ ?_)) | ((with_reducible apply load_one); (· (repeat (first | with_reducible exact Lies.one | with_reducible apply Lies.next))); (· exact rfl); (with_reducible refine hK _ _ ?_)) | ((with_reducible apply store_box); (· exact trivial); (· (repeat (first | with_reducible exact Upd.one | with_reducible apply Upd.next))); (with_reducible refine hK _ _ ?_))); clear hK K)); exact hK0⟩) : drawW P n ops K p L S := h.out K k
theorem drawh_to (k : drawW P n ops K p' L' S') (h : Draws P n ops p L S p' L' S' := by exact ⟨fun K0 hK0 => by (repeat (refine draw_quiet (by simp only [List.getElem?_toArray, List.getElem?_cons_succ, List.getElem?_cons_zero]; rfl) fun K hK => ?_; (try simp only [gos, gob, Nat.reduceBEq, if_true, reduceIte, reduceCtorEq, Nat.reduceLT, Nat.reduceEqDiff, Nat.reduceAdd, Nat.reduceSub, Int.reduceLT, Int.reduceLE, Int.reduceBEq, Int.reduceBNe, Int.reduceToNat, Int.reduceAdd, Int.reduceSub, Int.reduceMul, Int.reduceDiv, Int.reduceMod, Int.reducePow, Int.toNat_natCast, Nat.sub_zero, goq]); (try (simp (disch := omega) only [gow, gobw]; try simp only [gos, gob, Nat.reduceBEq, if_true, reduceIte, reduceCtorEq, Nat.reduceLT, Nat.reduceEqDiff, Nat.reduceAdd, Nat.reduceSub, Int.reduceLT, Int.reduceLE, Int.reduceBEq, Int.reduceBNe, Int.reduceToNat, Int.reduceAdd, Int.reduceSub, Int.reduceMul, Int.reduceDiv, Int.reduceMod, Int.reducePow, Int.toNat_natCast, Nat.sub_zero, goq])); (first | (with_reducible refine hK _ _ ?_) | ((with_reducible apply load_h8); (· (repeat (first | with_reducible exact Lies.one | with_reducible apply Lies.next))); (· (first | exact St.list_len _ | exact ld_len _ _ | exact mix_len _ _ _ (by omega) | assumption)); (with_reducible refine hK _ _ ?_)) | ((with_reducible apply load_h9); (· (repeat (first | with_reducible exact Lies.one | with_reducible apply Lies.next))); (· (first | exact St.list_len _ | exact ld_len _ _ | exact mix_len _ _ _ (by omega) | assumption)); (with_reducible refine hK _ _ ?_)) | ((with_reducible apply load_x); (· (repeat (first | with_reducible exact Lies.one | with_reducible exact Lies.here (by assumption) | with_reducible apply Lies.next))); (· (first | (rw [ld_len]; omega) | (rw [List.length_replicate]; omega) | (rw [St.list_len]; omega) | (rw [odd_len]; omega) | (rw [spr_len]; omega) | (rw [mix_len _ _ _ (by omega)]; omega))); (with_reducible refine hK _ _ ?_)) | ((with_reducible apply store_h8); (· exact trivial); (· (repeat (first | with_reducible exact Upd.one | with_reducible apply Upd.next))); (· (first | exact St.list_len _ | exact ld_len _ _ | exact mix_len _ _ _ (by omega) | assumption)); (with_reducible refine hK _ _ ?_)) | ((with_reducible apply store_h9); (· exact trivial); (· (repeat (first | with_reducible exact Upd.one | with_reducible apply Upd.next))); (· (first | exact St.list_len _ | exact ld_len _ _ | exact mix_len _ _ _ (by omega) | assumption)); (with_reducible refine hK _ _ ?_)) | ((with_reducible apply store_x); (· (repeat (first | with_reducible exact Upd.one | with_reducible apply Upd.next))); (· (first | (rw [ld_len]; omega) | (rw [List.length_replicate]; omega) | (rw [St.list_len]; omega) | (rw [odd_len]; omega) | (rw [spr_len]; omega) | (rw [mix_len _ _ _ (by omega)]; omega))); (with_reducible refine hK _ _ ?_)) | ((with_reducible apply load_box); (· (repeat (first | with_reducible exact Lies.one | with_reducible apply Lies.next))); (with_reducible refine hK _ _ ?_)) | ((with_reducible apply load_one); (· (repeat (first | with_reducible exact Lies.one | with_reducible apply Lies.next))); (· exact rfl); (with_reducible refine hK _ _ ?_)) | ((with_reducible apply store_box); (· exact trivial); (· (repeat (first | with_reducible exact Upd.one | with_reducible apply Upd.next))); (with_reducible refine hK _ _ ?_)) | ((with_reducible apply store_one); (· exact trivial); (· (repeat (first | with_reducible exact Upd.one | with_reducible apply Upd.next))); (· simp); (with_reducible refine hK _ _ ?_))); clear hK K)); exact hK0⟩) : drawW P n ops K p L S := h.out K k
variable {K : Cont} {D : List Nat} {id : Nat}
theorem regv_to (k : runW P n l.toArray (K .normal D) l' L' S') (h : Runs P n l.toArray l L S l' L' S' := by exact ⟨fun K0 hK0 => by (repeat ((with_reducible refine run_cons fun K hK => ?_); (try simp only [gos, gob, Nat.reduceBEq, if_true, reduceIte, reduceCtorEq, Nat.reduceLT, Nat.reduceEqDiff, Nat.reduceAdd, Nat.reduceSub, Int.reduceLT, Int.reduceLE, Int.reduceBEq, Int.reduceBNe, Int.reduceToNat, Int.reduceAdd, Int.reduceSub, Int.reduceMul, Int.reduceDiv, Int.reduceMod, Int.reducePow, Int.toNat_natCast, Nat.sub_zero]); (try (simp (disch := omega) only [gow, gobw]; try simp only [gos, gob, Nat.reduceBEq, if_true, reduceIte, reduceCtorEq, Nat.reduceLT, Nat.reduceEqDiff, Nat.reduceAdd, Nat.reduceSub, Int.reduceLT, Int.reduceLE, Int.reduceBEq, Int.reduceBNe, Int.reduceToNat, Int.reduceAdd, Int.reduceSub, Int.reduceMul, Int.reduceDiv, Int.reduceMod, Int.reducePow, Int.toNat_natCast, Nat.sub_zero])); (first | (with_reducible refine hK _ _ ?_) | ((with_reducible apply load_w); (· (repeat (first | with_reducible exact Lies.one | with_reducible exact Lies.here (by assumption) | with_reducible apply Lies.next))); (· (first | (rw [ld_len]; omega) | (rw [List.length_replicate]; omega) | (rw [St.list_len]; omega) | (rw [odd_len]; omega) | (rw [spr_len]; omega) | (rw [mix_len _ _ _ (by omega)]; omega))); (with_reducible refine hK _ _ ?_)) | ((with_reducible apply load_x); (· (repeat (first | with_reducible exact Lies.one | with_reducible exact Lies.here (by assumption) | with_reducible apply Lies.next))); (· (first | (rw [ld_len]; omega) | (rw [List.length_replicate]; omega) | (rw [St.list_len]; omega) | (rw [odd_len]; omega) | (rw [spr_len]; omega) | (rw [mix_len _ _ _ (by omega)]; omega))); (with_reducible refine hK _ _ ?_)) | ((with_reducible apply store_x); (· (repeat (first | with_reducible exact Upd.one | with_reducible apply Upd.next))); (· (first | (rw [ld_len]; omega) | (rw [List.length_replicate]; omega) | (rw [St.list_len]; omega) | (rw [odd_len]; omega) | (rw [spr_len]; omega) | (rw [mix_len _ _ _ (by omega)]; omega))); (with_reducible refine hK _ _ ?_)) | ((with_reducible apply store_w); (· (repeat (first | with_reducible exact Upd.one | with_reducible apply Upd.next))); (· (first | (rw [ld_len]; omega) | (rw [List.length_replicate]; omega) | (rw [St.list_len]; omega) | (rw [odd_len]; omega) | (rw [spr_len]; omega) | (rw [mix_len _ _ _ (by omega)]; omega))); (with_reducible refine hK _ _ ?_)) | ((with_reducible apply load_box); (· (repeat (first | with_reducible exact Lies.one | with_reducible apply Lies.next))); (with_reducible refine hK _ _ ?_)) | ((with_reducible apply load_one); (· (repeat (first | with_reducible exact Lies.one | with_reducible apply Lies.next))); (· exact rfl); (with_reducible refine hK _ _ ?_)) | ((with_reducible apply store_box); (· exact trivial); (· (repeat (first | with_reducible exact Upd.one | with_reducible apply Upd.next))); (with_reducible refine hK _ _ ?_))); clear hK K)); exact hK0⟩) : CodeW P n ro (.region id l.toArray false) K D L S := code_reg (h.out _ k)
theorem regh_to (k : runW P n l.toArray (K .normal D) l' L' S') (h : Runs P n l.toArray l L S l' L' S' := by exact ⟨fun K0 hK0 => by (repeat ((with_reducible refine run_cons fun K hK => ?_); (try simp only [gos, gob, Nat.reduceBEq, if_true, reduceIte, reduceCtorEq, Nat.reduceLT, Nat.reduceEqDiff, Nat.reduceAdd, Nat.reduceSub, Int.reduceLT, Int.reduceLE, Int.reduceBEq, Int.reduceBNe, Int.reduceToNat, Int.reduceAdd, Int.reduceSub, Int.reduceMul, Int.reduceDiv, Int.reduceMod, Int.reducePow, Int.toNat_natCast, Nat.sub_zero]); (try (simp (disch := omega) only [gow, gobw]; try simp only [gos, gob, Nat.reduceBEq, if_true, reduceIte, reduceCtorEq, Nat.reduceLT, Nat.reduceEqDiff, Nat.reduceAdd, Nat.reduceSub, Int.reduceLT, Int.reduceLE, Int.reduceBEq, Int.reduceBNe, Int.reduceToNat, Int.reduceAdd, Int.reduceSub, Int.reduceMul, Int.reduceDiv, Int.reduceMod, Int.reducePow, Int.toNat_natCast, Nat.sub_zero])); (first | (with_reducible refine hK _ _ ?_) | ((with_reducible apply load_h8); (· (repeat (first | with_reducible exact Lies.one | with_reducible apply Lies.next))); (· (first | exact St.list_len _ | exact ld_len _ _ | exact mix_len _ _ _ (by omega) | assumption)); (with_reducible refine hK _ _ ?_)) | ((with_reducible apply load_h9); (· (repeat (first | with_reducible exact Lies.one | with_reducible apply Lies.next))); (· (first | exact St.list_len _ | exact ld_len _ _ | exact mix_len _ _ _ (by omega) | assumption)); (with_reducible refine hK _ _ ?_)) | ((with_reducible apply load_x); (· (repeat (first | with_reducible exact Lies.one | with_reducible exact Lies.here (by assumption) | with_reducible apply Lies.next))); (· (first | (rw [ld_len]; omega) | (rw [List.length_replicate]; omega) | (rw [St.list_len]; omega) | (rw [odd_len]; omega) | (rw [spr_len]; omega) | (rw [mix_len _ _ _ (by omega)]; omega))); (with_reducible refine hK _ _ ?_)) | ((with_reducible apply store_h8); (· exact trivial); (· (repeat (first | with_reducible exact Upd.one | with_reducible apply Upd.next))); (· (first | exact St.list_len _ | exact ld_len _ _ | exact mix_len _ _ _ (by omega) | assumption)); (with_reducible refine hK _ _ ?_)) | ((with_reducible apply store_h9); (· exact trivial); (· (repeat (first | with_reducible exact Upd.one | with_reducible apply Upd.next))); (· (first | exact St.list_len _ | exact ld_len _ _ | exact mix_len _ _ _ (by omega) | assumption)); (with_reducible refine hK _ _ ?_)) | ((with_reducible apply store_x); (· (repeat (first | with_reducible exact Upd.one | with_reducible apply Upd.next))); (· (first | (rw [ld_len]; omega) | (rw [List.length_replicate]; omega) | (rw [St.list_len]; omega) | (rw [odd_len]; omega) | (rw [spr_len]; omega) | (rw [mix_len _ _ _ (by omega)]; omega))); (with_reducible refine hK _ _ ?_)) | ((with_reducible apply load_box); (· (repeat (first | with_reducible exact Lies.one | with_reducible apply Lies.next))); (with_reducible refine hK _ _ ?_)) | ((with_reducible apply load_one); (· (repeat (first | with_reducible exact Lies.one | with_reducible apply Lies.next))); (· exact rfl); (with_reducible refine hK _ _ ?_)) | ((with_reducible apply store_box); (· exact trivial); (· (repeat (first | with_reducible exact Upd.one | with_reducible apply Upd.next))); (with_reducible refine hK _ _ ?_)) | ((with_reducible apply store_one); (· exact trivial); (· (repeat (first | with_reducible exact Upd.one | with_reducible apply Upd.next))); (· simp); (with_reducible refine hK _ _ ?_))); clear hK K)); exact hK0⟩) : CodeW P n ro (.region id l.toArray false) K D L S := code_reg (h.out _ k)
theorem pendv {a b : Prop} (k : b) (h : a := by (first | exact trivial | ((with_reducible apply load_w); (· (repeat (first | with_reducible exact Lies.one | with_reducible exact Lies.here (by assumption) | with_reducible apply Lies.next))); (· (first | (rw [ld_len]; omega) | (rw [List.length_replicate]; omega) | (rw [St.list_len]; omega) | (rw [odd_len]; omega) | (rw [spr_len]; omega) | (rw [mix_len _ _ _ (by omega)]; omega))); (· exact rfl)) | ((with_reducible apply load_x); (· (repeat (first | with_reducible exact Lies.one | with_reducible exact Lies.here (by assumption) | with_reducible apply Lies.next))); (· (first | (rw [ld_len]; omega) | (rw [List.length_replicate]; omega) | (rw [St.list_len]; omega) | (rw [odd_len]; omega) | (rw [spr_len]; omega) | (rw [mix_len _ _ _ (by omega)]; omega))); (· exact rfl)) | ((with_reducible apply load_box); (· (repeat (first | with_reducible exact Lies.one | with_reducible apply Lies.next))); (· exact rfl)) | ((with_reducible apply load_one); (· (repeat (first | with_reducible exact Lies.one | with_reducible apply Lies.next))); (· exact rfl); (· exact rfl)))) : a ∧ b := ⟨h, k⟩
theorem pendh {a b : Prop} (k : b) (h : a := by (first | ((with_reducible apply load_h8); (· (repeat (first | with_reducible exact Lies.one | with_reducible apply Lies.next))); (· (first | exact St.list_len _ | exact ld_len _ _ | exact mix_len _ _ _ (by omega) | assumption)); (· exact rfl)) | ((with_reducible apply load_h9); (· (repeat (first | with_reducible exact Lies.one | with_reducible apply Lies.next))); (· (first | exact St.list_len _ | exact ld_len _ _ | exact mix_len _ _ _ (by omega) | assumption)); (· exact rfl)) | ((with_reducible apply load_box); (· (repeat (first | with_reducible exact Lies.one | with_reducible apply Lies.next))); (· exact rfl)) | exact trivial)) : a ∧ b := ⟨h, k⟩
end steps

end Go.Sha

/- From a contract of the kit's shelf to one over chunks. Conditions: as each says. -/
set_option linter.unusedSimpArgs false
set_option linter.unusedVariables false
namespace Go.Ost
open Go Go.RowKit

variable {P : Program}

/-- The chunk is one block, that may be written over so many cells. -/
def Loose (C : Chunk) (a : Option Addr) (n : Nat) : Prop := 0 < n → ∃ b cs e lo hi, a = some ⟨b, 0, none⟩ ∧ C = [(b, .cells cs e (lo, hi))] ∧ ∀ i, i < n → ¬ (lo ≤ i ∧ i < hi)
/-- A slice of bytes that is new, beside R. -/
def Got8 (bs : List UInt8) (R : State) (v : Value) (A : State) : Prop := ∃ C a cap, v = .slice a bs.length cap ∧ bs.length ≤ cap ∧ Rd 1 [C] a bs.length (bs.map b8) ∧ Loose C a bs.length ∧ A = C :: R

theorem meets_of_calls {f : FuncId} {fn : Func} {args : List Value} {A : State} {R : Value → State → Prop} (hf : P.funcs[f]? = some fn) (hb : fn.body.isSome = true) (hn : (fn.name != "runtime.NumGoroutine") = true)
    (h : ∀ w, Hold w A → Calls P f args.toArray w fun e w' => ∃ v, e = .returned v ∧ Below w.heap.size w w' ∧ ∃ C : Chunk, (∀ k o, (k, o) ∈ C → w.heap.size ≤ k ∧ w'.heap[k]? = some o) ∧ (C.map (·.1)).Nodup ∧ R v (C :: A)) : Meets P f args A R := by
  refine ⟨?_, fun F w hw => ?_⟩
  · obtain ⟨c, hc⟩ := Option.isSome_iff_exists.1 hb
    simp [callable, hf, hc]; simpa using hn
  · have hA : Hold w A := hw.sub (by simp)
    refine (callsIn_wide.2 (h w hA)).mono ?_
    rintro e w' ⟨v, rfl, hbe, C, hC, hnd, hR⟩
    refine ⟨v, F :: C :: A, rfl, ⟨hbe.os, hbe.tape, hbe.output, hbe.size⟩, ?_, C :: A, rfl, hR⟩
    have hall : Hold w' (C :: F :: A) := by
      refine ⟨?_, fun k o hm => ?_⟩
      · simp only [List.flatten_cons, List.map_append]
        rw [List.nodup_append]
        refine ⟨hnd, by have := hw.nd; simpa only [List.flatten_cons, List.map_append] using this, ?_⟩
        intro x hx y hy hxy
        obtain ⟨⟨k, o⟩, hk, rfl⟩ := List.mem_map.1 hx
        have h1 := (hC k o hk).1
        have hy' : y ∈ ((F :: A).flatten.map (·.1)) := by simpa only [List.flatten_cons, List.map_append] using hy
        obtain ⟨⟨k2, o2⟩, hk2, e2⟩ := List.mem_map.1 hy'
        have h2 := hw.lt hk2
        simp only at e2 hxy
        omega
      · simp only [List.flatten_cons, List.mem_append] at hm
        rcases hm with hm | hm
        · exact (hC k o hm).2
        · have hm' : (k, o) ∈ (F :: A).flatten := by simpa only [List.flatten_cons, List.mem_append] using hm
          rw [hbe.block k (hw.lt hm')]
          exact hw.get k o hm'
    exact hall.perm (by
      simp only [List.flatten_cons]
      rw [← List.append_assoc, ← List.append_assoc]
      exact List.Perm.append_right _ List.perm_append_comm)

theorem fresh_chunk {B : Nat} {w' : World} {v : Value} {l : List UInt8} (h : Lib.FreshBytes B w' v l) :
    ∃ C a cap, v = .slice a l.length cap ∧ l.length ≤ cap ∧ (∀ k o, (k, o) ∈ C → B ≤ k ∧ w'.heap[k]? = some o) ∧ (C.map (·.1)).Nodup ∧ Rd 1 [C] a l.length (l.map b8) ∧ Loose C a l.length := by
  obtain ⟨g, cap, zs, rfl, hg, hle, _, hz, hr, hb, hc, hf⟩ := h
  by_cases h0 : l.length = 0
  · have : l = [] := List.length_eq_zero_iff.1 h0
    subst this
    exact ⟨[], _, cap, rfl, hle, fun k o hm => (by cases hm), by simp, Rd.nil, fun h => absurd h (by simp)⟩
  · have hc0 := hc 0 (by omega)
    unfold World.cell? at hc0
    cases hob : w'.heap[g]? with
    | none => simp [hob] at hc0
    | some ob =>
      cases ob with
      | cells cs e m =>
        obtain ⟨lo, hi⟩ := m
        refine ⟨[(g, .cells cs e (lo, hi))], _, cap, rfl, hle, fun k o hm => ?_, by simp, ⟨by simp, fun _ => ⟨g, 0, cs, e, (lo, hi), rfl, Lies.one, fun i hi' => ?_⟩⟩, fun _ => ⟨g, cs, e, lo, hi, rfl, rfl, fun i hi' => ?_⟩⟩
        · simp only [List.mem_singleton, Prod.mk.injEq] at hm
          obtain ⟨rfl, rfl⟩ := hm
          exact ⟨hg, hob⟩
        · simp only [List.length_map] at hi'
          have h1 := hc i (by omega)
          unfold World.cell? at h1
          simp only [hob, Option.isSome_none, Bool.false_eq_true, if_false] at h1
          rw [Nat.zero_add, h1]
          have h2 : l[i]? = some (UInt8.ofNat (zs.getD i 0).toNat) := by
            rw [← hb]
            simp only [Lib.bytesOf, List.getElem?_map, List.getElem?_take, if_pos hi']
            rw [List.getElem?_eq_getElem (by omega), List.getD, List.getElem?_eq_getElem (by omega)]; rfl
          have h3 := hr (zs.getD i 0) (by
            rw [List.getD, List.getElem?_eq_getElem (by omega)]
            exact List.getElem_mem _)
          rw [List.getElem?_map, h2]
          simp only [Option.map_some, b8, UInt8.toNat_ofNat']
          congr 2; omega
        · have h1 := hf i (by omega)
          unfold World.frozen? at h1
          simp only [hob] at h1
          intro hlt
          simp [hlt.1, hlt.2] at h1
      | _ => simp [hob] at hc0

/-- Slices of bytes in a row. -/
def Parts (A : State) (a : Option Addr) (n : Nat) (ls : List (List UInt8)) : Prop :=
  ls.length = n ∧ ∃ vs : List Value, Rd 1 A a n vs ∧ ∀ (i : Nat) (v : Value) (l : List UInt8), vs[i]? = some v → ls[i]? = some l → ∃ p c, v = .slice p l.length c ∧ l.length ≤ c ∧ Rd 1 A p l.length (l.map b8)

theorem rd_cell {S : State} {a : Option Addr} {len : Nat} {us : List Value} (h : Rd 1 S a len us) {w : World} (hw : Hold w S) {i : Nat} {v : Value} (hi : us[i]? = some v) : ∃ b o, a = some ⟨b, o, none⟩ ∧ w.cell? ⟨b, o + i, none⟩ = some v := by
  have hlt := (List.getElem?_eq_some_iff.1 hi).1
  obtain ⟨b, o, cs, e, m, rfl, hl, hc⟩ := h.2 (by intro e; subst e; simp at hi)
  exact ⟨b, o, rfl, by rw [cell_of (hl.get hw), hc i hlt, hi]⟩
theorem holds_of {S : State} {p : Option Addr} {c : Nat} {l : List UInt8} (h : Rd 1 S p l.length (l.map b8)) {w : World} (hw : Hold w S) : Lib.HoldsBytes w (.slice p l.length c) l := by
  refine ⟨p, c, rfl, fun hp => ?_, fun a ha i x hx => ?_⟩
  · subst hp
    cases l with
    | nil => rfl
    | cons x l => obtain ⟨_, _, _, _, _, h3, _⟩ := h.2 (by simp); cases h3
  · obtain ⟨b, o, e, hc⟩ := rd_cell h hw (i := i) (v := b8 x) (by simp [hx])
    subst ha
    cases e
    rw [add_mk]
    exact hc

/-- The same blocks, otherwise in chunks. -/
theorem Meets.perm {f : FuncId} {args : List Value} {A B : State} {R R' : Value → State → Prop} (h : Meets P f args A R) (hAB : B.flatten.Perm A.flatten) (hR : ∀ v A', R v A' → ∃ B', A'.flatten.Perm B'.flatten ∧ R' v B') : Meets P f args B R' := by
  refine ⟨h.1, fun F w hw => (h.2 F w (hw.perm (by simp only [List.flatten_cons]; exact hAB.append_left F))).mono ?_⟩
  rintro e w' ⟨v, S, rfl, he, hh, A', rfl, hr⟩
  obtain ⟨B', hp, hr'⟩ := hR v A' hr
  exact ⟨v, F :: B', rfl, he, hh.perm (by simp only [List.flatten_cons]; exact hp.append_left F), B', rfl, hr'⟩

end Go.Ost

/- Ranges over functions whose elements lie in the iterator's own memory, which the loop's body may read. Conditions: none. -/
set_option linter.unusedSimpArgs false
set_option linter.unusedVariables false
namespace Go.Ost
open Go

variable {P : Program} {n : Nat} {α : Type}

def Sh (H : Chunk) (J : Chunk → Prop) (C : Chunk) : Prop := ∃ C0, C = C0 ++ H ∧ J C0
def ShS (H : Chunk) (I : State → Prop) (C : State) : Prop := ∃ C0, C = C0 ++ [H] ∧ I C0

/-- An iterator's contract: as before, and what the element x points to lies in the chunk sh x. -/
structure IMeetsS (P : Program) (f : FuncId) (first captured : List Value) (encs : α → List Value) (sh : α → Chunk) (A : State) (Next : List α → α → Prop) (Done : List α → Prop) (inf : Bool) : Prop where
  able : callable P f = true
  out : ∀ (l : Nat) (J Jx : List α → Chunk → Prop), (inf = true → ∃ N, N ≤ 4611686018427387904 ∧ ∀ pre C, J pre C → pre.length ≤ N) →
    (∀ pre x, Next pre x → YMeets P l (encs x) (Sh (sh x) (J pre)) (Sh (sh x) (J (pre ++ [x]))) (Sh (sh x) (Jx (pre ++ [x])))) →
    ∀ C, J [] C → ∀ (F : Chunk) (w : World), Hold w (F :: C :: A) → CallsIn (FW none) 0 P f (first ++ [Value.func (.yield l) #[] #[]] ++ captured).toArray w
      (EndsW w fun _ S => ∃ C', S = F :: C' :: A ∧ ((∃ pre, Done pre ∧ J pre C') ∨ (∃ pre x, Next pre x ∧ Jx (pre ++ [x]) C')))

theorem iter_introS {f : FuncId} {first captured : List Value} {encs : α → List Value} {sh : α → Chunk} {A : State} {Next : List α → α → Prop} {Done : List α → Prop} {inf : Bool} (ha : callable P f = true)
    (h : ∀ (l : Nat) (J Jx : List α → Chunk → Prop), (inf = true → ∃ N, N ≤ 4611686018427387904 ∧ ∀ pre C, J pre C → pre.length ≤ N) → (∀ pre x, Next pre x → YMeets P l (encs x) (Sh (sh x) (J pre)) (Sh (sh x) (J (pre ++ [x]))) (Sh (sh x) (Jx (pre ++ [x])))) →
      ∀ C, J [] C → Meets P f (first ++ [Value.func (.yield l) #[] #[]] ++ captured) (C :: A) fun _ S => ∃ C', S = C' :: A ∧ ((∃ pre, Done pre ∧ J pre C') ∨ (∃ pre x, Next pre x ∧ Jx (pre ++ [x]) C'))) :
    IMeetsS P f first captured encs sh A Next Done inf :=
  ⟨ha, fun l J Jx hN hY C hC F w hw => ((h l J Jx hN hY C hC).out F w hw).mono fun e w' ⟨v, S, a, b, c, A', d, C', e', r⟩ => ⟨v, S, a, b, c, C', by rw [d, e'], r⟩⟩

theorem yield_meetsS {l : Nat} {args : List Value} {Jin Jout Jstop : Chunk → Prop} {S G : State} {C H : Chunk} {κ : Value → State → Prop} (h : YMeets P l args (Sh H Jin) (Sh H Jout) (Sh H Jstop)) (hC : Jin C) (ht : Take [C, H] S G)
    (k1 : ∀ C', Jout C' → κ (.bool true) (C' :: H :: G)) (k2 : ∀ C', Jstop C' → κ (.bool false) (C' :: H :: G)) : YieldW P l args.toArray S κ := by
  refine ⟨fun w hw => ?_⟩
  have h1 := h.out (C ++ H) ⟨C, rfl, hC⟩ G.flatten w (hw.perm (ht.perm.trans (by simp only [List.flatten_append, List.flatten_cons, List.flatten_nil, List.append_nil]; exact List.perm_append_comm)))
  obtain ⟨fn, tm, asg, bd, hr, hR⟩ := h1
  refine ⟨fn, tm, asg, bd, hr, hR.mono ?_⟩
  rintro e w' ⟨v, S', rfl, he, hh, b, C', rfl, rfl, j1, j2⟩
  cases b
  · obtain ⟨C0, rfl, hJ⟩ := j2 rfl
    exact ⟨.bool false, C0 :: H :: G, rfl, he, hh.perm (by simp only [List.flatten_cons, List.flatten_nil, List.append_nil]; rw [← List.append_assoc C0 H]; exact List.perm_append_comm), k2 C0 hJ⟩
  · obtain ⟨C0, rfl, hJ⟩ := j1 rfl
    exact ⟨.bool true, C0 :: H :: G, rfl, he, hh.perm (by simp only [List.flatten_cons, List.flatten_nil, List.append_nil]; rw [← List.append_assoc C0 H]; exact List.perm_append_comm), k1 C0 hJ⟩

theorem YMeets.swap {l : Nat} {args : List Value} {Ji Jo Jx Ki Ko Kx : Chunk → Prop} (h : YMeets P l args Ji Jo Jx) (h1 : ∀ C, Ki C → Ji C) (h2 : ∀ C, Jo C → Ko C) (h3 : ∀ C, Jx C → Kx C) : YMeets P l args Ki Ko Kx := by
  refine ⟨fun C hC F w hw => ?_⟩
  obtain ⟨fn, tm, asg, bd, hr, hR⟩ := h.out C (h1 C hC) F w hw
  refine ⟨fn, tm, asg, bd, hr, hR.mono ?_⟩
  rintro e w' ⟨v, S', rfl, he, hh, b, C', hv, hS, j1, j2⟩
  exact ⟨_, _, rfl, he, hh, b, C', hv, hS, fun hb => h2 _ (j1 hb), fun hb => h3 _ (j2 hb)⟩

/-- The core of both rules: the record l (and whatever else is new) lies; the iterator is called. -/
theorem range_coreS {ro : Option Nat} {fn : FuncId} {t : Array Value} {ps : Array Tmp} {assign body : Code} {dB l : Nat} {L : Env} {f : FuncId} {first captured : List Value} {encs : α → List Value} {sh : α → Chunk} {A C0 M : State}
    {Next : List α → α → Prop} {Done : List α → Prop} {inf : Bool} {Q : Exit → Act → World → Prop} {a' : Act} {w w1 : World}
    (hit : IMeetsS P f first captured encs sh A Next Done inf) (I : List α → State → Prop) (Ix : Code → List α → State → Prop)
    (hinf : inf = true → ∃ N, N ≤ 4611686018427387904 ∧ ∀ pre C, I pre C → pre.length ≤ N) (hag : Agree n L [] { tmps := t, defers := [] }) (hps : ∀ x, (encs x).length = ps.size) (h0 : I [] C0) (he : Ext w w1)
    (hw1 : Hold w1 ([(l, .loop { state := .ready, pending := none, fn, tmps := t, params := ps, assign, body, defers := dB })] :: M ++ C0 ++ A))
    (hround : ∀ (F : Chunk) (C : State) (r : Loop) (pre : List α) (x : α), Next pre x → I pre C → CodeW P n (some l) assign (assignK P n l r body F (ShS (sh x) (I (pre ++ [x]))) (fun c => ShS (sh x) (Ix c (pre ++ [x])))) [] (putAll n ps.toList (encs x) L) ([(l, .loop r)] :: F :: (C ++ [sh x])))
    (hdone : ∀ (pre : List α) (C : State) (w2 : World), Done pre → I pre C → Ext w w2 → Hold w2 (M ++ C ++ A) → Q .normal a' w2)
    (hstop : ∀ (c : Code) (pre : List α) (x : α) (C : State) (w2 : World), Next pre x → Ix c (pre ++ [x]) C → Ext w w2 → Hold w2 (M ++ C ++ A) → c.wpIn (FW ro) 0 P Q a' w2) :
    CallsIn (FW none) 0 P f (first ++ [Value.func (.yield l) #[] #[]] ++ captured).toArray w1 (rangePost (FW ro) 0 P l Q a') := by
  have h1 := hit.out l (fun pre C => ∃ C1 : State, C = (l, .loop { state := .ready, pending := none, fn, tmps := t, params := ps, assign, body, defers := dB }) :: C1.flatten ∧ I pre C1)
    (fun pre C => ∃ (c : Code) (C1 : State), C = (l, .loop { state := .done, pending := some c, fn, tmps := t, params := ps, assign, body, defers := dB }) :: C1.flatten ∧ Ix c pre C1)
    (fun h => let ⟨N, hN0, hN⟩ := hinf h; ⟨N, hN0, fun pre C ⟨C1, _, hI⟩ => hN pre C1 hI⟩)
    (fun pre x hx => (round_meets (fn := fn) (t := t) (ps := ps) (assign := assign) (body := body) (dB := dB) (I := ShS (sh x) (I pre)) (Iout := ShS (sh x) (I (pre ++ [x]))) (Ix := fun c => ShS (sh x) (Ix c (pre ++ [x]))) hag (hps x) fun F C r _ ⟨C0, hC0, hI⟩ => by rw [hC0]; exact hround F C0 r pre x hx hI).swap
      (fun C hC => by obtain ⟨C0, h1, C1, h2, h3⟩ := hC; exact ⟨C1 ++ [sh x], by rw [h1, h2]; simp, C1, rfl, h3⟩)
      (fun C hC => by obtain ⟨C0, h1, C1, h2, h3⟩ := hC; exact ⟨_, by rw [h1, h2, List.flatten_append, ← List.cons_append]; simp only [List.flatten_cons, List.flatten_nil, List.append_nil], C1, rfl, h3⟩)
      (fun C hC => by obtain ⟨c, C0, h1, C1, h2, h3⟩ := hC; exact ⟨_, by rw [h1, h2, List.flatten_append, ← List.cons_append]; simp only [List.flatten_cons, List.flatten_nil, List.append_nil], c, C1, rfl, h3⟩)) _ ⟨C0, rfl, h0⟩ M.flatten w1
    (hw1.perm (by
      simp only [List.flatten_append, List.flatten_cons, List.cons_append, List.append_assoc, List.nil_append]
      exact List.perm_middle.symm))
  refine h1.mono ?_
  rintro e w2 ⟨v, S, rfl, he2, hh, C', rfl, (⟨pre, hd, C1, rfl, hI⟩ | ⟨pre, x, hx, c, C1, rfl, hI⟩)⟩
  · have hw2 : Hold w2 ([(l, .loop { state := .ready, pending := none, fn, tmps := t, params := ps, assign, body, defers := dB })] :: (M ++ C1 ++ A)) := hh.perm (by
      simp only [List.flatten_append, List.flatten_cons, List.cons_append, List.append_assoc, List.nil_append]
      exact List.perm_middle)
    have hl2 : w2.heap[l]? = some (.loop { state := .ready, pending := none, fn, tmps := t, params := ps, assign, body, defers := dB }) := hw2.get l _ (by simp)
    refine ⟨none, _, run_endLoop (P := P) hl2 (by simp), hdone pre C1 _ hd hI ((he.trans he2).trans (put_ext _ _ _)) ?_⟩
    exact (put_hold hw2).sub (by simp)
  · have hw2 : Hold w2 ([(l, .loop { state := .done, pending := some c, fn, tmps := t, params := ps, assign, body, defers := dB })] :: (M ++ C1 ++ A)) := hh.perm (by
      simp only [List.flatten_append, List.flatten_cons, List.cons_append, List.append_assoc, List.nil_append]
      exact List.perm_middle)
    have hl2 : w2.heap[l]? = some (.loop { state := .done, pending := some c, fn, tmps := t, params := ps, assign, body, defers := dB }) := hw2.get l _ (by simp)
    refine ⟨some c, _, run_endLoop (P := P) hl2 (by simp), hstop c pre x C1 _ hx hI ((he.trans he2).trans (put_ext _ _ _)) ?_⟩
    exact (put_hold hw2).sub (by simp)

/-- 'for .. := range f { .. }', in no other such loop's body. -/
theorem code_rangeS {g : Operand} {ps : Array Tmp} {assign body : Code} {K : Cont} {D : List Nat} {L : Env} {S A C0 : State} {f : FuncId} {first captured : Array Value} {encs : α → List Value} {sh : α → Chunk}
    {Next : List α → α → Prop} {Done : List α → Prop} {inf : Bool} (hg : evT L g = some (.func (.func f) first captured)) (hit : IMeetsS P f first.toList captured.toList encs sh A Next Done inf)
    (ht : Take A S C0) (I : List α → State → Prop) (Ix : Code → List α → State → Prop) (hinf : inf = true → ∃ N, N ≤ 4611686018427387904 ∧ ∀ pre C, I pre C → pre.length ≤ N) (hps : ∀ x, (encs x).length = ps.size) (h0 : I [] C0)
    (hround : ∀ (l : Nat) (F : Chunk) (C : State) (r : Loop) (pre : List α) (x : α), Next pre x → I pre C → CodeW P n (some l) assign (assignK P n l r body F (ShS (sh x) (I (pre ++ [x]))) (fun c => ShS (sh x) (Ix c (pre ++ [x])))) [] (putAll n ps.toList (encs x) L) ([(l, .loop r)] :: F :: (C ++ [sh x])))
    (hdone : ∀ (d : Nat) (pre : List α) (C : State), Done pre → I pre C → K .normal (d :: D) L ([(d, .deferred (some []))] :: (C ++ A)))
    (hstop : ∀ (d : Nat) (c : Code) (pre : List α) (x : α) (C : State), Next pre x → Ix c (pre ++ [x]) C → CodeW P n none c K (d :: D) L ([(d, .deferred (some []))] :: (C ++ A))) :
    CodeW P n none (.rangeFunc g ps assign body) K D L S := by
  refine ⟨fun a w ha hw => wpIn_rangeFunc fun fn _ => ?_⟩
  obtain ⟨W1, hW1⟩ : ∃ W1 : World, W1 = (w.alloc (.deferred (some []))).alloc (.loop { state := .ready, pending := none, fn, tmps := a.tmps, params := ps, assign, body, defers := w.heap.size }) := ⟨_, rfl⟩
  refine ⟨w.heap.size + 1, [markD w.heap.size], W1,
    { target := .fn (.func f) captured, args := first ++ #[.func (.yield (w.heap.size + 1)) #[] #[]] }, W1, f, (first.toList ++ [Value.func (.yield (w.heap.size + 1)) #[] #[]] ++ captured.toList).toArray, W1,
    by rw [hW1]; exact run_enterLoop_outer fn a.tmps ps assign body, ?_, fun _ _ => trivial, ?_, fun h => (by cases h), ?_⟩
  · simp only [resolve, ha.ev hg]
    simp [Deferred.ofValue, Act.eval]
  · simp only [invoke]
    rw [enters_able hit.able]
    congr 2
    apply Array.ext'; simp
  · have e1 : (w.alloc (.deferred (some []))).heap = w.heap.push (.deferred (some [])) := rfl
    have hw1 := hw.new (w' := w.alloc (.deferred (some []))) (o := .deferred (some [])) rfl
    have hw2 := hw1.new (w' := (w.alloc (.deferred (some []))).alloc (.loop { state := .ready, pending := none, fn, tmps := a.tmps, params := ps, assign, body, defers := w.heap.size })) rfl
    rw [World.size_alloc, ← hW1] at hw2
    refine range_coreS (n := n) (L := L) (dB := w.heap.size) (t := a.tmps) (fn := fn) (C0 := C0) (M := [[(w.heap.size, .deferred (some []))]]) (w := w) hit I Ix hinf ⟨ha.size, ha.get, rfl⟩ hps h0
      (by rw [hW1]; exact ⟨rfl, rfl, rfl, by simp only [World.size_alloc]; omega⟩) ?_ (fun F C r pre x hx hI => hround _ F C r pre x hx hI) ?_ ?_
    · refine hw2.perm ?_
      simp only [List.flatten_append, List.flatten_cons, List.cons_append, List.append_assoc, List.nil_append, List.flatten_nil]
      refine List.Perm.cons _ (List.Perm.cons _ ?_)
      have := ht.perm
      rw [List.flatten_append] at this
      exact this.trans List.perm_append_comm
    · intro pre C w2 hd hI he hh
      exact ⟨_, L, _, hdone w.heap.size pre C hd hI, ⟨ha.size, ha.get, by simp [ha.marks]⟩, he, hh.perm (by simp)⟩
    · intro c pre x C w2 hx hI he hh
      refine wpIn_mono ((hstop w.heap.size c pre x C hx hI).out { a with defers := [markD w.heap.size] ++ a.defers } w2 ⟨ha.size, ha.get, by simp [ha.marks]⟩ (hh.perm (by simp))) fun _ _ _ hq => hq.ext he


end Go.Ost

/- Slices whose elements are slices of bytes. Conditions: as each says. -/
set_option linter.unusedSimpArgs false
set_option linter.unusedVariables false
namespace Go.Ost
open Go

/-- Values that are slices of these bytes. -/
def Vals (B : Chunk) (vs : List Value) (ls : List (List UInt8)) : Prop := vs.length = ls.length ∧ ∀ (i : Nat) (v : Value) (l : List UInt8), vs[i]? = some v → ls[i]? = some l → ∃ p c, v = .slice p l.length c ∧ l.length ≤ c ∧ Rd 1 [B] p l.length (l.map b8)
theorem Vals.wide {B D : Chunk} {vs : List Value} {ls : List (List UInt8)} (h : Vals B vs ls) (hm : ∀ x ∈ B, x ∈ D) : Vals D vs ls :=
  ⟨h.1, fun i v l hv hl => let ⟨p, c, h1, h2, h3⟩ := h.2 i v l hv hl; ⟨p, c, h1, h2, h3.wide hm⟩⟩
theorem Vals.snoc {B : Chunk} {vs : List Value} {ls : List (List UInt8)} (h : Vals B vs ls) {p : Option Addr} {c : Nat} {l : List UInt8} (hc : l.length ≤ c) (hr : Rd 1 [B] p l.length (l.map b8)) : Vals B (vs ++ [.slice p l.length c]) (ls ++ [l]) := by
  refine ⟨by simp [h.1], fun i v l' hv hl => ?_⟩
  have hl1 := h.1
  by_cases hi : i < vs.length
  · rw [List.getElem?_append_left hi] at hv
    rw [List.getElem?_append_left (by omega)] at hl
    exact h.2 i v l' hv hl
  · rw [List.getElem?_append_right (by omega)] at hv hl
    rw [hl1] at hv
    generalize i - ls.length = j at hv hl
    match j, hv, hl with
    | 0, hv, hl => cases hv; cases hl; exact ⟨p, c, rfl, hc, hr⟩
    | j + 1, hv, hl => simp at hv
theorem vals_nil {B : Chunk} : Vals B [] [] := ⟨rfl, fun i v l hv => by simp at hv⟩
theorem vals_cells {B : Chunk} {vs : List Value} {ls : List (List UInt8)} (h : Vals B vs ls) : ∀ v ∈ vs, Value.cell1 v := fun v hv => by
  obtain ⟨i, hi⟩ := List.getElem?_of_mem hv
  have hlt := (List.getElem?_eq_some_iff.1 hi).1
  obtain ⟨p, c, rfl, _⟩ := h.2 i v (ls[i]'(by rw [← h.1]; exact hlt)) hi (List.getElem?_eq_getElem _)
  trivial

theorem parts_mk {e : TypeId} {D B : Chunk} {a : Option Addr} {n cap : Nat} {vs : List Value} {ls : List (List UInt8)} (ho : Own 1 e D a n cap vs) (hv : Vals B vs ls) : Parts [D ++ B] a n ls := by
  have h1 := hv.1
  have h2 : vs.length = n := by have := ho.2.2.1; omega
  exact ⟨by omega, vs, (ho.rd (S := [D]) (by simp)).wide (fun x hx => by simp [hx]), fun i v l h3 h4 => let ⟨p, c, e1, e2, e3⟩ := hv.2 i v l h3 h4; ⟨p, c, e1, e2, e3.wide (fun x hx => by simp [hx])⟩⟩
theorem Rd.wide1 {H : Chunk} {a : Option Addr} {n : Nat} {us : List Value} (D : Chunk) (h : Rd 1 [H] a n us) : Rd 1 [H ++ D] a n us := h.wide (fun x hx => by simp [hx])
theorem Rd.wide2 {H : Chunk} {a : Option Addr} {n : Nat} {us : List Value} (D : Chunk) (h : Rd 1 [H] a n us) : Rd 1 [D ++ H] a n us := h.wide (fun x hx => by simp [hx])

end Go.Ost

/- From a contract to a law's row: all of the world's blocks are as they were. Conditions: as each says. -/
set_option linter.unusedSimpArgs false
set_option linter.unusedVariables false
namespace Go.Ost
open Go Go.ChangeShapes Go.WideShapes Go.ChangeAt Go.RowKit

variable {P : Program}

/-- The blocks of a world. -/
def blocksOf (w : World) : Chunk := (List.range w.heap.size).map fun b => (b, (w.heap[b]?).getD (.deferred (some [])))
theorem blocks_in {w : World} {b : Nat} {o : Obj} (h : w.heap[b]? = some o) : (b, o) ∈ blocksOf w :=
  List.mem_map.2 ⟨b, List.mem_range.2 (Array.getElem?_eq_some_iff.1 h).1, by rw [h]; rfl⟩
theorem blocks_out {w : World} {b : Nat} {o : Obj} (h : (b, o) ∈ blocksOf w) : w.heap[b]? = some o := by
  obtain ⟨c, hc, he⟩ := List.mem_map.1 h
  have hlt := List.mem_range.1 hc
  cases he
  rw [Array.getElem?_eq_getElem hlt]; rfl
theorem hold_blocks (w : World) : Hold w [blocksOf w] := by
  refine ⟨?_, fun b o hm => blocks_out (by simpa using hm)⟩
  have e : (blocksOf w).map (·.1) = List.range w.heap.size := by
    unfold blocksOf
    rw [List.map_map]
    exact (List.map_congr_left fun a _ => rfl).trans (List.map_id _)
  simp only [List.flatten_cons, List.flatten_nil, List.append_nil, e]
  exact List.nodup_range

/-- What a law's contract gives of its call: true, and all that was there as it was. -/
theorem law_calls {f : FuncId} {args : Array Value} (w : World) (h : ∀ C : Chunk, (∀ k o, w.heap[k]? = some o → (k, o) ∈ C) → Meets P f args.toList [C] fun v A => v = .bool true ∧ A = [C]) :
    Calls P f args w fun e w' => e = .returned (.bool true) ∧ Below w.heap.size w w' := by
  have h1 := (h (blocksOf w) fun k o => blocks_in).out [] w (by simpa [List.flatten] using (hold_blocks w).perm (by simp))
  refine callsIn_wide.1 (h1.mono ?_)
  rintro e w' ⟨v, S, rfl, he, hh, A, rfl, rfl, rfl⟩
  refine ⟨rfl, he.os, he.tape, he.output, he.size, fun k hk => ?_⟩
  rw [Array.getElem?_eq_getElem hk]
  exact hh.get _ _ (by simpa using blocks_in (Array.getElem?_eq_getElem hk))

theorem Meets.keep {f : FuncId} {args : List Value} {x : Value} (C : Chunk) (h : Meets P f args [] fun v A => v = x ∧ A = []) : Meets P f args [C] fun v A => v = x ∧ A = [C] := by
  refine ⟨h.1, fun F w hw => (h.2 (F ++ C) w (hw.perm (by simp))).mono ?_⟩
  rintro e w' ⟨v, S, rfl, he, hh, A, rfl, rfl, rfl⟩
  exact ⟨_, _, rfl, he, hh.perm (T := [F, C]) (by simp), _, rfl, rfl, rfl⟩

/-- A slice of numbers, as the reading ahead of the call has it: its block lies in C. -/
def Row (C : Chunk) (k : IntKind) (v : Value) (zs : List Int) : Prop :=
  (∀ z ∈ zs, (Lit.int k z).wf = true) ∧ ∃ a len cap, v = .slice a len cap ∧ len ≤ cap ∧ cap ≤ maxLen ∧ zs.length = len ∧
    (0 < len → ∃ b o cs e m, a = some ⟨b, o, none⟩ ∧ (b, Obj.cells cs e m) ∈ C ∧ ∀ i, i < len → cs[o + i]? = some (.int k (zs.getD i 0)))

theorem open_slc {H : Type} {enc : TypeId × Value → H} {W : World} {base : Nat} {t e : TypeId} {k : IntKind} {v : Value} {d : DataW H} {ps : List MemPlace} (ht : P.underlying t = some (.slice e)) (he : P.underlying e = some (.int k)) (hc : P.cellsOf e = 1)
    (hval : Value.okWide P W .any base t v) (h : DataW.Trod enc P W 0 (fun _ => true) true t v d ps) :
    ∃ zs, ∀ C : Chunk, (∀ k o, W.heap[k]? = some o → (k, o) ∈ C) → Row C k v zs := by
  obtain ⟨a0, len0, cap0, rfl⟩ := okWide_slice ht hval
  obtain ⟨fuel, hf⟩ := h
  rcases open_ints ht he hc hf with ⟨hcs, hx⟩ | ⟨a, len, cap, zs, hcs, _, hle, hmax, hall, hx, hcell, hwf⟩
  · simp [Value.cells] at hcs
    obtain ⟨rfl, rfl, rfl⟩ := hcs
    exact ⟨[], fun C hC => ⟨by simp, none, 0, 0, rfl, Nat.le_refl _, Nat.zero_le _, rfl, fun h => absurd h (Nat.lt_irrefl 0)⟩⟩
  · simp [Value.cells] at hcs
    obtain ⟨rfl, rfl, rfl⟩ := hcs
    simp only [if_true] at hall
    refine ⟨zs.take len0, fun C hC => ⟨fun z hz => hwf z (List.mem_of_mem_take hz), some a, len0, cap0, rfl, hle, hmax, by simp; omega, fun hpos => ?_⟩⟩
    obtain ⟨b, o, rfl, hat⟩ := ints_at hcell (by omega)
    have h0 := hat 0 (by omega)
    unfold World.cell? at h0
    cases hb : W.heap[b]? with
    | none => simp [hb] at h0
    | some ob =>
      cases ob with
      | cells cs e m =>
        refine ⟨b, o, cs, e, m, rfl, hC b _ hb, fun i hi => ?_⟩
        have h1 := hat i (by omega)
        unfold World.cell? at h1
        simp only [hb, Option.isSome_none, Bool.false_eq_true, if_false] at h1
        rw [h1]
        simp [List.getD, List.getElem?_take, hi]
      | _ => simp [hb] at h0

def rowed (P : Program) (ts : List TypeId) : Bool := ts.all fun t => P.readableRec t && decide (t < P.types.size)

theorem trodAll_still {H : Type} {enc : TypeId × Value → H} (hl : laidOutB P = true) {W W' : World} (hb : Below W.heap.size W W') {sp : Nat → Bool} :
    ∀ {ts : List TypeId} {vs : List Value} {ds : List (DataW H)} {ps : List MemPlace}, rowed P ts = true → (∀ p ∈ ps, p.block < W.heap.size ∧ sp p.block = true) →
      DataW.TrodAll enc P W 0 (fun _ => true) true ts vs ds ps → DataW.TrodAll enc P W' 0 sp true ts vs ds ps
  | [], vs, ds, ps, _, _, h => by
    obtain ⟨rfl, rfl, rfl⟩ := trodAll_nil h
    exact trodAll_mk0
  | t :: ts, vs, ds, ps, hr, hp, h => by
    obtain ⟨v, vs, d, ds, p, q, rfl, rfl, rfl, h1, h2⟩ := trodAll_cons h
    simp only [rowed, List.all_cons, Bool.and_eq_true, decide_eq_true_eq] at hr
    exact trodAll_cons_mk (WideElems.Trod_stays hl hr.1.1 hr.1.2 h1 (fun x hx => hb.same (hp x (List.mem_append_left _ hx)).1) (fun x hx => (hp x (List.mem_append_left _ hx)).2))
      (trodAll_still hl hb hr.2 (fun x hx => hp x (List.mem_append_right _ hx)) h2)

theorem below_kept {W W' : World} (hb : Below W.heap.size W W') (may : MemPlace → Prop) : W.keptBut W' may := by
  refine ⟨hb.os, hb.output, fun i hi => ?_⟩
  rw [hb.block i hi]
  cases h : W.heap[i]? with
  | none => trivial
  | some o => cases o <;> first | exact ⟨rfl, rfl, rfl, fun _ _ => rfl⟩ | exact .inr ⟨rfl, rfl⟩ | rfl

/-- A law that returns true, reads its arguments and no variable. -/
theorem law_post {H : Type} {enc : TypeId × Value → H} {f : Func} {s : ChangeSpec} {fresh handsOn again : Bool} {W W' : World} {args : Array Value} {ds gs : List (DataW H)} {before : List MemPlace} {tb : TypeId}
    (hl : laidOutB P = true) (hr : rowed P f.params.toList = true) (hv : s.vars = []) (ht : f.resultTypes = #[tb]) (hu : P.underlying tb = some .bool)
    (hW : DataW.Whole enc P f.params.toList s.vars false W args.toList ds gs before) (hb : Below W.heap.size W W')
    (hs : gs = [] → (s.fn H ds) = { results := [.lit (.bool true)], args := ds }) :
    s.post enc P f false fresh handsOn again W args (.bool true) W' := by
  have hlt := hW.lt
  have hW' := hW
  obtain ⟨p, q, hA, hV, rfl, hz, hn⟩ := hW
  rw [hv] at hV
  obtain ⟨rfl, rfl⟩ := trodVars_none hV
  have e := hs rfl
  simp only [List.append_nil] at hlt hW' hz hn
  have hT : ∀ sp : Nat → Bool, (∀ x ∈ p, sp x.block = true) → DataW.TrodAll enc P W' 0 sp true f.params.toList args.toList ds p := fun sp h =>
    trodAll_still hl hb hr (fun x hx => ⟨hlt x hx, h x hx⟩) hA
  have hR : ∀ (b : Nat) (sp : Nat → Bool) (hd : Bool), DataW.TrodAll enc P W' b sp hd f.resultTypes.toList ((Value.bool true).resultList f.resultTypes.size) [.lit (.bool true)] [] := by
    intro b sp hd
    rw [ht]
    exact trodAll_cons_mk (shut_bool hu _) trodAll_mk0
  have hvv : ∀ sp : Nat → Bool, DataW.TrodVars enc P W' sp s.vars [] [] := by
    intro sp; rw [hv]; rfl
  refine ⟨ds, [], p, [], p, [], hW', ?_, ?_, ?_, World.keptBut_mono (fun x hx => ⟨hx, .inr (.inl hx)⟩) (below_kept hb (· ∈ p)), fun _ => ⟨?_, ?_⟩⟩
  · simp only [List.append_nil, e]; exact hR _ _ _
  · simp only [List.append_nil, e]; exact hT _ (fun x hx => by simpa using hlt x hx)
  · simp only [List.append_nil, e]; exact hvv _
  · intro j t r h1 h2
    rw [ht] at h1 h2
    exact ok_one (f := f) ht rfl (okWide_bool_mk hu true) j t r (by rw [ht]; exact h1) (by rw [ht]; exact h2)
  · refine ⟨_, _, ([] ++ p) ++ [], ⟨[] ++ p, [], trodAll_append (hT _ (fun _ _ => rfl)) (hR _ _ _), hvv _, rfl, ?_, fun h => by cases h⟩, fun x hx _ => by simpa using hx⟩
    intro b off hx
    have hx : MemPlace.cell b off ∈ p := by simpa using hx
    have hz' := hz b off hx
    unfold World.frozen? at hz' ⊢
    rw [hb.block b (hlt _ hx)]
    exact hz'

end Go.Ost

/- The plain law of a saved Hash: words of bytes, bytes of words. Conditions: as each says. -/
set_option linter.unusedSimpArgs false
set_option linter.unusedVariables false
namespace Go.Sha

theorem bytes4_word (a b c d : UInt8) : bytes4 (word a b c d) = [a, b, c, d] := by
  have ha := a.toNat_lt; have hb := b.toNat_lt; have hc := c.toNat_lt; have hd := d.toNat_lt
  have hw : (word a b c d).toNat = a.toNat * 16777216 + b.toNat * 65536 + c.toNat * 256 + d.toNat := by
    simp only [word, BitVec.toNat_ofNat]; omega
  have e : ∀ (n : Nat) (x : UInt8), n % 256 = x.toNat → UInt8.ofNat n = x := fun n x h => by
    apply UInt8.toNat_inj.1
    rw [UInt8.toNat_ofNat', h]
  simp only [bytes4, hw]
  rw [e _ a (by omega), e _ b (by omega), e _ c (by omega), e _ d (by omega)]
theorem four (bs : List UInt8) (l : Nat) (h : l + 4 ≤ bs.length) : (bs.drop l).take 4 = [bs.getD l 0, bs.getD (l + 1) 0, bs.getD (l + 2) 0, bs.getD (l + 3) 0] := by
  apply List.ext_getElem?
  intro i
  rw [List.getElem?_take]
  match i with
  | 0 => simp [List.getD, List.getElem?_eq_getElem (show l < bs.length by omega)]
  | 1 => simp [List.getD, List.getElem?_eq_getElem (show l + 1 < bs.length by omega)]
  | 2 => simp [List.getD, List.getElem?_eq_getElem (show l + 2 < bs.length by omega)]
  | 3 => simp [List.getD, List.getElem?_eq_getElem (show l + 3 < bs.length by omega)]
  | i + 4 => rw [if_neg (by omega)]; simp
theorem bytes4_at (bs : List UInt8) (l : Nat) (h : l + 4 ≤ bs.length) : bytes4 (wordAt bs l) = (bs.drop l).take 4 := by
  rw [four bs l h, wordAt, bytes4_word]

/-- The first so many words that are loaded. -/
def ld (p : List UInt8) : Nat → List W
  | 0 => List.replicate 8 0
  | i + 1 => (ld p i).set i (wordAt p (4 * i))
theorem ld_len (p : List UInt8) : ∀ i, (ld p i).length = 8
  | 0 => by simp [ld]
  | i + 1 => by simp [ld, ld_len p i]
def ldS (p : List UInt8) : St := ⟨wordAt p 0, wordAt p 4, wordAt p 8, wordAt p 12, wordAt p 16, wordAt p 20, wordAt p 24, wordAt p 28⟩
theorem ld_all (p : List UInt8) : ld p 8 = (ldS p).list := rfl
theorem ldS_bytes (p : List UInt8) (h : 32 ≤ p.length) : (ldS p).bytes = p.take 32 := by
  have e : ∀ l, l + 4 ≤ p.length → p.take (l + 4) = p.take l ++ bytes4 (wordAt p l) := fun l hl => by
    rw [bytes4_at p l hl, List.take_add]
  show bytes4 (wordAt p 0) ++ (bytes4 (wordAt p 4) ++ (bytes4 (wordAt p 8) ++ (bytes4 (wordAt p 12) ++ (bytes4 (wordAt p 16) ++ (bytes4 (wordAt p 20) ++ (bytes4 (wordAt p 24) ++ (bytes4 (wordAt p 28) ++ []))))))) = _
  rw [e 28 (by omega), e 24 (by omega), e 20 (by omega), e 16 (by omega), e 12 (by omega), e 8 (by omega), e 4 (by omega), e 0 (by omega)]
  simp [List.append_assoc]

/-- How many bytes it says there were. -/
def ldN (p : List UInt8) : Nat := (wordAt p 32).toNat * 4294967296 + (wordAt p 36).toNat
theorem ldN_lt (p : List UInt8) : ldN p < 18446744073709551616 := by
  have h1 := (wordAt p 32).isLt; have h2 := (wordAt p 36).isLt
  simp only [ldN]; omega
theorem eight (p : List UInt8) (h : 40 ≤ p.length) : (p.drop 32).take 8 = bytes4 (wordAt p 32) ++ bytes4 (wordAt p 36) := by
  rw [bytes4_at p 32 (by omega), bytes4_at p 36 (by omega), show (8 : Nat) = 4 + 4 from rfl, List.take_add, List.drop_drop]
theorem num_eight (p : List UInt8) (h : 40 ≤ p.length) : num ((p.drop 32).take 8) = ldN p := by
  rw [show (8 : Nat) = 4 + 4 from rfl, List.take_add, List.drop_drop, four p 32 (by omega), four p (32 + 4) (by omega)]
  simp only [num, List.foldl, List.cons_append, List.nil_append, ldN, wordAt, word, BitVec.toNat_ofNat]
  generalize p.getD 32 0 = a; generalize p.getD (32 + 1) 0 = b; generalize p.getD (32 + 2) 0 = c; generalize p.getD (32 + 3) 0 = d
  generalize p.getD 36 0 = e; generalize p.getD (36 + 1) 0 = f; generalize p.getD (36 + 2) 0 = g; generalize p.getD (36 + 3) 0 = i
  have ha := a.toNat_lt; have hb := b.toNat_lt; have hc := c.toNat_lt; have hd := d.toNat_lt
  have he := e.toNat_lt; have hf := f.toNat_lt; have hg := g.toNat_lt; have hi := i.toNat_lt
  omega
theorem be_eight (p : List UInt8) (h : 40 ≤ p.length) : be 8 (ldN p) = (p.drop 32).take 8 := by
  rw [eight p h]
  have h1 := (wordAt p 32).isLt; have h2 := (wordAt p 36).isLt
  have e : ∀ (n m : Nat), n % 256 = m % 256 → UInt8.ofNat n = UInt8.ofNat m := fun n m h => by
    apply UInt8.toNat_inj.1
    rw [UInt8.toNat_ofNat', UInt8.toNat_ofNat', h]
  simp only [ldN]
  generalize (wordAt p 32) = x at h1 ⊢
  generalize (wordAt p 36) = y at h2 ⊢
  show [UInt8.ofNat (_ / 256 ^ 7), UInt8.ofNat (_ / 256 ^ 6), UInt8.ofNat (_ / 256 ^ 5), UInt8.ofNat (_ / 256 ^ 4), UInt8.ofNat (_ / 256 ^ 3), UInt8.ofNat (_ / 256 ^ 2), UInt8.ofNat (_ / 256 ^ 1), UInt8.ofNat (_ / 256 ^ 0)] = _
  simp only [bytes4, List.cons_append, List.nil_append]
  simp only [Nat.reducePow]
  rw [e ((x.toNat * 4294967296 + y.toNat) / 72057594037927936) (x.toNat / 16777216) (by omega),
    e ((x.toNat * 4294967296 + y.toNat) / 281474976710656) (x.toNat / 65536) (by omega),
    e ((x.toNat * 4294967296 + y.toNat) / 1099511627776) (x.toNat / 256) (by omega),
    e ((x.toNat * 4294967296 + y.toNat) / 4294967296) (x.toNat) (by omega),
    e ((x.toNat * 4294967296 + y.toNat) / 16777216) (y.toNat / 16777216) (by omega),
    e ((x.toNat * 4294967296 + y.toNat) / 65536) (y.toNat / 65536) (by omega),
    e ((x.toNat * 4294967296 + y.toNat) / 256) (y.toNat / 256) (by omega),
    e ((x.toNat * 4294967296 + y.toNat) / 1) y.toNat (by omega)]

/-- Why it isn't loaded, or nothing. -/
def ldErr (p : List UInt8) : Nat := if p.length < 40 then 2 else if 2305843009213693952 ≤ ldN p then 3 else if p.length - 40 < ldN p % 64 then 2 else if ldN p % 64 < p.length - 40 then 4 else 0
theorem saved (p : List UInt8) (h : 40 ≤ p.length) : (ldS p).bytes ++ (be 8 (ldN p) ++ p.drop 40) = p := by
  rw [ldS_bytes p (by omega), be_eight p h]
  rw [show p.drop 40 = (p.drop 32).drop 8 from by rw [List.drop_drop], List.take_append_drop, List.take_append_drop]

end Go.Sha

/- The plain law of a Hash that goes on. Conditions: as each says. -/
set_option linter.unusedSimpArgs false
set_option linter.unusedVariables false
namespace Go.Sha

theorem rest_len (T : List UInt8) : (T.drop (64 * (T.length / 64))).length = T.length % 64 := by rw [List.length_drop]; omega
/-- A Hash of all these bytes, some of them read already. -/
theorem whole_more (x y : List UInt8) (hx : x.length % 64 = 0) (s : St) : Go.Sha.whole s (x ++ y) = Go.Sha.whole (Go.Sha.whole s x) y := by
  have key : ∀ (k : Nat) (s : St) (x y : List UInt8), x.length = 64 * k → ∀ j, run (k + j) s (x ++ y) = run j (run k s x) y := by
    intro k
    induction k with
    | zero =>
      intro s x y hx j
      have h0 : x = [] := List.length_eq_zero_iff.1 (by simpa using hx)
      subst h0; simp [run]
    | succ k ih =>
      intro s x y hx j
      rw [show k + 1 + j = (k + j) + 1 from by omega]
      show run (k + j) (Go.Sha.step odd s ((x ++ y).take 64)) ((x ++ y).drop 64) = run j (run k (Go.Sha.step odd s (x.take 64)) (x.drop 64)) y
      rw [List.take_append_of_le_length (by omega), List.drop_append_of_le_length (by omega)]
      exact ih _ _ _ (by rw [List.length_drop]; omega) j
  have h1 : (x ++ y).length / 64 = x.length / 64 + y.length / 64 := by rw [List.length_append]; omega
  unfold Go.Sha.whole
  rw [h1]
  exact key (x.length / 64) s x y (by omega) _
theorem whole_on (x y : List UInt8) (s : St) : Go.Sha.whole s (x ++ y) = Go.Sha.whole (Go.Sha.whole s x) (x.drop (64 * (x.length / 64)) ++ y) := by
  have e : x = x.take (64 * (x.length / 64)) ++ x.drop (64 * (x.length / 64)) := (List.take_append_drop _ _).symm
  have hl : (x.take (64 * (x.length / 64))).length = 64 * (x.length / 64) := by rw [List.length_take]; omega
  have hw : Go.Sha.whole s x = Go.Sha.whole s (x.take (64 * (x.length / 64))) := by
    have h2 : Go.Sha.whole s (x.take (64 * (x.length / 64)) ++ x.drop (64 * (x.length / 64))) = Go.Sha.whole (Go.Sha.whole s (x.take (64 * (x.length / 64)))) (x.drop (64 * (x.length / 64))) := whole_more _ _ (by rw [hl]; omega) s
    rw [← e] at h2
    rw [h2]
    unfold Go.Sha.whole
    rw [rest_len, show x.length % 64 / 64 = 0 from by omega]; rfl
  rw [hw]
  conv => lhs; rw [e, List.append_assoc]
  exact whole_more _ _ (by rw [hl]; omega) s

theorem rest_on (x y : List UInt8) : (x.drop (64 * (x.length / 64)) ++ y).drop (64 * ((x.drop (64 * (x.length / 64)) ++ y).length / 64)) = (x ++ y).drop (64 * ((x ++ y).length / 64)) := by
  have e : x.drop (64 * (x.length / 64)) ++ y = (x ++ y).drop (64 * (x.length / 64)) := (List.drop_append_of_le_length (by omega)).symm
  rw [e, List.drop_drop]
  congr 1
  rw [List.length_drop, List.length_append]
  omega
theorem sum_on (x y : List UInt8) (n : Nat) (hn : n = (x ++ y).length) :
    (Go.Sha.whole (Go.Sha.whole (Go.Sha.whole first x) (x.drop (64 * (x.length / 64)) ++ y)) ((x.drop (64 * (x.length / 64)) ++ y).drop (64 * ((x.drop (64 * (x.length / 64)) ++ y).length / 64)) ++ pad n)).bytes = digest (x ++ y) := by
  rw [rest_on, ← whole_on, ← whole_on, hn]; rfl

end Go.Sha

/- A contract, its chunks otherwise put together. Conditions: as each says. -/
set_option linter.unusedSimpArgs false
set_option linter.unusedVariables false
namespace Go.Ost
open Go

variable {P : Program}

theorem Among.perm {T S : State} (h : Among T S) : ∃ R : State, S.flatten.Perm (T ++ R).flatten := by
  induction h with
  | nil S => exact ⟨S, List.Perm.refl _⟩
  | cons h k ih =>
    obtain ⟨R, hR⟩ := ih
    refine ⟨R, h.perm.trans ?_⟩
    simp only [List.flatten_cons, List.cons_append]
    exact List.Perm.append_left _ hR
theorem pick_mid (c : Chunk) : ∀ (X A : State), Pick c (X ++ c :: A) (X ++ A)
  | [], A => .head c A
  | d :: X, A => .tail d (pick_mid c X A)
theorem take_tail : ∀ (A X : State), Take A (X ++ A) X
  | [], X => by rw [List.append_nil]; exact .nil X
  | c :: A, X => .cons (pick_mid c X A) (take_tail A X)
theorem among_tail : ∀ (A X : State), Among A (X ++ A)
  | [], X => .nil _
  | c :: A, X => .cons (pick_mid c X A) (among_tail A X)
theorem Meets.conv {f : FuncId} {args : List Value} {A B : State} {R R' : Value → State → Prop} (SA : State) {E : State} (h : Meets P f args A R) (hB : B.flatten = SA.flatten) (hT : Take A SA E)
    (hR : ∀ v A', R v A' → ∃ (B' SB : State), B'.flatten = SB.flatten ∧ Among SB (A' ++ E) ∧ R' v B') : Meets P f args B R' := by
  refine ⟨h.1, fun F w hw => (h.2 (F ++ E.flatten) w (hw.perm ?_)).mono ?_⟩
  · simp only [List.flatten_cons, List.append_assoc]
    refine List.Perm.append_left F ?_
    rw [hB]
    refine hT.perm.trans ?_
    rw [List.flatten_append]
    exact List.perm_append_comm
  · rintro e w' ⟨v, S, rfl, he, hh, A', rfl, hr⟩
    obtain ⟨B', SB, e1, hA, hr'⟩ := hR v A' hr
    refine ⟨v, F :: B', rfl, he, ?_, B', rfl, hr'⟩
    obtain ⟨X, hX⟩ := hA.perm
    have hh2 : Hold w' (F :: (A' ++ E)) := hh.perm (by
      simp only [List.flatten_cons, List.flatten_append, List.append_assoc]
      exact List.Perm.append_left F List.perm_append_comm)
    have hh3 : Hold w' (F :: (SB ++ X)) := hh2.perm (by
      simp only [List.flatten_cons]
      exact List.Perm.append_left F hX)
    refine hh3.sub ?_
    simp only [List.flatten_cons, List.flatten_append, e1]
    exact (List.Sublist.refl F).append (List.sublist_append_left _ _)

end Go.Ost

/- The document's example, reckoned. Conditions: none. -/
namespace Go.Sha
def exKey : List UInt8 := [74, 101, 102, 101]
def exA : List UInt8 := [119, 104, 97, 116, 32, 100, 111, 32, 121, 97, 32, 119, 97, 110, 116, 32]
def exB : List UInt8 := [102, 111, 114, 32, 110, 111, 116, 104, 105, 110, 103, 63]
def exPass : List UInt8 := [112, 97, 115, 115, 119, 111, 114, 100]
def exSalt : List UInt8 := [115, 97, 108, 116]
theorem ex_mac : ((mac exKey [exA, exB].flatten).take 4 == [91, 220, 193, 70]) = true := by decide +kernel
theorem ex_str : ((stretch exPass exSalt 1 32).take 4 == [18, 15, 182, 207]) = true := by decide +kernel
end Go.Sha

/- Slices of slices of bytes, as the reading ahead of the call has them. Conditions: as each says. -/
set_option linter.unusedSimpArgs false
set_option linter.unusedVariables false
namespace Go.Ost
open Go Go.ChangeShapes Go.WideShapes Go.ChangeAt Go.RowKit Go.Deep

variable {P : Program}

def RowS (C : Chunk) (v : Value) (ls : List (List UInt8)) : Prop := ∃ a cap, v = .slice a ls.length cap ∧ ls.length ≤ cap ∧ cap ≤ maxLen ∧ Parts [C] a ls.length ls

theorem cell_block {w : World} {a : Addr} {v : Value} (h : w.cell? a = some v) : ∃ b o cs e m, a = ⟨b, o, none⟩ ∧ w.heap[b]? = some (.cells cs e m) := by
  unfold World.cell? at h
  split at h
  · rename_i c t fr hb
    split at h
    · cases h
    · rename_i hs
      obtain ⟨b, o, sp⟩ := a
      cases sp with
      | none => exact ⟨b, o, c, t, fr, rfl, hb⟩
      | some s => simp at hs
  · cases h
/-- Cells of a world, one behind the other, as a chunk's. -/
theorem rd_cells {w : World} {a : Addr} {us : List Value} {C : Chunk} (hC : ∀ k o, w.heap[k]? = some o → (k, o) ∈ C) (h : ∀ i v, us[i]? = some v → w.cell? (a.add i) = some v) : Rd 1 [C] (some a) us.length us := by
  refine ⟨by simp, fun hne => ?_⟩
  obtain ⟨u, us', rfl⟩ := List.exists_cons_of_ne_nil hne
  have h0 := h 0 u rfl
  obtain ⟨b, o', cs, e, m, he, hb⟩ := cell_block h0
  obtain ⟨ba, o, sp⟩ := a
  cases sp with
  | some s =>
    exfalso
    have hx : (Addr.add ⟨ba, o, some s⟩ 0).spot.isSome = true := by simp [Addr.add]
    rw [he] at hx; cases hx
  | none =>
    rw [add_mk] at he
    obtain ⟨hb1, ho1⟩ : b = ba ∧ o' = o := by cases he; exact ⟨rfl, rfl⟩
    subst hb1 ho1
    refine ⟨_, _, cs, e, m, rfl, .here (hC _ _ hb), fun i hi => ?_⟩
    have hu := h i _ (List.getElem?_eq_getElem hi)
    rw [add_mk, cell_of hb] at hu
    rw [hu, List.getElem?_eq_getElem hi]

theorem open_slcs {H : Type} {enc : TypeId × Value → H} {W : World} {base : Nat} {t e q : TypeId} {v : Value} {d : DataW H} {ps : List MemPlace} (ht : P.underlying t = some (.slice e)) (he : P.underlying e = some (.slice q)) (hq : P.underlying q = some (.int .u8)) (ce : P.cellsOf e = 1) (cq : P.cellsOf q = 1)
    (hval : Value.okWide P W .any base t v) (h : DataW.Trod enc P W 0 (fun _ => true) true t v d ps) :
    ∃ ls, ∀ C : Chunk, (∀ k o, W.heap[k]? = some o → (k, o) ∈ C) → RowS C v ls := by
  obtain ⟨a0, len0, cap0, rfl⟩ := okWide_slice ht hval
  obtain ⟨fuel, hf⟩ := h
  rcases open_int_rows ht he hq ce cq hf with ⟨hcs, hx⟩ | ⟨a, len, cap, A, L, Cp, Z, hcs, _, hle, hmax, hx, hall⟩
  · simp [Value.cells] at hcs
    obtain ⟨rfl, rfl, rfl⟩ := hcs
    exact ⟨[], fun C hC => ⟨none, 0, rfl, Nat.le_refl _, Nat.zero_le _, rfl, [], Rd.nil, fun i v l hv => by simp at hv⟩⟩
  · simp [Value.cells] at hcs
    obtain ⟨rfl, rfl, rfl⟩ := hcs
    refine ⟨(List.range len0).map fun r => ((Z r).take (L r)).map fun z => UInt8.ofNat z.toNat, fun C hC => ⟨some a, cap0, by simp, by simpa using hle, hmax, rfl, (List.range len0).map fun r => .slice (A r) (L r) (Cp r), ?_, ?_⟩⟩
    · have q := rd_cells (w := W) (a := a) (us := (List.range len0).map fun r => Value.slice (A r) (L r) (Cp r)) hC (fun i v hv => by
        rw [List.getElem?_map] at hv
        by_cases hi : i < len0
        · rw [List.getElem?_range hi] at hv
          simp only [Option.map_some, Option.some.injEq] at hv
          rw [← hv]; exact (hall i (by omega)).1
        · rw [List.getElem?_eq_none (by simp; omega)] at hv; cases hv)
      simpa using q
    · intro i v l hv hl
      rw [List.getElem?_map] at hv hl
      by_cases hi : i < len0
      · rw [List.getElem?_range hi] at hv hl
        simp only [Option.map_some, Option.some.injEq] at hv hl
        obtain ⟨_, h2, _, h4, h5, h6, h7⟩ := hall i (by omega)
        subst hv hl
        have hlen : (((Z i).take (L i)).map fun z => UInt8.ofNat z.toNat).length = L i := by simp; omega
        refine ⟨A i, Cp i, by rw [hlen], by rw [hlen]; exact h2, ?_⟩
        cases hA : A i with
        | none =>
          have : L i = 0 := by have := h6 hA; omega
          have h0 : (((Z i).take (L i)).map fun z => UInt8.ofNat z.toNat) = [] := List.length_eq_zero_iff.1 (by rw [hlen, this])
          rw [h0]; exact Rd.nil
        | some a' =>
          have q := rd_cells (w := W) (a := a') (us := (((Z i).take (L i)).map fun z => UInt8.ofNat z.toNat).map b8) hC (fun c v hv => by
            simp only [List.getElem?_map, List.getElem?_take] at hv
            by_cases hc : c < L i
            · rw [if_pos hc, List.getElem?_eq_getElem (by omega)] at hv
              simp only [Option.map_some, Option.some.injEq] at hv
              rw [(h7 a' hA).2 c (by omega), ← hv]
              have hw := h5 (Z i)[c] (List.getElem_mem _)
              simp only [Lit.wf, Bool.and_eq_true, decide_eq_true_eq] at hw
              have hw2 : 0 ≤ (Z i)[c] ∧ (Z i)[c] ≤ 255 := ⟨hw.1, hw.2⟩
              rw [List.getD, List.getElem?_eq_getElem (by omega)]
              simp only [Option.getD_some, b8, UInt8.toNat_ofNat']
              congr 2; omega
            · rw [if_neg hc] at hv; simp at hv)
          rw [List.length_map] at q
          exact q
      · rw [List.getElem?_eq_none (by simp; omega)] at hv; cases hv

end Go.Ost

/- What is one's own may be written over. Conditions: none. -/
set_option linter.unusedSimpArgs false
set_option linter.unusedVariables false
namespace Go.Ost
open Go

theorem own_wr {e : TypeId} {C : Chunk} {a : Option Addr} {n cap : Nat} {bs : List UInt8} (hn : bs.length = n) (h : Own8 e C a n cap bs) : Wr C a bs := fun hne => by
  obtain ⟨h1, h2, h3, h4⟩ := h
  have hpos := List.length_pos_iff.2 hne
  rcases h4 with ⟨h5, _⟩ | ⟨b, o, cs, m, rfl, rfl, hs, hbig, hc⟩
  · omega
  · obtain ⟨lo, hi⟩ := m
    refine ⟨b, o, cs, e, lo, hi, rfl, rfl, fun i hi' => ?_, fun i hi' => ?_⟩
    · rw [hc i (by simpa using hi')]; simp [List.getD, hi']
    · rcases hs with hs | hs
      · simp only at hs; omega
      · simp only at hs; omega

end Go.Ost

/- What the types of this program are, each by the reckoning of its tables. Conditions: none. -/
namespace Go.Proofs.YtfihpbhdilldoaaDoor
open Go.Ost
-- 3 int
instance : TInt Tryd.prog 3 .i64 := ⟨by kernel_rfl⟩
instance : TSized Tryd.prog 3 (.int .i64 0) 1 8 := ⟨by kernel_rfl⟩
instance : TFlat Tryd.prog 3 := ⟨by kernel_rfl⟩
-- 4 bool
instance : TBool Tryd.prog 4 := ⟨by kernel_rfl⟩
instance : TSized Tryd.prog 4 (.bool false) 1 1 := ⟨by kernel_rfl⟩
instance : TFlat Tryd.prog 4 := ⟨by kernel_rfl⟩
-- 5 uint8
instance : TInt Tryd.prog 5 .u8 := ⟨by kernel_rfl⟩
instance : TSized Tryd.prog 5 (.int .u8 0) 1 1 := ⟨by kernel_rfl⟩
instance : TFlat Tryd.prog 5 := ⟨by kernel_rfl⟩
-- 9 string
instance : TStr Tryd.prog 9 := ⟨by kernel_rfl⟩
instance : TSized Tryd.prog 9 (.string ⟨#[]⟩) 1 16 := ⟨by kernel_rfl⟩
instance : TFlat Tryd.prog 9 := ⟨by kernel_rfl⟩
-- 22 []uint8
instance : TSlice Tryd.prog 22 5 := ⟨by kernel_rfl⟩
instance : TSized Tryd.prog 22 (.slice none 0 0) 1 24 := ⟨by kernel_rfl⟩
instance : TFlat Tryd.prog 22 := ⟨by kernel_rfl⟩
-- 23 [][]uint8
instance : TSlice Tryd.prog 23 22 := ⟨by kernel_rfl⟩
instance : TSized Tryd.prog 23 (.slice none 0 0) 1 24 := ⟨by kernel_rfl⟩
instance : TFlat Tryd.prog 23 := ⟨by kernel_rfl⟩
-- 31 *hmac.Mac
instance : TPtr Tryd.prog 31 50 := ⟨by kernel_rfl⟩
instance : TSized Tryd.prog 31 (.pointer none) 1 8 := ⟨by kernel_rfl⟩
instance : TFlat Tryd.prog 31 := ⟨by kernel_rfl⟩
-- 36 api.Errno
instance : TInt Tryd.prog 36 .i64 := ⟨by kernel_rfl⟩
instance : TSized Tryd.prog 36 (.int .i64 0) 1 8 := ⟨by kernel_rfl⟩
instance : TFlat Tryd.prog 36 := ⟨by kernel_rfl⟩
-- 47 *sha.Hash
instance : TPtr Tryd.prog 47 72 := ⟨by kernel_rfl⟩
instance : TSized Tryd.prog 47 (.pointer none) 1 8 := ⟨by kernel_rfl⟩
instance : TFlat Tryd.prog 47 := ⟨by kernel_rfl⟩
-- 50 hmac.Mac
instance : TSized Tryd.prog 50 (.agg #[.pointer none, .pointer none, .pointer none]) 3 24 := ⟨by kernel_rfl⟩
instance : TDeep Tryd.prog 50 := ⟨by kernel_rfl⟩
instance : TField Tryd.prog 50 0 0 47 := ⟨by kernel_rfl⟩ -- in
instance : TField Tryd.prog 50 1 1 47 := ⟨by kernel_rfl⟩ -- out
instance : TField Tryd.prog 50 2 2 47 := ⟨by kernel_rfl⟩ -- now
-- 57 uint64
instance : TInt Tryd.prog 57 .u64 := ⟨by kernel_rfl⟩
instance : TSized Tryd.prog 57 (.int .u64 0) 1 8 := ⟨by kernel_rfl⟩
instance : TFlat Tryd.prog 57 := ⟨by kernel_rfl⟩
-- 60 uint32
instance : TInt Tryd.prog 60 .u32 := ⟨by kernel_rfl⟩
instance : TSized Tryd.prog 60 (.int .u32 0) 1 4 := ⟨by kernel_rfl⟩
instance : TFlat Tryd.prog 60 := ⟨by kernel_rfl⟩
-- 61 [8]uint32
instance : TArr Tryd.prog 61 8 60 := ⟨by kernel_rfl⟩
instance : TSized Tryd.prog 61 (.agg #[.int .u32 0, .int .u32 0, .int .u32 0, .int .u32 0, .int .u32 0, .int .u32 0, .int .u32 0, .int .u32 0]) 8 32 := ⟨by kernel_rfl⟩
instance : TDeep Tryd.prog 61 := ⟨by kernel_rfl⟩
-- 62 sha.state
instance : TArr Tryd.prog 62 8 60 := ⟨by kernel_rfl⟩
instance : TSized Tryd.prog 62 (.agg #[.int .u32 0, .int .u32 0, .int .u32 0, .int .u32 0, .int .u32 0, .int .u32 0, .int .u32 0, .int .u32 0]) 8 32 := ⟨by kernel_rfl⟩
instance : TDeep Tryd.prog 62 := ⟨by kernel_rfl⟩
-- 65 ostiaryref01.State
instance : TArr Tryd.prog 65 8 60 := ⟨by kernel_rfl⟩
instance : TSized Tryd.prog 65 (.agg #[.int .u32 0, .int .u32 0, .int .u32 0, .int .u32 0, .int .u32 0, .int .u32 0, .int .u32 0, .int .u32 0]) 8 32 := ⟨by kernel_rfl⟩
instance : TDeep Tryd.prog 65 := ⟨by kernel_rfl⟩
-- 72 sha.Hash
instance : TSized Tryd.prog 72 (.agg #[.int .u32 0, .int .u32 0, .int .u32 0, .int .u32 0, .int .u32 0, .int .u32 0, .int .u32 0, .int .u32 0, .slice none 0 0, .int .u64 0]) 10 64 := ⟨by kernel_rfl⟩
instance : TDeep Tryd.prog 72 := ⟨by kernel_rfl⟩
instance : TField Tryd.prog 72 0 0 62 := ⟨by kernel_rfl⟩ -- s
instance : TField Tryd.prog 72 1 8 22 := ⟨by kernel_rfl⟩ -- rest
instance : TField Tryd.prog 72 2 9 57 := ⟨by kernel_rfl⟩ -- n
-- 75 [64]uint32
instance : TArr Tryd.prog 75 64 60 := ⟨by kernel_rfl⟩
instance : TSized Tryd.prog 75 (.agg #[.int .u32 0, .int .u32 0, .int .u32 0, .int .u32 0, .int .u32 0, .int .u32 0, .int .u32 0, .int .u32 0, .int .u32 0, .int .u32 0, .int .u32 0, .int .u32 0, .int .u32 0, .int .u32 0, .int .u32 0, .int .u32 0, .int .u32 0, .int .u32 0, .int .u32 0, .int .u32 0, .int .u32 0, .int .u32 0, .int .u32 0, .int .u32 0, .int .u32 0, .int .u32 0, .int .u32 0, .int .u32 0, .int .u32 0, .int .u32 0, .int .u32 0, .int .u32 0, .int .u32 0, .int .u32 0, .int .u32 0, .int .u32 0, .int .u32 0, .int .u32 0, .int .u32 0, .int .u32 0, .int .u32 0, .int .u32 0, .int .u32 0, .int .u32 0, .int .u32 0, .int .u32 0, .int .u32 0, .int .u32 0, .int .u32 0, .int .u32 0, .int .u32 0, .int .u32 0, .int .u32 0, .int .u32 0, .int .u32 0, .int .u32 0, .int .u32 0, .int .u32 0, .int .u32 0, .int .u32 0, .int .u32 0, .int .u32 0, .int .u32 0, .int .u32 0]) 64 256 := ⟨by kernel_rfl⟩
instance : TDeep Tryd.prog 75 := ⟨by kernel_rfl⟩
-- 78 uint
instance : TInt Tryd.prog 78 .u64 := ⟨by kernel_rfl⟩
instance : TSized Tryd.prog 78 (.int .u64 0) 1 8 := ⟨by kernel_rfl⟩
instance : TFlat Tryd.prog 78 := ⟨by kernel_rfl⟩
end Go.Proofs.YtfihpbhdilldoaaDoor

/- Bytes repeated. Conditions: as each says. -/
set_option linter.unusedSimpArgs false
set_option linter.unusedVariables false
namespace Go.Proofs.YtfihpbhdilldoaaDoor
open Go Go.Ost

theorem and64 {P : Program} {t : TypeId} {x y : Operand} {a b : Int} {κ : Value → Prop} : PureW P (do eqGuard .and t x y (.int .u64 a) (.int .u64 b); binOp .and t (.int .u64 a) (.int .u64 b)) κ = κ (.int .u64 (IntKind.u64.wrap ((BitVec.ofInt 64 a &&& BitVec.ofInt 64 b).toNat : Int))) :=
  pureW_eq (fun w => by rfl) κ

theorem and64_1 : IntKind.u64.wrap ((BitVec.ofInt 64 1 &&& BitVec.ofInt 64 4294967295).toNat : Int) = 1 := rfl
theorem and64_2 : IntKind.u64.wrap ((BitVec.ofInt 64 64 &&& BitVec.ofInt 64 4294967295).toNat : Int) = 64 := rfl
theorem and64_3 : IntKind.u64.wrap ((BitVec.ofInt 64 0 &&& BitVec.ofInt 64 4294967295).toNat : Int) = 0 := rfl
theorem mul64_spec : Meets Tryd.prog 65 [.int .u64 1, .int .u64 64] [] fun v A => v = .tuple #[.int .u64 0, .int .u64 64] ∧ A = [] := by
  refine spec_intro Tryd.func65 rfl (by kernel_rfl) (by rw [Tryd.ntmps65]; simp) fun F => ?_; rw [Tryd.ntmps65, Tryd.results65]
  (repeat (first | (with_reducible refine then_n ?_) | (with_reducible refine then_r ?_) | (with_reducible refine then_e ?_) | (with_reducible refine block_n ?_) | (with_reducible refine block_r ?_) | (with_reducible refine block_e ?_) | refine block_o ?_ | (with_reducible refine scope_n ?_) | (with_reducible refine scope_r ?_) | (with_reducible refine scope_e ?_) | (with_reducible refine code_seq ?_) | (with_reducible refine code_skip ?_) | (with_reducible refine code_label ?_) | (with_reducible refine code_block ?_) | (with_reducible refine code_scope ?_) | (with_reducible refine code_exit ?_) | (with_reducible refine code_ret ?_) | refine reg_to ?_ | (with_reducible refine run_nil ?_) | ((with_reducible refine run_probe ?_); refine run_more ?_) | (with_reducible refine draw_nil ?_) | ((with_reducible refine draw_probe ?_); (first | refine draw_more ?_ | refine draw_as ?_)) | refine code_then ?_ | refine code_else ?_))
  refine run_op fun K hK => ?_; rw [and64, and64_1]; refine hK _ _ ?_; clear hK K
  (repeat (first | (with_reducible refine then_n ?_) | (with_reducible refine then_r ?_) | (with_reducible refine then_e ?_) | (with_reducible refine block_n ?_) | (with_reducible refine block_r ?_) | (with_reducible refine block_e ?_) | refine block_o ?_ | (with_reducible refine scope_n ?_) | (with_reducible refine scope_r ?_) | (with_reducible refine scope_e ?_) | (with_reducible refine code_seq ?_) | (with_reducible refine code_skip ?_) | (with_reducible refine code_label ?_) | (with_reducible refine code_block ?_) | (with_reducible refine code_scope ?_) | (with_reducible refine code_exit ?_) | (with_reducible refine code_ret ?_) | refine reg_to ?_ | (with_reducible refine run_nil ?_) | ((with_reducible refine run_probe ?_); refine run_more ?_) | (with_reducible refine draw_nil ?_) | ((with_reducible refine draw_probe ?_); (first | refine draw_more ?_ | refine draw_as ?_)) | refine code_then ?_ | refine code_else ?_))

  (repeat (first | (with_reducible refine then_n ?_) | (with_reducible refine then_r ?_) | (with_reducible refine then_e ?_) | (with_reducible refine block_n ?_) | (with_reducible refine block_r ?_) | (with_reducible refine block_e ?_) | refine block_o ?_ | (with_reducible refine scope_n ?_) | (with_reducible refine scope_r ?_) | (with_reducible refine scope_e ?_) | (with_reducible refine code_seq ?_) | (with_reducible refine code_skip ?_) | (with_reducible refine code_label ?_) | (with_reducible refine code_block ?_) | (with_reducible refine code_scope ?_) | (with_reducible refine code_exit ?_) | (with_reducible refine code_ret ?_) | refine reg_to ?_ | (with_reducible refine run_nil ?_) | ((with_reducible refine run_probe ?_); refine run_more ?_) | (with_reducible refine draw_nil ?_) | ((with_reducible refine draw_probe ?_); (first | refine draw_more ?_ | refine draw_as ?_)) | refine code_then ?_ | refine code_else ?_))
  refine run_op fun K hK => ?_; rw [and64, and64_2]; refine hK _ _ ?_; clear hK K
  (repeat (first | (with_reducible refine then_n ?_) | (with_reducible refine then_r ?_) | (with_reducible refine then_e ?_) | (with_reducible refine block_n ?_) | (with_reducible refine block_r ?_) | (with_reducible refine block_e ?_) | refine block_o ?_ | (with_reducible refine scope_n ?_) | (with_reducible refine scope_r ?_) | (with_reducible refine scope_e ?_) | (with_reducible refine code_seq ?_) | (with_reducible refine code_skip ?_) | (with_reducible refine code_label ?_) | (with_reducible refine code_block ?_) | (with_reducible refine code_scope ?_) | (with_reducible refine code_exit ?_) | (with_reducible refine code_ret ?_) | refine reg_to ?_ | (with_reducible refine run_nil ?_) | ((with_reducible refine run_probe ?_); refine run_more ?_) | (with_reducible refine draw_nil ?_) | ((with_reducible refine draw_probe ?_); (first | refine draw_more ?_ | refine draw_as ?_)) | refine code_then ?_ | refine code_else ?_))

  refine run_op fun K hK => ?_; rw [and64, and64_3]; refine hK _ _ ?_; clear hK K
  (repeat (first | (with_reducible refine then_n ?_) | (with_reducible refine then_r ?_) | (with_reducible refine then_e ?_) | (with_reducible refine block_n ?_) | (with_reducible refine block_r ?_) | (with_reducible refine block_e ?_) | refine block_o ?_ | (with_reducible refine scope_n ?_) | (with_reducible refine scope_r ?_) | (with_reducible refine scope_e ?_) | (with_reducible refine code_seq ?_) | (with_reducible refine code_skip ?_) | (with_reducible refine code_label ?_) | (with_reducible refine code_block ?_) | (with_reducible refine code_scope ?_) | (with_reducible refine code_exit ?_) | (with_reducible refine code_ret ?_) | refine reg_to ?_ | (with_reducible refine run_nil ?_) | ((with_reducible refine run_probe ?_); refine run_more ?_) | (with_reducible refine draw_nil ?_) | ((with_reducible refine draw_probe ?_); (first | refine draw_more ?_ | refine draw_as ?_)) | refine code_then ?_ | refine code_else ?_))
  refine back_cells [] ?_; exact ⟨by kernel_rfl, rfl⟩

theorem mul_spec : Meets Tryd.prog 60 [.int .u64 1, .int .u64 64] [] fun v A => v = .tuple #[.int .u64 0, .int .u64 64] ∧ A = [] := by
  refine spec_intro Tryd.func60 rfl (by kernel_rfl) (by rw [Tryd.ntmps60]; simp) fun F => ?_; rw [Tryd.ntmps60, Tryd.results60]
  (repeat (first | (with_reducible refine then_n ?_) | (with_reducible refine then_r ?_) | (with_reducible refine then_e ?_) | (with_reducible refine block_n ?_) | (with_reducible refine block_r ?_) | (with_reducible refine block_e ?_) | refine block_o ?_ | (with_reducible refine scope_n ?_) | (with_reducible refine scope_r ?_) | (with_reducible refine scope_e ?_) | (with_reducible refine code_seq ?_) | (with_reducible refine code_skip ?_) | (with_reducible refine code_label ?_) | (with_reducible refine code_block ?_) | (with_reducible refine code_scope ?_) | (with_reducible refine code_exit ?_) | (with_reducible refine code_ret ?_) | refine reg_to ?_ | (with_reducible refine run_nil ?_) | ((with_reducible refine run_probe ?_); refine run_more ?_) | (with_reducible refine draw_nil ?_) | ((with_reducible refine draw_probe ?_); (first | refine draw_more ?_ | refine draw_as ?_)) | refine code_then ?_ | refine code_else ?_))
  refine run_op fun K hK => ?_; refine calls_to (mul64_spec) ?_; rintro v A ⟨rfl, rfl⟩; (try simp only [List.nil_append, List.cons_append]); refine hK _ _ ?_; clear hK K; (repeat (first | (with_reducible refine then_n ?_) | (with_reducible refine then_r ?_) | (with_reducible refine then_e ?_) | (with_reducible refine block_n ?_) | (with_reducible refine block_r ?_) | (with_reducible refine block_e ?_) | refine block_o ?_ | (with_reducible refine scope_n ?_) | (with_reducible refine scope_r ?_) | (with_reducible refine scope_e ?_) | (with_reducible refine code_seq ?_) | (with_reducible refine code_skip ?_) | (with_reducible refine code_label ?_) | (with_reducible refine code_block ?_) | (with_reducible refine code_scope ?_) | (with_reducible refine code_exit ?_) | (with_reducible refine code_ret ?_) | refine reg_to ?_ | (with_reducible refine run_nil ?_) | ((with_reducible refine run_probe ?_); refine run_more ?_) | (with_reducible refine draw_nil ?_) | ((with_reducible refine draw_probe ?_); (first | refine draw_more ?_ | refine draw_as ?_)) | refine code_then ?_ | refine code_else ?_))
  refine back_cells [] ?_; exact ⟨rfl, rfl⟩

theorem take_rep {α : Type} (x : α) (k : Nat) (r : List α) : (List.replicate k x ++ r).take k = List.replicate k x := by rw [List.take_left' (by simp)]

/-- One byte, 64 times. -/
theorem repeat_spec (H : Chunk) (a : Option Addr) (cap : Nat) (x : UInt8) (hcap : 1 ≤ cap) (h : Rd 1 [H] a 1 ([x].map b8)) :
    Meets Tryd.prog 44 [.slice a 1 cap, .int .i64 64] [H] (New8 5 (List.replicate 64 x) [H]) := by
  refine spec_intro Tryd.func44 rfl (by kernel_rfl) (by rw [Tryd.ntmps44]; simp) fun F => ?_; rw [Tryd.ntmps44, Tryd.results44]
  (repeat (first | (with_reducible refine then_n ?_) | (with_reducible refine then_r ?_) | (with_reducible refine then_e ?_) | (with_reducible refine block_n ?_) | (with_reducible refine block_r ?_) | (with_reducible refine block_e ?_) | refine block_o ?_ | (with_reducible refine scope_n ?_) | (with_reducible refine scope_r ?_) | (with_reducible refine scope_e ?_) | (with_reducible refine code_seq ?_) | (with_reducible refine code_skip ?_) | (with_reducible refine code_label ?_) | (with_reducible refine code_block ?_) | (with_reducible refine code_scope ?_) | (with_reducible refine code_exit ?_) | (with_reducible refine code_ret ?_) | refine reg_to ?_ | (with_reducible refine run_nil ?_) | ((with_reducible refine run_probe ?_); refine run_more ?_) | (with_reducible refine draw_nil ?_) | ((with_reducible refine draw_probe ?_); (first | refine draw_more ?_ | refine draw_as ?_)) | refine code_then ?_ | refine code_else ?_))
  refine run_op fun K hK => ?_; refine calls_to (mul_spec) ?_; rintro v A ⟨rfl, rfl⟩; (try simp only [List.nil_append, List.cons_append]); refine hK _ _ ?_; clear hK K; (repeat (first | (with_reducible refine then_n ?_) | (with_reducible refine then_r ?_) | (with_reducible refine then_e ?_) | (with_reducible refine block_n ?_) | (with_reducible refine block_r ?_) | (with_reducible refine block_e ?_) | refine block_o ?_ | (with_reducible refine scope_n ?_) | (with_reducible refine scope_r ?_) | (with_reducible refine scope_e ?_) | (with_reducible refine code_seq ?_) | (with_reducible refine code_skip ?_) | (with_reducible refine code_label ?_) | (with_reducible refine code_block ?_) | (with_reducible refine code_scope ?_) | (with_reducible refine code_exit ?_) | (with_reducible refine code_ret ?_) | refine reg_to ?_ | (with_reducible refine run_nil ?_) | ((with_reducible refine run_probe ?_); refine run_more ?_) | (with_reducible refine draw_nil ?_) | ((with_reducible refine draw_probe ?_); (first | refine draw_more ?_ | refine draw_as ?_)) | refine code_then ?_ | refine code_else ?_))
  refine run_op fun K hK => ?_; refine calls_extern Tryd.func45 (by kernel_rfl) (by kernel_rfl) (by kernel_rfl) (e := Extern.BytealgMakeNoZero.makeNoZero #[3] #[22]) (by kernel_rfl) ?_
  refine make_nozero (e := 5) (n := 64) (by decide) (fun b1 cap1 us C1 ho1 => ?_); refine hK _ _ ?_; clear hK K
  have hus : us.length = 64 := ho1.2.2.1
  have ho2 := own_cut ho1 (l := 0) (h' := 64) (m := 64) (by decide) (by decide) (by decide) ho1.1
  have e1 : (us.drop (0 * 1)).take ((64 - 0) * 1) = us := by rw [Nat.zero_mul, List.drop_zero]; exact List.take_of_length_le (by omega)
  rw [e1] at ho2
  have hcap1 := ho1.1
  (repeat (first | (with_reducible refine then_n ?_) | (with_reducible refine then_r ?_) | (with_reducible refine then_e ?_) | (with_reducible refine block_n ?_) | (with_reducible refine block_r ?_) | (with_reducible refine block_e ?_) | refine block_o ?_ | (with_reducible refine scope_n ?_) | (with_reducible refine scope_r ?_) | (with_reducible refine scope_e ?_) | (with_reducible refine code_seq ?_) | (with_reducible refine code_skip ?_) | (with_reducible refine code_label ?_) | (with_reducible refine code_block ?_) | (with_reducible refine code_scope ?_) | (with_reducible refine code_exit ?_) | (with_reducible refine code_ret ?_) | refine reg_to ?_ | (with_reducible refine run_nil ?_) | ((with_reducible refine run_probe ?_); refine run_more ?_) | (with_reducible refine draw_nil ?_) | ((with_reducible refine draw_probe ?_); (first | refine draw_more ?_ | refine draw_as ?_)) | refine code_then ?_ | refine code_else ?_))
  generalize cutA 1 (some (⟨b1, 0, none⟩ : Addr)) 0 64 = p at *
  refine run_op fun K hK => ?_
  refine copy_own (l := 0) ho2 (by (repeat (first | with_reducible exact Pick.head _ _ | with_reducible apply Pick.tail))) (h.mem (by (repeat (first | with_reducible assumption | with_reducible exact List.mem_cons_self .. | with_reducible apply List.mem_cons_of_mem)))) (by simp [Value.cell1, b8]) (by decide) (fun _ => by cases p <;> simp [Addr.add]) (fun C2 ho3 => ?_)
  refine hK _ _ ?_; clear hK K
  (repeat (first | (with_reducible refine then_n ?_) | (with_reducible refine then_r ?_) | (with_reducible refine then_e ?_) | (with_reducible refine block_n ?_) | (with_reducible refine block_r ?_) | (with_reducible refine block_e ?_) | refine block_o ?_ | (with_reducible refine scope_n ?_) | (with_reducible refine scope_r ?_) | (with_reducible refine scope_e ?_) | (with_reducible refine code_seq ?_) | (with_reducible refine code_skip ?_) | (with_reducible refine code_label ?_) | (with_reducible refine code_block ?_) | (with_reducible refine code_scope ?_) | (with_reducible refine code_exit ?_) | (with_reducible refine code_ret ?_) | refine reg_to ?_ | (with_reducible refine run_nil ?_) | ((with_reducible refine run_probe ?_); refine run_more ?_) | (with_reducible refine draw_nil ?_) | ((with_reducible refine draw_probe ?_); (first | refine draw_more ?_ | refine draw_as ?_)) | refine code_then ?_ | refine code_else ?_))
  refine loop_i (fun q D L S => ∃ (k : Nat) (C' : Chunk) (r : List Value), 1 ≤ k ∧ k ≤ 64 ∧ Ost.Own 1 5 C' p 64 64 (List.replicate k (b8 x) ++ r) ∧ q = 64 - k ∧ D = [] ∧
    L = [(10, .int .i64 k), (9, .slice p 64 64), (8, .int .i64 64), (7, .int .i64 64)] ∧ S = [C', F, H])
    ⟨1, C2, us.drop 1, by decide, by decide, by simpa using ho3, rfl, rfl, rfl, rfl⟩ ?_
  · rintro q D L S ⟨k, C', r, hk1, hk2, ho, rfl, rfl, rfl, rfl⟩
    have hrl : (List.replicate k (b8 x) ++ r).length = 64 := ho.2.2.1
    have hr2 : k + r.length = 64 := by simpa using hrl
    (repeat (first | (with_reducible refine then_n ?_) | (with_reducible refine then_r ?_) | (with_reducible refine then_e ?_) | (with_reducible refine block_n ?_) | (with_reducible refine block_r ?_) | (with_reducible refine block_e ?_) | refine block_o ?_ | (with_reducible refine scope_n ?_) | (with_reducible refine scope_r ?_) | (with_reducible refine scope_e ?_) | (with_reducible refine code_seq ?_) | (with_reducible refine code_skip ?_) | (with_reducible refine code_label ?_) | (with_reducible refine code_block ?_) | (with_reducible refine code_scope ?_) | (with_reducible refine code_exit ?_) | (with_reducible refine code_ret ?_) | refine reg_to ?_ | (with_reducible refine run_nil ?_) | ((with_reducible refine run_probe ?_); refine run_more ?_) | (with_reducible refine draw_nil ?_) | ((with_reducible refine draw_probe ?_); (first | refine draw_more ?_ | refine draw_as ?_)) | refine code_then ?_ | refine code_else ?_))
    refine if_d (fun hc => ?_) (fun hc => ?_)
    · (repeat (first | (with_reducible refine then_n ?_) | (with_reducible refine then_r ?_) | (with_reducible refine then_e ?_) | (with_reducible refine block_n ?_) | (with_reducible refine block_r ?_) | (with_reducible refine block_e ?_) | refine block_o ?_ | (with_reducible refine scope_n ?_) | (with_reducible refine scope_r ?_) | (with_reducible refine scope_e ?_) | (with_reducible refine code_seq ?_) | (with_reducible refine code_skip ?_) | (with_reducible refine code_label ?_) | (with_reducible refine code_block ?_) | (with_reducible refine code_scope ?_) | (with_reducible refine code_exit ?_) | (with_reducible refine code_ret ?_) | refine reg_to ?_ | (with_reducible refine run_nil ?_) | ((with_reducible refine run_probe ?_); refine run_more ?_) | (with_reducible refine draw_nil ?_) | ((with_reducible refine draw_probe ?_); (first | refine draw_more ?_ | refine draw_as ?_)) | refine code_then ?_ | refine code_else ?_))
      rw [if_neg (show ¬ ((64 : Int) < k) by omega)]
      refine code_dr [[], [], [], [1, 2], [], [], [4, 5], [1, 2, 3, 4, 5, 6], [0, 1, 2, 3, 4, 5, 6, 7], [0, 1, 2, 3, 4, 5, 6, 7, 8]] [(0, false, []), (1, false, []), (2, false, []), (3, false, []), (4, false, []), (5, false, []), (6, false, []), (7, true, []), (8, false, []), (9, true, [])] ?_
      have hsrc : Rd 1 [C'] (cutA 1 p 0 64) k ((List.replicate k x).map b8) := by
        have := rd_cut (ho.rd (S := [C']) (List.mem_cons_self ..)) (l := 0) (h' := k) (m := 64) (by omega) (by omega) (by omega)
        simpa using this
      (repeat (first | (with_reducible refine then_n ?_) | (with_reducible refine then_r ?_) | (with_reducible refine then_e ?_) | (with_reducible refine block_n ?_) | (with_reducible refine block_r ?_) | (with_reducible refine block_e ?_) | refine block_o ?_ | (with_reducible refine scope_n ?_) | (with_reducible refine scope_r ?_) | (with_reducible refine scope_e ?_) | (with_reducible refine code_seq ?_) | (with_reducible refine code_skip ?_) | (with_reducible refine code_label ?_) | (with_reducible refine code_block ?_) | (with_reducible refine code_scope ?_) | (with_reducible refine code_exit ?_) | (with_reducible refine code_ret ?_) | refine reg_to ?_ | (with_reducible refine run_nil ?_) | ((with_reducible refine run_probe ?_); refine run_more ?_) | (with_reducible refine draw_nil ?_) | ((with_reducible refine draw_probe ?_); (first | refine draw_more ?_ | refine draw_as ?_)) | refine code_then ?_ | refine code_else ?_))
      refine draw_op fun K hK => ?_
      refine copy_own (l := k) ho (by (repeat (first | with_reducible exact Pick.head _ _ | with_reducible apply Pick.tail))) (hsrc.mem (by (repeat (first | with_reducible assumption | with_reducible exact List.mem_cons_self .. | with_reducible apply List.mem_cons_of_mem)))) (fun v hv => by simp at hv; rw [hv.2]; exact b8_cell x) (by omega) (fun hpos => by unfold cutA; rw [if_neg (by omega), Nat.mul_one]) (fun C3 ho3 => ?_)
      refine hK _ _ ?_; clear hK K
      have e2 : (List.replicate k (b8 x) ++ r).take k ++ (((List.replicate k x).map b8).take (min k (64 - k)) ++ (List.replicate k (b8 x) ++ r).drop (k + min k (64 - k))) = List.replicate (k + min k (64 - k)) (b8 x) ++ r.drop (min k (64 - k)) := by
        rw [take_rep, List.map_replicate, List.take_replicate, ← List.append_assoc, List.replicate_append_replicate, show min (min k (64 - k)) k = min k (64 - k) from by omega]
        congr 1
        rw [List.drop_append]; simp
      rw [e2] at ho3
      (repeat (first | (with_reducible refine then_n ?_) | (with_reducible refine then_r ?_) | (with_reducible refine then_e ?_) | (with_reducible refine block_n ?_) | (with_reducible refine block_r ?_) | (with_reducible refine block_e ?_) | refine block_o ?_ | (with_reducible refine scope_n ?_) | (with_reducible refine scope_r ?_) | (with_reducible refine scope_e ?_) | (with_reducible refine code_seq ?_) | (with_reducible refine code_skip ?_) | (with_reducible refine code_label ?_) | (with_reducible refine code_block ?_) | (with_reducible refine code_scope ?_) | (with_reducible refine code_exit ?_) | (with_reducible refine code_ret ?_) | refine reg_to ?_ | (with_reducible refine run_nil ?_) | ((with_reducible refine run_probe ?_); refine run_more ?_) | (with_reducible refine draw_nil ?_) | ((with_reducible refine draw_probe ?_); (first | refine draw_more ?_ | refine draw_as ?_)) | refine code_then ?_ | refine code_else ?_))
      (repeat (first | (with_reducible refine then_n ?_) | (with_reducible refine then_r ?_) | (with_reducible refine then_e ?_) | (with_reducible refine block_n ?_) | (with_reducible refine block_r ?_) | (with_reducible refine block_e ?_) | refine block_o ?_ | (with_reducible refine scope_n ?_) | (with_reducible refine scope_r ?_) | (with_reducible refine scope_e ?_) | (with_reducible refine code_seq ?_) | (with_reducible refine code_skip ?_) | (with_reducible refine code_label ?_) | (with_reducible refine code_block ?_) | (with_reducible refine code_scope ?_) | (with_reducible refine code_exit ?_) | (with_reducible refine code_ret ?_) | refine reg_to ?_ | (with_reducible refine run_nil ?_) | ((with_reducible refine run_probe ?_); refine run_more ?_) | (with_reducible refine draw_nil ?_) | ((with_reducible refine draw_probe ?_); (first | refine draw_more ?_ | refine draw_as ?_)) | refine code_then ?_ | refine code_else ?_))
      exact again ⟨k + min k (64 - k), C3, r.drop (min k (64 - k)), by omega, by omega, ho3, rfl, rfl, rfl, rfl⟩
    · (repeat (first | (with_reducible refine then_n ?_) | (with_reducible refine then_r ?_) | (with_reducible refine then_e ?_) | (with_reducible refine block_n ?_) | (with_reducible refine block_r ?_) | (with_reducible refine block_e ?_) | refine block_o ?_ | (with_reducible refine scope_n ?_) | (with_reducible refine scope_r ?_) | (with_reducible refine scope_e ?_) | (with_reducible refine code_seq ?_) | (with_reducible refine code_skip ?_) | (with_reducible refine code_label ?_) | (with_reducible refine code_block ?_) | (with_reducible refine code_scope ?_) | (with_reducible refine code_exit ?_) | (with_reducible refine code_ret ?_) | refine reg_to ?_ | (with_reducible refine run_nil ?_) | ((with_reducible refine run_probe ?_); refine run_more ?_) | (with_reducible refine draw_nil ?_) | ((with_reducible refine draw_probe ?_); (first | refine draw_more ?_ | refine draw_as ?_)) | refine code_then ?_ | refine code_else ?_))
      obtain rfl : k = 64 := by omega
      obtain rfl : r = [] := List.length_eq_zero_iff.1 (by omega)
      rw [List.append_nil] at ho
      refine back_tmp [C', H] ?_
      exact ⟨C', p, 64, by simp, by simpa [Own8] using ho, rfl⟩

end Go.Proofs.YtfihpbhdilldoaaDoor

/- The words of SHA-256: turning, loading. Conditions: as each says. -/
set_option linter.unusedSimpArgs false
set_option linter.unusedVariables false
namespace Go.Proofs.YtfihpbhdilldoaaDoor
open Go Go.Ost Go.Sha

theorem turn_spec (x : W) (n : Nat) (h : n ≤ 32) : Meets Tryd.prog 67 [b32 x, .int .u64 n] [] fun v A => v = b32 (rot n x) ∧ A = [] := by
  refine spec_intro Tryd.func67 rfl (by kernel_rfl) (by rw [Tryd.ntmps67]; simp) fun F => ?_; rw [Tryd.ntmps67, Tryd.results67]
  refine code_seq_k fun N1 hN1 => ?_
  refine reg_to ?_; (try refine run_end ?_)
  refine hN1 _ _ _ ?_; clear hN1
  refine code_seq_k fun N2 hN2 => ?_
  refine reg_to ?_; (try refine run_end ?_)
  refine hN2 _ _ _ ?_; clear hN2
  refine code_back ?_
  refine back_tmp [] ?_; exact ⟨by rw [show ((32 : Int) - n).toNat = 32 - n from by omega]; rfl, rfl⟩

theorem and31 {P : Program} {t : TypeId} {x y : Operand} {κ : Value → Prop} (n : Nat) (h0 : 1 ≤ n) (h1 : n ≤ 31) :
    PureW P (do eqGuard .and t x y (.int .u64 (IntKind.u64.wrap (-(n : Int)))) (.int .u64 31); binOp .and t (.int .u64 (IntKind.u64.wrap (-(n : Int)))) (.int .u64 31)) κ = κ (.int .u64 (32 - n)) :=
  pureW_eq (fun w => by
    have key : ∀ n : Fin 32, 1 ≤ n.val → IntKind.u64.wrap ((BitVec.ofInt 64 (IntKind.u64.wrap (-(n.val : Int))) &&& BitVec.ofInt 64 31).toNat : Int) = 32 - n.val := by decide
    show Result.ok (Value.int .u64 (IntKind.u64.wrap ((BitVec.ofInt 64 (IntKind.u64.wrap (-(n : Int))) &&& BitVec.ofInt 64 31).toNat : Int))) w = _
    rw [key ⟨n, by omega⟩ h0]) κ

theorem rotl_spec (x : W) (n : Nat) (h0 : 1 ≤ n) (h1 : n ≤ 31) : Meets Tryd.prog 59 [b32 x, .int .i64 (-(n : Int))] [] fun v A => v = b32 (rot n x) ∧ A = [] := by
  refine spec_intro Tryd.func59 rfl (by kernel_rfl) (by rw [Tryd.ntmps59]; simp) fun F => ?_; rw [Tryd.ntmps59, Tryd.results59]
  refine code_seq_k fun N1 hN1 => ?_
  refine reg_to ?_; (try refine run_end ?_)
  refine hN1 _ _ _ ?_; clear hN1
  refine code_seq_k fun N2 hN2 => ?_
  refine reg_to ?_; (try refine run_end ?_)
  refine run_op fun K hK => ?_
  rw [and31 n h0 h1]
  refine hK _ _ ?_; clear hK K
  (try refine run_to ?_); (try refine run_end ?_)
  refine hN2 _ _ _ ?_; clear hN2
  refine code_seq_k fun N3 hN3 => ?_
  refine reg_to ?_; (try refine run_end ?_)
  refine hN3 _ _ _ ?_; clear hN3
  refine code_back ?_
  refine back_tmp [] ?_; exact ⟨by rw [show ((32 : Int) - n).toNat = 32 - n from by omega, show ((32 : Int) - (32 - n)).toNat = n from by omega, BitVec.or_comm]; rfl, rfl⟩

theorem word_spec (H : Chunk) (a : Option Addr) (len cap : Nat) (x0 x1 x2 x3 : UInt8) (l : List UInt8) (h : Rd 1 [H] a len ((x0 :: x1 :: x2 :: x3 :: l).map b8)) :
    Meets Tryd.prog 63 [.slice a len cap] [H] fun v A => v = b32 (word x0 x1 x2 x3) ∧ A = [H] := by
  refine spec_intro Tryd.func63 rfl (by kernel_rfl) (by rw [Tryd.ntmps63]; simp) fun F => ?_; rw [Tryd.ntmps63, Tryd.results63]
  have hr := h.next F
  have hlen : 4 ≤ len := by have := h.1; simp at this; omega
  refine code_seq_k fun N1 hN1 => ?_
  refine reg_to ?_; (try refine run_end ?_)
  refine hN1 _ _ _ ?_; clear hN1
  refine code_seq_k fun N2 hN2 => ?_
  refine code_draw [[], [0], [0, 1], [0, 1, 2], [0, 1, 2, 3], [], [5], [5, 6], [5, 6, 7], [5, 6, 7, 8], [0, 1, 2, 3, 4, 5, 6, 7, 8, 9], [], [11], [11, 12], [11, 12, 13], [11, 12, 13, 14], [0, 1, 2, 3, 4, 5, 6, 7, 8, 9, 10, 11, 12, 13, 14, 15], [], [17], [17, 18], [17, 18, 19], [0, 1, 2, 3, 4, 5, 6, 7, 8, 9, 10, 11, 12, 13, 14, 15, 16, 17, 18, 19, 20], [0, 1, 2, 3, 4, 5, 6, 7, 8, 9, 10, 11, 12, 13, 14, 15, 16, 17, 18, 19, 20, 21]] [(0, false, []), (1, false, []), (2, false, []), (3, false, []), (4, false, []), (5, false, []), (6, false, []), (7, false, []), (8, false, []), (9, false, []), (10, false, []), (11, false, []), (12, false, []), (13, false, []), (14, false, []), (15, false, []), (16, false, []), (17, false, []), (18, false, []), (19, false, []), (20, false, []), (21, false, []), (22, true, [])] (by kernel_rfl) (by kernel_rfl) ?_
  (repeat (refine draw_quiet (by simp only [List.getElem?_toArray, List.getElem?_cons_succ, List.getElem?_cons_zero]; rfl) fun K hK => ?_; (try simp only [gos, gob, Nat.reduceBEq, if_true, reduceIte, reduceCtorEq, Nat.reduceLT, Nat.reduceEqDiff, Nat.reduceAdd, Nat.reduceSub, Int.reduceLT, Int.reduceLE, Int.reduceBEq, Int.reduceBNe, Int.reduceToNat, Int.reduceAdd, Int.reduceSub, Int.reduceMul, Int.reduceDiv, Int.reduceMod, Int.reducePow, Int.toNat_natCast, Nat.sub_zero, goq]); (try (simp (disch := omega) only [gow, gobw, index_rd hr]; try simp only [gos, gob, Nat.reduceBEq, if_true, reduceIte, reduceCtorEq, Nat.reduceLT, Nat.reduceEqDiff, Nat.reduceAdd, Nat.reduceSub, Int.reduceLT, Int.reduceLE, Int.reduceBEq, Int.reduceBNe, Int.reduceToNat, Int.reduceAdd, Int.reduceSub, Int.reduceMul, Int.reduceDiv, Int.reduceMod, Int.reducePow, Int.toNat_natCast, Nat.sub_zero, goq])); (first | (with_reducible refine hK _ _ ?_) | (refine rd_load hr rfl ?_; (with_reducible refine hK _ _ ?_)) | ((with_reducible apply load_box); (· (repeat (first | with_reducible exact Lies.one | with_reducible apply Lies.next))); (with_reducible refine hK _ _ ?_)) | ((with_reducible apply load_one); (· (repeat (first | with_reducible exact Lies.one | with_reducible apply Lies.next))); (· exact rfl); (with_reducible refine hK _ _ ?_))); clear hK K)); try ((with_reducible refine draw_nil ?_); try simp only [Cont.then, Cont.block, Cont.noGoto, reduceIte, Nat.reduceEqDiff])
  refine draw_op fun K hK => ?_; (repeat refine pend ?_); refine hK _ _ ?_; clear hK K
  (try refine draw_to ?_); (try refine draw_end ?_)
  refine hN2 _ _ _ ?_; clear hN2
  refine code_back ?_
  refine back_tmp [H] ?_; exact ⟨by rw [word_eq], rfl⟩

end Go.Proofs.YtfihpbhdilldoaaDoor

/- The words of a block, spread. Conditions: as each says. -/
set_option linter.unusedSimpArgs false
set_option linter.unusedVariables false
namespace Go.Proofs.YtfihpbhdilldoaaDoor
open Go Go.Ost Go.Sha

theorem word_at (H : Chunk) (a : Option Addr) (len cap : Nat) (bs : List UInt8) (hb : 4 ≤ bs.length) (h : Rd 1 [H] a len (bs.map b8)) :
    Meets Tryd.prog 63 [.slice a len cap] [H] fun v A => v = b32 (wordAt bs 0) ∧ A = [H] := by
  match bs, hb, h with
  | x0 :: x1 :: x2 :: x3 :: l, _, h => exact word_spec H a len cap x0 x1 x2 x3 l h

theorem spread_spec (H : Chunk) (a : Option Addr) (cap : Nat) (hcap : 64 ≤ cap) (bs : List UInt8) (hb : bs.length = 64) (h : Rd 1 [H] a 64 (bs.map b8)) :
    Meets Tryd.prog 58 [.slice a 64 cap] [H] fun v A => v = .agg (rowW (spr bs 64)) ∧ A = [H] := by
  refine spec_intro Tryd.func58 rfl (by kernel_rfl) (by rw [Tryd.ntmps58]; simp) fun F => ?_; rw [Tryd.ntmps58, Tryd.results58]
  refine code_seq_k fun N1 hN1 => ?_
  refine reg_to ?_; (try refine run_end ?_)
  refine run_op fun K hK => ?_; refine alloc_new fun b2 => ?_; (try simp only [Value.cells]); refine hK _ _ ?_; clear hK K
  (try refine run_to ?_); (try refine run_end ?_)
  refine hN1 _ _ _ ?_; clear hN1
  refine code_seq_k fun N2 hN2 => ?_
  refine reg_to ?_; (try refine run_end ?_)
  refine run_op fun K hK => ?_; refine alloc_new fun b3 => ?_; (try simp only [Value.cells]); refine hK _ _ ?_; clear hK K
  (try refine run_to ?_); (try refine run_end ?_)
  refine hN2 _ _ _ ?_; clear hN2
  refine code_seq_k fun N3 hN3 => ?_
  refine code_seq_k fun N4 hN4 => ?_
  refine reg_to ?_; (try refine run_end ?_)
  refine hN4 _ _ _ ?_; clear hN4
  refine code_block ?_
  refine code_loop (fun q D L S => ∃ i : Nat, i ≤ 16 ∧ q = 16 - i ∧ D = [] ∧ L = [(10, .int .i64 i), (0, .slice a 64 cap), (2, .pointer (some ⟨b2, 0, none⟩)), (3, .pointer (some ⟨b3, 0, none⟩))] ∧
    S = [[(b3, .cells (rowW (spr bs i)) 75 (0, 0))], [(b2, .cells (rowW (spr bs 0)) 75 (0, 0))], F, H]) ?_ ?_
  · exact ⟨_, _, _, ⟨0, by omega, rfl, rfl, rfl, rfl⟩, by (repeat (first | exact True.intro | (refine And.intro ?_ ?_; (· (try simp only [evT, lookT_hit, lookT_miss, Nat.reduceBEq]); (first | done | exact rfl))))), by first | ((repeat (first | with_reducible exact Among.nil _ | with_reducible exact Pick.head _ _ | with_reducible apply Pick.tail | with_reducible apply Among.cons)); done) | ((repeat (first | exact Among.nil _ | exact Pick.head _ _ | apply Pick.tail | apply Among.cons)); done)⟩
  · rintro q D L S ⟨i, hi, rfl, rfl, rfl, rfl⟩
    refine code_seq_k fun N5 hN5 => ?_
    refine reg_to ?_; (try refine run_end ?_)
    refine hN5 _ _ _ ?_; clear hN5
    refine code_seq_k fun N6 hN6 => ?_
    refine code_if (fun hc => ?_) (fun hc => ?_)
    · have hc := of_decide_eq_true hc
      refine code_skip ?_
      refine hN6 _ _ _ ?_; clear hN6
      refine code_seq_k fun N7 hN7 => ?_
      refine code_block ?_
      refine code_seq_k fun N8 hN8 => ?_
      refine reg_to ?_; (try refine run_end ?_)
      refine hN8 _ _ _ ?_; clear hN8
      refine reg_to ?_; (try refine run_end ?_)
      refine run_op fun K hK => ?_; refine calls_to (word_at H _ _ _ _ (by simp; omega) (rd_cut1 h (l := (4 * (i : Int)).toNat) (h' := 64) (m := cap) (by omega) (by omega) (by omega))) ?_; rintro v A ⟨rfl, rfl⟩; refine hK _ _ ?_; clear hK K
      (try refine runv_to ?_); (try refine run_end ?_)
      have e : (spr bs i).set (0 + i * 1) (wordAt ((bs.drop (4 * (i : Int)).toNat).take (64 - (4 * (i : Int)).toNat)) 0) = spr bs (i + 1) := by
        rw [wordAt_cut _ _ _ (by omega), show (4 * (i : Int)).toNat = 4 * i from by omega]; rw [show 0 + i * 1 = i from by omega]
        simp only [spr]; rw [if_pos (by omega)]
      rw [e]
      refine hN7 _ _ _ ?_; clear hN7
      refine reg_to ?_; (try refine run_end ?_)
      exact again ⟨i + 1, by omega, rfl, rfl, rfl, rfl⟩
    · have hc := of_decide_eq_false hc
      refine code_exit ?_; try simp only [Cont.then, Cont.block, Cont.noGoto, reduceIte, Nat.reduceEqDiff]
      refine hN3 _ _ _ ?_; clear hN3
      obtain rfl : i = 16 := by omega
      refine code_seq_k fun N9 hN9 => ?_
      refine code_seq_k fun N10 hN10 => ?_
      refine reg_to ?_; (try refine run_end ?_)
      refine hN10 _ _ _ ?_; clear hN10
      refine code_block ?_
      refine code_loop (fun q D L S => ∃ i : Nat, 16 ≤ i ∧ i ≤ 64 ∧ q = 64 - i ∧ D = [] ∧ L = [(5, .int .i64 i), (2, .pointer (some ⟨b2, 0, none⟩)), (3, .pointer (some ⟨b3, 0, none⟩))] ∧
        S = [[(b3, .cells (rowW (spr bs i)) 75 (0, 0))], [(b2, .cells (rowW (spr bs 0)) 75 (0, 0))], F, H]) ?_ ?_
      · exact ⟨_, _, _, ⟨16, by omega, by omega, rfl, rfl, rfl, rfl⟩, by (repeat (first | exact True.intro | (refine And.intro ?_ ?_; (· (try simp only [evT, lookT_hit, lookT_miss, Nat.reduceBEq]); (first | done | exact rfl))))), by first | ((repeat (first | with_reducible exact Among.nil _ | with_reducible exact Pick.head _ _ | with_reducible apply Pick.tail | with_reducible apply Among.cons)); done) | ((repeat (first | exact Among.nil _ | exact Pick.head _ _ | apply Pick.tail | apply Among.cons)); done)⟩
      · rintro q D L S ⟨i, h16, hi, rfl, rfl, rfl, rfl⟩
        refine code_seq_k fun N11 hN11 => ?_
        refine code_seq_k fun N12 hN12 => ?_
        refine reg_to ?_; (try refine run_end ?_)
        refine hN12 _ _ _ ?_; clear hN12
        refine code_if (fun hc => ?_) (fun hc => ?_)
        · have hc := of_decide_eq_true hc
          refine code_skip ?_
          refine hN11 _ _ _ ?_; clear hN11
          refine code_seq_k fun N13 hN13 => ?_
          refine code_block ?_
          refine code_seq_k fun N14 hN14 => ?_
          refine code_draw [[], [0], [0, 1], [0, 1, 2], [], [4], [4, 5], [4, 5, 6], [0, 1, 2, 3], [0, 1, 2, 3, 4, 5, 6, 7, 8]] [(0, false, []), (1, false, []), (2, false, []), (3, false, []), (4, false, []), (5, false, []), (6, false, []), (7, false, []), (8, true, [7]), (9, true, [])] (by kernel_rfl) (by kernel_rfl) ?_
          (try refine drawv_to ?_); (try refine draw_end ?_)
          refine draw_op fun K hK => ?_; (repeat refine pendv ?_); refine hK _ _ ?_; clear hK K
          (try refine draw_to ?_); (try refine draw_end ?_)
          refine draw_op fun K hK => ?_; (repeat refine pendv ?_); refine hK _ _ ?_; clear hK K
          (try refine draw_to ?_); (try refine draw_end ?_)
          refine hN14 _ _ _ ?_; clear hN14
          refine code_seq_k fun N15 hN15 => ?_
          refine reg_to ?_; (try refine run_end ?_)
          refine run_op fun K hK => ?_; refine calls_to (rotl_spec _ 7 (by decide) (by decide)) ?_; rintro v A ⟨rfl, rfl⟩; refine hK _ _ ?_; clear hK K
          (try refine run_to ?_); (try refine run_end ?_)
          refine run_op fun K hK => ?_; refine calls_to (rotl_spec _ 18 (by decide) (by decide)) ?_; rintro v A ⟨rfl, rfl⟩; refine hK _ _ ?_; clear hK K
          (try refine run_to ?_); (try refine run_end ?_)
          refine hN15 _ _ _ ?_; clear hN15
          refine code_seq_k fun N16 hN16 => ?_
          refine reg_to ?_; (try refine run_end ?_)
          refine run_op fun K hK => ?_; refine calls_to (rotl_spec _ 17 (by decide) (by decide)) ?_; rintro v A ⟨rfl, rfl⟩; refine hK _ _ ?_; clear hK K
          (try refine run_to ?_); (try refine run_end ?_)
          refine run_op fun K hK => ?_; refine calls_to (rotl_spec _ 19 (by decide) (by decide)) ?_; rintro v A ⟨rfl, rfl⟩; refine hK _ _ ?_; clear hK K
          (try refine run_to ?_); (try refine run_end ?_)
          refine hN16 _ _ _ ?_; clear hN16
          refine code_draw [[], [], [1], [1, 2], [1, 2, 3], [], [1, 2, 3, 4, 5], [], [7], [7, 8], [7, 8, 9], [1, 2, 3, 4, 5, 6, 7, 8, 9, 10], [], [1, 2, 3, 4, 5, 6, 7, 8, 9, 10, 11, 12], [0, 1, 2, 3, 4, 5, 6, 7, 8, 9, 10, 11, 12, 13], [0, 1, 2, 3, 4, 5, 6, 7, 8, 9, 10, 11, 12, 13, 14]] [(0, false, []), (1, false, []), (2, false, []), (3, false, []), (4, false, []), (5, false, []), (6, false, []), (7, false, []), (8, false, []), (9, false, []), (10, false, []), (11, false, []), (12, false, []), (13, false, []), (14, false, []), (15, true, [])] (by kernel_rfl) (by kernel_rfl) ?_
          (try refine drawv_to ?_); (try refine draw_end ?_)
          refine draw_op fun K hK => ?_; (first | ((with_reducible apply store_x); (· (repeat (first | with_reducible exact Upd.one | with_reducible apply Upd.next))); (· (first | (rw [ld_len]; omega) | (rw [List.length_replicate]; omega) | (rw [St.list_len]; omega) | (rw [odd_len]; omega) | (rw [spr_len]; omega) | (rw [mix_len _ _ _ (by omega)]; omega)))) | ((with_reducible apply store_w); (· (repeat (first | with_reducible exact Upd.one | with_reducible apply Upd.next))); (· (first | (rw [ld_len]; omega) | (rw [List.length_replicate]; omega) | (rw [St.list_len]; omega) | (rw [odd_len]; omega) | (rw [spr_len]; omega) | (rw [mix_len _ _ _ (by omega)]; omega))))); (repeat refine pendv ?_); refine hK _ _ ?_; clear hK K
          (try refine draw_to ?_); (try refine draw_end ?_)
          refine hN13 _ _ _ ?_; clear hN13
          rw [show 0 + i * 1 = i from by omega, show 0 + ((i : Int) - 16).toNat * 1 = i - 16 from by omega, show 0 + ((i : Int) - 15).toNat * 1 = i - 15 from by omega, show 0 + ((i : Int) - 7).toNat * 1 = i - 7 from by omega, show 0 + ((i : Int) - 2).toNat * 1 = i - 2 from by omega]
          have e : (spr bs i).set i (nxt (spr bs i) i) = spr bs (i + 1) := by simp only [spr]; rw [if_neg (by omega)]
          refine code_less (L' := [(5, .int .i64 i), (2, .pointer (some ⟨b2, 0, none⟩)), (3, .pointer (some ⟨b3, 0, none⟩))])
            (S' := [[(b3, .cells (rowW ((spr bs i).set i (nxt (spr bs i) i))) 75 (0, 0))], [(b2, .cells (rowW (spr bs 0)) 75 (0, 0))], F, H]) (by (repeat (first | exact True.intro | (refine And.intro ?_ ?_; (· (try simp only [evT, lookT_hit, lookT_miss, Nat.reduceBEq]); (first | done | exact rfl)))))) (by first | ((repeat (first | with_reducible exact Among.nil _ | with_reducible exact Pick.head _ _ | with_reducible apply Pick.tail | with_reducible apply Among.cons)); done) | ((repeat (first | exact Among.nil _ | exact Pick.head _ _ | apply Pick.tail | apply Among.cons)); done)) ?_
          rw [e]
          refine reg_to ?_; (try refine run_end ?_)
          exact again ⟨i + 1, by omega, by omega, rfl, rfl, rfl, rfl⟩
        · have hc := of_decide_eq_false hc
          refine code_exit ?_; try simp only [Cont.then, Cont.block, Cont.noGoto, reduceIte, Nat.reduceEqDiff]
          refine hN9 _ _ _ ?_; clear hN9
          obtain rfl : i = 64 := by omega
          refine code_seq_k fun N17 hN17 => ?_
          refine code_reg ?_
          refine run_op fun K hK => ?_
          refine load_rw (by (repeat (first | with_reducible exact Lies.one | with_reducible apply Lies.next))) (spr_len _ _) ?_
          refine hK _ _ ?_; clear hK K
          refine run_op fun K hK => ?_
          refine store_rw (by (repeat (first | with_reducible exact Upd.one | with_reducible apply Upd.next))) (spr_len _ _) (spr_len _ _) ?_
          refine hK _ _ ?_; clear hK K
          (try refine run_to ?_); (try refine run_end ?_)
          refine hN17 _ _ _ ?_; clear hN17
          refine code_back ?_
          refine ⟨_, by simp only [marksOf, List.map_cons, List.map_nil]; (repeat (first | with_reducible exact Take.nil _ | with_reducible exact Pick.head _ _ | with_reducible apply Pick.tail | with_reducible apply Take.cons)), ?_⟩; simp only [resW, withV, lookT_hit, lookT_miss, Nat.reduceBEq]; refine load_rw (by (repeat (first | with_reducible exact Lies.one | with_reducible apply Lies.next))) (spr_len _ _) ?_; exact ⟨[H], ⟨rfl, rfl⟩, by first | ((repeat (first | with_reducible exact Among.nil _ | with_reducible exact Pick.head _ _ | with_reducible apply Pick.tail | with_reducible apply Among.cons)); done) | ((repeat (first | exact Among.nil _ | exact Pick.head _ _ | apply Pick.tail | apply Among.cons)); done)⟩

end Go.Proofs.YtfihpbhdilldoaaDoor

/- The state behind a block. Conditions: as each says. -/
set_option linter.unusedSimpArgs false
set_option linter.unusedVariables false
namespace Go.Proofs.YtfihpbhdilldoaaDoor
open Go Go.Ost Go.Sha

set_option maxHeartbeats 4000000 in
theorem step_spec {tg : TypeId} (G H : Chunk) (m : Nat × Nat) (hG : (1, Obj.cells (rowW odd) tg m) ∈ G) (b e : Nat) (s : St) (r : List Value) (a : Option Addr) (cap : Nat) (hcap : 64 ≤ cap) (bs : List UInt8) (hb : bs.length = 64) (h : Rd 1 [H] a 64 (bs.map b8)) :
    Meets Tryd.prog 42 [.pointer (some ⟨b, 0, none⟩), .slice a 64 cap] [G, H, [(b, .cells (rowX s.list r) e (0, 0))]]
      fun v A => v = .tuple #[] ∧ A = [G, H, [(b, .cells (rowX (Go.Sha.step odd s bs).list r) e (0, 0))]] := by
  refine spec_intro Tryd.func42 rfl (by kernel_rfl) (by rw [Tryd.ntmps42]; simp) fun F => ?_; rw [Tryd.ntmps42, Tryd.results42]
  refine code_seq_k fun N1 hN1 => ?_
  refine reg_to ?_; (try refine run_end ?_)
  refine run_op fun K hK => ?_; refine calls_to (spread_spec H a cap hcap bs hb h) ?_; rintro v A ⟨rfl, rfl⟩; refine hK _ _ ?_; clear hK K
  (try refine run_to ?_); (try refine run_end ?_)
  refine run_op fun K hK => ?_; refine alloc_new fun b4 => ?_; (try simp only [Value.cells]); refine hK _ _ ?_; clear hK K
  refine run_op fun K hK => ?_
  refine store_rw (l := spr bs 0) (l' := spr bs 64) (by (repeat (first | exact Upd.one | apply Upd.next))) (spr_len _ _) (spr_len _ _) ?_
  refine hK _ _ ?_; clear hK K
  (try refine run_to ?_); (try refine run_end ?_)
  refine hN1 _ _ _ ?_; clear hN1
  refine code_seq_k fun N2 hN2 => ?_
  refine code_draw [[], [0], [0, 1], [0, 1, 2], [], [4], [4, 5], [4, 5, 6], [], [8], [8, 9], [8, 9, 10], [], [12], [12, 13], [12, 13, 14], [], [16], [16, 17], [16, 17, 18], [], [20], [20, 21], [20, 21, 22], [], [24], [24, 25], [24, 25, 26], [], [28], [28, 29], [28, 29, 30], [0, 1, 2, 3], [0, 1, 2, 3, 4, 5, 6, 7, 32], [0, 1, 2, 3, 4, 5, 6, 7, 8, 9, 10, 11, 32, 33], [0, 1, 2, 3, 4, 5, 6, 7, 8, 9, 10, 11, 12, 13, 14, 15, 32, 33, 34], [0, 1, 2, 3, 4, 5, 6, 7, 8, 9, 10, 11, 12, 13, 14, 15, 16, 17, 18, 19, 32, 33, 34, 35], [0, 1, 2, 3, 4, 5, 6, 7, 8, 9, 10, 11, 12, 13, 14, 15, 16, 17, 18, 19, 20, 21, 22, 23, 32, 33, 34, 35, 36], [0, 1, 2, 3, 4, 5, 6, 7, 8, 9, 10, 11, 12, 13, 14, 15, 16, 17, 18, 19, 20, 21, 22, 23, 24, 25, 26, 27, 32, 33, 34, 35, 36, 37], [0, 1, 2, 3, 4, 5, 6, 7, 8, 9, 10, 11, 12, 13, 14, 15, 16, 17, 18, 19, 20, 21, 22, 23, 24, 25, 26, 27, 28, 29, 30, 31, 32, 33, 34, 35, 36, 37, 38]] [(0, false, []), (1, false, []), (2, false, []), (3, false, []), (4, false, []), (5, false, []), (6, false, []), (7, false, []), (8, false, []), (9, false, []), (10, false, []), (11, false, []), (12, false, []), (13, false, []), (14, false, []), (15, false, []), (16, false, []), (17, false, []), (18, false, []), (19, false, []), (20, false, []), (21, false, []), (22, false, []), (23, false, []), (24, false, []), (25, false, []), (26, false, []), (27, false, []), (28, false, []), (29, false, []), (30, false, []), (31, false, []), (32, true, [7, 11, 15, 19, 23, 27, 31]), (33, true, [11, 15, 19, 23, 27, 31]), (34, true, [15, 19, 23, 27, 31]), (35, true, [19, 23, 27, 31]), (36, true, [23, 27, 31]), (37, true, [27, 31]), (38, true, [31]), (39, true, [])] (by kernel_rfl) (by kernel_rfl) ?_
  (try refine drawv_to ?_); (try refine draw_end ?_)
  refine draw_op fun K hK => ?_; (repeat refine pendv ?_); refine hK _ _ ?_; clear hK K
  (try refine drawv_to ?_); (try refine draw_end ?_)
  refine draw_op fun K hK => ?_; (repeat refine pendv ?_); refine hK _ _ ?_; clear hK K
  (try refine drawv_to ?_); (try refine draw_end ?_)
  refine draw_op fun K hK => ?_; (repeat refine pendv ?_); refine hK _ _ ?_; clear hK K
  (try refine drawv_to ?_); (try refine draw_end ?_)
  refine draw_op fun K hK => ?_; (repeat refine pendv ?_); refine hK _ _ ?_; clear hK K
  (try refine drawv_to ?_); (try refine draw_end ?_)
  refine draw_op fun K hK => ?_; (repeat refine pendv ?_); refine hK _ _ ?_; clear hK K
  (try refine drawv_to ?_); (try refine draw_end ?_)
  refine draw_op fun K hK => ?_; (repeat refine pendv ?_); refine hK _ _ ?_; clear hK K
  (try refine drawv_to ?_); (try refine draw_end ?_)
  refine draw_op fun K hK => ?_; (repeat refine pendv ?_); refine hK _ _ ?_; clear hK K
  (try refine drawv_to ?_); (try refine draw_end ?_)
  refine draw_op fun K hK => ?_; (repeat refine pendv ?_); refine hK _ _ ?_; clear hK K
  (try refine drawv_to ?_); (try refine draw_end ?_)
  refine hN2 _ _ _ ?_; clear hN2
  refine code_seq_k fun N3 hN3 => ?_
  refine code_seq_k fun N4 hN4 => ?_
  refine reg_to ?_; (try refine run_end ?_)
  refine hN4 _ _ _ ?_; clear hN4
  refine code_block ?_
  refine code_loop (fun q D L S => ∃ i : Nat, i ≤ 64 ∧ q = 64 - i ∧ D = [] ∧ L = [(55, .int .i64 i), (5, b32 (turns odd (spr bs 64) i s).a), (6, b32 (turns odd (spr bs 64) i s).b), (7, b32 (turns odd (spr bs 64) i s).c), (8, b32 (turns odd (spr bs 64) i s).d), (9, b32 (turns odd (spr bs 64) i s).e), (10, b32 (turns odd (spr bs 64) i s).f), (11, b32 (turns odd (spr bs 64) i s).g), (12, b32 (turns odd (spr bs 64) i s).h), (0, .pointer (some ⟨b, 0, none⟩)), (4, .pointer (some ⟨b4, 0, none⟩))] ∧
    S = [F, [(b4, .cells (rowW (spr bs 64)) 75 (0, 0))], G, H, [(b, .cells (rowX s.list r) e (0, 0))]]) ?_ ?_
  · exact ⟨_, _, _, ⟨0, by omega, rfl, rfl, rfl, rfl⟩, by (repeat (first | exact True.intro | (refine And.intro ?_ ?_; (· (try simp only [evT, lookT_hit, lookT_miss, Nat.reduceBEq]); (first | done | exact rfl))))), by first | ((repeat (first | with_reducible exact Among.nil _ | with_reducible exact Pick.head _ _ | with_reducible apply Pick.tail | with_reducible apply Among.cons)); done) | ((repeat (first | exact Among.nil _ | exact Pick.head _ _ | apply Pick.tail | apply Among.cons)); done)⟩
  · rintro q D L S ⟨i, hi, rfl, rfl, rfl, rfl⟩
    refine code_seq_k fun N5 hN5 => ?_
    refine reg_to ?_; (try refine run_end ?_)
    refine hN5 _ _ _ ?_; clear hN5
    refine code_seq_k fun N6 hN6 => ?_
    refine code_if (fun hc => ?_) (fun hc => ?_)
    · have hc := of_decide_eq_true hc
      refine code_skip ?_
      refine hN6 _ _ _ ?_; clear hN6
      generalize hst : turns odd (spr bs 64) i s = st
      refine code_seq_k fun N7 hN7 => ?_
      refine code_block ?_
      refine code_seq_k fun N8 hN8 => ?_
      refine reg_to ?_; (try refine run_end ?_)
      refine hN8 _ _ _ ?_; clear hN8
      refine code_seq_k fun N9 hN9 => ?_
      refine reg_to ?_; (try refine run_end ?_)
      refine run_op fun K hK => ?_; refine calls_to (rotl_spec _ 6 (by decide) (by decide)) ?_; rintro v A ⟨rfl, rfl⟩; refine hK _ _ ?_; clear hK K
      (try refine run_to ?_); (try refine run_end ?_)
      refine run_op fun K hK => ?_; refine calls_to (rotl_spec _ 11 (by decide) (by decide)) ?_; rintro v A ⟨rfl, rfl⟩; refine hK _ _ ?_; clear hK K
      (try refine run_to ?_); (try refine run_end ?_)
      refine run_op fun K hK => ?_; refine calls_to (rotl_spec _ 25 (by decide) (by decide)) ?_; rintro v A ⟨rfl, rfl⟩; refine hK _ _ ?_; clear hK K
      (try refine run_to ?_); (try refine run_end ?_)
      refine hN9 _ _ _ ?_; clear hN9
      refine code_seq_k fun N10 hN10 => ?_
      refine reg_to ?_; (try refine run_end ?_)
      refine hN10 _ _ _ ?_; clear hN10
      refine code_seq_k fun N11 hN11 => ?_
      refine code_draw [[], [], [0, 1], [], [0, 1, 2, 3], [], [5], [5, 6], [0, 1, 2, 3, 4, 5, 6, 7], [], [9], [9, 10], [0, 1, 2, 3, 4, 5, 6, 7, 8, 9, 10, 11], [0, 1, 2, 3, 4, 5, 6, 7, 8, 9, 10, 11, 12]] [(0, false, []), (1, false, []), (2, false, []), (3, false, []), (4, false, []), (5, false, []), (6, false, []), (7, false, []), (8, false, []), (9, false, []), (10, false, []), (11, false, []), (12, false, []), (13, true, [])] (by kernel_rfl) (by kernel_rfl) ?_
      (try refine drawv_to ?_); (try refine draw_end ?_)
      refine draw_op fun K hK => ?_; (repeat refine pendv ?_); refine hK _ _ ?_; clear hK K
      (try refine drawv_to ?_); (try refine draw_end ?_)
      refine hN11 _ _ _ ?_; clear hN11
      refine code_seq_k fun N12 hN12 => ?_
      refine reg_to ?_; (try refine run_end ?_)
      refine run_op fun K hK => ?_; refine calls_to (rotl_spec _ 2 (by decide) (by decide)) ?_; rintro v A ⟨rfl, rfl⟩; refine hK _ _ ?_; clear hK K
      (try refine run_to ?_); (try refine run_end ?_)
      refine run_op fun K hK => ?_; refine calls_to (rotl_spec _ 13 (by decide) (by decide)) ?_; rintro v A ⟨rfl, rfl⟩; refine hK _ _ ?_; clear hK K
      (try refine run_to ?_); (try refine run_end ?_)
      refine run_op fun K hK => ?_; refine calls_to (rotl_spec _ 22 (by decide) (by decide)) ?_; rintro v A ⟨rfl, rfl⟩; refine hK _ _ ?_; clear hK K
      (try refine run_to ?_); (try refine run_end ?_)
      refine hN12 _ _ _ ?_; clear hN12
      refine code_seq_k fun N13 hN13 => ?_
      refine reg_to ?_; (try refine run_end ?_)
      refine hN13 _ _ _ ?_; clear hN13
      refine reg_to ?_; (try refine run_end ?_)
      rw [show 0 + i * 1 = i from by omega, BitVec.add_assoc _ (rot 2 st.a ^^^ rot 13 st.a ^^^ rot 22 st.a) _]
      subst hst
      refine hN7 _ _ _ ?_; clear hN7
      refine reg_to ?_; (try refine run_end ?_)
      exact again ⟨i + 1, by omega, rfl, rfl, rfl, rfl⟩
    · have hc := of_decide_eq_false hc
      refine code_exit ?_; try simp only [Cont.then, Cont.block, Cont.noGoto, reduceIte, Nat.reduceEqDiff]
      refine hN3 _ _ _ ?_; clear hN3
      obtain rfl : i = 64 := by omega
      generalize hv : turns odd (spr bs 64) 64 s = v
      refine code_seq_k fun N14 hN14 => ?_
      refine reg_to ?_; (try refine run_end ?_)
      refine run_op fun K hK => ?_
      rw [build_w8 rfl]
      refine hK _ _ ?_; clear hK K
      (try refine run_to ?_); (try refine run_end ?_)
      refine hN14 _ _ _ ?_; clear hN14
      refine code_block ?_
      refine code_loop (fun q D L S => ∃ i : Nat, i ≤ 8 ∧ q = 8 - i ∧ D = [] ∧ L = [(130, .int .i64 i), (129, .agg (rowW v.list)), (0, .pointer (some ⟨b, 0, none⟩))] ∧
        S = [F, G, H, [(b, .cells (rowX (mix s v i) r) e (0, 0))]]) ?_ ?_
      · exact ⟨_, _, _, ⟨0, by omega, rfl, rfl, rfl, rfl⟩, by (repeat (first | exact True.intro | (refine And.intro ?_ ?_; (· (try simp only [evT, lookT_hit, lookT_miss, Nat.reduceBEq]); (first | done | exact rfl))))), by first | ((repeat (first | with_reducible exact Among.nil _ | with_reducible exact Pick.head _ _ | with_reducible apply Pick.tail | with_reducible apply Among.cons)); done) | ((repeat (first | exact Among.nil _ | exact Pick.head _ _ | apply Pick.tail | apply Among.cons)); done)⟩
      · rintro q D L S ⟨i, hi, rfl, rfl, rfl, rfl⟩
        refine code_seq_k fun N15 hN15 => ?_
        refine reg_to ?_; (try refine run_end ?_)
        refine hN15 _ _ _ ?_; clear hN15
        refine code_seq_k fun N16 hN16 => ?_
        refine code_if (fun hc => ?_) (fun hc => ?_)
        · have hc := of_decide_eq_true hc
          refine code_skip ?_
          refine hN16 _ _ _ ?_; clear hN16
          refine code_seq_k fun N17 hN17 => ?_
          refine code_block ?_
          refine code_seq_k fun N18 hN18 => ?_
          refine reg_to ?_; (try refine run_end ?_)
          refine run_op fun K hK => ?_
          rw [index_w (by omega) (by omega) (St.list_len v)]
          refine hK _ _ ?_; clear hK K
          (try refine run_to ?_); (try refine run_end ?_)
          refine hN18 _ _ _ ?_; clear hN18
          refine code_draw [[], [], [0], [0, 1, 2], [0, 1, 2, 3], [], [0, 1, 2, 3, 4, 5], [0], [0, 1, 2, 3, 4, 5, 6, 7], [0, 1, 2, 3, 4, 5, 6, 7, 8]] [(0, false, []), (1, false, []), (2, false, []), (3, false, []), (4, false, []), (5, false, []), (6, false, []), (7, false, []), (8, false, []), (9, true, [])] (by kernel_rfl) (by kernel_rfl) ?_
          (try refine drawv_to ?_); (try refine draw_end ?_)
          refine draw_op fun K hK => ?_; (first | ((with_reducible apply store_x); (· (repeat (first | with_reducible exact Upd.one | with_reducible apply Upd.next))); (· (first | (rw [ld_len]; omega) | (rw [List.length_replicate]; omega) | (rw [St.list_len]; omega) | (rw [odd_len]; omega) | (rw [spr_len]; omega) | (rw [mix_len _ _ _ (by omega)]; omega)))) | ((with_reducible apply store_w); (· (repeat (first | with_reducible exact Upd.one | with_reducible apply Upd.next))); (· (first | (rw [ld_len]; omega) | (rw [List.length_replicate]; omega) | (rw [St.list_len]; omega) | (rw [odd_len]; omega) | (rw [spr_len]; omega) | (rw [mix_len _ _ _ (by omega)]; omega))))); (repeat refine pendv ?_); refine hK _ _ ?_; clear hK K
          (try refine drawv_to ?_); (try refine draw_end ?_)
          rw [show 0 + i * 1 = i from by omega, mix_next s v i (by omega)]
          refine hN17 _ _ _ ?_; clear hN17
          refine reg_to ?_; (try refine run_end ?_)
          exact again ⟨i + 1, by omega, rfl, rfl, rfl, rfl⟩
        · have hc := of_decide_eq_false hc
          refine code_exit ?_; try simp only [Cont.then, Cont.block, Cont.noGoto, reduceIte, Nat.reduceEqDiff]
          obtain rfl : i = 8 := by omega
          subst hv
          exact ret_none_n [G, H, [(b, .cells (rowX (mix s (turns odd (spr bs 64) 64 s) 8) r) e (0, 0))]] ⟨rfl, rfl⟩ (by first | ((repeat (first | with_reducible exact Among.nil _ | with_reducible exact Pick.head _ _ | with_reducible apply Pick.tail | with_reducible apply Among.cons)); done) | ((repeat (first | exact Among.nil _ | exact Pick.head _ _ | apply Pick.tail | apply Among.cons)); done))

end Go.Proofs.YtfihpbhdilldoaaDoor
