/- Texts in a row: the walk's rules and contracts, as each says. Conditions: as each says. -/
import Derived.Test.YtkgnhhpgnkkigaaM1TablePlays
import Derived.Lib.MakeNoZero
import Derived.Laws.Externs
import Derived.Laws.StructEq
import Derived.Carry
import Derived.ProofKit
import Derived.OpenShut
/- Slices of structures: elements of several cells, as plain data. Conditions: as each says. -/
set_option linter.unusedSimpArgs false
set_option linter.unusedVariables false
namespace Go.Ost
open Go

variable {P : Program}

theorem add_add (a : Addr) (n m : Nat) : (a.add n).add m = a.add (n + m) := by
  unfold Addr.add
  by_cases h1 : n = 0
  · subst h1; simp
  · rw [if_neg h1, if_neg (show n + m ≠ 0 by omega)]
    by_cases h2 : m = 0
    · subst h2; simp
    · rw [if_neg h2]; simp [Nat.add_assoc]
theorem elA_add (a : Option Addr) (n m : Nat) : (elA a n).add m = elA a (n + m) := by unfold elA; exact add_add _ _ _

/-- A field's place, behind any place. -/
theorem field_at {s i off ft : Nat} {a : Addr} {κ : Value → Prop} [h : TField P s i off ft] : PureW P (Instr.fieldAt s (.pointer (some a)) i) κ = κ (.pointer (some (a.add off))) :=
  pureW_eq (fun w => by
    obtain ⟨fs, f, hu, hf, h1, h2, j, hj, hz⟩ := field_parts h.ok
    have hs : (sizeOf f.type).run P w = .ok j.size w := by
      rw [h2]; simp [sizeOf, typeInfo, program, Sem.run_bind, Sem.run, hj, Result.andThen]
    simp only [Instr.fieldAt, Sem.run_bind, run_und hu, Result.andThen, hf, Instr.sureAddr, Sem.run_pure, fieldPlace, hs]
    rw [if_neg hz]
    simp [h1, Result.andThen]) κ
theorem field_el {s i off ft : Nat} {a : Option Addr} {n : Nat} {κ : Value → Prop} [h : TField P s i off ft] : PureW P (Instr.fieldAt s (.pointer (some (elA a n))) i) κ = κ (.pointer (some (elA a (n + off)))) := by
  rw [field_at, elA_add]

section own
variable {s : Nat} {e : TypeId} {C : Chunk} {a : Option Addr} {len cap : Nat} {us : List Value} {S G : State}

theorem own_some (h : Own s e C a len cap us) (hl : 0 < us.length) : ∃ b o cs m, a = some ⟨b, o, none⟩ ∧ C = [(b, .cells cs e m)] ∧ Soft cs.size m ∧ o + cap * s ≤ cs.size ∧ ∀ i, i < us.length → cs[o + i]? = us[i]? := by
  obtain ⟨h1, h2, h3, h4 | h4⟩ := h
  · obtain ⟨h5, _⟩ := h4
    have : len = 0 := by omega
    subst this
    rw [Nat.zero_mul] at h3
    omega
  · exact h4
theorem rd_some (h : Rd s S a len us) (hl : 0 < us.length) : ∃ b o, a = some ⟨b, o, none⟩ := by
  obtain ⟨b, o, _, _, _, h1, _⟩ := h.2 (List.length_pos_iff.1 hl)
  exact ⟨b, o, h1⟩

/-- An element's place. -/
theorem el_at {t e : TypeId} {z : Value} {by_ : Nat} {k : IntKind} {i : Int} {κ : Value → Prop} [h : TSlice P t e] [hs : TSized P e z s by_] (hr : Rd s S a len us) (h0 : 0 ≤ i) (h1 : i < len) (hp : 0 < s) :
    PureW P (Instr.indexAt t (.slice a len cap) (.int k i)) κ = κ (.pointer (some (elA a (i.toNat * s)))) := by
  have hpos : 0 < us.length := by rw [hr.1]; exact Nat.mul_pos (by omega) hp
  obtain ⟨b, o, rfl⟩ := rd_some hr hpos
  rw [index_addr h0 h1]
  simp [elA, add_mk]
/-- A cell of an element. -/
theorem el_load {t : TypeId} {i : Nat} {v : Value} {κ : Value → Prop} [hf : TFlat P t] (hr : Rd s S a len us) (hv : us[i]? = some v) (k : κ v) : ReadW P (Instr.loadAt t (.pointer (some (elA a i)))) S κ := by
  have hi := (List.getElem?_eq_some_iff.1 hv).1
  obtain ⟨hl, hne⟩ := hr
  obtain ⟨b, o, cs, et, m, rfl, hb, hc⟩ := hne (by intro e; subst e; simp at hi)
  simp only [elA, Option.getD_some, add_mk]
  exact load_one hb (by rw [hc i hi]; exact hv) k
/-- Cells of an element, together. -/
theorem el_load_agg {t : TypeId} {z : Value} {n by_ i : Nat} {κ : Value → Prop} [hf : TDeep P t] [hs : TSized P t z n by_] (hr : Rd s S a len us) (hn : 0 < n) (hi : i + n ≤ us.length) (k : κ (.agg ((us.drop i).take n).toArray)) :
    ReadW P (Instr.loadAt t (.pointer (some (elA a i)))) S κ := by
  obtain ⟨hl, hne⟩ := hr
  obtain ⟨b, o, cs, et, m, rfl, hb, hc⟩ := hne (by intro e; subst e; simp at hi; omega)
  simp only [elA, Option.getD_some, add_mk]
  have hsz : o + us.length ≤ cs.size := by
    have := hc (us.length - 1) (by omega)
    rw [List.getElem?_eq_getElem (by omega)] at this
    have := (Array.getElem?_eq_some_iff.1 this).1
    omega
  refine load_agg hb (by omega) ?_
  have e : cs.extract (o + i) (o + i + n) = ((us.drop i).take n).toArray := by
    apply Array.ext_getElem?
    intro j
    rw [Array.getElem?_extract]
    simp only [List.getElem?_toArray]
    by_cases hj : j < n
    · rw [if_pos (by omega), show o + i + j = o + (i + j) from by omega, hc _ (by omega), List.getElem?_take_of_lt hj, List.getElem?_drop]
    · rw [if_neg (by omega), List.getElem?_eq_none (by rw [List.length_take]; omega)]
  rw [e]; exact k

def setL (us : List Value) (i : Nat) : List Value → List Value
  | [] => us
  | v :: l => setL (us.set i v) (i + 1) l
theorem setL_length : ∀ (vs us : List Value) (i : Nat), (setL us i vs).length = us.length
  | [], _, _ => rfl
  | v :: l, us, i => by simp [setL, setL_length l]
theorem setL_cells : ∀ (vs : List Value) (cs : Array Value) (us : List Value) (o i : Nat), o + us.length ≤ cs.size → (∀ j, j < us.length → cs[o + j]? = us[j]?) → i + vs.length ≤ us.length →
    ∀ j, j < us.length → (setCells cs (o + i) vs)[o + j]? = (setL us i vs)[j]?
  | [], cs, us, o, i, _, h, _, j, hj => h j hj
  | v :: vs, cs, us, o, i, hs, h, hi, j, hj => by
    simp only [List.length_cons] at hi
    rw [setCells, setL]
    refine setL_cells vs _ _ o (i + 1) (by simpa using hs) (fun q hq => ?_) (by simp; omega) j (by simpa using hj)
    simp only [List.length_set] at hq
    by_cases e : q = i
    · subst e
      rw [Array.getElem?_setIfInBounds_self, if_pos (by omega)]
      simp [hq]
    · rw [Array.getElem?_setIfInBounds_ne (by omega), h q hq, List.getElem?_set_ne (by omega)]

theorem own_store_gen {t : TypeId} {z : Value} {n by_ i : Nat} {v : Value} {κ : State → Prop} [hs : TSized P t z n by_] (ho : Own s e C a len cap us) (hp : Pick C S G) (hn : 0 < n) (hvs : v.cells.size = n) (hc1 : ∀ u ∈ v.cells.toList, Value.cell1 u) (hi : i + n ≤ us.length)
    (k : ∀ C', Own s e C' a len cap (setL us i v.cells.toList) → κ (C' :: G)) : UnitW P (Instr.storeAt t (.pointer (some (elA a i))) v) S κ := by
  refine ⟨fun w hw => ?_⟩
  obtain ⟨b, o, cs, m, rfl, rfl, hsoft, hbig, hc⟩ := own_some ho (by omega)
  have hCG := hw.perm hp.perm
  obtain ⟨lo, hi'⟩ := m
  have hsz : o + us.length ≤ cs.size := by
    have := hc (us.length - 1) (by omega)
    rw [List.getElem?_eq_getElem (by omega)] at this
    have := (Array.getElem?_eq_some_iff.1 this).1
    omega
  obtain ⟨w', q1, q2, q3, q4⟩ := run_storeCells (P := P) (b := b) (o := o + i) v.cells.toList 0 w cs (hCG.get b (.cells cs e (lo, hi')) (by simp)) hc1 (by simp [hvs]; omega) hsoft.or
  refine ⟨w', _, ?_, q2, (Upd.one (S := G)).hold hCG q3 q4, k [(b, .cells (setCells cs (o + i + 0) v.cells.toList) e (lo, hi'))] ⟨ho.1, ho.2.1, by rw [setL_length]; exact ho.2.2.1, .inr ⟨b, o, _, (lo, hi'), rfl, rfl, by rw [setCells_size]; exact hsoft, by rw [setCells_size]; exact hbig, fun j hj => ?_⟩⟩⟩
  · simp only [elA, Option.getD_some, add_mk]
    simp [Instr.storeAt, Instr.sureAddr, storeVar, Sem.run_bind, run_size hs, Result.andThen, hvs, q1]
  · rw [setL_length] at hj
    rw [Nat.add_zero]
    exact setL_cells _ cs us o i hsz hc (by simp [hvs]; omega) j hj
/-- A cell of an element of one's own is set. -/
theorem own_store1 {t : TypeId} {z : Value} {by_ i : Nat} {v : Value} {κ : State → Prop} [hs : TSized P t z 1 by_] (ho : Own s e C a len cap us) (hp : Pick C S G) (hc : Value.cell1 v) (hi : i < us.length)
    (k : ∀ C', Own s e C' a len cap (us.set i v) → κ (C' :: G)) : UnitW P (Instr.storeAt t (.pointer (some (elA a i))) v) S κ := by
  have hcs : v.cells = #[v] := by cases v <;> first | exact hc.elim | rfl
  exact own_store_gen (n := 1) ho hp (by omega) (by rw [hcs]; rfl) (by rw [hcs]; simpa using hc) (by omega) (by rw [hcs]; exact k)
theorem own_store_agg {t : TypeId} {z : Value} {n by_ i : Nat} {vs : List Value} {κ : State → Prop} [hs : TSized P t z n by_] (ho : Own s e C a len cap us) (hp : Pick C S G) (hn : 0 < n) (hvs : vs.length = n) (hc : ∀ u ∈ vs, Value.cell1 u) (hi : i + n ≤ us.length)
    (k : ∀ C', Own s e C' a len cap (setL us i vs) → κ (C' :: G)) : UnitW P (Instr.storeAt t (.pointer (some (elA a i))) (.agg vs.toArray)) S κ :=
  own_store_gen (v := .agg vs.toArray) ho hp hn (by simpa [Value.cells] using hvs) (by simpa [Value.cells] using hc) hi (by simpa [Value.cells] using k)
end own

/-! ### Rows of elements -/

theorem setL_app : ∀ (vs p u r : List Value), u.length = vs.length → setL (p ++ (u ++ r)) p.length vs = p ++ (vs ++ r)
  | [], p, [], r, _ => rfl
  | v :: vs, p, x :: u, r, h => by
    have ih := setL_app vs (p ++ [v]) u r (by simpa using h)
    rw [setL]
    have e : (p ++ (x :: u ++ r)).set p.length v = p ++ [v] ++ (u ++ r) := by simp
    rw [e, show p.length + 1 = (p ++ [v]).length from by simp, ih]
    simp
section rows
variable {α : Type} (enc : α → List Value) (s : Nat) (hs : ∀ x, (enc x).length = s)
include hs
theorem flat_len : ∀ l : List α, (l.flatMap enc).length = l.length * s
  | [] => by simp
  | x :: l => by rw [List.flatMap_cons, List.length_append, hs, flat_len l, List.length_cons, Nat.add_mul]; omega
theorem flat_drop : ∀ (l : List α) (i : Nat), (l.flatMap enc).drop (i * s) = (l.drop i).flatMap enc
  | l, 0 => by simp
  | [], i + 1 => by simp
  | x :: l, i + 1 => by
    rw [List.flatMap_cons, Nat.add_mul, Nat.one_mul, Nat.add_comm, ← List.drop_drop, List.drop_left' (hs x), flat_drop l i, List.drop_succ_cons]
theorem flat_el (l : List α) (i : Nat) (h : i < l.length) : ((l.flatMap enc).drop (i * s)).take s = enc l[i] := by
  rw [flat_drop enc s hs, List.drop_eq_getElem_cons h, List.flatMap_cons, List.take_left' (hs _)]
theorem flat_get (l : List α) (i j : Nat) (h : i < l.length) (hj : j < s) : (l.flatMap enc)[i * s + j]? = (enc l[i])[j]? := by
  rw [← List.getElem?_drop, ← flat_el enc s hs l i h, List.getElem?_take_of_lt hj]
theorem flat_set : ∀ (l : List α) (i j : Nat) (v : Value) (h : i < l.length) (x : α), (enc l[i]).set j v = enc x → j < s → (l.flatMap enc).set (i * s + j) v = (l.set i x).flatMap enc
  | [], i, j, v, h, x, _, _ => by simp at h
  | y :: l, 0, j, v, h, x, hx, hj => by
    simp only [List.getElem_cons_zero] at hx
    rw [Nat.zero_mul, Nat.zero_add, List.flatMap_cons, List.set_append_left _ _ (by rw [hs]; exact hj), hx]; rfl
  | y :: l, i + 1, j, v, h, x, hx, hj => by
    have ih := flat_set l i j v (by simpa using h) x (by simpa using hx) hj
    rw [List.flatMap_cons, List.set_append_right _ _ (by rw [hs, Nat.add_mul]; omega), hs, show (i + 1) * s + j - s = i * s + j from by rw [Nat.add_mul]; omega, ih]; rfl
theorem flat_setL (l : List α) (i : Nat) (h : i < l.length) (x : α) : setL (l.flatMap enc) (i * s) (enc x) = (l.set i x).flatMap enc := by
  have e1 : l.flatMap enc = (l.take i).flatMap enc ++ (enc l[i] ++ (l.drop (i + 1)).flatMap enc) := by
    conv => lhs; rw [← List.take_append_drop i l, List.flatMap_append, List.drop_eq_getElem_cons h, List.flatMap_cons]
  have e2 : ((l.take i).flatMap enc).length = i * s := by rw [flat_len enc s hs, List.length_take]; congr 1; omega
  rw [e1, ← e2, setL_app (enc x) _ (enc l[i]) _ (by rw [hs, hs]), List.set_eq_take_append_cons_drop, if_pos h, List.flatMap_append, List.flatMap_cons]
end rows

end Go.Ost

/- Maps that are keyed by texts: what is found, put and taken away. Conditions: as each says. -/
set_option linter.unusedSimpArgs false
set_option linter.unusedVariables false
namespace Go.Ost
open Go

variable {P : Program}

section plain
variable {α : Type} {β : Type}
def mget : List (List UInt8 × α) → List UInt8 → Option α
  | [], _ => none
  | (k, v) :: l, q => if q = k then some v else mget l q
def mput : List (List UInt8 × α) → List UInt8 → α → List (List UInt8 × α)
  | [], q, v => [(q, v)]
  | (k, u) :: l, q, v => if q = k then (q, v) :: l else (k, u) :: mput l q v
def mdel : List (List UInt8 × α) → List UInt8 → List (List UInt8 × α)
  | [], _ => []
  | (k, u) :: l, q => if q = k then l else (k, u) :: mdel l q
def mfind : List (List UInt8 × α) → List UInt8 → Nat → Option (Nat × α)
  | [], _, _ => none
  | (k, v) :: l, q, i => if q = k then some (i, v) else mfind l q (i + 1)
def mval (f : α → β) (m : List (List UInt8 × α)) : List (List UInt8 × β) := m.map fun p => (p.1, f p.2)

theorem mget_val (f : α → β) : ∀ (m : List (List UInt8 × α)) (q : List UInt8), mget (mval f m) q = (mget m q).map f
  | [], q => rfl
  | (k, v) :: l, q => by
    have ih := mget_val f l q
    simp only [mval, List.map_cons, mget] at ih ⊢
    split
    · rfl
    · exact ih
theorem mput_val (f : α → β) : ∀ (m : List (List UInt8 × α)) (q : List UInt8) (v : α), mput (mval f m) q (f v) = mval f (mput m q v)
  | [], q, v => rfl
  | (k, u) :: l, q, v => by
    have ih := mput_val f l q v
    simp only [mval, List.map_cons, mput] at ih ⊢
    split
    · simp
    · simp [ih]
theorem mdel_val (f : α → β) : ∀ (m : List (List UInt8 × α)) (q : List UInt8), mdel (mval f m) q = mval f (mdel m q)
  | [], q => rfl
  | (k, u) :: l, q => by
    have ih := mdel_val f l q
    simp only [mval, List.map_cons, mdel] at ih ⊢
    split
    · rfl
    · simp [ih]

theorem mfind_some {q : List UInt8} {j : Nat} {v : α} : ∀ (m : List (List UInt8 × α)) (i : Nat), mfind m q i = some (j, v) →
    ∃ pre post, m = pre ++ (q, v) :: post ∧ j = i + pre.length ∧ mget m q = some v ∧ (∀ u, mput m q u = pre ++ (q, u) :: post) ∧ mdel m q = pre ++ post
  | [], i, h => by cases h
  | (k, u) :: l, i, h => by
    simp only [mfind] at h
    split at h
    · rename_i hk
      subst hk
      cases h
      exact ⟨[], l, rfl, by simp, by simp [mget], fun w => by simp [mput], by simp [mdel]⟩
    · rename_i hk
      obtain ⟨pre, post, h1, h2, h3, h4, h5⟩ := mfind_some l (i + 1) h
      refine ⟨(k, u) :: pre, post, by rw [h1]; rfl, by simp; omega, ?_, fun w => ?_, ?_⟩
      · simp only [mget]; rw [if_neg hk]; exact h3
      · simp only [mput]; rw [if_neg hk, h4]; rfl
      · simp only [mdel]; rw [if_neg hk, h5]; rfl
theorem mfind_none {q : List UInt8} : ∀ (m : List (List UInt8 × α)) (i : Nat), mfind m q i = none → mget m q = none ∧ (∀ u, mput m q u = m ++ [(q, u)]) ∧ mdel m q = m
  | [], i, h => ⟨rfl, fun u => rfl, rfl⟩
  | (k, u) :: l, i, h => by
    simp only [mfind] at h
    split at h
    · cases h
    · rename_i hk
      obtain ⟨h1, h2, h3⟩ := mfind_none l (i + 1) h
      refine ⟨?_, fun w => ?_, ?_⟩
      · simp only [mget]; rw [if_neg hk]; exact h1
      · simp only [mput]; rw [if_neg hk, h2]; rfl
      · simp only [mdel]; rw [if_neg hk, h3]
end plain

theorem str_beq (a b : List UInt8) : (str a == str b) = decide (a = b) := by
  have e : (str a == str b) = (a == b) := by
    have h := ByteArray.toList_eq (str a)
    have h2 := ByteArray.toList_eq (str b)
    show ((str a).data == (str b).data) = _
    simp [str]
  rw [e]
  by_cases h : a = b <;> simp [h]

/-- The chunk is a map of these texts and values. -/
def IsMap (C : Chunk) (r : Nat) (m : List (List UInt8 × Value)) : Prop :=
  ∃ es clock, C = [(r, .map es clock)] ∧ es.toList.map (fun e => (e.key, e.val)) = m.map fun p => (Value.string (str p.1), p.2)

theorem find_now (q : List UInt8) : ∀ (es : List MapEntry) (m : List (List UInt8 × Value)) (i : Nat), es.map (fun e => (e.key, e.val)) = m.map (fun p => (Value.string (str p.1), p.2)) →
    Instr.findNow .string (.string (str q)) es i = some (mfind m q i)
  | [], [], i, _ => rfl
  | [], _ :: _, i, h => by simp at h
  | _ :: _, [], i, h => by simp at h
  | e :: es, (k, v) :: m, i, h => by
    simp only [List.map_cons, List.cons.injEq, Prod.mk.injEq] at h
    obtain ⟨⟨h1, h2⟩, h3⟩ := h
    simp only [Instr.findNow, mfind, h1, Instr.sameNow, str_beq]
    by_cases hk : q = k
    · simp [hk, h2]
    · simp only [hk, decide_false, if_false]
      exact find_now q es m (i + 1) h3

theorem run_find {kt : TypeId} (hk : P.underlying kt = some .string) (q : List UInt8) {es : List MapEntry} {m : List (List UInt8 × Value)} (h : es.map (fun e => (e.key, e.val)) = m.map (fun p => (Value.string (str p.1), p.2))) (w : World) :
    (Instr.findKey kt (.string (str q)) es).run P w = .ok (mfind m q 0) w := by
  unfold Instr.findKey
  rw [Sem.run_bind, run_und hk]
  simp only [Result.andThen, find_now q es m 0 h]
  rfl
theorem run_check {kt : TypeId} (hk : P.underlying kt = some .string) (b : Bool) (q : List UInt8) (w : World) : (Instr.checkKey b 10000 kt (.string (str q))).run P w = .ok () w := by
  rw [Instr.checkKey, Sem.run_bind, run_und hk]
  rfl
theorem run_obj {w : World} {r : Nat} {es : Array MapEntry} {c : Nat} (h : w.heap[r]? = some (.map es c)) : (getObj r).run P w = .ok (.map es c) w := by
  simp [getObj, Sem.run, h]

theorem look_run {t kt et : TypeId} {z : Value} {s b : Nat} [ht : TMap P t kt et] [hk : TStr P kt] [hz : TSized P et z s b] {C : Chunk} {r : Nat} {m : List (List UInt8 × Value)} (hm : IsMap C r m) (q : List UInt8) (ok : Bool) {w : World} {S : State} (hC : C ∈ S) (hw : Hold w S) :
    (Instr.lookup t (.map (some r)) (.string (str q)) ok).run P w = .ok (if ok then .tuple #[(mget m q).getD z, .bool (mget m q).isSome] else (mget m q).getD z) w := by
  obtain ⟨es, clock, rfl, he⟩ := hm
  have hb := (Lies.of_mem (b := r) (o := .map es clock) (List.mem_singleton.2 rfl) hC).get hw
  unfold Instr.lookup
  rw [Sem.run_bind, run_und ht.und]
  simp only [Result.andThen]
  simp only [Sem.run_bind, run_obj hb, Result.andThen, Sem.run_pure, run_check hk.und, run_find hk.und q he]
  cases hf : mfind m q 0 with
  | none =>
    have h1 := (mfind_none m 0 hf).1
    simp only [h1, Sem.run_bind, run_zero hz, Result.andThen, Sem.run_pure, Option.getD_none, Option.isSome_none]
  | some p =>
    obtain ⟨j, v⟩ := p
    obtain ⟨_, _, _, _, h1, _⟩ := mfind_some m 0 hf
    simp only [h1, Sem.run_bind, Sem.run_pure, Result.andThen, Option.getD_some, Option.isSome_some]
theorem map_look2 {t kt et : TypeId} {z : Value} {s b : Nat} [ht : TMap P t kt et] [hk : TStr P kt] [hz : TSized P et z s b] {C : Chunk} {r : Nat} {m : List (List UInt8 × Value)} {q : List UInt8} {S : State} {κ : Value → Prop} (hm : IsMap C r m) (hC : C ∈ S)
    (k : κ (.tuple #[(mget m q).getD z, .bool (mget m q).isSome])) : ReadW P (Instr.lookup t (.map (some r)) (.string (str q)) true) S κ :=
  ⟨_, fun w hw => look_run hm q true hC hw, k⟩
theorem map_look1 {t kt et : TypeId} {z : Value} {s b : Nat} [ht : TMap P t kt et] [hk : TStr P kt] [hz : TSized P et z s b] {C : Chunk} {r : Nat} {m : List (List UInt8 × Value)} {q : List UInt8} {S : State} {κ : Value → Prop} (hm : IsMap C r m) (hC : C ∈ S)
    (k : κ ((mget m q).getD z)) : ReadW P (Instr.lookup t (.map (some r)) (.string (str q)) false) S κ :=
  ⟨_, fun w hw => look_run hm q false hC hw, k⟩

theorem run_setObj {w : World} {r : Nat} {es : Array MapEntry} {c : Nat} {o' : Obj} (h : w.heap[r]? = some (.map es c)) : (setObj r o').run P w = .ok () (w.putObj r o') := by
  simp [setObj, Sem.run, h, World.putObj]

theorem stay_same (q : List UInt8) (w : World) : (Instr.keyThatStays (.string (str q)) (.string (str q))).run P w = .ok (.string (str q)) w := by
  unfold Instr.keyThatStays
  have : Instr.sameBits 10000 (.string (str q)) (.string (str q)) = true := by simp [Instr.sameBits, str_beq]
  rw [if_pos this]; rfl

theorem map_put {t kt et : TypeId} [ht : TMap P t kt et] [hk : TStr P kt] {C : Chunk} {r : Nat} {m : List (List UInt8 × Value)} {q : List UInt8} {v : Value} {S G : State} {κ : State → Prop} (hm : IsMap C r m) (hp : Pick C S G)
    (k : ∀ C', IsMap C' r (mput m q v) → κ (C' :: G)) : UnitW P (Instr.mapUpdate t (.map (some r)) (.string (str q)) v) S κ := by
  refine ⟨fun w hw => ?_⟩
  obtain ⟨es, clock, rfl, he⟩ := hm
  have hCG := hw.perm hp.perm
  have hb := hCG.get r (.map es clock) (by simp)
  have hlen : es.size = m.length := by have := congrArg List.length he; simpa using this
  cases hf : mfind m q 0 with
  | none =>
    obtain ⟨_, h2, _⟩ := mfind_none m 0 hf
    refine ⟨w.putObj r (.map (es.push { key := .string (str q), val := v, born := clock }) (clock + 1)), _, ?_, put_ext _ _ _, put_hold hCG, k [(r, .map (es.push { key := .string (str q), val := v, born := clock }) (clock + 1))] ⟨_, _, rfl, ?_⟩⟩
    · unfold Instr.mapUpdate
      rw [Sem.run_bind, run_und ht.und]
      simp only [Result.andThen, Sem.run_bind, run_obj hb, run_check hk.und, run_find hk.und q he, hf, run_setObj hb]
    · rw [h2]; simp [he]
  | some p =>
    obtain ⟨j, u⟩ := p
    obtain ⟨pre, post, h1, h2, h3, h4, h5⟩ := mfind_some m 0 hf
    have hj : j < es.size := by rw [hlen, h1]; simp; omega
    have hkey : es[j].key = .string (str q) := by
      have e := congrArg (fun l => l[j]?) he
      simp only [List.getElem?_map, h1] at e
      rw [List.getElem?_append_right (by omega), show j - pre.length = 0 from by omega] at e
      have e2 : es.toList[j]? = some es[j] := by simp [hj]
      rw [e2] at e
      simp only [Option.map_some, List.getElem?_cons_zero, Option.some.injEq, Prod.mk.injEq] at e
      exact e.1
    refine ⟨w.putObj r (.map (es.modify j fun e => { e with key := .string (str q), val := v }) clock), _, ?_, put_ext _ _ _, put_hold hCG, k [(r, .map (es.modify j fun e => { e with key := .string (str q), val := v }) clock)] ⟨_, _, rfl, ?_⟩⟩
    · unfold Instr.mapUpdate
      rw [Sem.run_bind, run_und ht.und]
      have hg : ((es[j]?).map (·.key)).getD (.string (str q)) = .string (str q) := by simp [hj, hkey]
      simp only [Result.andThen, Sem.run_bind, run_obj hb, run_check hk.und, run_find hk.und q he, hf, hg, stay_same, run_setObj hb]
    · rw [h4]
      have e := he
      rw [h1] at e
      apply List.ext_getElem?
      intro i
      have ei := congrArg (fun l => l[i]?) e
      simp only [List.getElem?_map, Array.getElem?_toList, Array.getElem?_modify] at ei ⊢
      by_cases hij : j = i
      · subst hij
        rw [if_pos rfl, List.getElem?_append_right (by omega), h2, show 0 + pre.length - pre.length = 0 from by omega, Array.getElem?_eq_getElem (by rw [← h2]; exact hj)]
        rfl
      · rw [if_neg hij, ei]
        congr 1
        rcases Nat.lt_or_ge i pre.length with hlt | hge
        · rw [List.getElem?_append_left hlt, List.getElem?_append_left hlt]
        · rw [List.getElem?_append_right hge, List.getElem?_append_right hge]
          obtain ⟨n, hn⟩ : ∃ n, i - pre.length = n + 1 := ⟨i - pre.length - 1, by omega⟩
          rw [hn]; rfl

theorem map_del {t kt et ty kt2 : TypeId} [ht : TMap P t kt et] [hk : TStr P kt] {C : Chunk} {r : Nat} {m : List (List UInt8 × Value)} {q : List UInt8} {S G : State} {κ : Value → State → Prop} (hm : IsMap C r m) (hp : Pick C S G)
    (k : ∀ C', IsMap C' r (mdel m q) → κ (.tuple #[]) (C' :: G)) : ValW P (Builtin.delete_ #[t, kt2] ty #[.map (some r), .string (str q)]) S κ := by
  refine ⟨fun w hw => ?_⟩
  obtain ⟨es, clock, rfl, he⟩ := hm
  have hCG := hw.perm hp.perm
  have hb := hCG.get r (.map es clock) (by simp)
  have hlen : es.size = m.length := by have := congrArg List.length he; simpa using this
  cases hf : mfind m q 0 with
  | none =>
    obtain ⟨_, _, h2⟩ := mfind_none m 0 hf
    refine ⟨.tuple #[], w.putObj r (.map es clock), _, ?_, put_ext _ _ _, put_hold hCG, k [(r, .map es clock)] ⟨_, _, rfl, by rw [h2]; exact he⟩⟩
    simp only [Builtin.delete_, List.getElem?_toArray, List.getElem?_cons_zero, List.getElem?_cons_succ, Sem.run_bind, run_und ht.und, Result.andThen, run_obj hb, run_check hk.und, run_find hk.und q he, hf, run_setObj hb, Sem.run_pure]
  | some p =>
    obtain ⟨j, u⟩ := p
    obtain ⟨pre, post, h1, h2, h3, h4, h5⟩ := mfind_some m 0 hf
    have hj : j < es.size := by rw [hlen, h1]; simp; omega
    refine ⟨.tuple #[], w.putObj r (.map (es.eraseIdxIfInBounds j) clock), _, ?_, put_ext _ _ _, put_hold hCG, k [(r, .map (es.eraseIdxIfInBounds j) clock)] ⟨_, _, rfl, ?_⟩⟩
    · simp only [Builtin.delete_, List.getElem?_toArray, List.getElem?_cons_zero, List.getElem?_cons_succ, Sem.run_bind, run_und ht.und, Result.andThen, run_obj hb, run_check hk.und, run_find hk.und q he, hf, run_setObj hb, Sem.run_pure]
    · rw [h5]
      have e3 : j = 0 + pre.length := h2
      have e4 : (es.eraseIdxIfInBounds j).toList = es.toList.eraseIdx j := by simp [Array.eraseIdxIfInBounds, hj]
      have e5 : ∀ (l : List MapEntry) (f : MapEntry → Value × Value) (i : Nat), (l.eraseIdx i).map f = (l.map f).eraseIdx i := by
        intro l f
        induction l with
        | nil => intro i; simp
        | cons x l ih => intro i; cases i <;> simp [ih]
      rw [e4, e5, he, h1, e3]
      simp [List.eraseIdx_append_of_length_le]

theorem map_len {t kt et ty : TypeId} [ht : TMap P t kt et] {C : Chunk} {r : Nat} {m : List (List UInt8 × Value)} {S : State} {κ : Value → Prop} (hm : IsMap C r m) (hC : C ∈ S) (k : κ (.int .i64 m.length)) :
    ReadW P (Builtin.len_ #[t] ty #[.map (some r)]) S κ := by
  obtain ⟨es, clock, rfl, he⟩ := hm
  have hlen : es.size = m.length := by have := congrArg List.length he; simpa using this
  refine ⟨_, fun w hw => ?_, k⟩
  have hb := (Lies.of_mem (b := r) (o := .map es clock) (List.mem_singleton.2 rfl) hC).get hw
  simp [Builtin.len_, Sem.run_bind, run_und ht.und, Result.andThen, run_obj hb, goInt, hlen]

theorem map_new {t : TypeId} {S : State} {κ : Value → State → Prop} (k : ∀ r C, IsMap C r [] → κ (.map (some r)) (C :: S)) : ValW P (Instr.makeMap t none) S κ := by
  refine ⟨fun w hw => ?_⟩
  refine ⟨.map (some w.heap.size), { w with heap := w.heap.push (.map #[] 0) }, _, ?_, ext_push rfl, hw.new rfl, k _ _ ⟨#[], 0, rfl, rfl⟩⟩
  simp [Instr.makeMap, Sem.run_bind, Result.andThen, newObj, Sem.run]

end Go.Ost

/- The walk's steps in one word each: their side conditions are found by themselves. Conditions: none. -/
set_option linter.unusedSimpArgs false
set_option linter.unusedVariables false
namespace Go.Ost
open Go

variable {P : Program} {n : Nat} {ro : Option Nat}

/-! ### Rules whose facts lie among the hypotheses -/

section facts
variable {S : State} {a : Option Addr} {len cap : Nat} {us : List Value} {bs : List UInt8} {H : Chunk} {κ : Value → Prop} {t e : TypeId} {z : Value} {s by_ : Nat} {k : IntKind} {i : Int}
theorem index_rda [TSlice P t e] [TSized P e z 1 by_] (hr : Rd 1 [H] a len us) (h0 : 0 ≤ i) (h1 : i < len) (q : κ (.pointer (some (elA a i.toNat)))) : PureW P (Instr.indexAt t (.slice a len cap) (.int k i)) κ := by rw [index_rd hr h0 h1]; exact q
theorem index_owa [TSlice P t e] [TSized P e z 1 by_] {e' : TypeId} {cap' : Nat} (ho : Own 1 e' H a len cap' us) (h0 : 0 ≤ i) (h1 : i < len) (q : κ (.pointer (some (elA a i.toNat)))) : PureW P (Instr.indexAt t (.slice a len cap) (.int k i)) κ := by
  rw [index_rd (ho.rd (S := [H]) (List.mem_cons_self ..)) h0 h1]; exact q
theorem load_rda8 {i : Nat} [TFlat P t] (hr : Rd 1 [H] a len (bs.map b8)) (hH : H ∈ S) (hi : i < bs.length) (q : κ (b8 (bs.getD i 0))) : ReadW P (Instr.loadAt t (.pointer (some (elA a i)))) S κ := rd_load8 (hr.mem hH) hi q
theorem load_owa8 {i : Nat} [TFlat P t] {e' : TypeId} (hr : Own 1 e' H a len cap (bs.map b8)) (hH : H ∈ S) (hi : i < bs.length) (q : κ (b8 (bs.getD i 0))) : ReadW P (Instr.loadAt t (.pointer (some (elA a i)))) S κ := rd_load8 (hr.rd hH) hi q
theorem load_rda {i : Nat} {v : Value} [TFlat P t] (hr : Rd 1 [H] a len us) (hv : us[i]? = some v) (hH : H ∈ S) (q : κ v) : ReadW P (Instr.loadAt t (.pointer (some (elA a i)))) S κ := rd_load (hr.mem hH) hv q
theorem load_owa {i : Nat} {v : Value} [TFlat P t] {e' : TypeId} (hr : Own 1 e' H a len cap us) (hv : us[i]? = some v) (hH : H ∈ S) (q : κ v) : ReadW P (Instr.loadAt t (.pointer (some (elA a i)))) S κ := rd_load (hr.rd hH) hv q
end facts

/-- From a list of operations to what is left of it. -/
structure Runs (P : Program) (n : Nat) (ops : Array Oper) (l : List Oper) (L : Env) (S : State) (l' : List Oper) (L' : Env) (S' : State) : Prop where
  out : ∀ K : Env → State → Prop, runW P n ops K l' L' S' → runW P n ops K l L S
structure Draws (P : Program) (n : Nat) (ops : Array Oper) (l : List Entry) (L : Env) (S : State) (l' : List Entry) (L' : Env) (S' : State) : Prop where
  out : ∀ K : Env → State → Prop, drawW P n ops K l' L' S' → drawW P n ops K l L S

section steps
variable {ops : Array Oper} {K : Env → State → Prop} {o : Oper} {l l' : List Oper} {L L' : Env} {S S' : State}

theorem run_to (k : runW P n ops K l' L' S') (h : Runs P n ops l L S l' L' S' := by exact ⟨fun K0 hK0 => by (repeat ((with_reducible refine run_cons fun K hK => ?_); (try simp only [gos, gob, Nat.reduceBEq, if_true, reduceIte, reduceCtorEq, Nat.reduceLT, Nat.reduceEqDiff, Nat.reduceAdd, Nat.reduceSub, Int.reduceLT, Int.reduceLE, Int.reduceBEq, Int.reduceBNe, Int.reduceToNat, Int.reduceAdd, Int.reduceSub, Int.reduceMul, Int.reduceDiv, Int.reduceMod, Int.reducePow, Int.toNat_natCast, Nat.sub_zero]); (try (simp (disch := omega) only [gow, gobw]; try simp only [gos, gob, Nat.reduceBEq, if_true, reduceIte, reduceCtorEq, Nat.reduceLT, Nat.reduceEqDiff, Nat.reduceAdd, Nat.reduceSub, Int.reduceLT, Int.reduceLE, Int.reduceBEq, Int.reduceBNe, Int.reduceToNat, Int.reduceAdd, Int.reduceSub, Int.reduceMul, Int.reduceDiv, Int.reduceMod, Int.reducePow, Int.toNat_natCast, Nat.sub_zero])); (first | (with_reducible refine hK _ _ ?_) | ((with_reducible apply load_box); (· (repeat (first | with_reducible exact Lies.one | with_reducible apply Lies.next))); (with_reducible refine hK _ _ ?_)) | ((with_reducible apply load_one); (· (repeat (first | with_reducible exact Lies.one | with_reducible apply Lies.next))); (· exact rfl); (with_reducible refine hK _ _ ?_)) | ((with_reducible apply store_box); (· exact trivial); (· (repeat (first | with_reducible exact Upd.one | with_reducible apply Upd.next))); (with_reducible refine hK _ _ ?_)) | ((with_reducible apply store_one); (· exact trivial); (· (repeat (first | with_reducible exact Upd.one | with_reducible apply Upd.next))); (· simp); (with_reducible refine hK _ _ ?_)) | (first | ((with_reducible apply index_rda); (· assumption); (· (first | omega | assumption | (simp only [List.length_append, List.length_take, List.length_drop, List.length_map, List.length_replicate, List.length_range, List.length_set, List.length_cons, List.length_nil]; omega))); (· (first | omega | assumption | (simp only [List.length_append, List.length_take, List.length_drop, List.length_map, List.length_replicate, List.length_range, List.length_set, List.length_cons, List.length_nil]; omega))); (with_reducible refine hK _ _ ?_)) | ((with_reducible apply index_owa); (· assumption); (· (first | omega | assumption | (simp only [List.length_append, List.length_take, List.length_drop, List.length_map, List.length_replicate, List.length_range, List.length_set, List.length_cons, List.length_nil]; omega))); (· (first | omega | assumption | (simp only [List.length_append, List.length_take, List.length_drop, List.length_map, List.length_replicate, List.length_range, List.length_set, List.length_cons, List.length_nil]; omega))); (with_reducible refine hK _ _ ?_)) | ((with_reducible apply load_rda8); (· assumption); (· (repeat (first | with_reducible assumption | with_reducible exact List.mem_cons_self .. | with_reducible apply List.mem_cons_of_mem))); (· (first | omega | assumption | (simp only [List.length_append, List.length_take, List.length_drop, List.length_map, List.length_replicate, List.length_range, List.length_set, List.length_cons, List.length_nil]; omega))); (with_reducible refine hK _ _ ?_)) | ((with_reducible apply load_owa8); (· assumption); (· (repeat (first | with_reducible assumption | with_reducible exact List.mem_cons_self .. | with_reducible apply List.mem_cons_of_mem))); (· (first | omega | assumption | (simp only [List.length_append, List.length_take, List.length_drop, List.length_map, List.length_replicate, List.length_range, List.length_set, List.length_cons, List.length_nil]; omega))); (with_reducible refine hK _ _ ?_)) | ((with_reducible apply load_rda); (· assumption); (· assumption); (· (repeat (first | with_reducible assumption | with_reducible exact List.mem_cons_self .. | with_reducible apply List.mem_cons_of_mem))); (with_reducible refine hK _ _ ?_)) | ((with_reducible apply load_owa); (· assumption); (· assumption); (· (repeat (first | with_reducible assumption | with_reducible exact List.mem_cons_self .. | with_reducible apply List.mem_cons_of_mem))); (with_reducible refine hK _ _ ?_)))); clear hK K)); exact hK0⟩) : runW P n ops K l L S := h.out K k
theorem run_one {l1 : List Oper} (k : runW P n ops K l1 L' S') (h : Runs P n ops (o :: l) L S l1 L' S' := by exact ⟨fun K0 hK0 => by ((with_reducible refine run_cons fun K hK => ?_); (try simp only [gos, gob, Nat.reduceBEq, if_true, reduceIte, reduceCtorEq, Nat.reduceLT, Nat.reduceEqDiff, Nat.reduceAdd, Nat.reduceSub, Int.reduceLT, Int.reduceLE, Int.reduceBEq, Int.reduceBNe, Int.reduceToNat, Int.reduceAdd, Int.reduceSub, Int.reduceMul, Int.reduceDiv, Int.reduceMod, Int.reducePow, Int.toNat_natCast, Nat.sub_zero]); (try (simp (disch := omega) only [gow, gobw]; try simp only [gos, gob, Nat.reduceBEq, if_true, reduceIte, reduceCtorEq, Nat.reduceLT, Nat.reduceEqDiff, Nat.reduceAdd, Nat.reduceSub, Int.reduceLT, Int.reduceLE, Int.reduceBEq, Int.reduceBNe, Int.reduceToNat, Int.reduceAdd, Int.reduceSub, Int.reduceMul, Int.reduceDiv, Int.reduceMod, Int.reducePow, Int.toNat_natCast, Nat.sub_zero])); (first | (with_reducible refine hK _ _ ?_) | ((with_reducible apply load_box); (· (repeat (first | with_reducible exact Lies.one | with_reducible apply Lies.next))); (with_reducible refine hK _ _ ?_)) | ((with_reducible apply load_one); (· (repeat (first | with_reducible exact Lies.one | with_reducible apply Lies.next))); (· exact rfl); (with_reducible refine hK _ _ ?_)) | ((with_reducible apply store_box); (· exact trivial); (· (repeat (first | with_reducible exact Upd.one | with_reducible apply Upd.next))); (with_reducible refine hK _ _ ?_)) | ((with_reducible apply store_one); (· exact trivial); (· (repeat (first | with_reducible exact Upd.one | with_reducible apply Upd.next))); (· simp); (with_reducible refine hK _ _ ?_)) | (first | ((with_reducible apply index_rda); (· assumption); (· (first | omega | assumption | (simp only [List.length_append, List.length_take, List.length_drop, List.length_map, List.length_replicate, List.length_range, List.length_set, List.length_cons, List.length_nil]; omega))); (· (first | omega | assumption | (simp only [List.length_append, List.length_take, List.length_drop, List.length_map, List.length_replicate, List.length_range, List.length_set, List.length_cons, List.length_nil]; omega))); (with_reducible refine hK _ _ ?_)) | ((with_reducible apply index_owa); (· assumption); (· (first | omega | assumption | (simp only [List.length_append, List.length_take, List.length_drop, List.length_map, List.length_replicate, List.length_range, List.length_set, List.length_cons, List.length_nil]; omega))); (· (first | omega | assumption | (simp only [List.length_append, List.length_take, List.length_drop, List.length_map, List.length_replicate, List.length_range, List.length_set, List.length_cons, List.length_nil]; omega))); (with_reducible refine hK _ _ ?_)) | ((with_reducible apply load_rda8); (· assumption); (· (repeat (first | with_reducible assumption | with_reducible exact List.mem_cons_self .. | with_reducible apply List.mem_cons_of_mem))); (· (first | omega | assumption | (simp only [List.length_append, List.length_take, List.length_drop, List.length_map, List.length_replicate, List.length_range, List.length_set, List.length_cons, List.length_nil]; omega))); (with_reducible refine hK _ _ ?_)) | ((with_reducible apply load_owa8); (· assumption); (· (repeat (first | with_reducible assumption | with_reducible exact List.mem_cons_self .. | with_reducible apply List.mem_cons_of_mem))); (· (first | omega | assumption | (simp only [List.length_append, List.length_take, List.length_drop, List.length_map, List.length_replicate, List.length_range, List.length_set, List.length_cons, List.length_nil]; omega))); (with_reducible refine hK _ _ ?_)) | ((with_reducible apply load_rda); (· assumption); (· assumption); (· (repeat (first | with_reducible assumption | with_reducible exact List.mem_cons_self .. | with_reducible apply List.mem_cons_of_mem))); (with_reducible refine hK _ _ ?_)) | ((with_reducible apply load_owa); (· assumption); (· assumption); (· (repeat (first | with_reducible assumption | with_reducible exact List.mem_cons_self .. | with_reducible apply List.mem_cons_of_mem))); (with_reducible refine hK _ _ ?_)))); clear hK K); exact hK0⟩) : runW P n ops K (o :: l) L S := h.out K k
theorem run_end {q : Prop} (k : q) (e : K L S = q := by ((try simp only [Cont.then, Cont.block, Cont.noGoto, reduceIte, Nat.reduceEqDiff]); (first | done | exact rfl))) : runW P n ops K [] L S := run_nil (e ▸ k)
theorem run_op {X : (Env → State → Prop) → Prop} (h : ∀ N : Env → State → Prop, (∀ L S, runW P n ops K l L S → N L S) → X N)
    (e : ∀ N : Env → State → Prop, guardW ops o L (stepW P o.op o.type L S fun v S' => N (putT n o.dst v L) S') (N (putT n o.dst undef L) S) = X N := by (intro N; (try simp only [gos, gob, Nat.reduceBEq, if_true, reduceIte, reduceCtorEq, Nat.reduceLT, Nat.reduceEqDiff, Nat.reduceAdd, Nat.reduceSub, Int.reduceLT, Int.reduceLE, Int.reduceBEq, Int.reduceBNe, Int.reduceToNat, Int.reduceAdd, Int.reduceSub, Int.reduceMul, Int.reduceDiv, Int.reduceMod, Int.reducePow, Int.toNat_natCast, Nat.sub_zero]); (try (simp (disch := omega) only [gow, gobw]; try simp only [gos, gob, Nat.reduceBEq, if_true, reduceIte, reduceCtorEq, Nat.reduceLT, Nat.reduceEqDiff, Nat.reduceAdd, Nat.reduceSub, Int.reduceLT, Int.reduceLE, Int.reduceBEq, Int.reduceBNe, Int.reduceToNat, Int.reduceAdd, Int.reduceSub, Int.reduceMul, Int.reduceDiv, Int.reduceMod, Int.reducePow, Int.toNat_natCast, Nat.sub_zero])); (first | done | exact rfl))) : runW P n ops K (o :: l) L S :=
  run_cons fun N hN => (e N) ▸ h N hN

variable {i : Nat} {pd : List Nat} {p p' : List Entry}
theorem draw_to (k : drawW P n ops K p' L' S') (h : Draws P n ops p L S p' L' S' := by exact ⟨fun K0 hK0 => by (repeat (refine draw_quiet (by simp only [List.getElem?_toArray, List.getElem?_cons_succ, List.getElem?_cons_zero]; rfl) fun K hK => ?_; (try simp only [gos, gob, Nat.reduceBEq, if_true, reduceIte, reduceCtorEq, Nat.reduceLT, Nat.reduceEqDiff, Nat.reduceAdd, Nat.reduceSub, Int.reduceLT, Int.reduceLE, Int.reduceBEq, Int.reduceBNe, Int.reduceToNat, Int.reduceAdd, Int.reduceSub, Int.reduceMul, Int.reduceDiv, Int.reduceMod, Int.reducePow, Int.toNat_natCast, Nat.sub_zero, goq]); (try (simp (disch := omega) only [gow, gobw]; try simp only [gos, gob, Nat.reduceBEq, if_true, reduceIte, reduceCtorEq, Nat.reduceLT, Nat.reduceEqDiff, Nat.reduceAdd, Nat.reduceSub, Int.reduceLT, Int.reduceLE, Int.reduceBEq, Int.reduceBNe, Int.reduceToNat, Int.reduceAdd, Int.reduceSub, Int.reduceMul, Int.reduceDiv, Int.reduceMod, Int.reducePow, Int.toNat_natCast, Nat.sub_zero, goq])); (first | (with_reducible refine hK _ _ ?_) | ((with_reducible apply load_box); (· (repeat (first | with_reducible exact Lies.one | with_reducible apply Lies.next))); (with_reducible refine hK _ _ ?_)) | ((with_reducible apply load_one); (· (repeat (first | with_reducible exact Lies.one | with_reducible apply Lies.next))); (· exact rfl); (with_reducible refine hK _ _ ?_)) | ((with_reducible apply store_box); (· exact trivial); (· (repeat (first | with_reducible exact Upd.one | with_reducible apply Upd.next))); (with_reducible refine hK _ _ ?_)) | ((with_reducible apply store_one); (· exact trivial); (· (repeat (first | with_reducible exact Upd.one | with_reducible apply Upd.next))); (· simp); (with_reducible refine hK _ _ ?_)) | (first | ((with_reducible apply index_rda); (· assumption); (· (first | omega | assumption | (simp only [List.length_append, List.length_take, List.length_drop, List.length_map, List.length_replicate, List.length_range, List.length_set, List.length_cons, List.length_nil]; omega))); (· (first | omega | assumption | (simp only [List.length_append, List.length_take, List.length_drop, List.length_map, List.length_replicate, List.length_range, List.length_set, List.length_cons, List.length_nil]; omega))); (with_reducible refine hK _ _ ?_)) | ((with_reducible apply index_owa); (· assumption); (· (first | omega | assumption | (simp only [List.length_append, List.length_take, List.length_drop, List.length_map, List.length_replicate, List.length_range, List.length_set, List.length_cons, List.length_nil]; omega))); (· (first | omega | assumption | (simp only [List.length_append, List.length_take, List.length_drop, List.length_map, List.length_replicate, List.length_range, List.length_set, List.length_cons, List.length_nil]; omega))); (with_reducible refine hK _ _ ?_)) | ((with_reducible apply load_rda8); (· assumption); (· (repeat (first | with_reducible assumption | with_reducible exact List.mem_cons_self .. | with_reducible apply List.mem_cons_of_mem))); (· (first | omega | assumption | (simp only [List.length_append, List.length_take, List.length_drop, List.length_map, List.length_replicate, List.length_range, List.length_set, List.length_cons, List.length_nil]; omega))); (with_reducible refine hK _ _ ?_)) | ((with_reducible apply load_owa8); (· assumption); (· (repeat (first | with_reducible assumption | with_reducible exact List.mem_cons_self .. | with_reducible apply List.mem_cons_of_mem))); (· (first | omega | assumption | (simp only [List.length_append, List.length_take, List.length_drop, List.length_map, List.length_replicate, List.length_range, List.length_set, List.length_cons, List.length_nil]; omega))); (with_reducible refine hK _ _ ?_)) | ((with_reducible apply load_rda); (· assumption); (· assumption); (· (repeat (first | with_reducible assumption | with_reducible exact List.mem_cons_self .. | with_reducible apply List.mem_cons_of_mem))); (with_reducible refine hK _ _ ?_)) | ((with_reducible apply load_owa); (· assumption); (· assumption); (· (repeat (first | with_reducible assumption | with_reducible exact List.mem_cons_self .. | with_reducible apply List.mem_cons_of_mem))); (with_reducible refine hK _ _ ?_)))); clear hK K)); exact hK0⟩) : drawW P n ops K p L S := h.out K k
theorem draw_end {q : Prop} (k : q) (e : K L S = q := by ((try simp only [Cont.then, Cont.block, Cont.noGoto, reduceIte, Nat.reduceEqDiff]); (first | done | exact rfl))) : drawW P n ops K [] L S := draw_nil (e ▸ k)
theorem draw_op {X : (Env → State → Prop) → Prop} (h : ∀ N : Env → State → Prop, (∀ L S, drawW P n ops K p L S → N L S) → X N)
    (ho : ops[i]? = some o := by (simp only [List.getElem?_toArray, List.getElem?_cons_succ, List.getElem?_cons_zero]; exact rfl))
    (e : ∀ N : Env → State → Prop, guardW ops o L (stepW P o.op o.type L S fun v S' => stillAll P ops pd (putT n o.dst v L) S' (N (putT n o.dst v L) S')) (stillAll P ops pd (putT n o.dst undef L) S (N (putT n o.dst undef L) S)) = X N := by (intro N; (try simp only [gos, gob, Nat.reduceBEq, if_true, reduceIte, reduceCtorEq, Nat.reduceLT, Nat.reduceEqDiff, Nat.reduceAdd, Nat.reduceSub, Int.reduceLT, Int.reduceLE, Int.reduceBEq, Int.reduceBNe, Int.reduceToNat, Int.reduceAdd, Int.reduceSub, Int.reduceMul, Int.reduceDiv, Int.reduceMod, Int.reducePow, Int.toNat_natCast, Nat.sub_zero, goq]); (try (simp (disch := omega) only [gow, gobw]; try simp only [gos, gob, Nat.reduceBEq, if_true, reduceIte, reduceCtorEq, Nat.reduceLT, Nat.reduceEqDiff, Nat.reduceAdd, Nat.reduceSub, Int.reduceLT, Int.reduceLE, Int.reduceBEq, Int.reduceBNe, Int.reduceToNat, Int.reduceAdd, Int.reduceSub, Int.reduceMul, Int.reduceDiv, Int.reduceMod, Int.reducePow, Int.toNat_natCast, Nat.sub_zero, goq])); (first | done | exact rfl))) :
    drawW P n ops K ((i, true, pd) :: p) L S := draw_effect ho fun N hN => (e N) ▸ h N hN

variable {K : Cont} {D : List Nat} {id : Nat}
theorem reg_to (k : runW P n l.toArray (K .normal D) l' L' S') (h : Runs P n l.toArray l L S l' L' S' := by exact ⟨fun K0 hK0 => by (repeat ((with_reducible refine run_cons fun K hK => ?_); (try simp only [gos, gob, Nat.reduceBEq, if_true, reduceIte, reduceCtorEq, Nat.reduceLT, Nat.reduceEqDiff, Nat.reduceAdd, Nat.reduceSub, Int.reduceLT, Int.reduceLE, Int.reduceBEq, Int.reduceBNe, Int.reduceToNat, Int.reduceAdd, Int.reduceSub, Int.reduceMul, Int.reduceDiv, Int.reduceMod, Int.reducePow, Int.toNat_natCast, Nat.sub_zero]); (try (simp (disch := omega) only [gow, gobw]; try simp only [gos, gob, Nat.reduceBEq, if_true, reduceIte, reduceCtorEq, Nat.reduceLT, Nat.reduceEqDiff, Nat.reduceAdd, Nat.reduceSub, Int.reduceLT, Int.reduceLE, Int.reduceBEq, Int.reduceBNe, Int.reduceToNat, Int.reduceAdd, Int.reduceSub, Int.reduceMul, Int.reduceDiv, Int.reduceMod, Int.reducePow, Int.toNat_natCast, Nat.sub_zero])); (first | (with_reducible refine hK _ _ ?_) | ((with_reducible apply load_box); (· (repeat (first | with_reducible exact Lies.one | with_reducible apply Lies.next))); (with_reducible refine hK _ _ ?_)) | ((with_reducible apply load_one); (· (repeat (first | with_reducible exact Lies.one | with_reducible apply Lies.next))); (· exact rfl); (with_reducible refine hK _ _ ?_)) | ((with_reducible apply store_box); (· exact trivial); (· (repeat (first | with_reducible exact Upd.one | with_reducible apply Upd.next))); (with_reducible refine hK _ _ ?_)) | ((with_reducible apply store_one); (· exact trivial); (· (repeat (first | with_reducible exact Upd.one | with_reducible apply Upd.next))); (· simp); (with_reducible refine hK _ _ ?_)) | (first | ((with_reducible apply index_rda); (· assumption); (· (first | omega | assumption | (simp only [List.length_append, List.length_take, List.length_drop, List.length_map, List.length_replicate, List.length_range, List.length_set, List.length_cons, List.length_nil]; omega))); (· (first | omega | assumption | (simp only [List.length_append, List.length_take, List.length_drop, List.length_map, List.length_replicate, List.length_range, List.length_set, List.length_cons, List.length_nil]; omega))); (with_reducible refine hK _ _ ?_)) | ((with_reducible apply index_owa); (· assumption); (· (first | omega | assumption | (simp only [List.length_append, List.length_take, List.length_drop, List.length_map, List.length_replicate, List.length_range, List.length_set, List.length_cons, List.length_nil]; omega))); (· (first | omega | assumption | (simp only [List.length_append, List.length_take, List.length_drop, List.length_map, List.length_replicate, List.length_range, List.length_set, List.length_cons, List.length_nil]; omega))); (with_reducible refine hK _ _ ?_)) | ((with_reducible apply load_rda8); (· assumption); (· (repeat (first | with_reducible assumption | with_reducible exact List.mem_cons_self .. | with_reducible apply List.mem_cons_of_mem))); (· (first | omega | assumption | (simp only [List.length_append, List.length_take, List.length_drop, List.length_map, List.length_replicate, List.length_range, List.length_set, List.length_cons, List.length_nil]; omega))); (with_reducible refine hK _ _ ?_)) | ((with_reducible apply load_owa8); (· assumption); (· (repeat (first | with_reducible assumption | with_reducible exact List.mem_cons_self .. | with_reducible apply List.mem_cons_of_mem))); (· (first | omega | assumption | (simp only [List.length_append, List.length_take, List.length_drop, List.length_map, List.length_replicate, List.length_range, List.length_set, List.length_cons, List.length_nil]; omega))); (with_reducible refine hK _ _ ?_)) | ((with_reducible apply load_rda); (· assumption); (· assumption); (· (repeat (first | with_reducible assumption | with_reducible exact List.mem_cons_self .. | with_reducible apply List.mem_cons_of_mem))); (with_reducible refine hK _ _ ?_)) | ((with_reducible apply load_owa); (· assumption); (· assumption); (· (repeat (first | with_reducible assumption | with_reducible exact List.mem_cons_self .. | with_reducible apply List.mem_cons_of_mem))); (with_reducible refine hK _ _ ?_)))); clear hK K)); exact hK0⟩) : CodeW P n ro (.region id l.toArray false) K D L S :=
  code_reg (h.out _ k)
end steps

section control
variable {K : Cont} {D : List Nat} {L : Env} {S : State}
theorem code_if {c : Operand} {x y : Code} {b : Bool} (ht : b = true → CodeW P n ro x K D L S) (hf : b = false → CodeW P n ro y K D L S) (hc : evT L c = some (.bool b) := by (try simp only [evT, lookT_hit, lookT_miss, Nat.reduceBEq]); (first | done | exact rfl)) : CodeW P n ro (.cond c x y) K D L S := code_cond hc ht hf
theorem code_then {c : Operand} {x y : Code} (k : CodeW P n ro x K D L S) (hc : evT L c = some (.bool true) := by (try simp only [evT, lookT_hit, lookT_miss, Nat.reduceBEq]); (first | done | exact rfl)) : CodeW P n ro (.cond c x y) K D L S := code_true hc k
theorem code_else {c : Operand} {x y : Code} (k : CodeW P n ro y K D L S) (hc : evT L c = some (.bool false) := by (try simp only [evT, lookT_hit, lookT_miss, Nat.reduceBEq]); (first | done | exact rfl)) : CodeW P n ro (.cond c x y) K D L S := code_false hc k
theorem code_back {q : Prop} (k : q) (e : K .ret D L S = q := by ((try simp -implicitDefEqProofs only [Cont.then, Cont.block, Cont.noGoto, reduceIte]); (first | done | exact rfl))) : CodeW P n ro .ret K D L S := code_ret (e ▸ k)
theorem code_leave {q : Prop} {id : Nat} (k : q) (e : K (.exit id) D L S = q := by ((try simp only [Cont.then, Cont.block, Cont.noGoto, reduceIte, Nat.reduceEqDiff]); (first | done | exact rfl))) : CodeW P n ro (.exit id) K D L S := code_exit (e ▸ k)
theorem calls_to {f : FuncId} {args : List Value} {A G : State} {R κ : Value → State → Prop} (h : Meets P f args A R) (k : ∀ v A', R v A' → κ v (A' ++ G)) (ht : Take A S G := by (repeat (first | with_reducible exact Take.nil _ | with_reducible exact Pick.head _ _ | with_reducible apply Pick.tail | with_reducible apply Take.cons))) : CallsW P f args.toArray S κ := calls_spec h ht k
theorem back_tmp {R : Value → State → Prop} {F : Chunk} {t : Nat} {v : Value} (A' : State) (hR : R v A') (hv : lookT L t = some v := by (try simp only [evT, lookT_hit, lookT_miss, Nat.reduceBEq]); (first | done | exact rfl)) (hs : Among (F :: A') S := by first | ((repeat (first | with_reducible exact Among.nil _ | with_reducible exact Pick.head _ _ | with_reducible apply Pick.tail | with_reducible apply Among.cons)); done) | ((repeat (first | exact Among.nil _ | exact Pick.head _ _ | apply Pick.tail | apply Among.cons)); done)) : RetK P [.tmp t] R F .ret [] L S := ret_tmp A' hv hR hs
theorem back_tmp_n {R : Value → State → Prop} {F : Chunk} {t : Nat} {v : Value} (A' : State) (hR : R v A') (hv : lookT L t = some v := by (try simp only [evT, lookT_hit, lookT_miss, Nat.reduceBEq]); (first | done | exact rfl)) (hs : Among (F :: A') S := by first | ((repeat (first | with_reducible exact Among.nil _ | with_reducible exact Pick.head _ _ | with_reducible apply Pick.tail | with_reducible apply Among.cons)); done) | ((repeat (first | exact Among.nil _ | exact Pick.head _ _ | apply Pick.tail | apply Among.cons)); done)) : RetK P [.tmp t] R F .normal [] L S := ret_tmp_n A' hv hR hs
theorem back_none {R : Value → State → Prop} {F : Chunk} (A' : State) (hR : R (.tuple #[]) A') (hs : Among (F :: A') S := by first | ((repeat (first | with_reducible exact Among.nil _ | with_reducible exact Pick.head _ _ | with_reducible apply Pick.tail | with_reducible apply Among.cons)); done) | ((repeat (first | exact Among.nil _ | exact Pick.head _ _ | apply Pick.tail | apply Among.cons)); done)) : RetK P [] R F .ret [] L S := ret_none A' hR hs
theorem back_none_n {R : Value → State → Prop} {F : Chunk} (A' : State) (hR : R (.tuple #[]) A') (hs : Among (F :: A') S := by first | ((repeat (first | with_reducible exact Among.nil _ | with_reducible exact Pick.head _ _ | with_reducible apply Pick.tail | with_reducible apply Among.cons)); done) | ((repeat (first | exact Among.nil _ | exact Pick.head _ _ | apply Pick.tail | apply Among.cons)); done)) : RetK P [] R F .normal [] L S := ret_none_n A' hR hs
theorem again {I : Nat → List Nat → Env → State → Prop} {m m' : Nat} {L'' : Env} {S'' : State} (hI : I m' D L'' S'') (hm : m' < m := by omega) (hL : Knows L'' L := by (repeat (first | exact True.intro | (refine And.intro ?_ ?_; (· (try simp only [evT, lookT_hit, lookT_miss, Nat.reduceBEq]); (first | done | exact rfl)))))) (hS : Among S'' S := by first | ((repeat (first | with_reducible exact Among.nil _ | with_reducible exact Pick.head _ _ | with_reducible apply Pick.tail | with_reducible apply Among.cons)); done) | ((repeat (first | exact Among.nil _ | exact Pick.head _ _ | apply Pick.tail | apply Among.cons)); done)) : Again I m D L S := ⟨m', L'', S'', hm, hI, hL, hS⟩
theorem loop0 {I : Nat → List Nat → Env → State → Prop} {m : Nat} {L0 : Env} {S0 : State} (hI : I m D L0 S0) (hL : Knows L0 L := by (repeat (first | exact True.intro | (refine And.intro ?_ ?_; (· (try simp only [evT, lookT_hit, lookT_miss, Nat.reduceBEq]); (first | done | exact rfl)))))) (hS : Among S0 S := by first | ((repeat (first | with_reducible exact Among.nil _ | with_reducible exact Pick.head _ _ | with_reducible apply Pick.tail | with_reducible apply Among.cons)); done) | ((repeat (first | exact Among.nil _ | exact Pick.head _ _ | apply Pick.tail | apply Among.cons)); done)) : ∃ m L0 S0, I m D L0 S0 ∧ Knows L0 L ∧ Among S0 S := ⟨m, L0, S0, hI, hL, hS⟩
theorem pend {a b : Prop} (k : b) (h : a := by (first | exact trivial | ((with_reducible apply load_box); (· (repeat (first | with_reducible exact Lies.one | with_reducible apply Lies.next))); (· exact rfl)) | ((with_reducible apply load_one); (· (repeat (first | with_reducible exact Lies.one | with_reducible apply Lies.next))); (· exact rfl); (· exact rfl)) | (first | ((with_reducible apply load_rda8); (· assumption); (· (repeat (first | with_reducible assumption | with_reducible exact List.mem_cons_self .. | with_reducible apply List.mem_cons_of_mem))); (· (first | omega | assumption | (simp only [List.length_append, List.length_take, List.length_drop, List.length_map, List.length_replicate, List.length_range, List.length_set, List.length_cons, List.length_nil]; omega))); exact rfl) | ((with_reducible apply load_owa8); (· assumption); (· (repeat (first | with_reducible assumption | with_reducible exact List.mem_cons_self .. | with_reducible apply List.mem_cons_of_mem))); (· (first | omega | assumption | (simp only [List.length_append, List.length_take, List.length_drop, List.length_map, List.length_replicate, List.length_range, List.length_set, List.length_cons, List.length_nil]; omega))); exact rfl) | ((with_reducible apply load_rda); (· assumption); (· assumption); (· (repeat (first | with_reducible assumption | with_reducible exact List.mem_cons_self .. | with_reducible apply List.mem_cons_of_mem))); exact rfl) | ((with_reducible apply load_owa); (· assumption); (· assumption); (· (repeat (first | with_reducible assumption | with_reducible exact List.mem_cons_self .. | with_reducible apply List.mem_cons_of_mem))); exact rfl)))) : a ∧ b := ⟨h, k⟩
theorem less {c : Code} {L' : Env} {S' : State} (h : CodeW P n ro c K D L' S') (hL : Knows L' L := by (repeat (first | exact True.intro | (refine And.intro ?_ ?_; (· (try simp only [evT, lookT_hit, lookT_miss, Nat.reduceBEq]); (first | done | exact rfl)))))) (hS : Among S' S := by first | ((repeat (first | with_reducible exact Among.nil _ | with_reducible exact Pick.head _ _ | with_reducible apply Pick.tail | with_reducible apply Among.cons)); done) | ((repeat (first | exact Among.nil _ | exact Pick.head _ _ | apply Pick.tail | apply Among.cons)); done)) : CodeW P n ro c K D L S := code_less hL hS h
end control

/-- The results of a function that has rounds of loops to shut, or cells to read. -/
theorem back_cells {rs : List ResultVar} {R : Value → State → Prop} {F : Chunk} {D : List Nat} {L : Env} {S S1 : State} {vs : List Value} (A' : State) (hR : R (tupled vs) A')
    (ht : Take (marksOf D) S S1 := by (simp only [marksOf, List.map_cons, List.map_nil]; (repeat (first | with_reducible exact Take.nil _ | with_reducible exact Pick.head _ _ | with_reducible apply Pick.tail | with_reducible apply Take.cons))))
    (hr : ∀ κ : List Value → Prop, κ vs → resW P rs L S1 κ := by (intro κ hκ; simp only [resW, withV, lookT_hit, lookT_miss, Nat.reduceBEq]; (repeat (first | refine load_box (by (repeat (first | with_reducible exact Lies.one | with_reducible apply Lies.next))) ?_ | refine load_one (by (repeat (first | with_reducible exact Lies.one | with_reducible apply Lies.next))) rfl ?_)); exact hκ))
    (hs : Among (F :: A') S1 := by first | ((repeat (first | with_reducible exact Among.nil _ | with_reducible exact Pick.head _ _ | with_reducible apply Pick.tail | with_reducible apply Among.cons)); done) | ((repeat (first | exact Among.nil _ | exact Pick.head _ _ | apply Pick.tail | apply Among.cons)); done)) : RetK P rs R F .ret D L S := ⟨S1, ht, hr _ ⟨A', hR, hs⟩⟩
theorem back_cells_n {rs : List ResultVar} {R : Value → State → Prop} {F : Chunk} {D : List Nat} {L : Env} {S S1 : State} {vs : List Value} (A' : State) (hR : R (tupled vs) A')
    (ht : Take (marksOf D) S S1 := by (simp only [marksOf, List.map_cons, List.map_nil]; (repeat (first | with_reducible exact Take.nil _ | with_reducible exact Pick.head _ _ | with_reducible apply Pick.tail | with_reducible apply Take.cons))))
    (hr : ∀ κ : List Value → Prop, κ vs → resW P rs L S1 κ := by (intro κ hκ; simp only [resW, withV, lookT_hit, lookT_miss, Nat.reduceBEq]; (repeat (first | refine load_box (by (repeat (first | with_reducible exact Lies.one | with_reducible apply Lies.next))) ?_ | refine load_one (by (repeat (first | with_reducible exact Lies.one | with_reducible apply Lies.next))) rfl ?_)); exact hκ))
    (hs : Among (F :: A') S1 := by first | ((repeat (first | with_reducible exact Among.nil _ | with_reducible exact Pick.head _ _ | with_reducible apply Pick.tail | with_reducible apply Among.cons)); done) | ((repeat (first | exact Among.nil _ | exact Pick.head _ _ | apply Pick.tail | apply Among.cons)); done)) : RetK P rs R F .normal D L S := ⟨S1, ht, hr _ ⟨A', hR, hs⟩⟩

end Go.Ost

/- The walk through statements, what comes next laid out. Conditions: none. -/
set_option linter.unusedSimpArgs false
set_option linter.unusedVariables false
namespace Go.Ost
open Go

variable {P : Program} {n : Nat} {ro : Option Nat} {K : Cont} {N : List Nat → Env → State → Prop} {D : List Nat} {L : Env} {S : State}

theorem then_n (k : N D L S) : Cont.then N K .normal D L S := k
theorem then_r (k : K .ret D L S) : Cont.then N K .ret D L S := k
theorem then_e {i : Nat} (k : K (.exit i) D L S) : Cont.then N K (.exit i) D L S := k
theorem block_n {b : Nat} (k : K .normal D L S) : Cont.block b K .normal D L S := k
theorem block_r {b : Nat} (k : K .ret D L S) : Cont.block b K .ret D L S := k
theorem block_e {b : Nat} (k : K .normal D L S) : Cont.block b K (.exit b) D L S := by simp only [Cont.block, if_true]; exact k
theorem block_o {b i : Nat} (k : K (.exit i) D L S) (h : i ≠ b := by decide) : Cont.block b K (.exit i) D L S := by simp only [Cont.block]; rw [if_neg h]; exact k
theorem scope_n (k : K .normal D L S) : Cont.noGoto K .normal D L S := k
theorem scope_r (k : K .ret D L S) : Cont.noGoto K .ret D L S := k
theorem scope_e {i : Nat} (k : K (.exit i) D L S) : Cont.noGoto K (.exit i) D L S := k

variable {l l' : List Oper} {L' : Env} {S' : State} {id : Nat} {x y : Code}
theorem code_dr {ops : Array Oper} (A : List (List Nat)) (pl : List Entry) (h : drawW P n ops (K .normal D) pl L S) (hm : P.follows .mixedOrders = true := by kernel_rfl)
    (hok : okDraw ops A n pl = true := by kernel_rfl) : CodeW P n ro (.region id ops true) K D L S := code_draw A pl hm hok h

/-- A condition that is decided. -/
theorem if_d {c : Operand} {p : Prop} [Decidable p] (ht : p → CodeW P n ro x K D L S) (hf : ¬ p → CodeW P n ro y K D L S) (hc : evT L c = some (.bool (decide p)) := by (try simp only [evT, lookT_hit, lookT_miss, Nat.reduceBEq]); (first | done | exact rfl)) : CodeW P n ro (.cond c x y) K D L S :=
  code_cond hc (fun h => ht (of_decide_eq_true h)) (fun h => hf (of_decide_eq_false h))
theorem if_b {c : Operand} {α : Type} [BEq α] [LawfulBEq α] {a b : α} (ht : a = b → CodeW P n ro x K D L S) (hf : a ≠ b → CodeW P n ro y K D L S) (hc : evT L c = some (.bool (a == b)) := by (try simp only [evT, lookT_hit, lookT_miss, Nat.reduceBEq]); (first | done | exact rfl)) : CodeW P n ro (.cond c x y) K D L S :=
  code_cond hc (fun h => ht (eq_of_beq h)) (fun h => hf (fun e => by subst e; simp at h))
theorem if_nb {c : Operand} {α : Type} [BEq α] [LawfulBEq α] {a b : α} (ht : a ≠ b → CodeW P n ro x K D L S) (hf : a = b → CodeW P n ro y K D L S) (hc : evT L c = some (.bool (a != b)) := by (try simp only [evT, lookT_hit, lookT_miss, Nat.reduceBEq]); (first | done | exact rfl)) : CodeW P n ro (.cond c x y) K D L S :=
  code_cond hc (fun h => ht (fun e => by subst e; simp at h)) (fun h => hf (by simpa using h))
theorem if_n {c : Operand} {b : Bool} (ht : b = false → CodeW P n ro x K D L S) (hf : b = true → CodeW P n ro y K D L S) (hc : evT L c = some (.bool (!b)) := by (try simp only [evT, lookT_hit, lookT_miss, Nat.reduceBEq]); (first | done | exact rfl)) : CodeW P n ro (.cond c x y) K D L S :=
  code_cond hc (fun h => ht (by simpa using h)) (fun h => hf (by simpa using h))

theorem run_probe {ops : Array Oper} {KK : Env → State → Prop} {o : Oper} {l : List Oper} (k : runW P n ops KK (o :: l) L S) : runW P n ops KK (o :: l) L S := k
theorem draw_probe {ops : Array Oper} {KK : Env → State → Prop} {p0 : Entry} {p : List Entry} (k : drawW P n ops KK (p0 :: p) L S) : drawW P n ops KK (p0 :: p) L S := k
theorem run_more {ops : Array Oper} {KK : Env → State → Prop} {o : Oper} {l : List Oper} (k : runW P n ops KK l' L' S') (h : Runs P n ops (o :: l) L S l' L' S' := by exact ⟨fun K0 hK0 => by ((with_reducible refine run_cons fun K hK => ?_); (try simp only [gos, gob, Nat.reduceBEq, if_true, reduceIte, reduceCtorEq, Nat.reduceLT, Nat.reduceEqDiff, Nat.reduceAdd, Nat.reduceSub, Int.reduceLT, Int.reduceLE, Int.reduceBEq, Int.reduceBNe, Int.reduceToNat, Int.reduceAdd, Int.reduceSub, Int.reduceMul, Int.reduceDiv, Int.reduceMod, Int.reducePow, Int.toNat_natCast, Nat.sub_zero]); (try (simp (disch := omega) only [gow, gobw]; try simp only [gos, gob, Nat.reduceBEq, if_true, reduceIte, reduceCtorEq, Nat.reduceLT, Nat.reduceEqDiff, Nat.reduceAdd, Nat.reduceSub, Int.reduceLT, Int.reduceLE, Int.reduceBEq, Int.reduceBNe, Int.reduceToNat, Int.reduceAdd, Int.reduceSub, Int.reduceMul, Int.reduceDiv, Int.reduceMod, Int.reducePow, Int.toNat_natCast, Nat.sub_zero])); (first | (with_reducible refine hK _ _ ?_) | ((with_reducible apply load_box); (· (repeat (first | with_reducible exact Lies.one | with_reducible apply Lies.next))); (with_reducible refine hK _ _ ?_)) | ((with_reducible apply load_one); (· (repeat (first | with_reducible exact Lies.one | with_reducible apply Lies.next))); (· exact rfl); (with_reducible refine hK _ _ ?_)) | ((with_reducible apply store_box); (· exact trivial); (· (repeat (first | with_reducible exact Upd.one | with_reducible apply Upd.next))); (with_reducible refine hK _ _ ?_)) | ((with_reducible apply store_one); (· exact trivial); (· (repeat (first | with_reducible exact Upd.one | with_reducible apply Upd.next))); (· simp); (with_reducible refine hK _ _ ?_)) | (first | ((with_reducible apply index_rda); (· assumption); (· (first | omega | assumption | (simp only [List.length_append, List.length_take, List.length_drop, List.length_map, List.length_replicate, List.length_range, List.length_set, List.length_cons, List.length_nil]; omega))); (· (first | omega | assumption | (simp only [List.length_append, List.length_take, List.length_drop, List.length_map, List.length_replicate, List.length_range, List.length_set, List.length_cons, List.length_nil]; omega))); (with_reducible refine hK _ _ ?_)) | ((with_reducible apply index_owa); (· assumption); (· (first | omega | assumption | (simp only [List.length_append, List.length_take, List.length_drop, List.length_map, List.length_replicate, List.length_range, List.length_set, List.length_cons, List.length_nil]; omega))); (· (first | omega | assumption | (simp only [List.length_append, List.length_take, List.length_drop, List.length_map, List.length_replicate, List.length_range, List.length_set, List.length_cons, List.length_nil]; omega))); (with_reducible refine hK _ _ ?_)) | ((with_reducible apply load_rda8); (· assumption); (· (repeat (first | with_reducible assumption | with_reducible exact List.mem_cons_self .. | with_reducible apply List.mem_cons_of_mem))); (· (first | omega | assumption | (simp only [List.length_append, List.length_take, List.length_drop, List.length_map, List.length_replicate, List.length_range, List.length_set, List.length_cons, List.length_nil]; omega))); (with_reducible refine hK _ _ ?_)) | ((with_reducible apply load_owa8); (· assumption); (· (repeat (first | with_reducible assumption | with_reducible exact List.mem_cons_self .. | with_reducible apply List.mem_cons_of_mem))); (· (first | omega | assumption | (simp only [List.length_append, List.length_take, List.length_drop, List.length_map, List.length_replicate, List.length_range, List.length_set, List.length_cons, List.length_nil]; omega))); (with_reducible refine hK _ _ ?_)) | ((with_reducible apply load_rda); (· assumption); (· assumption); (· (repeat (first | with_reducible assumption | with_reducible exact List.mem_cons_self .. | with_reducible apply List.mem_cons_of_mem))); (with_reducible refine hK _ _ ?_)) | ((with_reducible apply load_owa); (· assumption); (· assumption); (· (repeat (first | with_reducible assumption | with_reducible exact List.mem_cons_self .. | with_reducible apply List.mem_cons_of_mem))); (with_reducible refine hK _ _ ?_)))); clear hK K); (repeat ((with_reducible refine run_cons fun K hK => ?_); (try simp only [gos, gob, Nat.reduceBEq, if_true, reduceIte, reduceCtorEq, Nat.reduceLT, Nat.reduceEqDiff, Nat.reduceAdd, Nat.reduceSub, Int.reduceLT, Int.reduceLE, Int.reduceBEq, Int.reduceBNe, Int.reduceToNat, Int.reduceAdd, Int.reduceSub, Int.reduceMul, Int.reduceDiv, Int.reduceMod, Int.reducePow, Int.toNat_natCast, Nat.sub_zero]); (try (simp (disch := omega) only [gow, gobw]; try simp only [gos, gob, Nat.reduceBEq, if_true, reduceIte, reduceCtorEq, Nat.reduceLT, Nat.reduceEqDiff, Nat.reduceAdd, Nat.reduceSub, Int.reduceLT, Int.reduceLE, Int.reduceBEq, Int.reduceBNe, Int.reduceToNat, Int.reduceAdd, Int.reduceSub, Int.reduceMul, Int.reduceDiv, Int.reduceMod, Int.reducePow, Int.toNat_natCast, Nat.sub_zero])); (first | (with_reducible refine hK _ _ ?_) | ((with_reducible apply load_box); (· (repeat (first | with_reducible exact Lies.one | with_reducible apply Lies.next))); (with_reducible refine hK _ _ ?_)) | ((with_reducible apply load_one); (· (repeat (first | with_reducible exact Lies.one | with_reducible apply Lies.next))); (· exact rfl); (with_reducible refine hK _ _ ?_)) | ((with_reducible apply store_box); (· exact trivial); (· (repeat (first | with_reducible exact Upd.one | with_reducible apply Upd.next))); (with_reducible refine hK _ _ ?_)) | ((with_reducible apply store_one); (· exact trivial); (· (repeat (first | with_reducible exact Upd.one | with_reducible apply Upd.next))); (· simp); (with_reducible refine hK _ _ ?_)) | (first | ((with_reducible apply index_rda); (· assumption); (· (first | omega | assumption | (simp only [List.length_append, List.length_take, List.length_drop, List.length_map, List.length_replicate, List.length_range, List.length_set, List.length_cons, List.length_nil]; omega))); (· (first | omega | assumption | (simp only [List.length_append, List.length_take, List.length_drop, List.length_map, List.length_replicate, List.length_range, List.length_set, List.length_cons, List.length_nil]; omega))); (with_reducible refine hK _ _ ?_)) | ((with_reducible apply index_owa); (· assumption); (· (first | omega | assumption | (simp only [List.length_append, List.length_take, List.length_drop, List.length_map, List.length_replicate, List.length_range, List.length_set, List.length_cons, List.length_nil]; omega))); (· (first | omega | assumption | (simp only [List.length_append, List.length_take, List.length_drop, List.length_map, List.length_replicate, List.length_range, List.length_set, List.length_cons, List.length_nil]; omega))); (with_reducible refine hK _ _ ?_)) | ((with_reducible apply load_rda8); (· assumption); (· (repeat (first | with_reducible assumption | with_reducible exact List.mem_cons_self .. | with_reducible apply List.mem_cons_of_mem))); (· (first | omega | assumption | (simp only [List.length_append, List.length_take, List.length_drop, List.length_map, List.length_replicate, List.length_range, List.length_set, List.length_cons, List.length_nil]; omega))); (with_reducible refine hK _ _ ?_)) | ((with_reducible apply load_owa8); (· assumption); (· (repeat (first | with_reducible assumption | with_reducible exact List.mem_cons_self .. | with_reducible apply List.mem_cons_of_mem))); (· (first | omega | assumption | (simp only [List.length_append, List.length_take, List.length_drop, List.length_map, List.length_replicate, List.length_range, List.length_set, List.length_cons, List.length_nil]; omega))); (with_reducible refine hK _ _ ?_)) | ((with_reducible apply load_rda); (· assumption); (· assumption); (· (repeat (first | with_reducible assumption | with_reducible exact List.mem_cons_self .. | with_reducible apply List.mem_cons_of_mem))); (with_reducible refine hK _ _ ?_)) | ((with_reducible apply load_owa); (· assumption); (· assumption); (· (repeat (first | with_reducible assumption | with_reducible exact List.mem_cons_self .. | with_reducible apply List.mem_cons_of_mem))); (with_reducible refine hK _ _ ?_)))); clear hK K)); exact hK0⟩) : runW P n ops KK (o :: l) L S := h.out _ k
theorem draw_as {ops : Array Oper} {KK : Env → State → Prop} {p0 : Entry} {p p' : List Entry} (k : drawW P n ops KK p' L' S') (h : Draws P n ops (p0 :: p) L S p' L' S' := by exact ⟨fun K0 hK0 => by refine draw_effect (by simp only [List.getElem?_toArray, List.getElem?_cons_succ, List.getElem?_cons_zero]; rfl) fun K hK => ?_; (try simp only [gos, gob, Nat.reduceBEq, if_true, reduceIte, reduceCtorEq, Nat.reduceLT, Nat.reduceEqDiff, Nat.reduceAdd, Nat.reduceSub, Int.reduceLT, Int.reduceLE, Int.reduceBEq, Int.reduceBNe, Int.reduceToNat, Int.reduceAdd, Int.reduceSub, Int.reduceMul, Int.reduceDiv, Int.reduceMod, Int.reducePow, Int.toNat_natCast, Nat.sub_zero, goq]); (try (simp (disch := omega) only [gow, gobw]; try simp only [gos, gob, Nat.reduceBEq, if_true, reduceIte, reduceCtorEq, Nat.reduceLT, Nat.reduceEqDiff, Nat.reduceAdd, Nat.reduceSub, Int.reduceLT, Int.reduceLE, Int.reduceBEq, Int.reduceBNe, Int.reduceToNat, Int.reduceAdd, Int.reduceSub, Int.reduceMul, Int.reduceDiv, Int.reduceMod, Int.reducePow, Int.toNat_natCast, Nat.sub_zero, goq])); (first | ((repeat refine pend ?_); (with_reducible refine hK _ _ ?_)) | ((with_reducible apply store_box); (· exact trivial); (· (repeat (first | with_reducible exact Upd.one | with_reducible apply Upd.next))); (repeat refine pend ?_); (with_reducible refine hK _ _ ?_)) | ((with_reducible apply store_one); (· exact trivial); (· (repeat (first | with_reducible exact Upd.one | with_reducible apply Upd.next))); (· simp); (repeat refine pend ?_); (with_reducible refine hK _ _ ?_))); clear hK K; exact hK0⟩) : drawW P n ops KK (p0 :: p) L S := h.out _ k
theorem draw_more {ops : Array Oper} {KK : Env → State → Prop} {p0 : Entry} {p p' : List Entry} (k : drawW P n ops KK p' L' S') (h : Draws P n ops (p0 :: p) L S p' L' S' := by exact ⟨fun K0 hK0 => by refine draw_quiet (by simp only [List.getElem?_toArray, List.getElem?_cons_succ, List.getElem?_cons_zero]; rfl) fun K hK => ?_; (try simp only [gos, gob, Nat.reduceBEq, if_true, reduceIte, reduceCtorEq, Nat.reduceLT, Nat.reduceEqDiff, Nat.reduceAdd, Nat.reduceSub, Int.reduceLT, Int.reduceLE, Int.reduceBEq, Int.reduceBNe, Int.reduceToNat, Int.reduceAdd, Int.reduceSub, Int.reduceMul, Int.reduceDiv, Int.reduceMod, Int.reducePow, Int.toNat_natCast, Nat.sub_zero, goq]); (try (simp (disch := omega) only [gow, gobw]; try simp only [gos, gob, Nat.reduceBEq, if_true, reduceIte, reduceCtorEq, Nat.reduceLT, Nat.reduceEqDiff, Nat.reduceAdd, Nat.reduceSub, Int.reduceLT, Int.reduceLE, Int.reduceBEq, Int.reduceBNe, Int.reduceToNat, Int.reduceAdd, Int.reduceSub, Int.reduceMul, Int.reduceDiv, Int.reduceMod, Int.reducePow, Int.toNat_natCast, Nat.sub_zero, goq])); (first | (with_reducible refine hK _ _ ?_) | ((with_reducible apply load_box); (· (repeat (first | with_reducible exact Lies.one | with_reducible apply Lies.next))); (with_reducible refine hK _ _ ?_)) | ((with_reducible apply load_one); (· (repeat (first | with_reducible exact Lies.one | with_reducible apply Lies.next))); (· exact rfl); (with_reducible refine hK _ _ ?_)) | ((with_reducible apply store_box); (· exact trivial); (· (repeat (first | with_reducible exact Upd.one | with_reducible apply Upd.next))); (with_reducible refine hK _ _ ?_)) | ((with_reducible apply store_one); (· exact trivial); (· (repeat (first | with_reducible exact Upd.one | with_reducible apply Upd.next))); (· simp); (with_reducible refine hK _ _ ?_)) | (first | ((with_reducible apply index_rda); (· assumption); (· (first | omega | assumption | (simp only [List.length_append, List.length_take, List.length_drop, List.length_map, List.length_replicate, List.length_range, List.length_set, List.length_cons, List.length_nil]; omega))); (· (first | omega | assumption | (simp only [List.length_append, List.length_take, List.length_drop, List.length_map, List.length_replicate, List.length_range, List.length_set, List.length_cons, List.length_nil]; omega))); (with_reducible refine hK _ _ ?_)) | ((with_reducible apply index_owa); (· assumption); (· (first | omega | assumption | (simp only [List.length_append, List.length_take, List.length_drop, List.length_map, List.length_replicate, List.length_range, List.length_set, List.length_cons, List.length_nil]; omega))); (· (first | omega | assumption | (simp only [List.length_append, List.length_take, List.length_drop, List.length_map, List.length_replicate, List.length_range, List.length_set, List.length_cons, List.length_nil]; omega))); (with_reducible refine hK _ _ ?_)) | ((with_reducible apply load_rda8); (· assumption); (· (repeat (first | with_reducible assumption | with_reducible exact List.mem_cons_self .. | with_reducible apply List.mem_cons_of_mem))); (· (first | omega | assumption | (simp only [List.length_append, List.length_take, List.length_drop, List.length_map, List.length_replicate, List.length_range, List.length_set, List.length_cons, List.length_nil]; omega))); (with_reducible refine hK _ _ ?_)) | ((with_reducible apply load_owa8); (· assumption); (· (repeat (first | with_reducible assumption | with_reducible exact List.mem_cons_self .. | with_reducible apply List.mem_cons_of_mem))); (· (first | omega | assumption | (simp only [List.length_append, List.length_take, List.length_drop, List.length_map, List.length_replicate, List.length_range, List.length_set, List.length_cons, List.length_nil]; omega))); (with_reducible refine hK _ _ ?_)) | ((with_reducible apply load_rda); (· assumption); (· assumption); (· (repeat (first | with_reducible assumption | with_reducible exact List.mem_cons_self .. | with_reducible apply List.mem_cons_of_mem))); (with_reducible refine hK _ _ ?_)) | ((with_reducible apply load_owa); (· assumption); (· assumption); (· (repeat (first | with_reducible assumption | with_reducible exact List.mem_cons_self .. | with_reducible apply List.mem_cons_of_mem))); (with_reducible refine hK _ _ ?_)))); clear hK K; (repeat (refine draw_quiet (by simp only [List.getElem?_toArray, List.getElem?_cons_succ, List.getElem?_cons_zero]; rfl) fun K hK => ?_; (try simp only [gos, gob, Nat.reduceBEq, if_true, reduceIte, reduceCtorEq, Nat.reduceLT, Nat.reduceEqDiff, Nat.reduceAdd, Nat.reduceSub, Int.reduceLT, Int.reduceLE, Int.reduceBEq, Int.reduceBNe, Int.reduceToNat, Int.reduceAdd, Int.reduceSub, Int.reduceMul, Int.reduceDiv, Int.reduceMod, Int.reducePow, Int.toNat_natCast, Nat.sub_zero, goq]); (try (simp (disch := omega) only [gow, gobw]; try simp only [gos, gob, Nat.reduceBEq, if_true, reduceIte, reduceCtorEq, Nat.reduceLT, Nat.reduceEqDiff, Nat.reduceAdd, Nat.reduceSub, Int.reduceLT, Int.reduceLE, Int.reduceBEq, Int.reduceBNe, Int.reduceToNat, Int.reduceAdd, Int.reduceSub, Int.reduceMul, Int.reduceDiv, Int.reduceMod, Int.reducePow, Int.toNat_natCast, Nat.sub_zero, goq])); (first | (with_reducible refine hK _ _ ?_) | ((with_reducible apply load_box); (· (repeat (first | with_reducible exact Lies.one | with_reducible apply Lies.next))); (with_reducible refine hK _ _ ?_)) | ((with_reducible apply load_one); (· (repeat (first | with_reducible exact Lies.one | with_reducible apply Lies.next))); (· exact rfl); (with_reducible refine hK _ _ ?_)) | ((with_reducible apply store_box); (· exact trivial); (· (repeat (first | with_reducible exact Upd.one | with_reducible apply Upd.next))); (with_reducible refine hK _ _ ?_)) | ((with_reducible apply store_one); (· exact trivial); (· (repeat (first | with_reducible exact Upd.one | with_reducible apply Upd.next))); (· simp); (with_reducible refine hK _ _ ?_)) | (first | ((with_reducible apply index_rda); (· assumption); (· (first | omega | assumption | (simp only [List.length_append, List.length_take, List.length_drop, List.length_map, List.length_replicate, List.length_range, List.length_set, List.length_cons, List.length_nil]; omega))); (· (first | omega | assumption | (simp only [List.length_append, List.length_take, List.length_drop, List.length_map, List.length_replicate, List.length_range, List.length_set, List.length_cons, List.length_nil]; omega))); (with_reducible refine hK _ _ ?_)) | ((with_reducible apply index_owa); (· assumption); (· (first | omega | assumption | (simp only [List.length_append, List.length_take, List.length_drop, List.length_map, List.length_replicate, List.length_range, List.length_set, List.length_cons, List.length_nil]; omega))); (· (first | omega | assumption | (simp only [List.length_append, List.length_take, List.length_drop, List.length_map, List.length_replicate, List.length_range, List.length_set, List.length_cons, List.length_nil]; omega))); (with_reducible refine hK _ _ ?_)) | ((with_reducible apply load_rda8); (· assumption); (· (repeat (first | with_reducible assumption | with_reducible exact List.mem_cons_self .. | with_reducible apply List.mem_cons_of_mem))); (· (first | omega | assumption | (simp only [List.length_append, List.length_take, List.length_drop, List.length_map, List.length_replicate, List.length_range, List.length_set, List.length_cons, List.length_nil]; omega))); (with_reducible refine hK _ _ ?_)) | ((with_reducible apply load_owa8); (· assumption); (· (repeat (first | with_reducible assumption | with_reducible exact List.mem_cons_self .. | with_reducible apply List.mem_cons_of_mem))); (· (first | omega | assumption | (simp only [List.length_append, List.length_take, List.length_drop, List.length_map, List.length_replicate, List.length_range, List.length_set, List.length_cons, List.length_nil]; omega))); (with_reducible refine hK _ _ ?_)) | ((with_reducible apply load_rda); (· assumption); (· assumption); (· (repeat (first | with_reducible assumption | with_reducible exact List.mem_cons_self .. | with_reducible apply List.mem_cons_of_mem))); (with_reducible refine hK _ _ ?_)) | ((with_reducible apply load_owa); (· assumption); (· assumption); (· (repeat (first | with_reducible assumption | with_reducible exact List.mem_cons_self .. | with_reducible apply List.mem_cons_of_mem))); (with_reducible refine hK _ _ ?_)))); clear hK K)); exact hK0⟩) : drawW P n ops KK (p0 :: p) L S := h.out _ k

/-- What holds where two roads come together. -/
structure Mid (Q : List Nat → Env → State → Prop) (D : List Nat) (L : Env) (S : State) : Prop where
  out : ∃ L' S', Q D L' S' ∧ Knows L' L ∧ Among S' S
theorem mid {Q : List Nat → Env → State → Prop} {L' : Env} {S' : State} (h : Q D L' S') (hL : Knows L' L := by (repeat (first | exact True.intro | (refine And.intro ?_ ?_; (· (try simp only [evT, lookT_hit, lookT_miss, Nat.reduceBEq]); (first | done | exact rfl)))))) (hS : Among S' S := by first | ((repeat (first | with_reducible exact Among.nil _ | with_reducible exact Pick.head _ _ | with_reducible apply Pick.tail | with_reducible apply Among.cons)); done) | ((repeat (first | exact Among.nil _ | exact Pick.head _ _ | apply Pick.tail | apply Among.cons)); done)) : Mid Q D L S := ⟨L', S', h, hL, hS⟩
theorem seq_mid {c d : Code} (Q : List Nat → Env → State → Prop) (h1 : CodeW P n ro c (Cont.then (Mid Q) K) D L S) (h2 : ∀ D L S, Q D L S → CodeW P n ro d K D L S) : CodeW P n ro (.seq c d) K D L S :=
  code_seq (code_mono h1 fun e D L S h => by
    cases e <;> first | exact h | skip
    obtain ⟨L', S', hq, hL, hS⟩ := h
    exact code_less hL hS (h2 D L' S' hq))

/-- A loop: what holds at its head. -/
theorem loop_i {c : Code} (I : Nat → List Nat → Env → State → Prop) {m : Nat} {L0 : Env} {S0 : State} (h0 : I m D L0 S0) (round : ∀ m D L S, I m D L S → CodeW P n ro c (Cont.then (Again I m) K) D L S)
    (hL : Knows L0 L := by (repeat (first | exact True.intro | (refine And.intro ?_ ?_; (· (try simp only [evT, lookT_hit, lookT_miss, Nat.reduceBEq]); (first | done | exact rfl)))))) (hS : Among S0 S := by first | ((repeat (first | with_reducible exact Among.nil _ | with_reducible exact Pick.head _ _ | with_reducible apply Pick.tail | with_reducible apply Among.cons)); done) | ((repeat (first | exact Among.nil _ | exact Pick.head _ _ | apply Pick.tail | apply Among.cons)); done)) : CodeW P n ro (.loop c) K D L S := code_loop I ⟨m, L0, S0, h0, hL, hS⟩ round

/-- The same chunks, otherwise. -/
theorem code_cut {c : Code} {A B : Chunk} (h : CodeW P n ro c K D L (A :: B :: S)) : CodeW P n ro c K D L ((A ++ B) :: S) :=
  ⟨fun a w ha hw => h.out a w ha (hw.perm (by simp))⟩
theorem code_sub {c : Code} {S' : State} (h : CodeW P n ro c K D L S') (hs : Among S' S := by first | ((repeat (first | with_reducible exact Among.nil _ | with_reducible exact Pick.head _ _ | with_reducible apply Pick.tail | with_reducible apply Among.cons)); done) | ((repeat (first | exact Among.nil _ | exact Pick.head _ _ | apply Pick.tail | apply Among.cons)); done)) : CodeW P n ro c K D L S := ⟨fun a w ha hw => h.out a w ha (hs.hold hw)⟩

end Go.Ost

/- The walk's steps where structures lie in slices, and maps. Conditions: none. -/
set_option linter.unusedSimpArgs false
set_option linter.unusedVariables false
namespace Go.Ost
open Go

variable {P : Program} {n : Nat} {ro : Option Nat} {K : Cont} {D : List Nat} {L : Env} {S : State}

section facts
variable {a : Option Addr} {len cap : Nat} {us : List Value} {H : Chunk} {κ : Value → Prop} {t e e' : TypeId} {z : Value} {s by_ : Nat} {k : IntKind} {α : Type} {enc : α → List Value} {l : List α} {x x' : α} {v : Value}
theorem field_elk {si i off ft : Nat} {m : Nat} [h : TField P si i off ft] (q : κ (.pointer (some (elA a (m + off))))) : PureW P (Instr.fieldAt si (.pointer (some (elA a m))) i) κ := by rw [field_el]; exact q
theorem el_ato {i : Int} [TSlice P t e] [TSized P e z s by_] {cap' : Nat} (ho : Own s e' H a len cap' us) (h0 : 0 ≤ i) (h1 : i < len) (hp : 0 < s) (q : κ (.pointer (some (elA a (i.toNat * s))))) : PureW P (Instr.indexAt t (.slice a len cap) (.int k i)) κ := by
  rw [el_at (ho.rd (S := [H]) (List.mem_cons_self ..)) h0 h1 hp]; exact q
theorem load_el {i off : Nat} [TFlat P t] (ho : Own s e' H a len cap (l.flatMap enc)) (hs : ∀ x, (enc x).length = s) (hx : l[i]? = some x) (hv : (enc x)[off]? = some v) (hH : H ∈ S) (q : κ v) : ReadW P (Instr.loadAt t (.pointer (some (elA a (i * s + off))))) S κ := by
  have hi := (List.getElem?_eq_some_iff.1 hx).1
  have ho' := (List.getElem?_eq_some_iff.1 hv).1
  refine el_load (ho.rd hH) ?_ q
  rw [flat_get enc s hs l i off hi (by rw [← hs x]; exact ho'), List.getElem?_eq_some_iff.1 hx |>.2]
  exact hv
theorem load_el_agg {i : Nat} {b2 : Nat} [TDeep P t] [TSized P t z s b2] (ho : Own s e' H a len cap (l.flatMap enc)) (hs : ∀ x, (enc x).length = s) (hx : l[i]? = some x) (hp : 0 < s) (hH : H ∈ S) (q : κ (.agg (enc x).toArray)) : ReadW P (Instr.loadAt t (.pointer (some (elA a (i * s))))) S κ := by
  have hi := (List.getElem?_eq_some_iff.1 hx).1
  refine el_load_agg (ho.rd hH) hp ?_ ?_
  · rw [flat_len enc s hs]
    have : (i + 1) * s ≤ l.length * s := Nat.mul_le_mul_right s hi
    rw [Nat.add_mul] at this; omega
  · rw [flat_el enc s hs l i hi, List.getElem?_eq_some_iff.1 hx |>.2]; exact q
theorem store_el {i off : Nat} {b2 : Nat} {G : State} {κ : State → Prop} [TSized P t z 1 b2] (ho : Own s e' H a len cap (l.flatMap enc)) (hp : Pick H S G) (hs : ∀ x, (enc x).length = s) (hx : l[i]? = some x) (hc : Value.cell1 v) (hv : (enc x).set off v = enc x') (hoff : off < s)
    (q : ∀ C', Own s e' C' a len cap ((l.set i x').flatMap enc) → κ (C' :: G)) : UnitW P (Instr.storeAt t (.pointer (some (elA a (i * s + off)))) v) S κ := by
  have hi := (List.getElem?_eq_some_iff.1 hx).1
  refine own_store1 ho hp hc ?_ (fun C' h => q C' ?_)
  · rw [flat_len enc s hs]
    have : (i + 1) * s ≤ l.length * s := Nat.mul_le_mul_right s hi
    rw [Nat.add_mul] at this; omega
  · rw [flat_set enc s hs l i off v hi x' (by rw [List.getElem?_eq_some_iff.1 hx |>.2]; exact hv) hoff] at h
    exact h
theorem store_el_agg {i : Nat} {b2 : Nat} {G : State} {κ : State → Prop} [TSized P t z s b2] (ho : Own s e' H a len cap (l.flatMap enc)) (hp : Pick H S G) (hs : ∀ x, (enc x).length = s) (hi : i < l.length) (h0 : 0 < s) (hc : ∀ u ∈ enc x', Value.cell1 u)
    (q : ∀ C', Own s e' C' a len cap ((l.set i x').flatMap enc) → κ (C' :: G)) : UnitW P (Instr.storeAt t (.pointer (some (elA a (i * s)))) (.agg (enc x').toArray)) S κ := by
  refine own_store_agg ho hp h0 (hs x') hc ?_ (fun C' h => q C' ?_)
  · rw [flat_len enc s hs]
    have : (i + 1) * s ≤ l.length * s := Nat.mul_le_mul_right s hi
    rw [Nat.add_mul] at this; omega
  · rw [flat_setL enc s hs l i hi] at h
    exact h
end facts

variable {l l' : List Oper} {L' : Env} {S' : State} {id : Nat} {ops : Array Oper} {KK : Env → State → Prop}
theorem pendq {a b : Prop} (k : b) (h : a := by (first | ((with_reducible apply load_el); (· assumption); (· assumption); (· assumption); (· exact rfl); (· (repeat (first | with_reducible assumption | with_reducible exact List.mem_cons_self .. | with_reducible apply List.mem_cons_of_mem))); exact rfl) | (first | exact trivial | ((with_reducible apply load_box); (· (repeat (first | with_reducible exact Lies.one | with_reducible apply Lies.next))); (· exact rfl)) | ((with_reducible apply load_one); (· (repeat (first | with_reducible exact Lies.one | with_reducible apply Lies.next))); (· exact rfl); (· exact rfl)) | (first | ((with_reducible apply load_rda8); (· assumption); (· (repeat (first | with_reducible assumption | with_reducible exact List.mem_cons_self .. | with_reducible apply List.mem_cons_of_mem))); (· (first | omega | assumption | (simp only [List.length_append, List.length_take, List.length_drop, List.length_map, List.length_replicate, List.length_range, List.length_set, List.length_cons, List.length_nil]; omega))); exact rfl) | ((with_reducible apply load_owa8); (· assumption); (· (repeat (first | with_reducible assumption | with_reducible exact List.mem_cons_self .. | with_reducible apply List.mem_cons_of_mem))); (· (first | omega | assumption | (simp only [List.length_append, List.length_take, List.length_drop, List.length_map, List.length_replicate, List.length_range, List.length_set, List.length_cons, List.length_nil]; omega))); exact rfl) | ((with_reducible apply load_rda); (· assumption); (· assumption); (· (repeat (first | with_reducible assumption | with_reducible exact List.mem_cons_self .. | with_reducible apply List.mem_cons_of_mem))); exact rfl) | ((with_reducible apply load_owa); (· assumption); (· assumption); (· (repeat (first | with_reducible assumption | with_reducible exact List.mem_cons_self .. | with_reducible apply List.mem_cons_of_mem))); exact rfl))))) : a ∧ b := ⟨h, k⟩
theorem regq_to (k : runW P n l.toArray (K .normal D) l' L' S') (h : Runs P n l.toArray l L S l' L' S' := by exact ⟨fun K0 hK0 => by (repeat ((with_reducible refine run_cons fun K hK => ?_); (try simp only [gos, gob, Nat.reduceBEq, if_true, reduceIte, reduceCtorEq, Nat.reduceLT, Nat.reduceEqDiff, Nat.reduceAdd, Nat.reduceSub, Int.reduceLT, Int.reduceLE, Int.reduceBEq, Int.reduceBNe, Int.reduceToNat, Int.reduceAdd, Int.reduceSub, Int.reduceMul, Int.reduceDiv, Int.reduceMod, Int.reducePow, Int.toNat_natCast, Nat.sub_zero]); (try (simp (disch := omega) only [gow, gobw]; try simp only [gos, gob, Nat.reduceBEq, if_true, reduceIte, reduceCtorEq, Nat.reduceLT, Nat.reduceEqDiff, Nat.reduceAdd, Nat.reduceSub, Int.reduceLT, Int.reduceLE, Int.reduceBEq, Int.reduceBNe, Int.reduceToNat, Int.reduceAdd, Int.reduceSub, Int.reduceMul, Int.reduceDiv, Int.reduceMod, Int.reducePow, Int.toNat_natCast, Nat.sub_zero])); (first | (first | (with_reducible refine hK _ _ ?_) | ((with_reducible apply load_box); (· (repeat (first | with_reducible exact Lies.one | with_reducible apply Lies.next))); (with_reducible refine hK _ _ ?_)) | ((with_reducible apply load_one); (· (repeat (first | with_reducible exact Lies.one | with_reducible apply Lies.next))); (· exact rfl); (with_reducible refine hK _ _ ?_)) | ((with_reducible apply store_box); (· exact trivial); (· (repeat (first | with_reducible exact Upd.one | with_reducible apply Upd.next))); (with_reducible refine hK _ _ ?_)) | ((with_reducible apply store_one); (· exact trivial); (· (repeat (first | with_reducible exact Upd.one | with_reducible apply Upd.next))); (· simp); (with_reducible refine hK _ _ ?_)) | (first | ((with_reducible apply index_rda); (· assumption); (· (first | omega | assumption | (simp only [List.length_append, List.length_take, List.length_drop, List.length_map, List.length_replicate, List.length_range, List.length_set, List.length_cons, List.length_nil]; omega))); (· (first | omega | assumption | (simp only [List.length_append, List.length_take, List.length_drop, List.length_map, List.length_replicate, List.length_range, List.length_set, List.length_cons, List.length_nil]; omega))); (with_reducible refine hK _ _ ?_)) | ((with_reducible apply index_owa); (· assumption); (· (first | omega | assumption | (simp only [List.length_append, List.length_take, List.length_drop, List.length_map, List.length_replicate, List.length_range, List.length_set, List.length_cons, List.length_nil]; omega))); (· (first | omega | assumption | (simp only [List.length_append, List.length_take, List.length_drop, List.length_map, List.length_replicate, List.length_range, List.length_set, List.length_cons, List.length_nil]; omega))); (with_reducible refine hK _ _ ?_)) | ((with_reducible apply load_rda8); (· assumption); (· (repeat (first | with_reducible assumption | with_reducible exact List.mem_cons_self .. | with_reducible apply List.mem_cons_of_mem))); (· (first | omega | assumption | (simp only [List.length_append, List.length_take, List.length_drop, List.length_map, List.length_replicate, List.length_range, List.length_set, List.length_cons, List.length_nil]; omega))); (with_reducible refine hK _ _ ?_)) | ((with_reducible apply load_owa8); (· assumption); (· (repeat (first | with_reducible assumption | with_reducible exact List.mem_cons_self .. | with_reducible apply List.mem_cons_of_mem))); (· (first | omega | assumption | (simp only [List.length_append, List.length_take, List.length_drop, List.length_map, List.length_replicate, List.length_range, List.length_set, List.length_cons, List.length_nil]; omega))); (with_reducible refine hK _ _ ?_)) | ((with_reducible apply load_rda); (· assumption); (· assumption); (· (repeat (first | with_reducible assumption | with_reducible exact List.mem_cons_self .. | with_reducible apply List.mem_cons_of_mem))); (with_reducible refine hK _ _ ?_)) | ((with_reducible apply load_owa); (· assumption); (· assumption); (· (repeat (first | with_reducible assumption | with_reducible exact List.mem_cons_self .. | with_reducible apply List.mem_cons_of_mem))); (with_reducible refine hK _ _ ?_)))) | (first | ((with_reducible apply field_elk); (with_reducible refine hK _ _ ?_)) | ((with_reducible apply el_ato); (· assumption); (· (first | omega | assumption | (simp only [List.length_append, List.length_take, List.length_drop, List.length_map, List.length_replicate, List.length_range, List.length_set, List.length_cons, List.length_nil]; omega))); (· (first | omega | assumption | (simp only [List.length_append, List.length_take, List.length_drop, List.length_map, List.length_replicate, List.length_range, List.length_set, List.length_cons, List.length_nil]; omega))); (· exact Nat.succ_pos _); (with_reducible refine hK _ _ ?_)) | ((with_reducible apply load_el); (· assumption); (· assumption); (· assumption); (· exact rfl); (· (repeat (first | with_reducible assumption | with_reducible exact List.mem_cons_self .. | with_reducible apply List.mem_cons_of_mem))); (with_reducible refine hK _ _ ?_)) | ((with_reducible apply map_len); (· assumption); (· (repeat (first | with_reducible assumption | with_reducible exact List.mem_cons_self .. | with_reducible apply List.mem_cons_of_mem))); (with_reducible refine hK _ _ ?_)) | ((with_reducible apply map_look2); (· assumption); (· (repeat (first | with_reducible assumption | with_reducible exact List.mem_cons_self .. | with_reducible apply List.mem_cons_of_mem))); (with_reducible refine hK _ _ ?_)) | ((with_reducible apply map_look1); (· assumption); (· (repeat (first | with_reducible assumption | with_reducible exact List.mem_cons_self .. | with_reducible apply List.mem_cons_of_mem))); (with_reducible refine hK _ _ ?_)))); clear hK K)); exact hK0⟩) : CodeW P n ro (.region id l.toArray false) K D L S := code_reg (h.out _ k)
theorem runq_more {o : Oper} {l : List Oper} (k : runW P n ops KK l' L' S') (h : Runs P n ops (o :: l) L S l' L' S' := by exact ⟨fun K0 hK0 => by ((with_reducible refine run_cons fun K hK => ?_); (try simp only [gos, gob, Nat.reduceBEq, if_true, reduceIte, reduceCtorEq, Nat.reduceLT, Nat.reduceEqDiff, Nat.reduceAdd, Nat.reduceSub, Int.reduceLT, Int.reduceLE, Int.reduceBEq, Int.reduceBNe, Int.reduceToNat, Int.reduceAdd, Int.reduceSub, Int.reduceMul, Int.reduceDiv, Int.reduceMod, Int.reducePow, Int.toNat_natCast, Nat.sub_zero]); (try (simp (disch := omega) only [gow, gobw]; try simp only [gos, gob, Nat.reduceBEq, if_true, reduceIte, reduceCtorEq, Nat.reduceLT, Nat.reduceEqDiff, Nat.reduceAdd, Nat.reduceSub, Int.reduceLT, Int.reduceLE, Int.reduceBEq, Int.reduceBNe, Int.reduceToNat, Int.reduceAdd, Int.reduceSub, Int.reduceMul, Int.reduceDiv, Int.reduceMod, Int.reducePow, Int.toNat_natCast, Nat.sub_zero])); (first | (first | (with_reducible refine hK _ _ ?_) | ((with_reducible apply load_box); (· (repeat (first | with_reducible exact Lies.one | with_reducible apply Lies.next))); (with_reducible refine hK _ _ ?_)) | ((with_reducible apply load_one); (· (repeat (first | with_reducible exact Lies.one | with_reducible apply Lies.next))); (· exact rfl); (with_reducible refine hK _ _ ?_)) | ((with_reducible apply store_box); (· exact trivial); (· (repeat (first | with_reducible exact Upd.one | with_reducible apply Upd.next))); (with_reducible refine hK _ _ ?_)) | ((with_reducible apply store_one); (· exact trivial); (· (repeat (first | with_reducible exact Upd.one | with_reducible apply Upd.next))); (· simp); (with_reducible refine hK _ _ ?_)) | (first | ((with_reducible apply index_rda); (· assumption); (· (first | omega | assumption | (simp only [List.length_append, List.length_take, List.length_drop, List.length_map, List.length_replicate, List.length_range, List.length_set, List.length_cons, List.length_nil]; omega))); (· (first | omega | assumption | (simp only [List.length_append, List.length_take, List.length_drop, List.length_map, List.length_replicate, List.length_range, List.length_set, List.length_cons, List.length_nil]; omega))); (with_reducible refine hK _ _ ?_)) | ((with_reducible apply index_owa); (· assumption); (· (first | omega | assumption | (simp only [List.length_append, List.length_take, List.length_drop, List.length_map, List.length_replicate, List.length_range, List.length_set, List.length_cons, List.length_nil]; omega))); (· (first | omega | assumption | (simp only [List.length_append, List.length_take, List.length_drop, List.length_map, List.length_replicate, List.length_range, List.length_set, List.length_cons, List.length_nil]; omega))); (with_reducible refine hK _ _ ?_)) | ((with_reducible apply load_rda8); (· assumption); (· (repeat (first | with_reducible assumption | with_reducible exact List.mem_cons_self .. | with_reducible apply List.mem_cons_of_mem))); (· (first | omega | assumption | (simp only [List.length_append, List.length_take, List.length_drop, List.length_map, List.length_replicate, List.length_range, List.length_set, List.length_cons, List.length_nil]; omega))); (with_reducible refine hK _ _ ?_)) | ((with_reducible apply load_owa8); (· assumption); (· (repeat (first | with_reducible assumption | with_reducible exact List.mem_cons_self .. | with_reducible apply List.mem_cons_of_mem))); (· (first | omega | assumption | (simp only [List.length_append, List.length_take, List.length_drop, List.length_map, List.length_replicate, List.length_range, List.length_set, List.length_cons, List.length_nil]; omega))); (with_reducible refine hK _ _ ?_)) | ((with_reducible apply load_rda); (· assumption); (· assumption); (· (repeat (first | with_reducible assumption | with_reducible exact List.mem_cons_self .. | with_reducible apply List.mem_cons_of_mem))); (with_reducible refine hK _ _ ?_)) | ((with_reducible apply load_owa); (· assumption); (· assumption); (· (repeat (first | with_reducible assumption | with_reducible exact List.mem_cons_self .. | with_reducible apply List.mem_cons_of_mem))); (with_reducible refine hK _ _ ?_)))) | (first | ((with_reducible apply field_elk); (with_reducible refine hK _ _ ?_)) | ((with_reducible apply el_ato); (· assumption); (· (first | omega | assumption | (simp only [List.length_append, List.length_take, List.length_drop, List.length_map, List.length_replicate, List.length_range, List.length_set, List.length_cons, List.length_nil]; omega))); (· (first | omega | assumption | (simp only [List.length_append, List.length_take, List.length_drop, List.length_map, List.length_replicate, List.length_range, List.length_set, List.length_cons, List.length_nil]; omega))); (· exact Nat.succ_pos _); (with_reducible refine hK _ _ ?_)) | ((with_reducible apply load_el); (· assumption); (· assumption); (· assumption); (· exact rfl); (· (repeat (first | with_reducible assumption | with_reducible exact List.mem_cons_self .. | with_reducible apply List.mem_cons_of_mem))); (with_reducible refine hK _ _ ?_)) | ((with_reducible apply map_len); (· assumption); (· (repeat (first | with_reducible assumption | with_reducible exact List.mem_cons_self .. | with_reducible apply List.mem_cons_of_mem))); (with_reducible refine hK _ _ ?_)) | ((with_reducible apply map_look2); (· assumption); (· (repeat (first | with_reducible assumption | with_reducible exact List.mem_cons_self .. | with_reducible apply List.mem_cons_of_mem))); (with_reducible refine hK _ _ ?_)) | ((with_reducible apply map_look1); (· assumption); (· (repeat (first | with_reducible assumption | with_reducible exact List.mem_cons_self .. | with_reducible apply List.mem_cons_of_mem))); (with_reducible refine hK _ _ ?_)))); clear hK K); (repeat ((with_reducible refine run_cons fun K hK => ?_); (try simp only [gos, gob, Nat.reduceBEq, if_true, reduceIte, reduceCtorEq, Nat.reduceLT, Nat.reduceEqDiff, Nat.reduceAdd, Nat.reduceSub, Int.reduceLT, Int.reduceLE, Int.reduceBEq, Int.reduceBNe, Int.reduceToNat, Int.reduceAdd, Int.reduceSub, Int.reduceMul, Int.reduceDiv, Int.reduceMod, Int.reducePow, Int.toNat_natCast, Nat.sub_zero]); (try (simp (disch := omega) only [gow, gobw]; try simp only [gos, gob, Nat.reduceBEq, if_true, reduceIte, reduceCtorEq, Nat.reduceLT, Nat.reduceEqDiff, Nat.reduceAdd, Nat.reduceSub, Int.reduceLT, Int.reduceLE, Int.reduceBEq, Int.reduceBNe, Int.reduceToNat, Int.reduceAdd, Int.reduceSub, Int.reduceMul, Int.reduceDiv, Int.reduceMod, Int.reducePow, Int.toNat_natCast, Nat.sub_zero])); (first | (first | (with_reducible refine hK _ _ ?_) | ((with_reducible apply load_box); (· (repeat (first | with_reducible exact Lies.one | with_reducible apply Lies.next))); (with_reducible refine hK _ _ ?_)) | ((with_reducible apply load_one); (· (repeat (first | with_reducible exact Lies.one | with_reducible apply Lies.next))); (· exact rfl); (with_reducible refine hK _ _ ?_)) | ((with_reducible apply store_box); (· exact trivial); (· (repeat (first | with_reducible exact Upd.one | with_reducible apply Upd.next))); (with_reducible refine hK _ _ ?_)) | ((with_reducible apply store_one); (· exact trivial); (· (repeat (first | with_reducible exact Upd.one | with_reducible apply Upd.next))); (· simp); (with_reducible refine hK _ _ ?_)) | (first | ((with_reducible apply index_rda); (· assumption); (· (first | omega | assumption | (simp only [List.length_append, List.length_take, List.length_drop, List.length_map, List.length_replicate, List.length_range, List.length_set, List.length_cons, List.length_nil]; omega))); (· (first | omega | assumption | (simp only [List.length_append, List.length_take, List.length_drop, List.length_map, List.length_replicate, List.length_range, List.length_set, List.length_cons, List.length_nil]; omega))); (with_reducible refine hK _ _ ?_)) | ((with_reducible apply index_owa); (· assumption); (· (first | omega | assumption | (simp only [List.length_append, List.length_take, List.length_drop, List.length_map, List.length_replicate, List.length_range, List.length_set, List.length_cons, List.length_nil]; omega))); (· (first | omega | assumption | (simp only [List.length_append, List.length_take, List.length_drop, List.length_map, List.length_replicate, List.length_range, List.length_set, List.length_cons, List.length_nil]; omega))); (with_reducible refine hK _ _ ?_)) | ((with_reducible apply load_rda8); (· assumption); (· (repeat (first | with_reducible assumption | with_reducible exact List.mem_cons_self .. | with_reducible apply List.mem_cons_of_mem))); (· (first | omega | assumption | (simp only [List.length_append, List.length_take, List.length_drop, List.length_map, List.length_replicate, List.length_range, List.length_set, List.length_cons, List.length_nil]; omega))); (with_reducible refine hK _ _ ?_)) | ((with_reducible apply load_owa8); (· assumption); (· (repeat (first | with_reducible assumption | with_reducible exact List.mem_cons_self .. | with_reducible apply List.mem_cons_of_mem))); (· (first | omega | assumption | (simp only [List.length_append, List.length_take, List.length_drop, List.length_map, List.length_replicate, List.length_range, List.length_set, List.length_cons, List.length_nil]; omega))); (with_reducible refine hK _ _ ?_)) | ((with_reducible apply load_rda); (· assumption); (· assumption); (· (repeat (first | with_reducible assumption | with_reducible exact List.mem_cons_self .. | with_reducible apply List.mem_cons_of_mem))); (with_reducible refine hK _ _ ?_)) | ((with_reducible apply load_owa); (· assumption); (· assumption); (· (repeat (first | with_reducible assumption | with_reducible exact List.mem_cons_self .. | with_reducible apply List.mem_cons_of_mem))); (with_reducible refine hK _ _ ?_)))) | (first | ((with_reducible apply field_elk); (with_reducible refine hK _ _ ?_)) | ((with_reducible apply el_ato); (· assumption); (· (first | omega | assumption | (simp only [List.length_append, List.length_take, List.length_drop, List.length_map, List.length_replicate, List.length_range, List.length_set, List.length_cons, List.length_nil]; omega))); (· (first | omega | assumption | (simp only [List.length_append, List.length_take, List.length_drop, List.length_map, List.length_replicate, List.length_range, List.length_set, List.length_cons, List.length_nil]; omega))); (· exact Nat.succ_pos _); (with_reducible refine hK _ _ ?_)) | ((with_reducible apply load_el); (· assumption); (· assumption); (· assumption); (· exact rfl); (· (repeat (first | with_reducible assumption | with_reducible exact List.mem_cons_self .. | with_reducible apply List.mem_cons_of_mem))); (with_reducible refine hK _ _ ?_)) | ((with_reducible apply map_len); (· assumption); (· (repeat (first | with_reducible assumption | with_reducible exact List.mem_cons_self .. | with_reducible apply List.mem_cons_of_mem))); (with_reducible refine hK _ _ ?_)) | ((with_reducible apply map_look2); (· assumption); (· (repeat (first | with_reducible assumption | with_reducible exact List.mem_cons_self .. | with_reducible apply List.mem_cons_of_mem))); (with_reducible refine hK _ _ ?_)) | ((with_reducible apply map_look1); (· assumption); (· (repeat (first | with_reducible assumption | with_reducible exact List.mem_cons_self .. | with_reducible apply List.mem_cons_of_mem))); (with_reducible refine hK _ _ ?_)))); clear hK K)); exact hK0⟩) : runW P n ops KK (o :: l) L S := h.out _ k
theorem drawq_as {p0 : Entry} {p p' : List Entry} (k : drawW P n ops KK p' L' S') (h : Draws P n ops (p0 :: p) L S p' L' S' := by exact ⟨fun K0 hK0 => by refine draw_effect (by simp only [List.getElem?_toArray, List.getElem?_cons_succ, List.getElem?_cons_zero]; rfl) fun K hK => ?_; (try simp only [gos, gob, Nat.reduceBEq, if_true, reduceIte, reduceCtorEq, Nat.reduceLT, Nat.reduceEqDiff, Nat.reduceAdd, Nat.reduceSub, Int.reduceLT, Int.reduceLE, Int.reduceBEq, Int.reduceBNe, Int.reduceToNat, Int.reduceAdd, Int.reduceSub, Int.reduceMul, Int.reduceDiv, Int.reduceMod, Int.reducePow, Int.toNat_natCast, Nat.sub_zero, goq]); (try (simp (disch := omega) only [gow, gobw]; try simp only [gos, gob, Nat.reduceBEq, if_true, reduceIte, reduceCtorEq, Nat.reduceLT, Nat.reduceEqDiff, Nat.reduceAdd, Nat.reduceSub, Int.reduceLT, Int.reduceLE, Int.reduceBEq, Int.reduceBNe, Int.reduceToNat, Int.reduceAdd, Int.reduceSub, Int.reduceMul, Int.reduceDiv, Int.reduceMod, Int.reducePow, Int.toNat_natCast, Nat.sub_zero, goq])); (first | ((repeat refine pendq ?_); (with_reducible refine hK _ _ ?_)) | ((with_reducible apply store_box); (· exact trivial); (· (repeat (first | with_reducible exact Upd.one | with_reducible apply Upd.next))); (repeat refine pendq ?_); (with_reducible refine hK _ _ ?_)) | ((with_reducible apply store_one); (· exact trivial); (· (repeat (first | with_reducible exact Upd.one | with_reducible apply Upd.next))); (· simp); (repeat refine pendq ?_); (with_reducible refine hK _ _ ?_))); clear hK K; exact hK0⟩) : drawW P n ops KK (p0 :: p) L S := h.out _ k
theorem drawq_more {p0 : Entry} {p p' : List Entry} (k : drawW P n ops KK p' L' S') (h : Draws P n ops (p0 :: p) L S p' L' S' := by exact ⟨fun K0 hK0 => by refine draw_quiet (by simp only [List.getElem?_toArray, List.getElem?_cons_succ, List.getElem?_cons_zero]; rfl) fun K hK => ?_; (try simp only [gos, gob, Nat.reduceBEq, if_true, reduceIte, reduceCtorEq, Nat.reduceLT, Nat.reduceEqDiff, Nat.reduceAdd, Nat.reduceSub, Int.reduceLT, Int.reduceLE, Int.reduceBEq, Int.reduceBNe, Int.reduceToNat, Int.reduceAdd, Int.reduceSub, Int.reduceMul, Int.reduceDiv, Int.reduceMod, Int.reducePow, Int.toNat_natCast, Nat.sub_zero, goq]); (try (simp (disch := omega) only [gow, gobw]; try simp only [gos, gob, Nat.reduceBEq, if_true, reduceIte, reduceCtorEq, Nat.reduceLT, Nat.reduceEqDiff, Nat.reduceAdd, Nat.reduceSub, Int.reduceLT, Int.reduceLE, Int.reduceBEq, Int.reduceBNe, Int.reduceToNat, Int.reduceAdd, Int.reduceSub, Int.reduceMul, Int.reduceDiv, Int.reduceMod, Int.reducePow, Int.toNat_natCast, Nat.sub_zero, goq])); (first | (first | (with_reducible refine hK _ _ ?_) | ((with_reducible apply load_box); (· (repeat (first | with_reducible exact Lies.one | with_reducible apply Lies.next))); (with_reducible refine hK _ _ ?_)) | ((with_reducible apply load_one); (· (repeat (first | with_reducible exact Lies.one | with_reducible apply Lies.next))); (· exact rfl); (with_reducible refine hK _ _ ?_)) | ((with_reducible apply store_box); (· exact trivial); (· (repeat (first | with_reducible exact Upd.one | with_reducible apply Upd.next))); (with_reducible refine hK _ _ ?_)) | ((with_reducible apply store_one); (· exact trivial); (· (repeat (first | with_reducible exact Upd.one | with_reducible apply Upd.next))); (· simp); (with_reducible refine hK _ _ ?_)) | (first | ((with_reducible apply index_rda); (· assumption); (· (first | omega | assumption | (simp only [List.length_append, List.length_take, List.length_drop, List.length_map, List.length_replicate, List.length_range, List.length_set, List.length_cons, List.length_nil]; omega))); (· (first | omega | assumption | (simp only [List.length_append, List.length_take, List.length_drop, List.length_map, List.length_replicate, List.length_range, List.length_set, List.length_cons, List.length_nil]; omega))); (with_reducible refine hK _ _ ?_)) | ((with_reducible apply index_owa); (· assumption); (· (first | omega | assumption | (simp only [List.length_append, List.length_take, List.length_drop, List.length_map, List.length_replicate, List.length_range, List.length_set, List.length_cons, List.length_nil]; omega))); (· (first | omega | assumption | (simp only [List.length_append, List.length_take, List.length_drop, List.length_map, List.length_replicate, List.length_range, List.length_set, List.length_cons, List.length_nil]; omega))); (with_reducible refine hK _ _ ?_)) | ((with_reducible apply load_rda8); (· assumption); (· (repeat (first | with_reducible assumption | with_reducible exact List.mem_cons_self .. | with_reducible apply List.mem_cons_of_mem))); (· (first | omega | assumption | (simp only [List.length_append, List.length_take, List.length_drop, List.length_map, List.length_replicate, List.length_range, List.length_set, List.length_cons, List.length_nil]; omega))); (with_reducible refine hK _ _ ?_)) | ((with_reducible apply load_owa8); (· assumption); (· (repeat (first | with_reducible assumption | with_reducible exact List.mem_cons_self .. | with_reducible apply List.mem_cons_of_mem))); (· (first | omega | assumption | (simp only [List.length_append, List.length_take, List.length_drop, List.length_map, List.length_replicate, List.length_range, List.length_set, List.length_cons, List.length_nil]; omega))); (with_reducible refine hK _ _ ?_)) | ((with_reducible apply load_rda); (· assumption); (· assumption); (· (repeat (first | with_reducible assumption | with_reducible exact List.mem_cons_self .. | with_reducible apply List.mem_cons_of_mem))); (with_reducible refine hK _ _ ?_)) | ((with_reducible apply load_owa); (· assumption); (· assumption); (· (repeat (first | with_reducible assumption | with_reducible exact List.mem_cons_self .. | with_reducible apply List.mem_cons_of_mem))); (with_reducible refine hK _ _ ?_)))) | (first | ((with_reducible apply field_elk); (with_reducible refine hK _ _ ?_)) | ((with_reducible apply el_ato); (· assumption); (· (first | omega | assumption | (simp only [List.length_append, List.length_take, List.length_drop, List.length_map, List.length_replicate, List.length_range, List.length_set, List.length_cons, List.length_nil]; omega))); (· (first | omega | assumption | (simp only [List.length_append, List.length_take, List.length_drop, List.length_map, List.length_replicate, List.length_range, List.length_set, List.length_cons, List.length_nil]; omega))); (· exact Nat.succ_pos _); (with_reducible refine hK _ _ ?_)) | ((with_reducible apply load_el); (· assumption); (· assumption); (· assumption); (· exact rfl); (· (repeat (first | with_reducible assumption | with_reducible exact List.mem_cons_self .. | with_reducible apply List.mem_cons_of_mem))); (with_reducible refine hK _ _ ?_)) | ((with_reducible apply map_len); (· assumption); (· (repeat (first | with_reducible assumption | with_reducible exact List.mem_cons_self .. | with_reducible apply List.mem_cons_of_mem))); (with_reducible refine hK _ _ ?_)) | ((with_reducible apply map_look2); (· assumption); (· (repeat (first | with_reducible assumption | with_reducible exact List.mem_cons_self .. | with_reducible apply List.mem_cons_of_mem))); (with_reducible refine hK _ _ ?_)) | ((with_reducible apply map_look1); (· assumption); (· (repeat (first | with_reducible assumption | with_reducible exact List.mem_cons_self .. | with_reducible apply List.mem_cons_of_mem))); (with_reducible refine hK _ _ ?_)))); clear hK K; (repeat (refine draw_quiet (by simp only [List.getElem?_toArray, List.getElem?_cons_succ, List.getElem?_cons_zero]; rfl) fun K hK => ?_; (try simp only [gos, gob, Nat.reduceBEq, if_true, reduceIte, reduceCtorEq, Nat.reduceLT, Nat.reduceEqDiff, Nat.reduceAdd, Nat.reduceSub, Int.reduceLT, Int.reduceLE, Int.reduceBEq, Int.reduceBNe, Int.reduceToNat, Int.reduceAdd, Int.reduceSub, Int.reduceMul, Int.reduceDiv, Int.reduceMod, Int.reducePow, Int.toNat_natCast, Nat.sub_zero, goq]); (try (simp (disch := omega) only [gow, gobw]; try simp only [gos, gob, Nat.reduceBEq, if_true, reduceIte, reduceCtorEq, Nat.reduceLT, Nat.reduceEqDiff, Nat.reduceAdd, Nat.reduceSub, Int.reduceLT, Int.reduceLE, Int.reduceBEq, Int.reduceBNe, Int.reduceToNat, Int.reduceAdd, Int.reduceSub, Int.reduceMul, Int.reduceDiv, Int.reduceMod, Int.reducePow, Int.toNat_natCast, Nat.sub_zero, goq])); (first | (first | (with_reducible refine hK _ _ ?_) | ((with_reducible apply load_box); (· (repeat (first | with_reducible exact Lies.one | with_reducible apply Lies.next))); (with_reducible refine hK _ _ ?_)) | ((with_reducible apply load_one); (· (repeat (first | with_reducible exact Lies.one | with_reducible apply Lies.next))); (· exact rfl); (with_reducible refine hK _ _ ?_)) | ((with_reducible apply store_box); (· exact trivial); (· (repeat (first | with_reducible exact Upd.one | with_reducible apply Upd.next))); (with_reducible refine hK _ _ ?_)) | ((with_reducible apply store_one); (· exact trivial); (· (repeat (first | with_reducible exact Upd.one | with_reducible apply Upd.next))); (· simp); (with_reducible refine hK _ _ ?_)) | (first | ((with_reducible apply index_rda); (· assumption); (· (first | omega | assumption | (simp only [List.length_append, List.length_take, List.length_drop, List.length_map, List.length_replicate, List.length_range, List.length_set, List.length_cons, List.length_nil]; omega))); (· (first | omega | assumption | (simp only [List.length_append, List.length_take, List.length_drop, List.length_map, List.length_replicate, List.length_range, List.length_set, List.length_cons, List.length_nil]; omega))); (with_reducible refine hK _ _ ?_)) | ((with_reducible apply index_owa); (· assumption); (· (first | omega | assumption | (simp only [List.length_append, List.length_take, List.length_drop, List.length_map, List.length_replicate, List.length_range, List.length_set, List.length_cons, List.length_nil]; omega))); (· (first | omega | assumption | (simp only [List.length_append, List.length_take, List.length_drop, List.length_map, List.length_replicate, List.length_range, List.length_set, List.length_cons, List.length_nil]; omega))); (with_reducible refine hK _ _ ?_)) | ((with_reducible apply load_rda8); (· assumption); (· (repeat (first | with_reducible assumption | with_reducible exact List.mem_cons_self .. | with_reducible apply List.mem_cons_of_mem))); (· (first | omega | assumption | (simp only [List.length_append, List.length_take, List.length_drop, List.length_map, List.length_replicate, List.length_range, List.length_set, List.length_cons, List.length_nil]; omega))); (with_reducible refine hK _ _ ?_)) | ((with_reducible apply load_owa8); (· assumption); (· (repeat (first | with_reducible assumption | with_reducible exact List.mem_cons_self .. | with_reducible apply List.mem_cons_of_mem))); (· (first | omega | assumption | (simp only [List.length_append, List.length_take, List.length_drop, List.length_map, List.length_replicate, List.length_range, List.length_set, List.length_cons, List.length_nil]; omega))); (with_reducible refine hK _ _ ?_)) | ((with_reducible apply load_rda); (· assumption); (· assumption); (· (repeat (first | with_reducible assumption | with_reducible exact List.mem_cons_self .. | with_reducible apply List.mem_cons_of_mem))); (with_reducible refine hK _ _ ?_)) | ((with_reducible apply load_owa); (· assumption); (· assumption); (· (repeat (first | with_reducible assumption | with_reducible exact List.mem_cons_self .. | with_reducible apply List.mem_cons_of_mem))); (with_reducible refine hK _ _ ?_)))) | (first | ((with_reducible apply field_elk); (with_reducible refine hK _ _ ?_)) | ((with_reducible apply el_ato); (· assumption); (· (first | omega | assumption | (simp only [List.length_append, List.length_take, List.length_drop, List.length_map, List.length_replicate, List.length_range, List.length_set, List.length_cons, List.length_nil]; omega))); (· (first | omega | assumption | (simp only [List.length_append, List.length_take, List.length_drop, List.length_map, List.length_replicate, List.length_range, List.length_set, List.length_cons, List.length_nil]; omega))); (· exact Nat.succ_pos _); (with_reducible refine hK _ _ ?_)) | ((with_reducible apply load_el); (· assumption); (· assumption); (· assumption); (· exact rfl); (· (repeat (first | with_reducible assumption | with_reducible exact List.mem_cons_self .. | with_reducible apply List.mem_cons_of_mem))); (with_reducible refine hK _ _ ?_)) | ((with_reducible apply map_len); (· assumption); (· (repeat (first | with_reducible assumption | with_reducible exact List.mem_cons_self .. | with_reducible apply List.mem_cons_of_mem))); (with_reducible refine hK _ _ ?_)) | ((with_reducible apply map_look2); (· assumption); (· (repeat (first | with_reducible assumption | with_reducible exact List.mem_cons_self .. | with_reducible apply List.mem_cons_of_mem))); (with_reducible refine hK _ _ ?_)) | ((with_reducible apply map_look1); (· assumption); (· (repeat (first | with_reducible assumption | with_reducible exact List.mem_cons_self .. | with_reducible apply List.mem_cons_of_mem))); (with_reducible refine hK _ _ ?_)))); clear hK K)); exact hK0⟩) : drawW P n ops KK (p0 :: p) L S := h.out _ k

theorem then_mid {c d : Code} {K' : Cont} (Q : List Nat → Env → State → Prop) (h1 : CodeW P n ro c (Cont.then (Mid Q) K) D L S) (h2 : ∀ D L S, Q D L S → CodeW P n ro d K' D L S) : CodeW P n ro c (Cont.then (CodeW P n ro d K') K) D L S :=
  code_mono h1 fun e D L S h => by
    cases e <;> first | exact h | skip
    obtain ⟨L', S', hq, hL, hS⟩ := h
    exact code_less hL hS (h2 D L' S' hq)

end Go.Ost

/- Copying into one's own bytes; new bytes of whatever content. Conditions: as each says. -/
set_option linter.unusedSimpArgs false
set_option linter.unusedVariables false
namespace Go.Ost
open Go

variable {P : Program}

/-- A function of the library's without a text is called. -/
theorem calls_extern {f : FuncId} {fn : Func} {e : Array Value → Sem Value} {args : List Value} {S : State} {κ : Value → State → Prop} (hf : P.funcs[f]? = some fn) (hname : (fn.name == "runtime.NumGoroutine") = false) (hb : fn.body.isNone = true)
    (hn : Extern.findNext fn = none) (he : Extern.find fn = some e) (h : ValW P (e args.toArray) S κ) : CallsW P f args.toArray S κ := by
  refine ⟨fun w hw => ?_⟩
  obtain ⟨v, w', S', h1, h2, h3, h4⟩ := h.out w hw
  refine ⟨.value v, w', ?_, S', h2, h3, h4⟩
  rw [run_callFunc_extern hf hname hb hn he, h1]; rfl

theorem make_nozero {ps : Array TypeId} {t e : TypeId} [ht : TSlice P t e] {n : Nat} {S : State} {κ : Value → State → Prop} (hn : n ≤ 1000000)
    (k : ∀ b cap us C, Own 1 e C (some ⟨b, 0, none⟩) n cap us → κ (.slice (some ⟨b, 0, none⟩) n cap) (C :: S)) : ValW P (Extern.BytealgMakeNoZero.makeNoZero ps #[t] #[.int .i64 n]) S κ := by
  refine ⟨fun w hw => ?_⟩
  obtain ⟨cs, h1, h2, h3⟩ := Lib.run_makeNoZero (P := P) w ps t e ht.und n (by omega)
  refine ⟨_, _, [(w.heap.size, .cells cs e (0, 0))] :: S, h1, ⟨rfl, rfl, rfl, by simp⟩, Hold.new (w := w) hw rfl, k _ _ (cs.toList.take n) [(w.heap.size, .cells cs e (0, 0))] ⟨h2, h3 (by simp [maxLen]; omega), by simp; omega, .inr ⟨_, 0, cs, (0, 0), rfl, rfl, .inl rfl, by simp, fun i hi => ?_⟩⟩⟩
  simp only [List.length_take] at hi
  rw [Nat.zero_add, List.getElem?_take_of_lt (by omega), Array.getElem?_toList]

/-- copy into one's own, from place l on. -/
theorem copy_own {t t2 ty e : TypeId} {z : Value} {by_ : Nat} [ht : TSlice P t e] [hs : TSized P e z 1 by_] {S G : State} {κ : Value → State → Prop} {C : Chunk} {a b : Option Addr} {len cap l d dc n c : Nat} {us vs : List Value}
    (ho : Own 1 e C a len cap us) (hp : Pick C S G) (hr : Rd 1 S b n vs) (h1 : ∀ v ∈ vs, Value.cell1 v) (hl : l + d ≤ len) {a' : Option Addr} (ha : 0 < min n d → a' = a.map (·.add l))
    (k : ∀ C', Own 1 e C' a len cap (us.take l ++ (vs.take (min n d) ++ us.drop (l + min n d))) → κ (.int .i64 (min n d : Nat)) (C' :: G)) :
    ValW P (Builtin.copy_ #[t, t2] ty #[.slice a' d dc, .slice b n c]) S κ := by
  refine ⟨fun w hw => ?_⟩
  have hCG := hw.perm hp.perm
  have hful : us.length = len := by have := ho.2.2.1; omega
  have hvl : vs.length = n := by have := hr.1; omega
  have hcut : Rd 1 S b (min n d) (vs.take (min n d)) := by
    have := rd_cut hr (l := 0) (h' := min n d) (m := 0) (Nat.zero_le _) (Nat.min_le_left _ _)
    refine ⟨by simp; omega, fun hne => ?_⟩
    obtain ⟨b', o, cs, e', m, h2, h3, h4⟩ := hr.2 (by intro e0; subst e0; simp at hne)
    refine ⟨b', o, cs, e', m, h2, h3, fun i hi => ?_⟩
    simp only [List.length_take] at hi
    rw [List.getElem?_take_of_lt (by omega), h4 i (by omega)]
  have f := rd_first (P := P) (c := c) hcut hw
  have f' : (Builtin.firstCells 1 (min n d) (.slice b n c)).run P w = .ok (vs.take (min n d)).toArray w := by
    have e : Builtin.firstCells 1 (min n d) (.slice b n c) = Builtin.firstCells 1 (min n d) (.slice b (min n d) c) := by
      cases b <;> rfl
    rw [e]; exact f
  by_cases h0 : min n d = 0
  · refine ⟨.int .i64 (min n d : Nat), w, C :: G, ?_, Ext.refl w, hCG, k C ?_⟩
    · have f2 := f'
      rw [h0] at f2
      cases a' <;> simp [Builtin.copy_, Sem.run_bind, run_und ht.und, run_size hs, Result.andThen, Builtin.lenOf, h0, goInt, storeCells, f2, show n.min d = 0 from h0]
    · rw [h0]; simpa using ho
  · obtain ⟨b0, o, cs, m, rfl, rfl, hsoft, hbig, hc⟩ := own_some ho (by omega)
    obtain rfl := ha (by omega)
    obtain ⟨lo, hi'⟩ := m
    have hsz : o + us.length ≤ cs.size := by
      have := hc (us.length - 1) (by omega)
      rw [List.getElem?_eq_getElem (by omega)] at this
      have := (Array.getElem?_eq_some_iff.1 this).1
      omega
    obtain ⟨w', q1, q2, q3, q4⟩ := run_storeCells (P := P) (b := b0) (o := o + l) (vs.take (min n d)) 0 w cs (hCG.get b0 (.cells cs e (lo, hi')) (by simp)) (fun u hu => h1 u (List.mem_of_mem_take hu)) (by simp; omega) hsoft.or
    refine ⟨_, w', _, ?_, q2, (Upd.one (S := G)).hold hCG q3 q4, k [(b0, .cells (setCells cs (o + l + 0) (vs.take (min n d))) e (lo, hi'))] ⟨ho.1, ho.2.1, by simp; omega, .inr ⟨b0, o, _, (lo, hi'), rfl, rfl, by rw [setCells_size]; exact hsoft, by rw [setCells_size]; exact hbig, fun j hj => ?_⟩⟩⟩
    · simp only [Option.map_some, add_mk]
      simp [Builtin.copy_, Sem.run_bind, run_und ht.und, run_size hs, Result.andThen, Builtin.lenOf, goInt, f', q1, show n.min d = min n d from rfl]
    · simp only [List.length_append, List.length_take, List.length_drop] at hj
      rw [Nat.add_zero, get_setCells _ _ _ _ (by simp; omega)]
      simp only [List.length_take]
      by_cases h2 : o + l ≤ o + j ∧ o + j < o + l + min (min n d) vs.length
      · rw [if_pos h2, List.getElem?_append_right (by simp; omega), List.getElem?_append_left (by simp; omega)]
        congr 1; simp; omega
      · rw [if_neg h2, hc j (by omega)]
        by_cases h3 : j < l
        · rw [List.getElem?_append_left (by simp; omega), List.getElem?_take_of_lt h3]
        · rw [List.getElem?_append_right (by simp; omega), List.getElem?_append_right (by simp; omega), List.getElem?_drop]
          congr 1; simp; omega

end Go.Ost

/- A contract, its chunks otherwise put together. Conditions: as each says. -/
set_option linter.unusedSimpArgs false
set_option linter.unusedVariables false
namespace Go.Ost
open Go

variable {P : Program}

theorem Among.perm {T S : State} (h : Among T S) : ∃ R : State, S.flatten.Perm (T ++ R).flatten := by
  induction h with
  | nil S => exact ⟨S, List.Perm.refl _⟩
  | cons h k ih =>
    obtain ⟨R, hR⟩ := ih
    refine ⟨R, h.perm.trans ?_⟩
    simp only [List.flatten_cons, List.cons_append]
    exact List.Perm.append_left _ hR
theorem pick_mid (c : Chunk) : ∀ (X A : State), Pick c (X ++ c :: A) (X ++ A)
  | [], A => .head c A
  | d :: X, A => .tail d (pick_mid c X A)
theorem take_tail : ∀ (A X : State), Take A (X ++ A) X
  | [], X => by rw [List.append_nil]; exact .nil X
  | c :: A, X => .cons (pick_mid c X A) (take_tail A X)
theorem among_tail : ∀ (A X : State), Among A (X ++ A)
  | [], X => .nil _
  | c :: A, X => .cons (pick_mid c X A) (among_tail A X)
theorem Meets.conv {f : FuncId} {args : List Value} {A B : State} {R R' : Value → State → Prop} (SA : State) {E : State} (h : Meets P f args A R) (hB : B.flatten = SA.flatten) (hT : Take A SA E)
    (hR : ∀ v A', R v A' → ∃ (B' SB : State), B'.flatten = SB.flatten ∧ Among SB (A' ++ E) ∧ R' v B') : Meets P f args B R' := by
  refine ⟨h.1, fun F w hw => (h.2 (F ++ E.flatten) w (hw.perm ?_)).mono ?_⟩
  · simp only [List.flatten_cons, List.append_assoc]
    refine List.Perm.append_left F ?_
    rw [hB]
    refine hT.perm.trans ?_
    rw [List.flatten_append]
    exact List.perm_append_comm
  · rintro e w' ⟨v, S, rfl, he, hh, A', rfl, hr⟩
    obtain ⟨B', SB, e1, hA, hr'⟩ := hR v A' hr
    refine ⟨v, F :: B', rfl, he, ?_, B', rfl, hr'⟩
    obtain ⟨X, hX⟩ := hA.perm
    have hh2 : Hold w' (F :: (A' ++ E)) := hh.perm (by
      simp only [List.flatten_cons, List.flatten_append, List.append_assoc]
      exact List.Perm.append_left F List.perm_append_comm)
    have hh3 : Hold w' (F :: (SB ++ X)) := hh2.perm (by
      simp only [List.flatten_cons]
      exact List.Perm.append_left F hX)
    refine hh3.sub ?_
    simp only [List.flatten_cons, List.flatten_append, e1]
    exact (List.Sublist.refl F).append (List.sublist_append_left _ _)

end Go.Ost

/- The table as plain data: places in a row, by their neighbours. Conditions: none. -/
set_option linter.unusedSimpArgs false
set_option linter.unusedVariables false
namespace Go.Tab
open Go.Ost

structure En (V : Type) where
  key : List UInt8
  v : V
  ahead : Int
  next : Int

variable {V : Type}

def hd : List Nat → Int → Int
  | [], n => n
  | i :: _, _ => i
def lst : Int → List Nat → Int
  | a, [] => a
  | _, i :: r => lst i r
def Lk (l : List (En V)) : Int → List Nat → Int → Prop
  | _, [], _ => True
  | a, i :: r, n => (∃ e, l[i]? = some e ∧ e.ahead = a ∧ e.next = hd r n) ∧ Lk l i r n

theorem hd_app (p q : List Nat) (n : Int) : hd (p ++ q) n = hd p (hd q n) := by cases p <;> rfl
theorem lst_app : ∀ (p q : List Nat) (a : Int), lst a (p ++ q) = lst (lst a p) q
  | [], q, a => rfl
  | i :: r, q, a => lst_app r q i
theorem lk_app (l : List (En V)) : ∀ (p q : List Nat) (a n : Int), Lk l a (p ++ q) n ↔ Lk l a p (hd q n) ∧ Lk l (lst a p) q n
  | [], q, a, n => by simp [Lk, lst]
  | i :: r, q, a, n => by
    simp only [List.cons_append, Lk, lst, hd_app, lk_app l r q i n, and_assoc]
theorem lst_neg : ∀ (p : List Nat) (a : Int), p ≠ [] → ∃ i ∈ p, lst a p = (i : Int)
  | [], a, h => absurd rfl h
  | [i], a, _ => ⟨i, by simp, rfl⟩
  | i :: j :: r, a, _ => by
    obtain ⟨k, hk, e⟩ := lst_neg (j :: r) i (by simp)
    exact ⟨k, List.mem_cons_of_mem _ hk, e⟩
theorem lk_congr {l l' : List (En V)} : ∀ (p : List Nat) (a n : Int), (∀ i ∈ p, ∀ e, l[i]? = some e → ∃ e', l'[i]? = some e' ∧ e'.ahead = e.ahead ∧ e'.next = e.next) → Lk l a p n → Lk l' a p n
  | [], a, n, _, _ => trivial
  | i :: r, a, n, h, hl => by
    obtain ⟨⟨e, h1, h2, h3⟩, h4⟩ := hl
    obtain ⟨e', g1, g2, g3⟩ := h i (List.mem_cons_self ..) e h1
    exact ⟨⟨e', g1, by rw [g2, h2], by rw [g3, h3]⟩, lk_congr r i n (fun j hj => h j (List.mem_cons_of_mem _ hj)) h4⟩
theorem lk_lt {l : List (En V)} : ∀ (p : List Nat) (a n : Int), Lk l a p n → ∀ i ∈ p, i < l.length
  | [], _, _, _, i, hi => by cases hi
  | j :: r, a, n, h, i, hi => by
    obtain ⟨⟨e, h1, _⟩, h4⟩ := h
    rcases List.mem_cons.1 hi with rfl | hi
    · exact (List.getElem?_eq_some_iff.1 h1).1
    · exact lk_lt r j n h4 i hi

def setA (l : List (En V)) (i : Nat) (a : Int) : List (En V) := l.modify i fun e => { e with ahead := a }
def setN (l : List (En V)) (i : Nat) (n : Int) : List (En V) := l.modify i fun e => { e with next := n }
theorem setA_length (l : List (En V)) (i : Nat) (a : Int) : (setA l i a).length = l.length := by simp [setA]
theorem setN_length (l : List (En V)) (i : Nat) (n : Int) : (setN l i n).length = l.length := by simp [setN]
theorem setA_ne (l : List (En V)) {i j : Nat} (a : Int) (h : i ≠ j) : (setA l i a)[j]? = l[j]? := by simp [setA, List.getElem?_modify, h]
theorem setN_ne (l : List (En V)) {i j : Nat} (a : Int) (h : i ≠ j) : (setN l i a)[j]? = l[j]? := by simp [setN, List.getElem?_modify, h]
theorem setA_eq (l : List (En V)) {i : Nat} (a : Int) {e : En V} (h : l[i]? = some e) : (setA l i a)[i]? = some { e with ahead := a } := by simp [setA, List.getElem?_modify, h]
theorem setN_eq (l : List (En V)) {i : Nat} (a : Int) {e : En V} (h : l[i]? = some e) : (setN l i a)[i]? = some { e with next := a } := by simp [setN, List.getElem?_modify, h]
/-- Neither ahead nor next tells of keys and values. -/
def kv (l : List (En V)) (i : Nat) : Option (List UInt8 × V) := (l[i]?).map fun e => (e.key, e.v)
theorem setA_kv (l : List (En V)) (i j : Nat) (a : Int) : kv (setA l i a) j = kv l j := by
  simp only [kv, setA, List.getElem?_modify]
  by_cases h : i = j
  · subst h; cases l[i]? <;> simp
  · cases l[j]? <;> simp [h]
theorem setN_kv (l : List (En V)) (i j : Nat) (a : Int) : kv (setN l i a) j = kv l j := by
  simp only [kv, setN, List.getElem?_modify]
  by_cases h : i = j
  · subst h; cases l[i]? <;> simp
  · cases l[j]? <;> simp [h]

/-- An entry goes out of the row: the entries, first, last behind it. -/
def unL (l : List (En V)) (a n : Int) : List (En V) :=
  let l1 := if a = -1 then l else setN l a.toNat n
  if n = -1 then l1 else setA l1 n.toNat a
def unF (first a n : Int) : Int := if a = -1 then n else first
def unE (last a n : Int) : Int := if n = -1 then a else last
theorem unL_length (l : List (En V)) (a n : Int) : (unL l a n).length = l.length := by
  unfold unL; split <;> split <;> simp [setA_length, setN_length]
theorem unL_kv (l : List (En V)) (a n : Int) (j : Nat) : kv (unL l a n) j = kv l j := by
  unfold unL; split <;> split <;> simp [setA_kv, setN_kv]

theorem unhang_ok {l : List (En V)} {p q : List Nat} {i : Nat} (hn : (p ++ i :: q).Nodup) (h : Lk l (-1) (p ++ i :: q) (-1)) :
    Lk (unL l (lst (-1) p) (hd q (-1))) (-1) (p ++ q) (-1) ∧ unF (hd (p ++ i :: q) (-1)) (lst (-1) p) (hd q (-1)) = hd (p ++ q) (-1) ∧ unE (lst (-1) (p ++ i :: q)) (lst (-1) p) (hd q (-1)) = lst (-1) (p ++ q) := by
  obtain ⟨hp, ⟨⟨e, h1, h2, h3⟩, hq⟩⟩ := (lk_app l p (i :: q) (-1) (-1)).1 h
  have hp' : Lk l (-1) p i := hp
  -- the row in front
  have key1 : ∃ l1, l1 = (if lst (-1) p = -1 then l else setN l (lst (-1) p).toNat (hd q (-1))) ∧ Lk l1 (-1) p (hd q (-1)) ∧ ∀ j ∉ p, l1[j]? = l[j]? := by
    refine ⟨_, rfl, ?_⟩
    rcases List.eq_nil_or_concat p with rfl | ⟨p0, x, rfl⟩
    · exact ⟨trivial, fun j _ => rfl⟩
    · rw [List.concat_eq_append] at *
      have hl : lst (-1) (p0 ++ [x]) = (x : Int) := by rw [lst_app]; rfl
      rw [hl, if_neg (by omega)]
      have hx : x ∉ p0 := by
        have := (List.nodup_append.1 hn).1
        rw [List.nodup_append] at this
        intro hm; exact this.2.2 x hm x (by simp) rfl
      obtain ⟨g1, ⟨⟨e1, k1, k2, k3⟩, _⟩⟩ := (lk_app l p0 [x] (-1) i).1 hp'
      refine ⟨(lk_app _ p0 [x] (-1) _).2 ⟨?_, ⟨⟨_, setN_eq l _ k1, k2, rfl⟩, trivial⟩⟩, fun j hj => ?_⟩
      · refine lk_congr p0 (-1) _ (fun j hj e' he' => ⟨e', ?_, rfl, rfl⟩) g1
        rw [show ((x : Int)).toNat = x from by omega, setN_ne _ _ (fun e : x = j => hx (by rw [e]; exact hj))]; exact he'
      · rw [show ((x : Int)).toNat = x from by omega]
        exact setN_ne _ _ (fun e => hj (by simp [e]))
  obtain ⟨l1, e1, hL1, hsame⟩ := key1
  have hq1 : Lk l1 i q (-1) := lk_congr q i _ (fun j hj e' he' => ⟨e', by
    rw [hsame j (fun hm => (List.nodup_append.1 hn).2.2 j hm j (List.mem_cons_of_mem _ hj) rfl)]; exact he', rfl, rfl⟩) hq
  refine ⟨?_, ?_, ?_⟩
  · unfold unL
    simp only [← e1]
    cases q with
    | nil =>
      simp only [hd, if_true, List.append_nil]
      exact hL1
    | cons x q0 =>
      have hx1 : ¬ (hd (x :: q0) (-1) = -1) := by show ¬ ((x : Int) = -1); omega
      rw [if_neg hx1, show (hd (x :: q0) (-1)).toNat = x from by show ((x : Int)).toNat = x; omega]
      have hxp : x ∉ p := fun hm => (List.nodup_append.1 hn).2.2 x hm x (by simp) rfl
      have hxq : x ∉ q0 := by
        have := (List.nodup_append.1 hn).2.1
        rw [List.nodup_cons, List.nodup_cons] at this
        exact this.2.1
      obtain ⟨⟨e2, m1, m2, m3⟩, hq2⟩ := hq1
      refine (lk_app _ p (x :: q0) (-1) _).2 ⟨lk_congr p (-1) _ (fun j hj e' he' => ⟨e', by rw [setA_ne _ _ (fun e : x = j => hxp (by rw [e]; exact hj))]; exact he', rfl, rfl⟩) hL1, ⟨⟨_, setA_eq l1 _ m1, rfl, m3⟩, ?_⟩⟩
      exact lk_congr q0 x _ (fun j hj e' he' => ⟨e', by rw [setA_ne _ _ (fun e : x = j => hxq (by rw [e]; exact hj))]; exact he', rfl, rfl⟩) hq2
  · unfold unF
    cases p with
    | nil => simp [lst, hd]
    | cons x p0 =>
      obtain ⟨k, _, hk⟩ := lst_neg (x :: p0) (-1) (by simp)
      rw [hk, if_neg (by omega)]; rfl
  · unfold unE
    rw [lst_app, lst_app]
    cases q with
    | nil => simp [lst, hd]
    | cons x q0 =>
      have hx1 : ¬ (hd (x :: q0) (-1) = -1) := by show ¬ ((x : Int) = -1); omega
      rw [if_neg hx1]; rfl

/-- An entry comes at the row's end. -/
def haL (l : List (En V)) (i : Nat) (last : Int) : List (En V) :=
  let l1 := setN (setA l i last) i (-1)
  if last = -1 then l1 else setN l1 last.toNat i
def haF (first last : Int) (i : Nat) : Int := if last = -1 then i else first
theorem haL_length (l : List (En V)) (i : Nat) (last : Int) : (haL l i last).length = l.length := by
  unfold haL; split <;> simp [setA_length, setN_length]
theorem haL_kv (l : List (En V)) (i : Nat) (last : Int) (j : Nat) : kv (haL l i last) j = kv l j := by
  unfold haL; split <;> simp [setA_kv, setN_kv]
theorem hang_ok {l : List (En V)} {p : List Nat} {i : Nat} (hn : p.Nodup) (hi : i ∉ p) (hlt : i < l.length) (h : Lk l (-1) p (-1)) :
    Lk (haL l i (lst (-1) p)) (-1) (p ++ [i]) (-1) ∧ haF (hd p (-1)) (lst (-1) p) i = hd (p ++ [i]) (-1) ∧ (i : Int) = lst (-1) (p ++ [i]) := by
  have hge : l[i]? = some l[i] := List.getElem?_eq_getElem hlt
  have hi1 : ∀ a, (setN (setA l i a) i (-1))[i]? = some { l[i] with ahead := a, next := -1 } := fun a => by
    rw [setN_eq _ _ (setA_eq l a hge)]
  have hne : ∀ a j, j ≠ i → (setN (setA l i a) i (-1))[j]? = l[j]? := fun a j hj => by
    rw [setN_ne _ _ (Ne.symm hj), setA_ne _ _ (Ne.symm hj)]
  refine ⟨?_, ?_, by rw [lst_app]; rfl⟩
  · unfold haL
    rcases List.eq_nil_or_concat p with rfl | ⟨p0, x, rfl⟩
    · simp only [lst, if_true, List.nil_append]
      exact ⟨⟨_, hi1 _, rfl, rfl⟩, trivial⟩
    · rw [List.concat_eq_append] at *
      have hl : lst (-1) (p0 ++ [x]) = (x : Int) := by rw [lst_app]; rfl
      have hxi : x ≠ i := fun e => hi (by simp [e])
      have hx : x ∉ p0 := by
        rw [List.nodup_append] at hn
        intro hm; exact hn.2.2 x hm x (by simp) rfl
      simp only [hl]
      rw [if_neg (by omega), show ((x : Int)).toNat = x from by omega]
      obtain ⟨g1, ⟨⟨e1, k1, k2, k3⟩, _⟩⟩ := (lk_app l p0 [x] (-1) (-1)).1 h
      refine (lk_app _ (p0 ++ [x]) [i] (-1) (-1)).2 ⟨(lk_app _ p0 [x] (-1) _).2 ⟨?_, ⟨⟨_, setN_eq _ _ (by rw [hne _ _ hxi]; exact k1), k2, rfl⟩, trivial⟩⟩, ⟨⟨_, by rw [setN_ne _ _ hxi]; exact hi1 _, by rw [hl], rfl⟩, trivial⟩⟩
      refine lk_congr p0 (-1) _ (fun j hj e' he' => ⟨e', ?_, rfl, rfl⟩) g1
      rw [setN_ne _ _ (fun e : x = j => hx (by rw [e]; exact hj)), hne _ _ (fun e => hi (by simp [← e, hj]))]; exact he'
  · unfold haF
    cases p with
    | nil => simp [lst, hd]
    | cons x p0 =>
      obtain ⟨k, _, hk⟩ := lst_neg (x :: p0) (-1) (by simp)
      rw [hk, if_neg (by omega)]; rfl

end Go.Tab

/- The table as plain data: what put, set, drop, renew leave. Conditions: none. -/
set_option linter.unusedSimpArgs false
set_option linter.unusedVariables false
namespace Go.Tab
open Go.Ost

variable {V : Type}

/-! ### Lists of keys and values -/

section maps
variable {α : Type}
theorem mget_put (q k : List UInt8) (v : α) : ∀ m : List (List UInt8 × α), mget (mput m k v) q = if q = k then some v else mget m q
  | [] => by simp only [mput, mget]
  | (k', u) :: l => by
    have ih := mget_put q k v l
    simp only [mput]
    by_cases h1 : k = k'
    · subst h1
      rw [if_pos rfl]
      simp only [mget]
      by_cases h2 : q = k
      · rw [if_pos h2, if_pos h2]
      · rw [if_neg h2, if_neg h2, if_neg h2]
    · rw [if_neg h1]
      simp only [mget, ih]
      by_cases h2 : q = k'
      · rw [if_pos h2, if_pos h2, if_neg (by rw [h2]; exact fun e => h1 e.symm)]
      · rw [if_neg h2, if_neg h2]
theorem mget_none {q : List UInt8} : ∀ {m : List (List UInt8 × α)}, mget m q = none ↔ q ∉ m.map (·.1)
  | [] => by simp [mget]
  | (k, u) :: l => by
    simp only [mget, List.map_cons, List.mem_cons, not_or]
    by_cases h : q = k
    · rw [if_pos h]; simp [h]
    · rw [if_neg h, mget_none]; simp [h]
theorem mget_del (q k : List UInt8) : ∀ m : List (List UInt8 × α), (m.map (·.1)).Nodup → mget (mdel m k) q = if q = k then none else mget m q
  | [], _ => by simp [mdel, mget]
  | (k', u) :: l, hn => by
    rw [List.map_cons, List.nodup_cons] at hn
    have ih := mget_del q k l hn.2
    simp only [mdel]
    by_cases h1 : k = k'
    · subst h1
      rw [if_pos rfl]
      by_cases h2 : q = k
      · subst h2; rw [if_pos rfl]; exact mget_none.2 hn.1
      · rw [if_neg h2]; simp only [mget]; rw [if_neg h2]
    · rw [if_neg h1]
      simp only [mget, ih]
      by_cases h2 : q = k'
      · rw [if_pos h2, if_pos h2, if_neg (by rw [h2]; exact fun e => h1 e.symm)]
      · rw [if_neg h2, if_neg h2]
theorem mdel_keys (k : List UInt8) : ∀ m : List (List UInt8 × α), (mdel m k).map (·.1) = (m.map (·.1)).erase k
  | [] => rfl
  | (k', u) :: l => by
    simp only [mdel, List.map_cons, List.erase_cons]
    by_cases h : k = k'
    · subst h; simp
    · rw [if_neg h, if_neg (by simpa using fun e => h e.symm), List.map_cons, mdel_keys k l]
theorem mput_keys_old (k : List UInt8) (v : α) : ∀ m : List (List UInt8 × α), mget m k ≠ none → (mput m k v).map (·.1) = m.map (·.1)
  | [], h => absurd rfl h
  | (k', u) :: l, h => by
    simp only [mput]
    by_cases h1 : k = k'
    · subst h1; simp
    · rw [if_neg h1, List.map_cons, List.map_cons, mput_keys_old k v l (by simpa [mget, h1] using h)]
theorem mput_new (k : List UInt8) (v : α) : ∀ m : List (List UInt8 × α), mget m k = none → mput m k v = m ++ [(k, v)]
  | [], _ => rfl
  | (k', u) :: l, h => by
    simp only [mget] at h
    simp only [mput]
    by_cases h1 : k = k'
    · rw [if_pos h1] at h; cases h
    · rw [if_neg h1] at h ⊢; rw [mput_new k v l h]; rfl
theorem mdel_none (k : List UInt8) (m : List (List UInt8 × α)) (h : mget m k = none) : mdel m k = m := by
  cases hf : mfind m k 0 with
  | none => exact (mfind_none m 0 hf).2.2
  | some p =>
    obtain ⟨_, _, _, _, h3, _⟩ := mfind_some (j := p.1) (v := p.2) m 0 hf
    rw [h3] at h; cases h
theorem mget_split {k : List UInt8} {v : α} {m : List (List UInt8 × α)} (h : mget m k = some v) : ∃ pre post, m = pre ++ (k, v) :: post ∧ (∀ u, mput m k u = pre ++ (k, u) :: post) ∧ mdel m k = pre ++ post ∧ mfind m k 0 = some (pre.length, v) := by
  cases hf : mfind m k 0 with
  | none => rw [(mfind_none m 0 hf).1] at h; cases h
  | some p =>
    obtain ⟨pre, post, h1, h2, h3, h4, h5⟩ := mfind_some (j := p.1) (v := p.2) m 0 hf
    rw [h3] at h; cases h
    refine ⟨pre, post, h1, h4, h5, ?_⟩
    have : p.1 = pre.length := by omega
    rw [← this]
theorem mget_mem {k : List UInt8} {v : α} : ∀ {m : List (List UInt8 × α)}, (m.map (·.1)).Nodup → (mget m k = some v ↔ (k, v) ∈ m)
  | [], _ => by simp [mget]
  | (k', u) :: l, hn => by
    rw [List.map_cons, List.nodup_cons] at hn
    simp only [mget, List.mem_cons, Prod.mk.injEq]
    by_cases h : k = k'
    · subst h
      rw [if_pos rfl]
      constructor
      · intro e; cases e; exact .inl ⟨rfl, rfl⟩
      · rintro (⟨_, rfl⟩ | hm)
        · rfl
        · exact absurd (List.mem_map.2 ⟨_, hm, rfl⟩) hn.1
    · rw [if_neg h, mget_mem hn.2]
      simp [h]
end maps

/-! ### A table's blocks -/

structure Rep (l : List (En V)) (free : List Nat) (m : List (List UInt8 × Nat)) (pl : List Nat) (es : List (List UInt8 × V)) : Prop where
  nd : (pl ++ free).Nodup
  lt : ∀ i ∈ free, i < l.length
  lk : Lk l (-1) pl (-1)
  row : pl.map (kv l) = es.map some
  keys : (es.map (·.1)).Nodup
  mp : ∀ k i, mget m k = some i ↔ i ∈ pl ∧ (kv l i).map (·.1) = some k
  mnd : (m.map (·.1)).Nodup
  mlen : m.length = es.length

theorem Rep.pl_len {l : List (En V)} {free : List Nat} {m : List (List UInt8 × Nat)} {pl : List Nat} {es : List (List UInt8 × V)} (h : Rep l free m pl es) : pl.length = es.length := by
  have := congrArg List.length h.row; simpa using this
theorem Rep.at {l : List (En V)} {free : List Nat} {m : List (List UInt8 × Nat)} {pl : List Nat} {es : List (List UInt8 × V)} (h : Rep l free m pl es) {k : List UInt8} {i : Nat} (hi : mget m k = some i) :
    ∃ v p q pre post, pl = p ++ i :: q ∧ es = pre ++ (k, v) :: post ∧ p.length = pre.length ∧ kv l i = some (k, v) ∧ mget es k = some v ∧ mdel es k = pre ++ post ∧ (∀ u, mput es k u = pre ++ (k, u) :: post) ∧ p.map (kv l) = pre.map some ∧ q.map (kv l) = post.map some := by
  obtain ⟨hm, hk⟩ := (h.mp k i).1 hi
  obtain ⟨p, q, rfl⟩ := List.append_of_mem hm
  have he := h.row
  rw [List.map_append, List.map_cons] at he
  have hlen : p.length + (q.length + 1) = es.length := by have := h.pl_len; simpa using this
  obtain ⟨pre, x, post, rfl, hpl⟩ : ∃ pre x post, es = pre ++ x :: post ∧ pre.length = p.length := by
    have hlt : p.length < es.length := by omega
    exact ⟨es.take p.length, es[p.length], es.drop (p.length + 1), by rw [← List.drop_eq_getElem_cons, List.take_append_drop], by simp; omega⟩
  rw [List.map_append, List.map_cons] at he
  obtain ⟨e1, e2⟩ := List.append_inj he (by simp [hpl])
  obtain ⟨e3, e4⟩ := List.cons.inj e2
  obtain ⟨k', v⟩ := x
  rw [e3] at hk
  simp only [Option.map_some, Option.some.injEq] at hk
  subst hk
  have hg : mget (pre ++ (k', v) :: post) k' = some v := (mget_mem h.keys).2 (by simp)
  obtain ⟨pre', post', g1, g2, g3, g4⟩ := mget_split hg
  have hpp : pre' = pre ∧ post' = post := by
    have hk2 := h.keys
    have : ∀ (a a' b b' : List (List UInt8 × V)), a ++ (k', v) :: b = a' ++ (k', v) :: b' → ((a ++ (k', v) :: b).map (·.1)).Nodup → a = a' ∧ b = b' := by
      intro a
      induction a with
      | nil =>
        intro a' b b' e hn
        cases a' with
        | nil => simp at e; exact ⟨rfl, e⟩
        | cons y a' =>
          simp only [List.nil_append, List.cons_append, List.cons.injEq] at e
          obtain ⟨rfl, rfl⟩ := e
          simp at hn
      | cons x a ih =>
        intro a' b b' e hn
        cases a' with
        | nil =>
          simp only [List.nil_append, List.cons_append, List.cons.injEq] at e
          obtain ⟨rfl, rfl⟩ := e
          simp at hn
        | cons y a' =>
          simp only [List.cons_append, List.cons.injEq] at e
          obtain ⟨rfl, e⟩ := e
          obtain ⟨h1, h2⟩ := ih a' b b' e (by simp only [List.cons_append, List.map_cons, List.nodup_cons] at hn; exact hn.2)
          exact ⟨by rw [h1], h2⟩
    obtain ⟨h1, h2⟩ := this pre pre' post post' g1 hk2
    exact ⟨h1.symm, h2.symm⟩
  obtain ⟨rfl, rfl⟩ := hpp
  exact ⟨v, p, q, pre', post', rfl, rfl, hpl.symm, e3, hg, g3, g2, e1, e4⟩
theorem Rep.miss {l : List (En V)} {free : List Nat} {m : List (List UInt8 × Nat)} {pl : List Nat} {es : List (List UInt8 × V)} (h : Rep l free m pl es) {k : List UInt8} : mget m k = none ↔ mget es k = none := by
  constructor
  · intro hm
    rw [mget_none]
    intro hk
    obtain ⟨⟨k', v⟩, hkv, rfl⟩ := List.mem_map.1 hk
    have : some (k', v) ∈ pl.map (kv l) := by rw [h.row]; exact List.mem_map.2 ⟨_, hkv, rfl⟩
    obtain ⟨i, hi, e⟩ := List.mem_map.1 this
    have := (h.mp k' i).2 ⟨hi, by rw [e]; rfl⟩
    rw [hm] at this; cases this
  · intro he
    cases hm : mget m k with
    | none => rfl
    | some i =>
      obtain ⟨v, _, _, _, _, _, _, _, _, h5, _⟩ := h.at hm
      rw [h5] at he; cases he

theorem map_kv_congr {l l' : List (En V)} {pl : List Nat} (h : ∀ j ∈ pl, kv l' j = kv l j) : pl.map (kv l') = pl.map (kv l) := List.map_congr_left h

/-- A new entry at place i. -/
theorem Rep.put {l l' : List (En V)} {free free' : List Nat} {m : List (List UInt8 × Nat)} {pl : List Nat} {es : List (List UInt8 × V)} (h : Rep l free m pl es) {k : List UInt8} {v : V} {i : Nat}
    (hk : mget es k = none) (hs : ∀ j ∈ pl, l'[j]? = l[j]?) (hi : kv l' i = some (k, v)) (hn : (pl ++ i :: free').Nodup) (hf : ∀ j ∈ free', j < l'.length) :
    Rep (haL l' i (lst (-1) pl)) free' (mput m k i) (pl ++ [i]) (es ++ [(k, v)]) ∧ haF (hd pl (-1)) (lst (-1) pl) i = hd (pl ++ [i]) (-1) ∧ (i : Int) = lst (-1) (pl ++ [i]) := by
  have hlt : i < l'.length := by
    unfold kv at hi
    cases hl : l'[i]? with
    | none => rw [hl] at hi; cases hi
    | some e => exact (List.getElem?_eq_some_iff.1 hl).1
  have hn1 := List.nodup_append.1 hn
  have hip : i ∉ pl := fun hm => hn1.2.2 i hm i (by simp) rfl
  have hk' : ∀ j ∈ pl, kv l' j = kv l j := fun j hj => by simp only [kv, hs j hj]
  obtain ⟨g1, g2, g3⟩ := hang_ok hn1.1 hip hlt (lk_congr pl (-1) (-1) (fun j hj e he => ⟨e, by rw [hs j hj]; exact he, rfl, rfl⟩) h.lk)
  have hmk : mget m k = none := h.miss.2 hk
  refine ⟨⟨by simpa using hn, fun j hj => by rw [haL_length]; exact hf j hj, g1, ?_, ?_, ?_, ?_, ?_⟩, g2, g3⟩
  · rw [List.map_append, List.map_append, map_kv_congr (fun j hj => (haL_kv _ _ _ j).trans (hk' j hj)), h.row]
    simp [haL_kv, hi]
  · rw [List.map_append, List.nodup_append]
    refine ⟨h.keys, by simp, fun x hx y hy e => ?_⟩
    simp at hy; subst hy; subst e
    exact mget_none.1 hk hx
  · intro k1 i1
    rw [mget_put, haL_kv]
    by_cases hkk : k1 = k
    · subst hkk
      rw [if_pos rfl]
      constructor
      · intro e; cases e; exact ⟨by simp, by rw [hi]; rfl⟩
      · rintro ⟨hm, he⟩
        rcases List.mem_append.1 hm with hm | hm
        · rw [hk' i1 hm] at he
          have := (h.mp k1 i1).2 ⟨hm, he⟩
          rw [hmk] at this; cases this
        · simp at hm; rw [hm]
    · rw [if_neg hkk, h.mp]
      constructor
      · rintro ⟨hm, he⟩; exact ⟨List.mem_append_left _ hm, by rw [hk' i1 hm]; exact he⟩
      · rintro ⟨hm, he⟩
        rcases List.mem_append.1 hm with hm | hm
        · exact ⟨hm, by rw [← hk' i1 hm]; exact he⟩
        · simp at hm; subst hm
          rw [hi] at he
          simp at he
          exact absurd he.symm hkk
  · rw [mput_new _ _ _ hmk, List.map_append, List.nodup_append]
    refine ⟨h.mnd, by simp, fun x hx y hy e => ?_⟩
    simp at hy; subst hy; subst e
    exact mget_none.1 hmk hx
  · rw [mput_new _ _ _ hmk]; simp [h.mlen]

def setV (l : List (En V)) (i : Nat) (v : V) : List (En V) := l.modify i fun e => { e with v := v }
theorem setV_length (l : List (En V)) (i : Nat) (v : V) : (setV l i v).length = l.length := by simp [setV]
theorem Rep.set {l : List (En V)} {free : List Nat} {m : List (List UInt8 × Nat)} {pl : List Nat} {es : List (List UInt8 × V)} (h : Rep l free m pl es) {k : List UInt8} {i : Nat} (hi : mget m k = some i) (v : V) :
    Rep (setV l i v) free m pl (mput es k v) := by
  obtain ⟨u, p, q, pre, post, rfl, rfl, hlen, hkv, hg, hd, hp, e1, e2⟩ := h.at hi
  have hn := List.nodup_append.1 (List.nodup_append.1 h.nd).1
  have hother : ∀ j, j ≠ i → (setV l i v)[j]? = l[j]? := fun j hj => by simp [setV, List.getElem?_modify, Ne.symm hj]
  have hkey : ∀ j, (kv (setV l i v) j).map (·.1) = (kv l j).map (·.1) := fun j => by
    simp only [kv, setV, List.getElem?_modify]
    by_cases hj : i = j
    · subst hj; cases l[i]? <;> simp
    · cases l[j]? <;> simp [hj]
  have hip : i ∉ p := fun hm => hn.2.2 i hm i (by simp) rfl
  have hiq : i ∉ q := (List.nodup_cons.1 hn.2.1).1
  refine ⟨h.nd, fun j hj => by rw [setV_length]; exact h.lt j hj, ?_, ?_, ?_, ?_, h.mnd, ?_⟩
  · refine lk_congr _ _ _ (fun j hj e he => ?_) h.lk
    by_cases hji : j = i
    · subst hji; exact ⟨{ e with v := v }, by simp [setV, List.getElem?_modify, he], rfl, rfl⟩
    · exact ⟨e, by rw [hother j hji]; exact he, rfl, rfl⟩
  · rw [hp v, List.map_append, List.map_cons, List.map_append, List.map_cons, ← e1, ← e2]
    congr 1
    · exact map_kv_congr fun j hj => by simp only [kv, hother j (fun e : j = i => hip (by rw [← e]; exact hj))]
    · congr 1
      · simp only [kv] at hkv ⊢
        cases hl : l[i]? with
        | none => rw [hl] at hkv; cases hkv
        | some e => rw [hl] at hkv; simp at hkv; simp [setV, List.getElem?_modify, hl, hkv.1]
      · exact map_kv_congr fun j hj => by simp only [kv, hother j (fun e : j = i => hiq (by rw [← e]; exact hj))]
  · rw [mput_keys_old _ _ _ (by rw [hg]; simp)]; exact h.keys
  · intro k1 i1; rw [hkey]; exact h.mp k1 i1
  · rw [hp v]; have := h.mlen; simpa using this

theorem Rep.drop {l : List (En V)} {free : List Nat} {m : List (List UInt8 × Nat)} {pl : List Nat} {es : List (List UInt8 × V)} (h : Rep l free m pl es) {k : List UInt8} {i : Nat} (hi : mget m k = some i) (z : En V) :
    ∃ a n e, l[i]? = some e ∧ e.ahead = a ∧ e.next = n ∧ (a = -1 ∨ ∃ j : Nat, a = j ∧ j < l.length) ∧ (n = -1 ∨ ∃ j : Nat, n = j ∧ j < l.length) ∧
      ∃ pl', Rep ((unL l a n).set i z) (free ++ [i]) (mdel m k) pl' (mdel es k) ∧ unF (hd pl (-1)) a n = hd pl' (-1) ∧ unE (lst (-1) pl) a n = lst (-1) pl' := by
  obtain ⟨v, p, q, pre, post, rfl, rfl, hlen, hkv, hg, hdel, hp, e1, e2⟩ := h.at hi
  have hn0 := List.nodup_append.1 h.nd
  have hn := List.nodup_append.1 hn0.1
  have hip : i ∉ p := fun hm => hn.2.2 i hm i (by simp) rfl
  have hiq : i ∉ q := (List.nodup_cons.1 hn.2.1).1
  have hif : i ∉ free := fun hm => hn0.2.2 i (by simp) i hm rfl
  have hlt := lk_lt _ _ _ h.lk
  obtain ⟨_, ⟨⟨e, h1, h2, h3⟩, _⟩⟩ := (lk_app l p (i :: q) (-1) (-1)).1 h.lk
  obtain ⟨g1, g2, g3⟩ := unhang_ok hn0.1 h.lk
  refine ⟨lst (-1) p, Tab.hd q (-1), e, h1, h2, h3, ?_, ?_, p ++ q, ?_, g2, g3⟩
  · cases p with
    | nil => exact .inl rfl
    | cons x p0 =>
      obtain ⟨j, hj, ej⟩ := lst_neg (x :: p0) (-1) (by simp)
      exact .inr ⟨j, ej, hlt j (List.mem_append_left _ hj)⟩
  · cases q with
    | nil => exact .inl rfl
    | cons x q0 => exact .inr ⟨x, rfl, hlt x (by simp)⟩
  · have hne : ∀ j, j ≠ i → ((unL l (lst (-1) p) (Tab.hd q (-1))).set i z)[j]? = (unL l (lst (-1) p) (Tab.hd q (-1)))[j]? := fun j hj => List.getElem?_set_ne (Ne.symm hj)
    have hkvne : ∀ j, j ≠ i → kv ((unL l (lst (-1) p) (Tab.hd q (-1))).set i z) j = kv l j := fun j hj => by
      rw [← unL_kv l (lst (-1) p) (Tab.hd q (-1)) j]; simp only [kv, hne j hj]
    refine ⟨?_, ?_, ?_, ?_, ?_, ?_, ?_, ?_⟩
    · have hperm : (p ++ i :: q ++ free).Perm (p ++ q ++ (free ++ [i])) := by
        rw [List.append_assoc, List.append_assoc, List.cons_append]
        refine List.Perm.append_left p ?_
        rw [← List.append_assoc]
        exact (List.perm_append_singleton i (q ++ free)).symm
      exact hperm.nodup_iff.1 h.nd
    · intro j hj
      rw [List.length_set, unL_length]
      rcases List.mem_append.1 hj with hj | hj
      · exact h.lt j hj
      · simp at hj; subst hj; exact hlt j (by simp)
    · refine lk_congr _ _ _ (fun j hj e' he' => ⟨e', ?_, rfl, rfl⟩) g1
      rw [hne j (fun e => by
        subst e
        rcases List.mem_append.1 hj with hj | hj
        · exact hip hj
        · exact hiq hj)]
      exact he'
    · rw [hdel, List.map_append, List.map_append, ← e1, ← e2]
      congr 1
      · exact map_kv_congr fun j hj => hkvne j (fun e : j = i => hip (by rw [← e]; exact hj))
      · exact map_kv_congr fun j hj => hkvne j (fun e : j = i => hiq (by rw [← e]; exact hj))
    · rw [mdel_keys]; exact h.keys.erase _
    · intro k1 i1
      rw [mget_del _ _ _ h.mnd]
      by_cases hkk : k1 = k
      · subst hkk
        rw [if_pos rfl]
        constructor
        · intro e; cases e
        · rintro ⟨hm, he⟩
          have hm' : i1 ∈ p ++ i :: q := by
            rcases List.mem_append.1 hm with hm | hm
            · exact List.mem_append_left _ hm
            · exact List.mem_append_right _ (List.mem_cons_of_mem _ hm)
          have hne1 : i1 ≠ i := fun e => by
            subst e
            rcases List.mem_append.1 hm with hm | hm
            · exact hip hm
            · exact hiq hm
          rw [hkvne i1 hne1] at he
          have := (h.mp k1 i1).2 ⟨hm', he⟩
          rw [hi] at this
          cases this
          exact absurd rfl hne1
      · rw [if_neg hkk, h.mp]
        constructor
        · rintro ⟨hm, he⟩
          have hne1 : i1 ≠ i := fun e => by
            subst e
            rw [hkv] at he
            simp at he
            exact hkk he.symm
          refine ⟨?_, by rw [hkvne i1 hne1]; exact he⟩
          rcases List.mem_append.1 hm with hm | hm
          · exact List.mem_append_left _ hm
          · rcases List.mem_cons.1 hm with rfl | hm
            · exact absurd rfl hne1
            · exact List.mem_append_right _ hm
        · rintro ⟨hm, he⟩
          have hne1 : i1 ≠ i := fun e => by
            subst e
            rcases List.mem_append.1 hm with hm | hm
            · exact hip hm
            · exact hiq hm
          refine ⟨?_, by rw [← hkvne i1 hne1]; exact he⟩
          rcases List.mem_append.1 hm with hm | hm
          · exact List.mem_append_left _ hm
          · exact List.mem_append_right _ (List.mem_cons_of_mem _ hm)
    · rw [mdel_keys]; exact h.mnd.erase _
    · have h5 := h.mlen
      have h6 : (mdel m k).length = m.length - 1 := by
        obtain ⟨a, b, c1, c2, c3, c4⟩ := mget_split hi
        rw [c3, c1]; simp
      rw [h6, hdel, h5]; simp

theorem Rep.renew {l : List (En V)} {free : List Nat} {m : List (List UInt8 × Nat)} {pl : List Nat} {es : List (List UInt8 × V)} (h : Rep l free m pl es) {k : List UInt8} {i : Nat} (hi : mget m k = some i) :
    ∃ v a n e, mget es k = some v ∧ l[i]? = some e ∧ e.ahead = a ∧ e.next = n ∧ (a = -1 ∨ ∃ j : Nat, a = j ∧ j < l.length) ∧ (n = -1 ∨ ∃ j : Nat, n = j ∧ j < l.length) ∧
      (unE (lst (-1) pl) a n = -1 ∨ ∃ j : Nat, unE (lst (-1) pl) a n = j ∧ j < l.length) ∧
      ∃ pl', Rep (haL (unL l a n) i (unE (lst (-1) pl) a n)) free m pl' (mdel es k ++ [(k, v)]) ∧ haF (unF (hd pl (-1)) a n) (unE (lst (-1) pl) a n) i = hd pl' (-1) ∧ (i : Int) = lst (-1) pl' := by
  obtain ⟨v, p, q, pre, post, rfl, rfl, hlen, hkv, hg, hdel, hp, e1, e2⟩ := h.at hi
  have hn0 := List.nodup_append.1 h.nd
  have hn := List.nodup_append.1 hn0.1
  have hip : i ∉ p := fun hm => hn.2.2 i hm i (by simp) rfl
  have hiq : i ∉ q := (List.nodup_cons.1 hn.2.1).1
  have hlt := lk_lt _ _ _ h.lk
  obtain ⟨_, ⟨⟨e, h1, h2, h3⟩, _⟩⟩ := (lk_app l p (i :: q) (-1) (-1)).1 h.lk
  obtain ⟨g1, g2, g3⟩ := unhang_ok hn0.1 h.lk
  have hnpq : (p ++ q).Nodup := List.nodup_append.2 ⟨hn.1, (List.nodup_cons.1 hn.2.1).2, fun x hx y hy => hn.2.2 x hx y (List.mem_cons_of_mem _ hy)⟩
  have hipq : i ∉ p ++ q := fun hm => by
    rcases List.mem_append.1 hm with hm | hm
    · exact hip hm
    · exact hiq hm
  obtain ⟨k1, k2, k3⟩ := hang_ok hnpq hipq (by rw [unL_length]; exact hlt i (by simp)) g1
  have hkvs : ∀ j, kv (haL (unL l (lst (-1) p) (Tab.hd q (-1))) i (lst (-1) (p ++ q))) j = kv l j := fun j => by rw [haL_kv, unL_kv]
  refine ⟨v, lst (-1) p, Tab.hd q (-1), e, hg, h1, h2, h3, ?_, ?_, ?_, p ++ q ++ [i], ?_, by rw [g2, g3]; exact k2, k3⟩
  · cases p with
    | nil => exact .inl rfl
    | cons x p0 =>
      obtain ⟨j, hj, ej⟩ := lst_neg (x :: p0) (-1) (by simp)
      exact .inr ⟨j, ej, hlt j (List.mem_append_left _ hj)⟩
  · cases q with
    | nil => exact .inl rfl
    | cons x q0 => exact .inr ⟨x, rfl, hlt x (by simp)⟩
  · rw [g3]
    rcases hpq : p ++ q with _ | ⟨x, r⟩
    · exact .inl rfl
    · obtain ⟨j, hj, ej⟩ := lst_neg (x :: r) (-1) (by simp)
      rw [← hpq] at hj
      refine .inr ⟨j, ej, hlt j ?_⟩
      rcases List.mem_append.1 hj with hj | hj
      · exact List.mem_append_left _ hj
      · exact List.mem_append_right _ (List.mem_cons_of_mem _ hj)
  · rw [g3]
    have hperm : (p ++ i :: q).Perm (p ++ q ++ [i]) := by
      rw [List.append_assoc]
      exact List.Perm.append_left p (List.perm_append_singleton i q).symm
    refine ⟨(List.Perm.append_right free hperm).nodup_iff.1 h.nd, fun j hj => by rw [haL_length, unL_length]; exact h.lt j hj, k1, ?_, ?_, ?_, h.mnd, ?_⟩
    · rw [hdel, List.map_append, List.map_append, List.map_append, List.map_append, ← e1, ← e2]
      congr 1
      · congr 1
        · exact map_kv_congr fun j hj => hkvs j
        · exact map_kv_congr fun j hj => hkvs j
      · simp [hkvs, hkv]
    · have hk := h.keys
      have hpm : ((pre ++ (k, v) :: post).map (·.1)).Perm ((mdel (pre ++ (k, v) :: post) k ++ [(k, v)]).map (·.1)) := by
        rw [hdel]
        refine List.Perm.map _ ?_
        rw [List.append_assoc]
        exact List.Perm.append_left pre (List.perm_append_singleton (k, v) post).symm
      exact hpm.nodup_iff.1 hk
    · intro k' i'
      rw [hkvs, h.mp, hperm.mem_iff]
    · rw [hdel]; have := h.mlen; simp at this ⊢; omega

theorem Rep.new : Rep ([] : List (En V)) [] [] [] [] :=
  ⟨by simp, by simp, trivial, rfl, by simp, fun k i => by simp [mget], by simp, rfl⟩

end Go.Tab

/- A slice of one structure, written out. Conditions: as each says. -/
set_option linter.unusedSimpArgs false
set_option linter.unusedVariables false
namespace Go.Ost
open Go

variable {P : Program}

theorem foldl_set (vs : List Value) : ∀ (l p r : List Value), r.length = l.length → vs = p ++ l →
    (l.zipIdx p.length).foldl (fun (cs : Array Value) (x : Value × Nat) => cs.setIfInBounds x.2 x.1) (p ++ r).toArray = vs.toArray
  | [], p, [], _, h => by simp at h; simp [h]
  | v :: l, p, x :: r, hl, h => by
    rw [List.zipIdx_cons, List.foldl_cons]
    have ih := foldl_set vs l (p ++ [v]) r (by simpa using hl) (by rw [h]; simp)
    rw [List.length_append, List.length_cons, List.length_nil] at ih
    have e : (p ++ x :: r).toArray.setIfInBounds p.length v = (p ++ [v] ++ r).toArray := by
      apply Array.ext'; simp
    rw [e]; exact ih

theorem build_el1 {t e : TypeId} {z : Value} {s by_ : Nat} [ht : TSlice P t e] [hs : TSized P e z s by_] (hz : z.cells.size = s) (h0 : 0 < s) (hs2 : s ≤ 1000) {vs : List Value} (hv : vs.length = s) {S : State} {κ : Value → State → Prop}
    (k : ∀ b C, Own s e C (some ⟨b, 0, none⟩) 1 1 vs → κ (.slice (some ⟨b, 0, none⟩) 1 1) (C :: S)) : ValW P (Instr.buildSlice t 1 #[(0, .agg vs.toArray)]) S κ := by
  refine ⟨fun w hw => ?_⟩
  refine ⟨_, { w with heap := w.heap.push (.cells vs.toArray e) }, _, ?_, ext_push rfl, hw.new rfl, k _ _ ⟨Nat.le_refl _, by simp [maxLen], by omega, .inr ⟨_, 0, _, (0, 0), rfl, rfl, .inl rfl, by simp [hv], fun i hi => by simp⟩⟩⟩
  have hfill : ∀ cells : Array Value, cells.size = s → Instr.fill (fun i => some (i * s, s)) cells [(0, .agg vs.toArray)] = some vs.toArray := by
    intro cells hc
    have e1 : (Value.agg vs.toArray).cells = vs.toArray := rfl
    simp only [Instr.fill, e1]
    rw [if_neg (by simp [hv, hc])]
    congr 1
    have := foldl_set vs vs [] cells.toList (by simp [hc, hv]) rfl
    simp only [List.nil_append, List.length_nil, Array.toArray_toList] at this
    refine Eq.trans ?_ this
    simp
  have hne : ¬ (1 * s = 0) := by omega
  have hle : ¬ 16777216 < 1 * s := by omega
  simp only [Instr.buildSlice, Sem.run_bind, run_und ht.und, run_size hs, run_zero hs, Result.andThen]
  rw [show (2 : Nat) ^ 24 = 16777216 from rfl, if_neg hle, if_neg hne]
  simp only [Sem.run_bind, Sem.run_pure, Result.andThen, run_zero hs]
  rw [hfill _ (by simp)]
  simp [newRow, newObj, Sem.run_bind, Sem.run, Result.andThen]

theorem build_el0 {t e : TypeId} {z : Value} {s by_ : Nat} [ht : TSlice P t e] [hs : TSized P e z s by_] {S : State} {κ : Value → State → Prop}
    (k : ∀ b C, Own s e C (some ⟨b, 0, none⟩) 0 0 [] → κ (.slice (some ⟨b, 0, none⟩) 0 0) (C :: S)) : ValW P (Instr.buildSlice t 0 #[]) S κ := by
  refine ⟨fun w hw => ?_⟩
  refine ⟨_, { w with heap := w.heap.push (.cells #[] e) }, _, ?_, ext_push rfl, hw.new rfl, k _ _ ⟨Nat.le_refl _, by simp [maxLen], by simp, .inr ⟨_, 0, _, (0, 0), rfl, rfl, .inl rfl, by simp, fun i hi => by simp at hi⟩⟩⟩
  simp [Instr.buildSlice, Sem.run_bind, run_und ht.und, run_size hs, Result.andThen, Instr.fill, newRow, newObj, Sem.run, show Array.range 0 = #[] from rfl]

theorem flat_take {α : Type} (enc : α → List Value) (s : Nat) (hs : ∀ x, (enc x).length = s) : ∀ (l : List α) (i : Nat), (l.flatMap enc).take (i * s) = (l.take i).flatMap enc
  | l, 0 => by simp
  | [], i + 1 => by simp
  | x :: l, i + 1 => by
    rw [List.flatMap_cons, Nat.add_mul, Nat.one_mul, Nat.add_comm, List.take_add, List.take_left' (hs x), List.drop_left' (hs x), flat_take enc s hs l i, List.take_succ_cons, List.flatMap_cons]
theorem rd_cutF {α : Type} {enc : α → List Value} {s : Nat} (hs : ∀ x, (enc x).length = s) {S : State} {a : Option Addr} {len : Nat} {us : List α} (h : Rd s S a len (us.flatMap enc)) {l h' m : Nat} (h1 : l ≤ h') (h2 : h' ≤ len) (h3 : h' ≤ m) :
    Rd s S (cutA s a l m) (h' - l) (((us.drop l).take (h' - l)).flatMap enc) := by
  have q := rd_cut h h1 h2 h3
  rwa [flat_drop enc s hs, flat_take enc s hs] at q

end Go.Ost

/- Ranges over functions whose elements lie in the iterator's own memory, which the loop's body may read. Conditions: none. -/
set_option linter.unusedSimpArgs false
set_option linter.unusedVariables false
namespace Go.Ost
open Go

variable {P : Program} {n : Nat} {α : Type}

def Sh (H : Chunk) (J : Chunk → Prop) (C : Chunk) : Prop := ∃ C0, C = C0 ++ H ∧ J C0
def ShS (H : Chunk) (I : State → Prop) (C : State) : Prop := ∃ C0, C = C0 ++ [H] ∧ I C0

/-- An iterator's contract: as before, and what the element x points to lies in the chunk sh x. -/
structure IMeetsS (P : Program) (f : FuncId) (first captured : List Value) (encs : α → List Value) (sh : α → Chunk) (A : State) (Next : List α → α → Prop) (Done : List α → Prop) (inf : Bool) : Prop where
  able : callable P f = true
  out : ∀ (l : Nat) (J Jx : List α → Chunk → Prop), (inf = true → ∃ N, N ≤ 4611686018427387904 ∧ ∀ pre C, J pre C → pre.length ≤ N) →
    (∀ pre x, Next pre x → YMeets P l (encs x) (Sh (sh x) (J pre)) (Sh (sh x) (J (pre ++ [x]))) (Sh (sh x) (Jx (pre ++ [x])))) →
    ∀ C, J [] C → ∀ (F : Chunk) (w : World), Hold w (F :: C :: A) → CallsIn (FW none) 0 P f (first ++ [Value.func (.yield l) #[] #[]] ++ captured).toArray w
      (EndsW w fun _ S => ∃ C', S = F :: C' :: A ∧ ((∃ pre, Done pre ∧ J pre C') ∨ (∃ pre x, Next pre x ∧ Jx (pre ++ [x]) C')))

theorem iter_introS {f : FuncId} {first captured : List Value} {encs : α → List Value} {sh : α → Chunk} {A : State} {Next : List α → α → Prop} {Done : List α → Prop} {inf : Bool} (ha : callable P f = true)
    (h : ∀ (l : Nat) (J Jx : List α → Chunk → Prop), (inf = true → ∃ N, N ≤ 4611686018427387904 ∧ ∀ pre C, J pre C → pre.length ≤ N) → (∀ pre x, Next pre x → YMeets P l (encs x) (Sh (sh x) (J pre)) (Sh (sh x) (J (pre ++ [x]))) (Sh (sh x) (Jx (pre ++ [x])))) →
      ∀ C, J [] C → Meets P f (first ++ [Value.func (.yield l) #[] #[]] ++ captured) (C :: A) fun _ S => ∃ C', S = C' :: A ∧ ((∃ pre, Done pre ∧ J pre C') ∨ (∃ pre x, Next pre x ∧ Jx (pre ++ [x]) C'))) :
    IMeetsS P f first captured encs sh A Next Done inf :=
  ⟨ha, fun l J Jx hN hY C hC F w hw => ((h l J Jx hN hY C hC).out F w hw).mono fun e w' ⟨v, S, a, b, c, A', d, C', e', r⟩ => ⟨v, S, a, b, c, C', by rw [d, e'], r⟩⟩

theorem yield_meetsS {l : Nat} {args : List Value} {Jin Jout Jstop : Chunk → Prop} {S G : State} {C H : Chunk} {κ : Value → State → Prop} (h : YMeets P l args (Sh H Jin) (Sh H Jout) (Sh H Jstop)) (hC : Jin C) (ht : Take [C, H] S G)
    (k1 : ∀ C', Jout C' → κ (.bool true) (C' :: H :: G)) (k2 : ∀ C', Jstop C' → κ (.bool false) (C' :: H :: G)) : YieldW P l args.toArray S κ := by
  refine ⟨fun w hw => ?_⟩
  have h1 := h.out (C ++ H) ⟨C, rfl, hC⟩ G.flatten w (hw.perm (ht.perm.trans (by simp only [List.flatten_append, List.flatten_cons, List.flatten_nil, List.append_nil]; exact List.perm_append_comm)))
  obtain ⟨fn, tm, asg, bd, hr, hR⟩ := h1
  refine ⟨fn, tm, asg, bd, hr, hR.mono ?_⟩
  rintro e w' ⟨v, S', rfl, he, hh, b, C', rfl, rfl, j1, j2⟩
  cases b
  · obtain ⟨C0, rfl, hJ⟩ := j2 rfl
    exact ⟨.bool false, C0 :: H :: G, rfl, he, hh.perm (by simp only [List.flatten_cons, List.flatten_nil, List.append_nil]; rw [← List.append_assoc C0 H]; exact List.perm_append_comm), k2 C0 hJ⟩
  · obtain ⟨C0, rfl, hJ⟩ := j1 rfl
    exact ⟨.bool true, C0 :: H :: G, rfl, he, hh.perm (by simp only [List.flatten_cons, List.flatten_nil, List.append_nil]; rw [← List.append_assoc C0 H]; exact List.perm_append_comm), k1 C0 hJ⟩

theorem YMeets.swap {l : Nat} {args : List Value} {Ji Jo Jx Ki Ko Kx : Chunk → Prop} (h : YMeets P l args Ji Jo Jx) (h1 : ∀ C, Ki C → Ji C) (h2 : ∀ C, Jo C → Ko C) (h3 : ∀ C, Jx C → Kx C) : YMeets P l args Ki Ko Kx := by
  refine ⟨fun C hC F w hw => ?_⟩
  obtain ⟨fn, tm, asg, bd, hr, hR⟩ := h.out C (h1 C hC) F w hw
  refine ⟨fn, tm, asg, bd, hr, hR.mono ?_⟩
  rintro e w' ⟨v, S', rfl, he, hh, b, C', hv, hS, j1, j2⟩
  exact ⟨_, _, rfl, he, hh, b, C', hv, hS, fun hb => h2 _ (j1 hb), fun hb => h3 _ (j2 hb)⟩

/-- The core of both rules: the record l (and whatever else is new) lies; the iterator is called. -/
theorem range_coreS {ro : Option Nat} {fn : FuncId} {t : Array Value} {ps : Array Tmp} {assign body : Code} {dB l : Nat} {L : Env} {f : FuncId} {first captured : List Value} {encs : α → List Value} {sh : α → Chunk} {A C0 M : State}
    {Next : List α → α → Prop} {Done : List α → Prop} {inf : Bool} {Q : Exit → Act → World → Prop} {a' : Act} {w w1 : World}
    (hit : IMeetsS P f first captured encs sh A Next Done inf) (I : List α → State → Prop) (Ix : Code → List α → State → Prop)
    (hinf : inf = true → ∃ N, N ≤ 4611686018427387904 ∧ ∀ pre C, I pre C → pre.length ≤ N) (hag : Agree n L [] { tmps := t, defers := [] }) (hps : ∀ x, (encs x).length = ps.size) (h0 : I [] C0) (he : Ext w w1)
    (hw1 : Hold w1 ([(l, .loop { state := .ready, pending := none, fn, tmps := t, params := ps, assign, body, defers := dB })] :: M ++ C0 ++ A))
    (hround : ∀ (F : Chunk) (C : State) (r : Loop) (pre : List α) (x : α), Next pre x → I pre C → CodeW P n (some l) assign (assignK P n l r body F (ShS (sh x) (I (pre ++ [x]))) (fun c => ShS (sh x) (Ix c (pre ++ [x])))) [] (putAll n ps.toList (encs x) L) ([(l, .loop r)] :: F :: (C ++ [sh x])))
    (hdone : ∀ (pre : List α) (C : State) (w2 : World), Done pre → I pre C → Ext w w2 → Hold w2 (M ++ C ++ A) → Q .normal a' w2)
    (hstop : ∀ (c : Code) (pre : List α) (x : α) (C : State) (w2 : World), Next pre x → Ix c (pre ++ [x]) C → Ext w w2 → Hold w2 (M ++ C ++ A) → c.wpIn (FW ro) 0 P Q a' w2) :
    CallsIn (FW none) 0 P f (first ++ [Value.func (.yield l) #[] #[]] ++ captured).toArray w1 (rangePost (FW ro) 0 P l Q a') := by
  have h1 := hit.out l (fun pre C => ∃ C1 : State, C = (l, .loop { state := .ready, pending := none, fn, tmps := t, params := ps, assign, body, defers := dB }) :: C1.flatten ∧ I pre C1)
    (fun pre C => ∃ (c : Code) (C1 : State), C = (l, .loop { state := .done, pending := some c, fn, tmps := t, params := ps, assign, body, defers := dB }) :: C1.flatten ∧ Ix c pre C1)
    (fun h => let ⟨N, hN0, hN⟩ := hinf h; ⟨N, hN0, fun pre C ⟨C1, _, hI⟩ => hN pre C1 hI⟩)
    (fun pre x hx => (round_meets (fn := fn) (t := t) (ps := ps) (assign := assign) (body := body) (dB := dB) (I := ShS (sh x) (I pre)) (Iout := ShS (sh x) (I (pre ++ [x]))) (Ix := fun c => ShS (sh x) (Ix c (pre ++ [x]))) hag (hps x) fun F C r _ ⟨C0, hC0, hI⟩ => by rw [hC0]; exact hround F C0 r pre x hx hI).swap
      (fun C hC => by obtain ⟨C0, h1, C1, h2, h3⟩ := hC; exact ⟨C1 ++ [sh x], by rw [h1, h2]; simp, C1, rfl, h3⟩)
      (fun C hC => by obtain ⟨C0, h1, C1, h2, h3⟩ := hC; exact ⟨_, by rw [h1, h2, List.flatten_append, ← List.cons_append]; simp only [List.flatten_cons, List.flatten_nil, List.append_nil], C1, rfl, h3⟩)
      (fun C hC => by obtain ⟨c, C0, h1, C1, h2, h3⟩ := hC; exact ⟨_, by rw [h1, h2, List.flatten_append, ← List.cons_append]; simp only [List.flatten_cons, List.flatten_nil, List.append_nil], c, C1, rfl, h3⟩)) _ ⟨C0, rfl, h0⟩ M.flatten w1
    (hw1.perm (by
      simp only [List.flatten_append, List.flatten_cons, List.cons_append, List.append_assoc, List.nil_append]
      exact List.perm_middle.symm))
  refine h1.mono ?_
  rintro e w2 ⟨v, S, rfl, he2, hh, C', rfl, (⟨pre, hd, C1, rfl, hI⟩ | ⟨pre, x, hx, c, C1, rfl, hI⟩)⟩
  · have hw2 : Hold w2 ([(l, .loop { state := .ready, pending := none, fn, tmps := t, params := ps, assign, body, defers := dB })] :: (M ++ C1 ++ A)) := hh.perm (by
      simp only [List.flatten_append, List.flatten_cons, List.cons_append, List.append_assoc, List.nil_append]
      exact List.perm_middle)
    have hl2 : w2.heap[l]? = some (.loop { state := .ready, pending := none, fn, tmps := t, params := ps, assign, body, defers := dB }) := hw2.get l _ (by simp)
    refine ⟨none, _, run_endLoop (P := P) hl2 (by simp), hdone pre C1 _ hd hI ((he.trans he2).trans (put_ext _ _ _)) ?_⟩
    exact (put_hold hw2).sub (by simp)
  · have hw2 : Hold w2 ([(l, .loop { state := .done, pending := some c, fn, tmps := t, params := ps, assign, body, defers := dB })] :: (M ++ C1 ++ A)) := hh.perm (by
      simp only [List.flatten_append, List.flatten_cons, List.cons_append, List.append_assoc, List.nil_append]
      exact List.perm_middle)
    have hl2 : w2.heap[l]? = some (.loop { state := .done, pending := some c, fn, tmps := t, params := ps, assign, body, defers := dB }) := hw2.get l _ (by simp)
    refine ⟨some c, _, run_endLoop (P := P) hl2 (by simp), hstop c pre x C1 _ hx hI ((he.trans he2).trans (put_ext _ _ _)) ?_⟩
    exact (put_hold hw2).sub (by simp)

/-- 'for .. := range f { .. }', in no other such loop's body. -/
theorem code_rangeS {g : Operand} {ps : Array Tmp} {assign body : Code} {K : Cont} {D : List Nat} {L : Env} {S A C0 : State} {f : FuncId} {first captured : Array Value} {encs : α → List Value} {sh : α → Chunk}
    {Next : List α → α → Prop} {Done : List α → Prop} {inf : Bool} (hg : evT L g = some (.func (.func f) first captured)) (hit : IMeetsS P f first.toList captured.toList encs sh A Next Done inf)
    (ht : Take A S C0) (I : List α → State → Prop) (Ix : Code → List α → State → Prop) (hinf : inf = true → ∃ N, N ≤ 4611686018427387904 ∧ ∀ pre C, I pre C → pre.length ≤ N) (hps : ∀ x, (encs x).length = ps.size) (h0 : I [] C0)
    (hround : ∀ (l : Nat) (F : Chunk) (C : State) (r : Loop) (pre : List α) (x : α), Next pre x → I pre C → CodeW P n (some l) assign (assignK P n l r body F (ShS (sh x) (I (pre ++ [x]))) (fun c => ShS (sh x) (Ix c (pre ++ [x])))) [] (putAll n ps.toList (encs x) L) ([(l, .loop r)] :: F :: (C ++ [sh x])))
    (hdone : ∀ (d : Nat) (pre : List α) (C : State), Done pre → I pre C → K .normal (d :: D) L ([(d, .deferred (some []))] :: (C ++ A)))
    (hstop : ∀ (d : Nat) (c : Code) (pre : List α) (x : α) (C : State), Next pre x → Ix c (pre ++ [x]) C → CodeW P n none c K (d :: D) L ([(d, .deferred (some []))] :: (C ++ A))) :
    CodeW P n none (.rangeFunc g ps assign body) K D L S := by
  refine ⟨fun a w ha hw => wpIn_rangeFunc fun fn _ => ?_⟩
  obtain ⟨W1, hW1⟩ : ∃ W1 : World, W1 = (w.alloc (.deferred (some []))).alloc (.loop { state := .ready, pending := none, fn, tmps := a.tmps, params := ps, assign, body, defers := w.heap.size }) := ⟨_, rfl⟩
  refine ⟨w.heap.size + 1, [markD w.heap.size], W1,
    { target := .fn (.func f) captured, args := first ++ #[.func (.yield (w.heap.size + 1)) #[] #[]] }, W1, f, (first.toList ++ [Value.func (.yield (w.heap.size + 1)) #[] #[]] ++ captured.toList).toArray, W1,
    by rw [hW1]; exact run_enterLoop_outer fn a.tmps ps assign body, ?_, fun _ _ => trivial, ?_, fun h => (by cases h), ?_⟩
  · simp only [resolve, ha.ev hg]
    simp [Deferred.ofValue, Act.eval]
  · simp only [invoke]
    rw [enters_able hit.able]
    congr 2
    apply Array.ext'; simp
  · have e1 : (w.alloc (.deferred (some []))).heap = w.heap.push (.deferred (some [])) := rfl
    have hw1 := hw.new (w' := w.alloc (.deferred (some []))) (o := .deferred (some [])) rfl
    have hw2 := hw1.new (w' := (w.alloc (.deferred (some []))).alloc (.loop { state := .ready, pending := none, fn, tmps := a.tmps, params := ps, assign, body, defers := w.heap.size })) rfl
    rw [World.size_alloc, ← hW1] at hw2
    refine range_coreS (n := n) (L := L) (dB := w.heap.size) (t := a.tmps) (fn := fn) (C0 := C0) (M := [[(w.heap.size, .deferred (some []))]]) (w := w) hit I Ix hinf ⟨ha.size, ha.get, rfl⟩ hps h0
      (by rw [hW1]; exact ⟨rfl, rfl, rfl, by simp only [World.size_alloc]; omega⟩) ?_ (fun F C r pre x hx hI => hround _ F C r pre x hx hI) ?_ ?_
    · refine hw2.perm ?_
      simp only [List.flatten_append, List.flatten_cons, List.cons_append, List.append_assoc, List.nil_append, List.flatten_nil]
      refine List.Perm.cons _ (List.Perm.cons _ ?_)
      have := ht.perm
      rw [List.flatten_append] at this
      exact this.trans List.perm_append_comm
    · intro pre C w2 hd hI he hh
      exact ⟨_, L, _, hdone w.heap.size pre C hd hI, ⟨ha.size, ha.get, by simp [ha.marks]⟩, he, hh.perm (by simp)⟩
    · intro c pre x C w2 hx hI he hh
      refine wpIn_mono ((hstop w.heap.size c pre x C hx hI).out { a with defers := [markD w.heap.size] ++ a.defers } w2 ⟨ha.size, ha.get, by simp [ha.marks]⟩ (hh.perm (by simp))) fun _ _ _ hq => hq.ext he


end Go.Ost

/- Ranges over functions, in full: what the loop's memory holds when the range begins, what goes from the iterator to the loop's body with an element and back, what the iterator's own memory has become. Conditions: none. -/
set_option linter.unusedSimpArgs false
set_option linter.unusedVariables false
namespace Go.Ost
open Go

variable {P : Program} {n : Nat} {α : Type}

/-- A chunk of two parts. -/
def Gv (H : State → Prop) (J : Chunk → Prop) (C : Chunk) : Prop := ∃ (C0 : Chunk) (H0 : State), C = C0 ++ H0.flatten ∧ J C0 ∧ H H0
def GvS (H : State → Prop) (I : State → Prop) (C : State) : Prop := ∃ C0 H0 : State, C = C0 ++ H0 ∧ I C0 ∧ H H0

/-- An iterator's contract, in full. T0: what lies in the loop's memory at the beginning. Hin: what goes with an element; Hout, Hst: what comes back (as the loop goes on, or stops). E: what the iterator's memory has become. -/
structure IMeetsG (P : Program) (f : FuncId) (first captured : List Value) (encs : α → List Value) (A : State) (T0 : Chunk → Prop) (Hin Hout Hst : List α → α → State → Prop) (Next : List α → α → Prop) (Done : List α → Prop) (E Es : List α → State → Prop) (inf : Bool) : Prop where
  able : callable P f = true
  out : ∀ (l : Nat) (J Jx : List α → Chunk → Prop), (inf = true → ∃ N, N ≤ 4611686018427387904 ∧ ∀ pre C, J pre C → pre.length ≤ N) → (∀ C, J [] C → ∃ T R, T0 T ∧ C.Perm (T ++ R)) →
    (∀ pre x, Next pre x → YMeets P l (encs x) (Gv (Hin pre x) (J pre)) (Gv (Hout pre x) (J (pre ++ [x]))) (Gv (Hst pre x) (Jx (pre ++ [x])))) →
    ∀ C, J [] C → ∀ (F : Chunk) (w : World), Hold w (F :: C :: A) → CallsIn (FW none) 0 P f (first ++ [Value.func (.yield l) #[] #[]] ++ captured).toArray w
      (EndsW w fun _ S => ∃ C' A', S = F :: C' :: A' ∧ ((∃ pre, Done pre ∧ J pre C' ∧ E pre A') ∨ (∃ pre x, Next pre x ∧ Jx (pre ++ [x]) C' ∧ Es (pre ++ [x]) A')))

theorem iter_introG {f : FuncId} {first captured : List Value} {encs : α → List Value} {A : State} {T0 : Chunk → Prop} {Hin Hout Hst : List α → α → State → Prop} {Next : List α → α → Prop} {Done : List α → Prop} {E Es : List α → State → Prop} {inf : Bool} (ha : callable P f = true)
    (h : ∀ (l : Nat) (J Jx : List α → Chunk → Prop), (inf = true → ∃ N, N ≤ 4611686018427387904 ∧ ∀ pre C, J pre C → pre.length ≤ N) → (∀ C, J [] C → ∃ T R, T0 T ∧ C.Perm (T ++ R)) →
      (∀ pre x, Next pre x → YMeets P l (encs x) (Gv (Hin pre x) (J pre)) (Gv (Hout pre x) (J (pre ++ [x]))) (Gv (Hst pre x) (Jx (pre ++ [x])))) →
      ∀ C, J [] C → Meets P f (first ++ [Value.func (.yield l) #[] #[]] ++ captured) (C :: A) fun _ S => ∃ C' A', S = C' :: A' ∧ ((∃ pre, Done pre ∧ J pre C' ∧ E pre A') ∨ (∃ pre x, Next pre x ∧ Jx (pre ++ [x]) C' ∧ Es (pre ++ [x]) A'))) :
    IMeetsG P f first captured encs A T0 Hin Hout Hst Next Done E Es inf :=
  ⟨ha, fun l J Jx hN hT hY C hC F w hw => ((h l J Jx hN hT hY C hC).out F w hw).mono fun e w' ⟨v, S, a, b, c, A', d, C', A'', e', r⟩ => ⟨v, S, a, b, c, C', A'', by rw [d, e'], r⟩⟩

/-- In the iterator's own walk: yield is called. -/
theorem yield_meetsG {l : Nat} {args : List Value} {Jin Jout Jstop : Chunk → Prop} {Hi Ho Hs : State → Prop} {S G H : State} {C : Chunk} {κ : Value → State → Prop} (h : YMeets P l args (Gv Hi Jin) (Gv Ho Jout) (Gv Hs Jstop)) (hC : Jin C) (hH : Hi H) (ht : Take (C :: H) S G)
    (k1 : ∀ C' H', Jout C' → Ho H' → κ (.bool true) (C' :: (H' ++ G))) (k2 : ∀ C' H', Jstop C' → Hs H' → κ (.bool false) (C' :: (H' ++ G))) : YieldW P l args.toArray S κ := by
  refine ⟨fun w hw => ?_⟩
  have h1 := h.out (C ++ H.flatten) ⟨C, H, rfl, hC, hH⟩ G.flatten w (hw.perm (ht.perm.trans (by simp only [List.cons_append, List.flatten_append, List.flatten_cons, List.flatten_nil, List.append_nil]; rw [← List.append_assoc]; exact List.perm_append_comm)))
  obtain ⟨fn, tm, asg, bd, hr, hR⟩ := h1
  refine ⟨fn, tm, asg, bd, hr, hR.mono ?_⟩
  rintro e w' ⟨v, S', rfl, he, hh, b, C', rfl, rfl, j1, j2⟩
  cases b
  · obtain ⟨C0, H0, rfl, hJ, hH0⟩ := j2 rfl
    exact ⟨.bool false, C0 :: (H0 ++ G), rfl, he, hh.perm (by simp only [List.flatten_append, List.flatten_cons, List.flatten_nil, List.append_nil]; rw [← List.append_assoc C0]; exact List.perm_append_comm), k2 C0 H0 hJ hH0⟩
  · obtain ⟨C0, H0, rfl, hJ, hH0⟩ := j1 rfl
    exact ⟨.bool true, C0 :: (H0 ++ G), rfl, he, hh.perm (by simp only [List.flatten_append, List.flatten_cons, List.flatten_nil, List.append_nil]; rw [← List.append_assoc C0]; exact List.perm_append_comm), k1 C0 H0 hJ hH0⟩

/-- The core of both rules: the record l (and whatever else is new) lies; the iterator is called. -/
theorem range_coreG {ro : Option Nat} {fn : FuncId} {t : Array Value} {ps : Array Tmp} {assign body : Code} {dB l : Nat} {L : Env} {f : FuncId} {first captured : List Value} {encs : α → List Value} {A C0 M : State}
    {T0 : Chunk → Prop} {Hin Hout Hst : List α → α → State → Prop} {Next : List α → α → Prop} {Done : List α → Prop} {E Es : List α → State → Prop} {inf : Bool} {Q : Exit → Act → World → Prop} {a' : Act} {w w1 : World}
    (hit : IMeetsG P f first captured encs A T0 Hin Hout Hst Next Done E Es inf) (I : List α → State → Prop) (Ix : Code → List α → State → Prop)
    (hinf : inf = true → ∃ N, N ≤ 4611686018427387904 ∧ ∀ pre C, I pre C → pre.length ≤ N) (hT : ∀ C, I [] C → ∃ T R, T0 T ∧ C.flatten.Perm (T ++ R)) (hag : Agree n L [] { tmps := t, defers := [] }) (hps : ∀ x, (encs x).length = ps.size) (h0 : I [] C0) (he : Ext w w1)
    (hw1 : Hold w1 ([(l, .loop { state := .ready, pending := none, fn, tmps := t, params := ps, assign, body, defers := dB })] :: M ++ C0 ++ A))
    (hround : ∀ (F : Chunk) (C H : State) (r : Loop) (pre : List α) (x : α), Next pre x → I pre C → Hin pre x H → CodeW P n (some l) assign (assignK P n l r body F (GvS (Hout pre x) (I (pre ++ [x]))) (fun c => GvS (Hst pre x) (Ix c (pre ++ [x])))) [] (putAll n ps.toList (encs x) L) ([(l, .loop r)] :: F :: (C ++ H)))
    (hdone : ∀ (pre : List α) (C A : State) (w2 : World), Done pre → I pre C → E pre A → Ext w w2 → Hold w2 (M ++ C ++ A) → Q .normal a' w2)
    (hstop : ∀ (c : Code) (pre : List α) (x : α) (C A : State) (w2 : World), Next pre x → Ix c (pre ++ [x]) C → Es (pre ++ [x]) A → Ext w w2 → Hold w2 (M ++ C ++ A) → c.wpIn (FW ro) 0 P Q a' w2) :
    CallsIn (FW none) 0 P f (first ++ [Value.func (.yield l) #[] #[]] ++ captured).toArray w1 (rangePost (FW ro) 0 P l Q a') := by
  have h1 := hit.out l (fun pre C => ∃ C1 : State, C = (l, .loop { state := .ready, pending := none, fn, tmps := t, params := ps, assign, body, defers := dB }) :: C1.flatten ∧ I pre C1)
    (fun pre C => ∃ (c : Code) (C1 : State), C = (l, .loop { state := .done, pending := some c, fn, tmps := t, params := ps, assign, body, defers := dB }) :: C1.flatten ∧ Ix c pre C1)
    (fun h => let ⟨N, hN0, hN⟩ := hinf h; ⟨N, hN0, fun pre C ⟨C1, _, hI⟩ => hN pre C1 hI⟩)
    (fun C ⟨C1, hC, hI⟩ => by
      obtain ⟨T, R, h1, h2⟩ := hT C1 hI
      exact ⟨T, _ :: R, h1, by rw [hC]; exact (List.Perm.cons _ h2).trans List.perm_middle.symm⟩)
    (fun pre x hx => (round_meets (fn := fn) (t := t) (ps := ps) (assign := assign) (body := body) (dB := dB) (I := GvS (Hin pre x) (I pre)) (Iout := GvS (Hout pre x) (I (pre ++ [x]))) (Ix := fun c => GvS (Hst pre x) (Ix c (pre ++ [x]))) hag (hps x) fun F C r _ ⟨C0, H0, hC0, hI, hH⟩ => by rw [hC0]; exact hround F C0 H0 r pre x hx hI hH).swap
      (fun C hC => by obtain ⟨C0, H0, h1, ⟨C1, h2, h3⟩, h4⟩ := hC; exact ⟨C1 ++ H0, by rw [h1, h2]; simp, C1, H0, rfl, h3, h4⟩)
      (fun C hC => by obtain ⟨C0, h1, C1, H0, h2, h3, h4⟩ := hC; exact ⟨_, H0, by rw [h1, h2, List.flatten_append, ← List.cons_append], ⟨C1, rfl, h3⟩, h4⟩)
      (fun C hC => by obtain ⟨c, C0, h1, C1, H0, h2, h3, h4⟩ := hC; exact ⟨_, H0, by rw [h1, h2, List.flatten_append, ← List.cons_append], ⟨c, C1, rfl, h3⟩, h4⟩)) _ ⟨C0, rfl, h0⟩ M.flatten w1
    (hw1.perm (by
      simp only [List.flatten_append, List.flatten_cons, List.cons_append, List.append_assoc, List.nil_append]
      exact List.perm_middle.symm))
  refine h1.mono ?_
  rintro e w2 ⟨v, S, rfl, he2, hh, C', A, rfl, (⟨pre, hd, ⟨C1, rfl, hI⟩, hE⟩ | ⟨pre, x, hx, ⟨c, C1, rfl, hI⟩, hE⟩)⟩
  · have hw2 : Hold w2 ([(l, .loop { state := .ready, pending := none, fn, tmps := t, params := ps, assign, body, defers := dB })] :: (M ++ C1 ++ A)) := hh.perm (by
      simp only [List.flatten_append, List.flatten_cons, List.cons_append, List.append_assoc, List.nil_append]
      exact List.perm_middle)
    have hl2 : w2.heap[l]? = some (.loop { state := .ready, pending := none, fn, tmps := t, params := ps, assign, body, defers := dB }) := hw2.get l _ (by simp)
    refine ⟨none, _, run_endLoop (P := P) hl2 (by simp), hdone pre C1 A _ hd hI hE ((he.trans he2).trans (put_ext _ _ _)) ?_⟩
    exact (put_hold hw2).sub (by simp)
  · have hw2 : Hold w2 ([(l, .loop { state := .done, pending := some c, fn, tmps := t, params := ps, assign, body, defers := dB })] :: (M ++ C1 ++ A)) := hh.perm (by
      simp only [List.flatten_append, List.flatten_cons, List.cons_append, List.append_assoc, List.nil_append]
      exact List.perm_middle)
    have hl2 : w2.heap[l]? = some (.loop { state := .done, pending := some c, fn, tmps := t, params := ps, assign, body, defers := dB }) := hw2.get l _ (by simp)
    refine ⟨some c, _, run_endLoop (P := P) hl2 (by simp), hstop c pre x C1 A _ hx hI hE ((he.trans he2).trans (put_ext _ _ _)) ?_⟩
    exact (put_hold hw2).sub (by simp)

/-- 'for .. := range f { .. }', in no other such loop's body. -/
theorem code_rangeG {g : Operand} {ps : Array Tmp} {assign body : Code} {K : Cont} {D : List Nat} {L : Env} {S A C0 : State} {f : FuncId} {first captured : Array Value} {encs : α → List Value}
    {T0 : Chunk → Prop} {Hin Hout Hst : List α → α → State → Prop} {Next : List α → α → Prop} {Done : List α → Prop} {E Es : List α → State → Prop} {inf : Bool} (hg : evT L g = some (.func (.func f) first captured)) (hit : IMeetsG P f first.toList captured.toList encs A T0 Hin Hout Hst Next Done E Es inf)
    (ht : Take A S C0) (I : List α → State → Prop) (Ix : Code → List α → State → Prop) (hinf : inf = true → ∃ N, N ≤ 4611686018427387904 ∧ ∀ pre C, I pre C → pre.length ≤ N) (hT : ∀ C, I [] C → ∃ T R, T0 T ∧ C.flatten.Perm (T ++ R)) (hps : ∀ x, (encs x).length = ps.size) (h0 : I [] C0)
    (hround : ∀ (l : Nat) (F : Chunk) (C H : State) (r : Loop) (pre : List α) (x : α), Next pre x → I pre C → Hin pre x H → CodeW P n (some l) assign (assignK P n l r body F (GvS (Hout pre x) (I (pre ++ [x]))) (fun c => GvS (Hst pre x) (Ix c (pre ++ [x])))) [] (putAll n ps.toList (encs x) L) ([(l, .loop r)] :: F :: (C ++ H)))
    (hdone : ∀ (d : Nat) (pre : List α) (C A : State), Done pre → I pre C → E pre A → K .normal (d :: D) L ([(d, .deferred (some []))] :: (C ++ A)))
    (hstop : ∀ (d : Nat) (c : Code) (pre : List α) (x : α) (C A : State), Next pre x → Ix c (pre ++ [x]) C → Es (pre ++ [x]) A → CodeW P n none c K (d :: D) L ([(d, .deferred (some []))] :: (C ++ A))) :
    CodeW P n none (.rangeFunc g ps assign body) K D L S := by
  refine ⟨fun a w ha hw => wpIn_rangeFunc fun fn _ => ?_⟩
  obtain ⟨W1, hW1⟩ : ∃ W1 : World, W1 = (w.alloc (.deferred (some []))).alloc (.loop { state := .ready, pending := none, fn, tmps := a.tmps, params := ps, assign, body, defers := w.heap.size }) := ⟨_, rfl⟩
  refine ⟨w.heap.size + 1, [markD w.heap.size], W1,
    { target := .fn (.func f) captured, args := first ++ #[.func (.yield (w.heap.size + 1)) #[] #[]] }, W1, f, (first.toList ++ [Value.func (.yield (w.heap.size + 1)) #[] #[]] ++ captured.toList).toArray, W1,
    by rw [hW1]; exact run_enterLoop_outer fn a.tmps ps assign body, ?_, fun _ _ => trivial, ?_, fun h => (by cases h), ?_⟩
  · simp only [resolve, ha.ev hg]
    simp [Deferred.ofValue, Act.eval]
  · simp only [invoke]
    rw [enters_able hit.able]
    congr 2
    apply Array.ext'; simp
  · have e1 : (w.alloc (.deferred (some []))).heap = w.heap.push (.deferred (some [])) := rfl
    have hw1 := hw.new (w' := w.alloc (.deferred (some []))) (o := .deferred (some [])) rfl
    have hw2 := hw1.new (w' := (w.alloc (.deferred (some []))).alloc (.loop { state := .ready, pending := none, fn, tmps := a.tmps, params := ps, assign, body, defers := w.heap.size })) rfl
    rw [World.size_alloc, ← hW1] at hw2
    refine range_coreG (n := n) (L := L) (dB := w.heap.size) (t := a.tmps) (fn := fn) (C0 := C0) (M := [[(w.heap.size, .deferred (some []))]]) (w := w) hit I Ix hinf hT ⟨ha.size, ha.get, rfl⟩ hps h0
      (by rw [hW1]; exact ⟨rfl, rfl, rfl, by simp only [World.size_alloc]; omega⟩) ?_ (fun F C H r pre x hx hI hH => hround _ F C H r pre x hx hI hH) ?_ ?_
    · refine hw2.perm ?_
      simp only [List.flatten_append, List.flatten_cons, List.cons_append, List.append_assoc, List.nil_append, List.flatten_nil]
      refine List.Perm.cons _ (List.Perm.cons _ ?_)
      have := ht.perm
      rw [List.flatten_append] at this
      exact this.trans List.perm_append_comm
    · intro pre C A w2 hd hI hE he hh
      exact ⟨_, L, _, hdone w.heap.size pre C A hd hI hE, ⟨ha.size, ha.get, by simp [ha.marks]⟩, he, hh.perm (by simp)⟩
    · intro c pre x C A w2 hx hI hE he hh
      refine wpIn_mono ((hstop w.heap.size c pre x C A hx hI hE).out { a with defers := [markD w.heap.size] ++ a.defers } w2 ⟨ha.size, ha.get, by simp [ha.marks]⟩ (hh.perm (by simp))) fun _ _ _ hq => hq.ext he

/-- The same in the body of such a loop (of the record l₀). -/
theorem code_rangeG_in {l₀ : Nat} {r₀ : Loop} {g : Operand} {ps : Array Tmp} {assign body : Code} {K : Cont} {D : List Nat} {L : Env} {S A C0 : State} {f : FuncId} {first captured : Array Value} {encs : α → List Value}
    {T0 : Chunk → Prop} {Hin Hout Hst : List α → α → State → Prop} {Next : List α → α → Prop} {Done : List α → Prop} {E Es : List α → State → Prop} {inf : Bool} (hg : evT L g = some (.func (.func f) first captured)) (hl : Lies l₀ (.loop r₀) S) (hit : IMeetsG P f first.toList captured.toList encs A T0 Hin Hout Hst Next Done E Es inf)
    (ht : Take A S C0) (I : List α → State → Prop) (Ix : Code → List α → State → Prop) (hinf : inf = true → ∃ N, N ≤ 4611686018427387904 ∧ ∀ pre C, I pre C → pre.length ≤ N) (hT : ∀ C, I [] C → ∃ T R, T0 T ∧ C.flatten.Perm (T ++ R)) (hps : ∀ x, (encs x).length = ps.size) (h0 : I [] C0)
    (hround : ∀ (l : Nat) (F : Chunk) (C H : State) (r : Loop) (pre : List α) (x : α), Next pre x → I pre C → Hin pre x H → CodeW P n (some l) assign (assignK P n l r body F (GvS (Hout pre x) (I (pre ++ [x]))) (fun c => GvS (Hst pre x) (Ix c (pre ++ [x])))) [] (putAll n ps.toList (encs x) L) ([(l, .loop r)] :: F :: (C ++ H)))
    (hdone : ∀ (pre : List α) (C A : State), Done pre → I pre C → E pre A → K .normal D L (C ++ A))
    (hstop : ∀ (c : Code) (pre : List α) (x : α) (C A : State), Next pre x → Ix c (pre ++ [x]) C → Es (pre ++ [x]) A → CodeW P n (some l₀) c K D L (C ++ A)) :
    CodeW P n (some l₀) (.rangeFunc g ps assign body) K D L S := by
  refine ⟨fun a w ha hw => wpIn_rangeFunc fun fn _ => ?_⟩
  have hr := hl.get hw
  obtain ⟨W1, hW1⟩ : ∃ W1 : World, W1 = w.alloc (.loop { state := .ready, pending := none, fn, tmps := a.tmps, params := ps, assign, body, defers := r₀.defers }) := ⟨_, rfl⟩
  refine ⟨w.heap.size, [], W1,
    { target := .fn (.func f) captured, args := first ++ #[.func (.yield w.heap.size) #[] #[]] }, W1, f, (first.toList ++ [Value.func (.yield w.heap.size) #[] #[]] ++ captured.toList).toArray, W1,
    by rw [hW1]; exact run_enterLoop_inner hr fn a.tmps ps assign body, ?_, fun _ _ => trivial, ?_, fun h => (by cases h), ?_⟩
  · simp only [resolve, ha.ev hg]
    simp [Deferred.ofValue, Act.eval]
  · simp only [invoke]
    rw [enters_able hit.able]
    congr 2
    apply Array.ext'; simp
  · have hw1 := hw.new (w' := w.alloc (.loop { state := .ready, pending := none, fn, tmps := a.tmps, params := ps, assign, body, defers := r₀.defers })) rfl
    rw [← hW1] at hw1
    refine range_coreG (n := n) (L := L) (dB := r₀.defers) (t := a.tmps) (fn := fn) (C0 := C0) (M := []) (w := w) hit I Ix hinf hT ⟨ha.size, ha.get, rfl⟩ hps h0
      (by rw [hW1]; exact ⟨rfl, rfl, rfl, by simp only [World.size_alloc]; omega⟩) ?_ (fun F C H r pre x hx hI hH => hround _ F C H r pre x hx hI hH) ?_ ?_
    · refine hw1.perm ?_
      simp only [List.flatten_append, List.flatten_cons, List.cons_append, List.append_assoc, List.nil_append, List.flatten_nil]
      refine List.Perm.cons _ ?_
      have := ht.perm
      rw [List.flatten_append] at this
      exact this.trans List.perm_append_comm
    · intro pre C A w2 hd hI hE he hh
      exact ⟨_, L, _, hdone pre C A hd hI hE, ⟨ha.size, ha.get, by simp [ha.marks]⟩, he, hh.perm (by simp)⟩
    · intro c pre x C A w2 hx hI hE he hh
      refine wpIn_mono ((hstop c pre x C A hx hI hE).out { a with defers := [] ++ a.defers } w2 ⟨ha.size, ha.get, by simp [ha.marks]⟩ (hh.perm (by simp))) fun _ _ _ hq => hq.ext he


/-- The same blocks, in other chunks. -/
theorem code_perm {ro : Option Nat} {c : Code} {K : Cont} {D : List Nat} {L : Env} {S S' : State} (hp : S.flatten.Perm S'.flatten) (h : CodeW P n ro c K D L S') : CodeW P n ro c K D L S :=
  ⟨fun a w ha hw => h.out a w ha (hw.perm hp)⟩
theorem T0_in {T R Cj : Chunk} {T0 : Chunk → Prop} {S G : State} (h : T0 T) (hp : Pick Cj S G) (hc : Cj.Perm (T ++ R)) : ∃ T R, T0 T ∧ S.flatten.Perm (T ++ R) :=
  ⟨T, R ++ G.flatten, h, hp.perm.trans (by rw [List.flatten_cons, ← List.append_assoc]; exact List.Perm.append_right _ hc)⟩
theorem T0_pick {T : Chunk} {T0 : Chunk → Prop} {S G : State} (h : T0 T) (hp : Pick T S G) : ∃ T R, T0 T ∧ S.flatten.Perm (T ++ R) := ⟨T, G.flatten, h, hp.perm⟩
/-- A whole block is written anew. -/
theorem store_all {b : Nat} {e t : TypeId} {z : Value} {s by_ : Nat} {cs : Array Value} {vs : List Value} {S S' : State} {κ : State → Prop} [hs : TSized P t z s by_] (hz : vs.length = s) (hc : ∀ v ∈ vs, Value.cell1 v)
    (hu : Upd b (.cells cs e (0, 0)) (.cells vs.toArray e (0, 0)) S S') (hcs : cs.size = s) (k : κ S') : UnitW P (Instr.storeAt t (.pointer (some ⟨b, 0, none⟩)) (.agg vs.toArray)) S κ := by
  have e1 : setCells cs 0 vs = vs.toArray := by
    have := setCells_all vs [] cs.toList [] (by simp [hcs, hz])
    simpa using this
  have e2 : vs.toArray.toList = vs := by simp
  exact store_agg (e := e) (cs := cs) (by simpa using hz) (by simpa using hc) (by rw [e2, e1]; exact hu) (by omega) k
/-- A whole block is read. -/
theorem load_all {b : Nat} {e t : TypeId} {z : Value} {s by_ : Nat} {vs : List Value} {m : Nat × Nat} {S : State} {κ : Value → Prop} [hf : TDeep P t] [hs : TSized P t z s by_] (hl : Lies b (.cells vs.toArray e m) S) (hz : vs.length = s) (k : κ (.agg vs.toArray)) :
    ReadW P (Instr.loadAt t (.pointer (some ⟨b, 0, none⟩))) S κ := by
  refine load_agg hl (by simp [hz]) ?_
  have e1 : vs.toArray.extract 0 (0 + s) = vs.toArray := by
    apply Array.ext'
    simp [List.extract_eq_take_drop, ← hz]
  rw [e1]; exact k
/-- A part of a block is read. -/
theorem load_sub {b : Nat} {e t : TypeId} {z : Value} {s by_ : Nat} {vs ws : List Value} {o : Nat} {m : Nat × Nat} {S : State} {κ : Value → Prop} [hf : TDeep P t] [hs : TSized P t z s by_] (hl : Lies b (.cells vs.toArray e m) S) (ho : o + s ≤ vs.length) (hw : (vs.drop o).take s = ws) (k : κ (.agg ws.toArray)) :
    ReadW P (Instr.loadAt t (.pointer (some ⟨b, o, none⟩))) S κ := by
  refine load_agg hl (by simpa using ho) ?_
  have e1 : vs.toArray.extract o (o + s) = ws.toArray := by
    apply Array.ext'
    simp [List.extract_eq_take_drop, ← hw]
  rw [e1]; exact k
/-- A block of one cell. -/
abbrev bx (p : Nat) (v : Value) (t : TypeId) : Chunk := [(p, .cells #[v] t (0, 0))]
/-- What goes along with no element. -/
abbrev noH {α : Type} (_ : List α) (_ : α) (H : State) : Prop := H = []
end Go.Ost

/- A region whose order of evaluation Go leaves open, two of whose changing operations have no order between them: one plan for each order. Conditions: none. -/
set_option linter.unusedSimpArgs false
set_option linter.unusedVariables false
namespace Go.Ost
open Go

variable {P : Program} {n : Nat} {ro : Option Nat}

/-- The edges of the region, and one more: e2 behind e1. -/
def afterX (ops : Array Oper) (e1 e2 i : Nat) : List Nat := if i = e2 then e1 :: afterOf ops i else afterOf ops i
def certX (ops : Array Oper) (e1 e2 : Nat) (A : List (List Nat)) : Bool :=
  (List.range ops.size).all fun i => (A.getD i []).all fun j => (afterX ops e1 e2 i).any fun e => e == j || (A.getD e []).contains j

theorem draw_fin {ops : Array Oper} {A : List (List Nat)} {K : Cont} {D : List Nat} {w0 : World} {pre l : List Entry} {listed : Array Bool} {L : Env} {S : State} {a : Act} {w : World} (h : DInv P n ops A (K .normal D) D w0 pre l listed L S a w) (hr : Region.ready .any ops listed = []) : KQ n K w0 .normal a w := by
  obtain ⟨pre, l, L, h, hl⟩ := h.norm
  -- an operation whose edges all lead to what is done is ready
  have ready : ∀ i, i < ops.size → (∀ j ∈ afterOf ops i, listed.getD j false = true) → listed.getD i false = true := by
    intro i hi hall
    cases hx : listed.getD i false with
    | true => rfl
    | false =>
      exfalso
      have : i ∈ Region.ready .any ops listed := by
        refine List.mem_filter.2 ⟨List.mem_range.2 hi, ?_⟩
        have hsz : i < listed.size := by rw [h.size]; exact hi
        have h1 : listed.getD i true = false := by simpa [Array.getD_eq_getD_getElem?, hsz] using hx
        have ho : ops[i]? = some ops[i] := by simp [hi]
        rw [h1, ho]
        simp only [Option.map_some, Option.getD_some, Bool.not_false, Bool.true_and]
        rw [Array.all_eq_true']
        intro e he
        by_cases hb : Region.binds .any e = true
        · have := hall e.on (by simp only [afterOf, ho]; exact List.mem_map.2 ⟨e, List.mem_filter.2 ⟨by simpa using he, hb⟩, rfl⟩)
          simp [this]
        · simp [hb]
      rw [hr] at this; cases this
  have pend : ∀ (k : Nat) (x : Entry), pre[k]? = some x → listed.getD x.1 false = true := by
    intro k
    induction k using Nat.strongRecOn with
    | _ k ih =>
      intro x hx
      obtain ⟨o1, _, _, _, _, o6⟩ := okAt_parts (okPairs_get pre [] k h.pres hx)
      refine ready x.1 o6 fun j hj => ?_
      obtain ⟨y, hy, e⟩ := o1 j hj
      rw [List.nil_append] at hy
      obtain ⟨k', hk'⟩ := List.mem_iff_getElem?.1 hy
      have hlt : k' < k := by
        have := (List.getElem?_eq_some_iff.1 hk').1
        simp at this; omega
      rw [← e]
      refine ih k' hlt y ?_
      rw [List.getElem?_take_of_lt hlt] at hk'
      exact hk'
  rcases hl with rfl | ⟨i, pd, l'', rfl⟩
  · refine ⟨D, L, S, h.rest, ⟨h.asz, fun t v ht => ?_, h.dfr⟩, h.ext, h.hold⟩
    rcases h.tmps t v ht with ⟨x, hx, h1, _⟩ | h3
    · obtain ⟨k, hk⟩ := List.mem_iff_getElem?.1 hx
      rw [pend k x hk] at h1; cases h1
    · exact h3
  · exfalso
    have hok := h.ok
    simp only [okPairs, Bool.and_eq_true] at hok
    obtain ⟨o1, _, o3, _, _, o6⟩ := okAt_parts hok.1
    have hi : listed.getD i false = true := by
      refine ready i o6 fun j hj => ?_
      obtain ⟨y, hy, e⟩ := o1 j hj
      obtain ⟨k, hk⟩ := List.mem_iff_getElem?.1 hy
      rw [← e]; exact pend k y hk
    obtain ⟨y, hy, e⟩ := h.inPre i hi
    exact o3 y hy e

theorem ready_out {ops : Array Oper} {listed : Array Bool} {i : Nat} (hs : listed.size = ops.size) (hi : i ∈ Region.ready .any ops listed) :
    ∃ him : i < ops.size, listed.getD i false = false ∧ ∀ j ∈ afterOf ops i, listed.getD j false = true := by
  obtain ⟨hi1, hi2⟩ := List.mem_filter.1 hi
  have him := List.mem_range.1 hi1
  have hsz : i < listed.size := by rw [hs]; exact him
  have ho : ops[i]? = some ops[i] := by simp [him]
  rw [ho] at hi2
  simp only [Option.map_some, Option.getD_some, Bool.and_eq_true, Bool.not_eq_true'] at hi2
  refine ⟨him, ?_, ?_⟩
  · have := hi2.1
    simpa [Array.getD_eq_getD_getElem?, hsz] using this
  · intro j hj
    simp only [afterOf, ho] at hj
    obtain ⟨e, he, rfl⟩ := List.mem_map.1 hj
    obtain ⟨he1, he2⟩ := List.mem_filter.1 he
    have := hi2.2
    rw [Array.all_eq_true'] at this
    have := this e (by simpa using he1)
    simpa [he2] using this

theorem anc_out {ops : Array Oper} {A : List (List Nat)} {e1 e2 i : Nat} {listed : Array Bool} (hc : certX ops e1 e2 A = true) (him : i < ops.size) (clos : ∀ i, listed.getD i false = true → ∀ j ∈ A.getD i [], listed.getD j false = true)
    (hdep : ∀ j ∈ afterOf ops i, listed.getD j false = true) (hx : i = e2 → listed.getD e1 false = true) : ∀ j ∈ A.getD i [], listed.getD j false = true := by
  intro j hj
  have h1 := List.all_eq_true.1 hc i (List.mem_range.2 him)
  have h2 := List.all_eq_true.1 h1 j hj
  obtain ⟨e, he, h3⟩ := List.any_eq_true.1 h2
  have hel : listed.getD e false = true := by
    unfold afterX at he
    split at he
    · rcases List.mem_cons.1 he with rfl | he
      · exact hx ‹_›
      · exact hdep e he
    · exact hdep e he
  simp only [Bool.or_eq_true, beq_iff_eq, List.contains_eq_mem, decide_eq_true_eq] at h3
  rcases h3 with rfl | h3
  · exact hel
  · exact clos e hel j h3

/-- One that has been reckoned is taken. -/
theorem DInv.reckon {ops : Array Oper} {A : List (List Nat)} {K : Env → State → Prop} {D : List Nat} {w0 : World} {pre l : List Entry} {listed : Array Bool} {L : Env} {S : State} {a : Act} {w : World} {i : Nat}
    (h : DInv P n ops A K D w0 pre l listed L S a w) (hsz : i < listed.size) (hun : listed.getD i false = false) (hanc : ∀ j ∈ A.getD i [], listed.getD j false = true) (hin : ∃ x ∈ pre, x.1 = i) :
    ∃ o v, ops[i]? = some o ∧ Yielding P ops o a w v ∧ ((∀ c, o.op ≠ .defer c) ∨ Region.wanted o (yielded ops a.tmps) = false) ∧ DInv P n ops A K D w0 pre l (listed.setIfInBounds i true) L S (a.put o.dst v) w := by
  have hsize' : (listed.setIfInBounds i true).size = ops.size := by simp [h.size]
  have hclos' : ∀ k, (listed.setIfInBounds i true).getD k false = true → ∀ j ∈ A.getD k [], (listed.setIfInBounds i true).getD j false = true := by
    intro k hk j hj
    rw [getD_set hsz] at hk ⊢
    split
    · rfl
    · split at hk
      · subst_vars; exact hanc j hj
      · exact h.clos k hk j hj
  obtain ⟨x, hx, rfl⟩ := hin
  have hxe : x.2.1 = false := by
    cases hh : x.2.1 with
    | false => rfl
    | true => rw [h.effs x hx hh] at hun; cases hun
  obtain ⟨o, v, ho', ⟨d, hd, hdn, hv⟩, hf⟩ := h.facts x hx hun
  have hag : Agrees (o.looksAt ops) L a := by
    intro t ht u hu
    rcases h.tmps t u hu with ⟨y, hy, h1, h2⟩ | h3
    · exfalso
      have hye : y.2.1 = false := by
        cases hh : y.2.1 with
        | false => rfl
        | true => rw [h.effs y hy hh] at h1; cases h1
      have := hanc _ (h.prs x hx y hy hxe hye t h2 (by simpa [looksOf, ho'] using ht))
      rw [h1] at this; cases this
    · exact h3
  obtain ⟨hy, hnd⟩ := hf a w hag (fun _ => h.hold)
  refine ⟨o, v, ho', hy, hnd, ⟨hsize', ?_, ?_, hclos', ?_, ?_, h.prs, ?_, ?_, h.ext, h.hold, h.ok, h.pres, h.all, h.rest⟩⟩
  · intro k hk
    rw [getD_set hsz] at hk
    split at hk
    · exact ⟨x, hx, by subst_vars; rfl⟩
    · exact h.inPre k hk
  · intro y hy he
    rw [getD_set hsz]
    split
    · rfl
    · exact h.effs y hy he
  · intro t u hu
    by_cases htd : d = t
    · subst htd
      rw [hv] at hu; cases hu
      right
      simp [hd, Act.put, h.asz, hdn]
    · rcases h.tmps t u hu with ⟨y, hy, h1, h2⟩ | h3
      · refine .inl ⟨y, hy, ?_, h2⟩
        rw [getD_set hsz]
        rw [if_neg]
        · exact h1
        · intro e
          have : dstOf ops x.1 = some t := by rw [← e]; exact h2
          simp only [dstOf, ho', Option.bind_some, hd, Option.some.injEq] at this
          exact htd this
      · right
        simp only [hd, Act.put, Array.getElem?_setIfInBounds_ne htd]
        exact h3
  · intro y hy hyl
    refine h.facts y hy ?_
    rw [getD_set hsz] at hyl
    split at hyl
    · cases hyl
    · exact hyl
  · simp [hd, Act.put, h.asz]
  · simp only [hd, Act.put]; exact h.dfr

/-- The next one that changes something is taken. -/
theorem DInv.effect {ops : Array Oper} {A : List (List Nat)} {K : Cont} {D : List Nat} {w0 : World} {pre l'' : List Entry} {listed : Array Bool} {L : Env} {S : State} {a : Act} {w : World} {i : Nat} {pd : List Nat} {fuel : Nat}
    (h : DInv P n ops A (K .normal D) D w0 pre ((i, true, pd) :: l'') listed L S a w) (him : i < ops.size) (hun : listed.getD i false = false) (hanc : ∀ j ∈ A.getD i [], listed.getD j false = true) (hin : ¬ ∃ x ∈ pre, x.1 = i)
    (ih : ∀ (pre l : List Entry) (L : Env) (S : State) (a : Act) (w : World), DInv P n ops A (K .normal D) D w0 pre l (listed.setIfInBounds i true) L S a w → wpAnyIn (FW ro) 0 P .any ops (KQ n K w0) fuel (listed.setIfInBounds i true) a w) :
    wpOpIn (FW ro) 0 P ops (KQ n K w0) i (fun a' w' => wpAnyIn (FW ro) 0 P .any ops (KQ n K w0) fuel (listed.setIfInBounds i true) a' w') a w := by
  have hsz : i < listed.size := by rw [h.size]; exact him
  have ho : ops[i]? = some ops[i] := by simp [him]
  have hsize' : (listed.setIfInBounds i true).size = ops.size := by simp [h.size]
  have hclos' : ∀ k, (listed.setIfInBounds i true).getD k false = true → ∀ j ∈ A.getD k [], (listed.setIfInBounds i true).getD j false = true := by
    intro k hk j hj
    rw [getD_set hsz] at hk ⊢
    split
    · rfl
    · split at hk
      · subst_vars; exact hanc j hj
      · exact h.clos k hk j hj
  have hok := h.ok
  simp only [okPairs, Bool.and_eq_true] at hok
  obtain ⟨o1, o2, o3, o4, o5, o6⟩ := okAt_parts hok.1
  have hag : Agrees (ops[i].looksAt ops) L a := by
    intro t ht u hu
    rcases h.tmps t u hu with ⟨y, hy, h1, h2⟩ | h3
    · exfalso
      have hye : y.2.1 = false := by
        cases hh : y.2.1 with
        | false => rfl
        | true => rw [h.effs y hy hh] at h1; cases h1
      have := hanc _ ((o4 y hy hye).1 t h2 (by simpa [looksOf, ho] using ht))
      rw [h1] at this; cases this
    · exact h3
  have hrest := h.rest
  simp only [drawW, ho] at hrest
  -- behind it
  have next : ∀ (v : Value) (S' : State) (w' : World), Ext w w' → Hold w' S' → stillAll P ops pd (putT n (ops[i]).dst v L) S' (drawW P n ops (K .normal D) l'' (putT n (ops[i]).dst v L) S') →
      wpAnyIn (FW ro) 0 P .any ops (KQ n K w0) fuel (listed.setIfInBounds i true) (a.put (ops[i]).dst v) w' := by
    intro v S' w' he hh hst
    obtain ⟨hdraw, hstill⟩ := still_out pd hst
    have hdi : dstOf ops i = (ops[i]).dst := by simp [dstOf, ho]
    -- of an entry that is still to come to its place nothing has turned
    have away : ∀ y ∈ pre, (listed.setIfInBounds i true).getD y.1 false = false → y.2.1 = false ∧ listed.getD y.1 false = false ∧ y.1 ∉ A.getD i [] ∧
        ∀ d, (ops[i]).dst = some d → d ∉ looksOf ops y.1 ∧ dstOf ops y.1 ≠ some d := by
      intro y hy hyl
      rw [getD_set hsz] at hyl
      split at hyl
      · cases hyl
      · have hye : y.2.1 = false := by
          cases hh : y.2.1 with
          | false => rfl
          | true => rw [h.effs y hy hh] at hyl; cases hyl
        have hna : y.1 ∉ A.getD i [] := fun hm => by rw [hanc _ hm] at hyl; cases hyl
        exact ⟨hye, hyl, hna, fun d hd => ((o4 y hy hye).2.1 d (by rw [hdi]; exact hd)).resolve_right (fun hc => hna hc.2)⟩
    refine ih (pre ++ [(i, true, pd)]) l'' (putT n (ops[i]).dst v L) S' _ w' ⟨hsize', ?_, ?_, hclos', ?_, ?_, ?_, ?_, ?_, h.ext.trans he, hh, hok.2, okPairs_snoc _ _ h.pres (by simpa using hok.1), ?_, hdraw⟩
    · intro k hk
      rw [getD_set hsz] at hk
      split at hk
      · exact ⟨(i, true, pd), by simp, by subst_vars; rfl⟩
      · obtain ⟨y, hy, e⟩ := h.inPre k hk; exact ⟨y, List.mem_append_left _ hy, e⟩
    · intro y hy hye
      rw [getD_set hsz]
      split
      · rfl
      · rcases List.mem_append.1 hy with hy | hy
        · exact h.effs y hy hye
        · simp at hy; subst hy; exact absurd rfl ‹_›
    · intro t u hu
      rcases lookT_put hu with ⟨h1, h2, rfl⟩ | h1
      · right; simp [h1, Act.put, h.asz, h2]
      · by_cases hdt : (ops[i]).dst = some t ∧ t < n
        · have : lookT (putT n (ops[i]).dst v L) t = some v := by simp [hdt.1, putT, hdt.2, lookT]
          rw [this] at hu; cases hu
          right; simp [hdt.1, Act.put, h.asz, hdt.2]
        · have keep : a.tmps[t]? = some u → (a.put (ops[i]).dst v).tmps[t]? = some u := by
            intro hat
            cases hd : (ops[i]).dst with
            | none => exact hat
            | some d =>
              simp only [Act.put]
              by_cases e : d = t
              · subst e
                have := (Array.getElem?_eq_some_iff.1 hat).1
                rw [h.asz] at this
                exact absurd ⟨hd, this⟩ hdt
              · rw [Array.getElem?_setIfInBounds_ne e]; exact hat
          rcases h.tmps t u h1 with ⟨y, hy, h2, h3⟩ | h3
          · by_cases hyi : (listed.setIfInBounds i true).getD y.1 false = false
            · exact .inl ⟨y, List.mem_append_left _ hy, hyi, h3⟩
            · exfalso
              rw [getD_set hsz] at hyi
              split at hyi
              · exact hin ⟨y, hy, ‹_›⟩
              · exact hyi h2
          · exact .inr (keep h3)
    · intro y hy hyl
      rcases List.mem_append.1 hy with hy | hy
      · obtain ⟨hye, hyl', hna, hnd⟩ := away y hy hyl
        obtain ⟨o, v', ho', ⟨d, hd, hdn, hv⟩, hf⟩ := h.facts y hy hyl'
        have hlk : ∀ t, t ∈ o.looksAt ops ∨ t = d → lookT (putT n (ops[i]).dst v L) t = lookT L t := by
          intro t ht
          refine lookT_put_ne fun e => ?_
          obtain ⟨n1, n2⟩ := hnd t e
          rcases ht with ht | rfl
          · exact n1 (by simpa [looksOf, ho'] using ht)
          · exact n2 (by simp [dstOf, ho', hd])
        by_cases hrd : readsB o.op = true
        · have hmem : y.1 ∈ pd := by
            have := (o4 y hy hye).2.2 rfl (by simp [readsOf, ho', hrd])
            exact this.resolve_left hna
          obtain ⟨o2, d2, v2, e1, e2, e3, hq⟩ := hstill y.1 hmem
          rw [ho'] at e1; cases e1
          rw [hd] at e2; cases e2
          obtain ⟨v3, rfl, _, hq'⟩ := quiet_out hq
          refine ⟨o, v3, ho', ⟨d, hd, hdn, e3⟩, fun a' w'' ha hw => hq' a' w'' ha hw⟩
        · refine ⟨o, v', ho', ⟨d, hd, hdn, by rw [hlk d (.inr rfl)]; exact hv⟩, fun a' w'' ha _ => hf a' w'' (fun t ht u hu => ha t ht u (by rw [hlk t (.inl ht)]; exact hu)) (fun hh => absurd hh hrd)⟩
      · simp at hy; subst hy
        rw [getD_set hsz] at hyl; simp at hyl
    · intro x hx y hy hxe hye d' hd' hl'
      rcases List.mem_append.1 hx with hx | hx
      · rcases List.mem_append.1 hy with hy | hy
        · exact h.prs x hx y hy hxe hye d' hd' hl'
        · simp at hy; subst hy; cases hye
      · simp at hx; subst hx; cases hxe
    · cases (ops[i]).dst <;> simp [Act.put, h.asz]
    · cases (ops[i]).dst <;> exact h.dfr
    · intro j hj
      rcases h.all j hj with ⟨x, hx, e⟩ | ⟨x, hx, e⟩
      · exact .inl ⟨x, List.mem_append_left _ hx, e⟩
      · rcases List.mem_cons.1 hx with rfl | hx
        · exact .inl ⟨_, by simp, e⟩
        · exact .inr ⟨x, hx, e⟩
  unfold wpOpIn
  rw [ho]
  simp only
  rcases guard_agrees hag hrest with ⟨hw1, hs⟩ | ⟨hw1, hs⟩
  · rw [if_pos hw1]
    obtain ⟨ρ, hρ, hρe⟩ := full_rho hag
    refine ⟨fun _ _ => trivial, ?_⟩
    rw [Oper.semAt_eq _ _ _ (step_not_defer hs), ← execOp_congr _ (stepW_not_select hs) hρe]
    exact upon_next (step_next hρ hs) h.hold fun v S' w' hk he hh => next v S' w' he hh hk
  · rw [if_neg (by simp [hw1])]
    exact ⟨fun _ _ => trivial, next undef S w (Ext.refl w) h.hold hs⟩

theorem DInv.norm2 {ops : Array Oper} {A : List (List Nat)} {K : Env → State → Prop} {D : List Nat} {w0 : World} : ∀ (l pre : List Entry) (listed : Array Bool) (L : Env) (S : State) (a : Act) (w : World),
    DInv P n ops A K D w0 pre l listed L S a w → ∃ pre' l' L', DInv P n ops A K D w0 pre' l' listed L' S a w ∧ (l' = [] ∨ ∃ i pend l'', l' = (i, true, pend) :: l'') ∧ ∃ q, l = q ++ l' ∧ ∀ x ∈ q, x.2.1 = false
  | [], pre, listed, L, S, a, w, h => ⟨pre, [], L, h, .inl rfl, [], rfl, by simp⟩
  | (i, true, pend) :: l, pre, listed, L, S, a, w, h => ⟨pre, _, L, h, .inr ⟨i, pend, l, rfl⟩, [], rfl, by simp⟩
  | (i, false, pend) :: l, pre, listed, L, S, a, w, h => by
    have hok := h.ok
    simp only [okPairs, Bool.and_eq_true] at hok
    obtain ⟨o1, o2, o3, o4, o5, o6⟩ := okAt_parts hok.1
    obtain ⟨d, hd, hdn, hdl⟩ := o5 rfl
    have hr := h.rest
    simp only [drawW] at hr
    cases ho : ops[i]? with
    | none => rw [ho] at hr; exact hr.elim
    | some o =>
      rw [ho] at hr
      simp only at hr
      obtain ⟨v, hk, _, hq⟩ := quiet_out hr
      have hdo : o.dst = some d := by simpa [dstOf, ho] using hd
      have hlo : looksOf ops i = o.looksAt ops := by simp [looksOf, ho]
      have hunl : listed.getD i false = false := by
        cases hx : listed.getD i false with
        | false => rfl
        | true => obtain ⟨y, hy, e⟩ := h.inPre i hx; exact absurd e (o3 y hy)
      have hL : putT n o.dst v L = (d, v) :: L := by simp [putT, hdo, hdn]
      rw [hL] at hk
      have keepA : ∀ (ts : List Tmp) (a' : Act), d ∉ ts → Agrees ts ((d, v) :: L) a' → Agrees ts L a' := by
        intro ts a' hn ha t ht u hu
        refine ha t ht u ?_
        simp only [lookT]
        rw [if_neg (fun e => hn (by rw [← e]; exact ht))]
        exact hu
      have wrap : (∃ pre' l' L', DInv P n ops A K D w0 pre' l' listed L' S a w ∧ (l' = [] ∨ ∃ i pend l'', l' = (i, true, pend) :: l'') ∧ ∃ q, l = q ++ l' ∧ ∀ x ∈ q, x.2.1 = false) →
          ∃ pre' l' L', DInv P n ops A K D w0 pre' l' listed L' S a w ∧ (l' = [] ∨ ∃ i pend l'', l' = (i, true, pend) :: l'') ∧ ∃ q, (i, false, pend) :: l = q ++ l' ∧ ∀ x ∈ q, x.2.1 = false := by
        rintro ⟨pre', l', L', h1, h2, q, h3, h4⟩
        refine ⟨pre', l', L', h1, h2, (i, false, pend) :: q, by rw [h3]; rfl, fun x hx => ?_⟩
        rcases List.mem_cons.1 hx with rfl | hx
        · rfl
        · exact h4 x hx
      refine wrap (DInv.norm2 l (pre ++ [(i, false, pend)]) listed ((d, v) :: L) S a w ⟨h.size, ?_, ?_, h.clos, ?_, ?_, ?_, h.asz, h.dfr, h.ext, h.hold, hok.2, okPairs_snoc _ _ h.pres (by simpa using hok.1), ?_, hk⟩)
      · intro j hj; obtain ⟨x, hx, e⟩ := h.inPre j hj; exact ⟨x, List.mem_append_left _ hx, e⟩
      · intro x hx he
        rcases List.mem_append.1 hx with hx | hx
        · exact h.effs x hx he
        · simp at hx; subst hx; cases he
      · intro t u hu
        simp only [lookT] at hu
        split at hu
        · subst_vars; exact .inl ⟨(i, false, pend), by simp, hunl, hd⟩
        · rcases h.tmps t u hu with ⟨x, hx, h1, h2⟩ | h3
          · exact .inl ⟨x, List.mem_append_left _ hx, h1, h2⟩
          · exact .inr h3
      · intro x hx hxl
        rcases List.mem_append.1 hx with hx | hx
        · obtain ⟨o', v', h1, ⟨d', h2, h3, h4⟩, h5⟩ := h.facts x hx hxl
          have hxe : x.2.1 = false := by
            cases hh : x.2.1 with
            | false => rfl
            | true => rw [h.effs x hx hh] at hxl; cases hxl
          have hne := ((o4 x hx hxe).2.1 d hd).resolve_right (fun hh => by cases hh.1)
          have hd' : dstOf ops x.1 = some d' := by simp [dstOf, h1, h2]
          refine ⟨o', v', h1, ⟨d', h2, h3, ?_⟩, fun a' w' ha hw => h5 a' w' (keepA _ a' (by simpa [looksOf, h1] using hne.1) ha) hw⟩
          simp only [lookT]
          rw [if_neg (fun e => hne.2 (by rw [hd', e]))]
          exact h4
        · simp at hx; subst hx
          refine ⟨o, v, ho, ⟨d, hdo, hdn, by simp [lookT]⟩, fun a' w' ha hw => hq a' w' (keepA _ a' (by rw [← hlo]; exact hdl) ha) hw⟩
      · intro x hx y hy hxe hye d' hd' hl'
        rcases List.mem_append.1 hx with hx | hx
        · rcases List.mem_append.1 hy with hy | hy
          · exact h.prs x hx y hy hxe hye d' hd' hl'
          · simp at hy; subst hy
            rw [hd] at hd'; cases hd'
            exact absurd hl' (((o4 x hx hxe).2.1 d hd).resolve_right (fun hh => by cases hh.1)).1
        · simp at hx; subst hx
          rcases List.mem_append.1 hy with hy | hy
          · exact (o4 y hy hye).1 d' hd' hl'
          · simp at hy; subst hy
            rw [hd] at hd'; cases hd'
            exact absurd hl' hdl
      · intro j hj
        rcases h.all j hj with ⟨x, hx, e⟩ | ⟨x, hx, e⟩
        · exact .inl ⟨x, List.mem_append_left _ hx, e⟩
        · rcases List.mem_cons.1 hx with rfl | hx
          · exact .inl ⟨_, by simp, e⟩
          · exact .inr ⟨x, hx, e⟩

theorem nil_of_count {ops : Array Oper} {listed : Array Bool} (hs : listed.size = ops.size) (hle : ((List.range ops.size).filter fun i => !listed.getD i false).length ≤ 0) : Region.ready .any ops listed = [] := by
  have h0 : ((List.range ops.size).filter fun i => !listed.getD i false) = [] := List.eq_nil_of_length_eq_zero (Nat.le_zero.1 hle)
  unfold Region.ready
  rw [List.filter_eq_nil_iff] at h0 ⊢
  intro i hi
  have := h0 i hi
  have hsz : i < listed.size := by rw [hs]; exact List.mem_range.1 hi
  simp only [Array.getD_eq_getD_getElem?, hsz, Array.getElem?_eq_getElem, Option.getD_some] at this ⊢
  simp only [Bool.not_eq_true', Bool.not_eq_false] at this
  simp [this]
theorem count_next {ops : Array Oper} {listed : Array Bool} {i fuel : Nat} (him : i < ops.size) (hsz : i < listed.size) (hun : listed.getD i false = false) (hle : ((List.range ops.size).filter fun i => !listed.getD i false).length ≤ fuel + 1) :
    ((List.range ops.size).filter fun k => !(listed.setIfInBounds i true).getD k false).length ≤ fuel := by
  have := filter_less (p := fun k => !listed.getD k false) (q := fun k => !(listed.setIfInBounds i true).getD k false) (i := i) (List.range ops.size) (fun x hx => by
    simp only [getD_set hsz] at hx
    split at hx
    · simp at hx
    · exact hx) (List.mem_range.2 him) (by simp [hun]) (by simp [getD_set hsz])
  omega

/-- Once e1 is done there is one order. -/
theorem draw_late {ops : Array Oper} {A : List (List Nat)} {K : Cont} {D : List Nat} {w0 : World} {e1 e2 : Nat} (hc : certX ops e1 e2 A = true) : ∀ (fuel : Nat) (pre l : List Entry) (listed : Array Bool) (L : Env) (S : State) (a : Act) (w : World),
    DInv P n ops A (K .normal D) D w0 pre l listed L S a w → listed.getD e1 false = true → ((List.range ops.size).filter fun i => !listed.getD i false).length ≤ fuel →
    wpAnyIn (FW ro) 0 P .any ops (KQ n K w0) fuel listed a w := by
  intro fuel
  induction fuel with
  | zero =>
    intro pre l listed L S a w h _ hle
    have hr := nil_of_count h.size hle
    exact ⟨hr, draw_fin h hr⟩
  | succ fuel ih =>
    intro pre l listed L S a w h h1 hle
    refine ⟨fun hr => draw_fin h hr, fun i hi => ?_⟩
    obtain ⟨pre, l, L, h, hl⟩ := h.norm
    obtain ⟨him, hun, hdep⟩ := ready_out h.size hi
    have hsz : i < listed.size := by rw [h.size]; exact him
    have hanc := anc_out hc him h.clos hdep (fun _ => h1)
    have hcount := count_next him hsz hun hle
    have h1' : (listed.setIfInBounds i true).getD e1 false = true := by rw [getD_set hsz]; split <;> first | rfl | exact h1
    by_cases hin : ∃ x ∈ pre, x.1 = i
    · obtain ⟨o, v, ho, hy, hnd, h'⟩ := h.reckon hsz hun hanc hin
      exact yielding_in ho hy hnd (ih pre l _ L S _ w h' h1' hcount)
    · have hnx : ∃ pd l'', l = (i, true, pd) :: l'' := by
        rcases (h.all i him).resolve_left hin with ⟨x, hx, he⟩
        rcases hl with rfl | ⟨j, pd, l'', rfl⟩
        · cases hx
        · rcases List.mem_cons.1 hx with rfl | hx
          · cases he; exact ⟨pd, l'', rfl⟩
          · exfalso
            have hok := h.ok
            simp only [okPairs, Bool.and_eq_true] at hok
            obtain ⟨q, hq⟩ := okPairs_mem l'' _ hok.2 x hx
            obtain ⟨_, o2, _⟩ := okAt_parts hq
            have := hanc j (by rw [← he]; exact o2 (j, true, pd) (by simp) rfl)
            obtain ⟨y, hy, e⟩ := h.inPre j this
            obtain ⟨_, _, o3, _⟩ := okAt_parts hok.1
            exact o3 y hy e
      obtain ⟨pd, l'', rfl⟩ := hnx
      exact h.effect him hun hanc hin fun pre l L S a w h' => ih pre l _ L S a w h' h1' hcount

theorem quiet_first {ops : Array Oper} {A : List (List Nat)} {K : Env → State → Prop} {D : List Nat} {w0 : World} {pre l : List Entry} {listed : Array Bool} {L : Env} {S : State} {a : Act} {w : World} {e i : Nat} {pd : List Nat}
    (h : DInv P n ops A K D w0 pre ((e, true, pd) :: l) listed L S a w) (him : i < ops.size) (hne : i ≠ e) (hun : listed.getD e false = false) (hanc : ∀ j ∈ A.getD i [], listed.getD j false = true) : ∃ x ∈ pre, x.1 = i := by
  rcases h.all i him with hx | ⟨x, hx, he⟩
  · exact hx
  · exfalso
    rcases List.mem_cons.1 hx with rfl | hx
    · exact hne he.symm
    · have hok := h.ok
      simp only [okPairs, Bool.and_eq_true] at hok
      obtain ⟨q, hq⟩ := okPairs_mem l _ hok.2 x hx
      obtain ⟨_, o2, _⟩ := okAt_parts hq
      have := hanc e (by rw [← he]; exact o2 (e, true, pd) (by simp) rfl)
      rw [hun] at this; cases this
theorem not_pre {ops : Array Oper} {A : List (List Nat)} {K : Env → State → Prop} {D : List Nat} {w0 : World} {pre l : List Entry} {listed : Array Bool} {L : Env} {S : State} {a : Act} {w : World} {e : Nat} {pd : List Nat}
    (h : DInv P n ops A K D w0 pre ((e, true, pd) :: l) listed L S a w) : ¬ ∃ x ∈ pre, x.1 = e := by
  have hok := h.ok
  simp only [okPairs, Bool.and_eq_true] at hok
  obtain ⟨_, _, o3, _⟩ := okAt_parts hok.1
  rintro ⟨x, hx, e⟩
  exact o3 x hx e

/-- While neither is done nothing changes. -/
theorem draw_both {ops : Array Oper} {A1 A2 : List (List Nat)} {K : Cont} {D : List Nat} {w0 : World} {e1 e2 : Nat} {pre1 pre2 l1 l2 : List Entry} {pd1 pd2 : List Nat} {L1 L2 : Env} {S1 S2 : State} (hc1 : certX ops e1 e2 A1 = true) (hc2 : certX ops e2 e1 A2 = true) (hne : e1 ≠ e2) :
    ∀ (fuel : Nat) (listed : Array Bool) (a : Act) (w : World), DInv P n ops A1 (K .normal D) D w0 pre1 ((e1, true, pd1) :: l1) listed L1 S1 a w → DInv P n ops A2 (K .normal D) D w0 pre2 ((e2, true, pd2) :: l2) listed L2 S2 a w →
    listed.getD e1 false = false → listed.getD e2 false = false → ((List.range ops.size).filter fun i => !listed.getD i false).length ≤ fuel → wpAnyIn (FW ro) 0 P .any ops (KQ n K w0) fuel listed a w := by
  intro fuel
  induction fuel with
  | zero =>
    intro listed a w h _ _ _ hle
    have hr := nil_of_count h.size hle
    exact ⟨hr, draw_fin h hr⟩
  | succ fuel ih =>
    intro listed a w h1 h2 u1 u2 hle
    refine ⟨fun hr => draw_fin h1 hr, fun i hi => ?_⟩
    obtain ⟨him, hun, hdep⟩ := ready_out h1.size hi
    have hsz : i < listed.size := by rw [h1.size]; exact him
    have hcount := count_next him hsz hun hle
    by_cases i1 : i = e1
    · subst i1
      exact h1.effect him hun (anc_out hc1 him h1.clos hdep (fun e => absurd e hne)) (not_pre h1) fun pre l L S a w h' => draw_late hc1 fuel pre l _ L S a w h' (by rw [getD_set hsz, if_pos rfl]) hcount
    by_cases i2 : i = e2
    · subst i2
      exact h2.effect him hun (anc_out hc2 him h2.clos hdep (fun e => absurd e.symm hne)) (not_pre h2) fun pre l L S a w h' => draw_late hc2 fuel pre l _ L S a w h' (by rw [getD_set hsz, if_pos rfl]) hcount
    have a1 := anc_out hc1 him h1.clos hdep (fun e => absurd e i2)
    have a2 := anc_out hc2 him h2.clos hdep (fun e => absurd e i1)
    obtain ⟨o, v, ho, hy, hnd, h1'⟩ := h1.reckon hsz hun a1 (quiet_first h1 him i1 u1 a1)
    obtain ⟨o', v', ho', hy', hnd', h2'⟩ := h2.reckon hsz hun a2 (quiet_first h2 him i2 u2 a2)
    rw [ho] at ho'
    cases ho'
    have hv : v = v' := by
      rcases hy with ⟨x1, x2⟩ | ⟨x1, x2⟩ <;> rcases hy' with ⟨y1, y2⟩ | ⟨y1, y2⟩
      · rw [x2] at y2
        cases y2; rfl
      · rw [x1] at y1; cases y1
      · rw [x1] at y1; cases y1
      · rw [x2, y2]
    subst hv
    exact yielding_in ho hy hnd (ih _ _ w h1' h2' (by rw [getD_set hsz, if_neg (Ne.symm i1)]; exact u1) (by rw [getD_set hsz, if_neg (Ne.symm i2)]; exact u2) hcount)

def firstE : List Entry → Option Nat
  | [] => none
  | (i, true, _) :: _ => some i
  | (_, false, _) :: l => firstE l
theorem firstE_skip : ∀ (q l : List Entry), (∀ x ∈ q, x.2.1 = false) → firstE (q ++ l) = firstE l
  | [], _, _ => rfl
  | (i, true, pd) :: q, l, h => by have := h (i, true, pd) (by simp); cases this
  | (i, false, pd) :: q, l, h => by
    rw [List.cons_append, firstE]
    exact firstE_skip q l fun x hx => h x (List.mem_cons_of_mem _ hx)

def okTwo (ops : Array Oper) (e1 e2 : Nat) (A1 A2 : List (List Nat)) (n : Nat) (pl1 pl2 : List Entry) : Bool :=
  certX ops e1 e2 A1 && (certX ops e2 e1 A2 && (e1 != e2 && (okPairs ops A1 n [] pl1 && (okPairs ops A2 n [] pl2 && (((List.range ops.size).all fun i => pl1.any (·.1 == i)) && (((List.range ops.size).all fun i => pl2.any (·.1 == i)) && (firstE pl1 == some e1 && firstE pl2 == some e2)))))))

theorem DInv.start {ops : Array Oper} {A : List (List Nat)} {K : Cont} {D : List Nat} {L : Env} {S : State} {a : Act} {w : World} {pl : List Entry} (ha : Agree n L D a) (hw : Hold w S) (hok : okPairs ops A n [] pl = true)
    (hall : (List.range ops.size).all (fun i => pl.any (·.1 == i)) = true) (h : drawW P n ops (K .normal D) pl L S) : DInv P n ops A (K .normal D) D w [] pl (Array.replicate ops.size false) L S a { w with drawn := w.drawn + 1 } := by
  have h0 : ∀ i, (Array.replicate ops.size false).getD i false = false := by
    intro i; simp only [Array.getD_eq_getD_getElem?, Array.getElem?_replicate]; split <;> rfl
  have hw' : Hold { w with drawn := w.drawn + 1 } S := ⟨hw.nd, hw.get⟩
  have he : Ext w { w with drawn := w.drawn + 1 } := ⟨rfl, rfl, rfl, Nat.le_refl _⟩
  refine ⟨by simp, ?_, ?_, ?_, ?_, ?_, ?_, ha.size, ha.marks, he, hw', hok, rfl, ?_, h⟩
  · intro i hi; rw [h0] at hi; cases hi
  · intro x hx; cases hx
  · intro i hi; rw [h0] at hi; cases hi
  · intro t v ht; exact .inr (ha.get t v ht)
  · intro x hx; cases hx
  · intro x hx; cases hx
  · intro i hi
    have := List.all_eq_true.1 hall i (List.mem_range.2 hi)
    obtain ⟨x, hx, e⟩ := List.any_eq_true.1 this
    exact .inr ⟨x, hx, by simpa using e⟩

/-- The rule: a plan for each of the two orders, and both walks. -/
theorem code_draw2 {id : Nat} {ops : Array Oper} {K : Cont} {D : List Nat} {L : Env} {S : State} (e1 e2 : Nat) (A1 : List (List Nat)) (pl1 : List Entry) (A2 : List (List Nat)) (pl2 : List Entry)
    (h1 : drawW P n ops (K .normal D) pl1 L S) (h2 : drawW P n ops (K .normal D) pl2 L S) (hm : P.follows .mixedOrders = true := by kernel_rfl)
    (hok : okTwo ops e1 e2 A1 A2 n pl1 pl2 = true := by kernel_rfl) : CodeW P n ro (.region id ops true) K D L S := by
  refine ⟨fun a w ha hw => ?_⟩
  refine wpIn_region_any hm ?_
  simp only [okTwo, Bool.and_eq_true, beq_iff_eq, bne_iff_ne, ne_eq] at hok
  obtain ⟨c1, c2, hne, p1, p2, all1, all2, f1, f2⟩ := hok
  obtain ⟨pre1, l1, L1, d1, g1, q1, k1, z1⟩ := (DInv.start (K := K) ha hw p1 all1 h1).norm2
  obtain ⟨pre2, l2, L2, d2, g2, q2, k2, z2⟩ := (DInv.start (K := K) ha hw p2 all2 h2).norm2
  rw [k1, firstE_skip q1 l1 z1] at f1
  rw [k2, firstE_skip q2 l2 z2] at f2
  rcases g1 with rfl | ⟨i1, pd1, l1, rfl⟩
  · cases f1
  rcases g2 with rfl | ⟨i2, pd2, l2, rfl⟩
  · cases f2
  simp only [firstE, Option.some.injEq] at f1 f2
  subst f1 f2
  have h0 : ∀ i, (Array.replicate ops.size false).getD i false = false := by
    intro i; simp only [Array.getD_eq_getD_getElem?, Array.getElem?_replicate]; split <;> rfl
  exact draw_both c1 c2 hne ops.size _ a _ d1 d2 (h0 _) (h0 _) (Nat.le_trans (List.length_filter_le _ _) (by simp))

end Go.Ost

/- Structures compared: cell by cell. Conditions: as each says. -/
set_option linter.unusedSimpArgs false
set_option linter.unusedVariables false
namespace Go.Ost
open Go

variable {P : Program}

inductive EK | i | s | b
def ekB (P : Program) (t : TypeId) : EK → Bool
  | .i => match P.underlying t with | some (.int _) => true | _ => false
  | .s => match P.underlying t with | some .string => true | _ => false
  | .b => match P.underlying t with | some .bool => true | _ => false
def eqFieldsB (P : Program) : Nat → List Field → List EK → Bool
  | _, [], [] => true
  | i, f :: fs, k :: ks => f.name != "_" && (f.offset == i && (ekB P f.type k && eqFieldsB P (i + 1) fs ks))
  | _, _, _ => false
def eqB (P : Program) (t : TypeId) (ks : List EK) : Bool :=
  match P.underlying t with
  | some (.struct fs) => eqFieldsB P 0 fs.toList ks && (!P.stoodInHeld t && !P.eqGuardType P.depth t)
  | _ => false
class TEq (P : Program) (t : TypeId) (ks : outParam (List EK)) : Prop where
  ok : eqB P t ks = true

def eqL : List EK → List Value → List Value → Option Bool
  | [], [], [] => some true
  | .i :: ks, .int k a :: xs, .int k' b :: ys => if k = k' then (eqL ks xs ys).map fun r => (a == b) && r else none
  | .s :: ks, .string a :: xs, .string b :: ys => (eqL ks xs ys).map fun r => (a.data.toList == b.data.toList) && r
  | .b :: ks, .bool a :: xs, .bool b :: ys => (eqL ks xs ys).map fun r => (a == b) && r
  | _, _, _ => none

theorem part_plain {t : TypeId} {k : EK} (h : ekB P t k = true) {X : Array Value} {i : Nat} {v : Value} (hv : X[i]? = some v) (w : World) : (part t X i).run P w = .ok v w := by
  have hu : ∃ u, P.underlying t = some u ∧ (∀ fs, u ≠ .struct fs) ∧ ∀ n e, u ≠ .array n e := by
    cases k <;> simp only [ekB] at h <;> (cases hu : P.underlying t with | none => rw [hu] at h; cases h | some u => rw [hu] at h; cases u <;> first | (cases h; done) | exact ⟨_, rfl, by simp, by simp⟩)
  obtain ⟨u, hu, h1, h2⟩ := hu
  have hA : (isAgg t).run P w = .ok false w := by
    simp only [isAgg, Sem.run_bind, run_underlying hu, Result.andThen_ok]
    cases u <;> first | rfl | exact absurd rfl (h1 _) | exact absurd rfl (h2 _ _)
  simp [part, Sem.run_bind, hA, Result.andThen, hv]

theorem eq_fields (d : Nat) (X Y : Array Value) (w : World) : ∀ (fs : List Field) (ks : List EK) (i : Nat) (xs ys : List Value) (r : Bool), eqFieldsB P i fs ks = true → eqL ks xs ys = some r →
    (∀ j, j < xs.length → X[i + j]? = xs[j]?) → (∀ j, j < ys.length → Y[i + j]? = ys[j]?) → (Op.eqFields (d + 1) X Y fs).run P w = .ok r w := by
  intro fs
  induction fs with
  | nil =>
    intro ks i xs ys r h1 h2 hX hY
    cases ks with
    | cons k ks => cases h1
    | nil =>
      cases xs with
      | cons x xs => cases h2
      | nil =>
        cases ys with
        | cons y ys => cases h2
        | nil => cases h2; simp [Op.eqFields]
  | cons f fs ih =>
    intro ks i xs ys r h1 h2 hX hY
    cases ks with
    | nil => cases h1
    | cons k ks =>
      simp only [eqFieldsB, Bool.and_eq_true, bne_iff_ne, ne_eq, beq_iff_eq] at h1
      obtain ⟨hn, ho, hk, hr⟩ := h1
      have step : ∀ (x y : Value) (xs' ys' : List Value) (q r' : Bool), xs = x :: xs' → ys = y :: ys' → (Op.equalIn (d + 1) f.type x y).run P w = .ok q w → eqL ks xs' ys' = some r' → r = (q && r') → (Op.eqFields (d + 1) X Y (f :: fs)).run P w = .ok r w := by
        rintro x y xs' ys' q r' rfl rfl hq hl rfl
        have e1 := part_plain hk (X := X) (i := f.offset) (v := x) (by rw [ho]; simpa using hX 0 (by simp)) w
        have e2 := part_plain hk (X := Y) (i := f.offset) (v := y) (by rw [ho]; simpa using hY 0 (by simp)) w
        have ht := ih ks (i + 1) xs' ys' r' hr hl (fun j hj => by have := hX (j + 1) (by simpa using hj); rw [← Nat.add_assoc, Nat.add_right_comm] at this; simpa using this)
          (fun j hj => by have := hY (j + 1) (by simpa using hj); rw [← Nat.add_assoc, Nat.add_right_comm] at this; simpa using this)
        simp only [Op.eqFields, hn, ne_eq, not_false_eq_true, if_true, Sem.run_bind, e1, e2, hq, Result.andThen_ok]
        cases q
        · simp
        · simpa using ht
      cases k with
      | i =>
        cases xs with
        | nil => cases h2
        | cons x xs =>
          cases x <;> first | (cases h2; done) | skip
          cases ys with
          | nil => cases h2
          | cons y ys =>
            cases y <;> first | (cases h2; done) | skip
            rename_i k a k' b
            simp only [eqL] at h2
            split at h2
            · subst_vars
              cases hl : eqL ks xs ys with
              | none => rw [hl] at h2; cases h2
              | some r' =>
                rw [hl] at h2
                simp only [Option.map_some, Option.some.injEq] at h2
                simp only [ekB] at hk
                refine step _ _ xs ys (a == b) r' rfl rfl ?_ hl h2.symm
                cases hu : P.underlying f.type with
                | none => rw [hu] at hk; cases hk
                | some u =>
                  rw [hu] at hk
                  cases u <;> first | (cases hk; done) | exact run_equalIn_int w d f.type _ _ a b hu
            · cases h2
      | s =>
        cases xs with
        | nil => cases h2
        | cons x xs =>
          cases x <;> first | (cases h2; done) | skip
          cases ys with
          | nil => cases h2
          | cons y ys =>
            cases y <;> first | (cases h2; done) | skip
            rename_i a b
            simp only [eqL] at h2
            cases hl : eqL ks xs ys with
            | none => rw [hl] at h2; cases h2
            | some r' =>
              rw [hl] at h2
              simp only [Option.map_some, Option.some.injEq] at h2
              simp only [ekB] at hk
              refine step _ _ xs ys (a.data.toList == b.data.toList) r' rfl rfl ?_ hl h2.symm
              cases hu : P.underlying f.type with
              | none => rw [hu] at hk; cases hk
              | some u =>
                rw [hu] at hk
                cases u <;> first | (cases hk; done) | (rw [run_equalIn_string w d f.type a b hu, ByteArray.toList_eq, ByteArray.toList_eq]; done)
      | b =>
        cases xs with
        | nil => cases h2
        | cons x xs =>
          cases x <;> first | (cases h2; done) | skip
          cases ys with
          | nil => cases h2
          | cons y ys =>
            cases y <;> first | (cases h2; done) | skip
            rename_i a b
            simp only [eqL] at h2
            cases hl : eqL ks xs ys with
            | none => rw [hl] at h2; cases h2
            | some r' =>
              rw [hl] at h2
              simp only [Option.map_some, Option.some.injEq] at h2
              simp only [ekB] at hk
              refine step _ _ xs ys (a == b) r' rfl rfl ?_ hl h2.symm
              cases hu : P.underlying f.type with
              | none => rw [hu] at hk; cases hk
              | some u =>
                rw [hu] at hk
                cases u <;> first | (cases hk; done) | exact run_equalIn_bool' w d f.type a b hu

section rules
variable {t : TypeId} {ks : List EK} {x y : Operand} {xs ys : List Value} {r : Bool} {κ : Value → Prop}
theorem eq_run [h : TEq P t ks] (hl : eqL ks xs ys = some r) (w : World) : P.eqGuardType P.depth t = false ∧ (Op.equalIn 10000 t (.agg xs.toArray) (.agg ys.toArray)).run P w = .ok r w := by
  have hk := h.ok
  unfold eqB at hk
  split at hk
  · rename_i fs hu
    simp only [Bool.and_eq_true, Bool.not_eq_true'] at hk
    obtain ⟨h1, h2, h3⟩ := hk
    have hf : P.fieldsOf t = fs := by unfold Program.fieldsOf; rw [hu]
    refine ⟨h3, ?_⟩
    rw [show 10000 = 9998 + 1 + 1 from rfl, run_equalIn_agg w (9998 + 1) t xs.toArray ys.toArray (by rw [hf]; exact hu) h2, hf]
    exact eq_fields 9998 _ _ w _ ks 0 xs ys r h1 hl (fun j _ => by simp) (fun j _ => by simp)
  · cases hk
theorem agg_eql [h : TEq P t ks] (hl : eqL ks xs ys = some r) : PureW P (do eqGuard .eql t x y (.agg xs.toArray) (.agg ys.toArray); binOp .eql t (.agg xs.toArray) (.agg ys.toArray)) κ = κ (.bool r) :=
  pureW_eq (fun w => by
    obtain ⟨h1, h2⟩ := eq_run (P := P) (t := t) hl w
    simp only [Sem.run_bind, run_eqGuard_agg w .eql t x y xs.toArray ys.toArray h1, Result.andThen_ok, run_eql_struct, h2]) κ
theorem agg_neq [h : TEq P t ks] (hl : eqL ks xs ys = some r) : PureW P (do eqGuard .neq t x y (.agg xs.toArray) (.agg ys.toArray); binOp .neq t (.agg xs.toArray) (.agg ys.toArray)) κ = κ (.bool (!r)) :=
  pureW_eq (fun w => by
    obtain ⟨h1, h2⟩ := eq_run (P := P) (t := t) hl w
    simp only [Sem.run_bind, run_eqGuard_agg w .neq t x y xs.toArray ys.toArray h1, Result.andThen_ok, run_neq_struct, h2]) κ
end rules

end Go.Ost

/- From a contract to a law's row: all of the world's blocks are as they were. Conditions: as each says. -/
set_option linter.unusedSimpArgs false
set_option linter.unusedVariables false
namespace Go.Ost
open Go Go.ChangeShapes Go.WideShapes Go.ChangeAt Go.RowKit

variable {P : Program}

/-- The blocks of a world. -/
def blocksOf (w : World) : Chunk := (List.range w.heap.size).map fun b => (b, (w.heap[b]?).getD (.deferred (some [])))
theorem blocks_in {w : World} {b : Nat} {o : Obj} (h : w.heap[b]? = some o) : (b, o) ∈ blocksOf w :=
  List.mem_map.2 ⟨b, List.mem_range.2 (Array.getElem?_eq_some_iff.1 h).1, by rw [h]; rfl⟩
theorem blocks_out {w : World} {b : Nat} {o : Obj} (h : (b, o) ∈ blocksOf w) : w.heap[b]? = some o := by
  obtain ⟨c, hc, he⟩ := List.mem_map.1 h
  have hlt := List.mem_range.1 hc
  cases he
  rw [Array.getElem?_eq_getElem hlt]; rfl
theorem hold_blocks (w : World) : Hold w [blocksOf w] := by
  refine ⟨?_, fun b o hm => blocks_out (by simpa using hm)⟩
  have e : (blocksOf w).map (·.1) = List.range w.heap.size := by
    unfold blocksOf
    rw [List.map_map]
    exact (List.map_congr_left fun a _ => rfl).trans (List.map_id _)
  simp only [List.flatten_cons, List.flatten_nil, List.append_nil, e]
  exact List.nodup_range

/-- What a law's contract gives of its call: true, and all that was there as it was. -/
theorem law_calls {f : FuncId} {args : Array Value} (w : World) (h : ∀ C : Chunk, (∀ k o, w.heap[k]? = some o → (k, o) ∈ C) → Meets P f args.toList [C] fun v A => v = .bool true ∧ A = [C]) :
    Calls P f args w fun e w' => e = .returned (.bool true) ∧ Below w.heap.size w w' := by
  have h1 := (h (blocksOf w) fun k o => blocks_in).out [] w (by simpa [List.flatten] using (hold_blocks w).perm (by simp))
  refine callsIn_wide.1 (h1.mono ?_)
  rintro e w' ⟨v, S, rfl, he, hh, A, rfl, rfl, rfl⟩
  refine ⟨rfl, he.os, he.tape, he.output, he.size, fun k hk => ?_⟩
  rw [Array.getElem?_eq_getElem hk]
  exact hh.get _ _ (by simpa using blocks_in (Array.getElem?_eq_getElem hk))

theorem Meets.keep {f : FuncId} {args : List Value} {x : Value} (C : Chunk) (h : Meets P f args [] fun v A => v = x ∧ A = []) : Meets P f args [C] fun v A => v = x ∧ A = [C] := by
  refine ⟨h.1, fun F w hw => (h.2 (F ++ C) w (hw.perm (by simp))).mono ?_⟩
  rintro e w' ⟨v, S, rfl, he, hh, A, rfl, rfl, rfl⟩
  exact ⟨_, _, rfl, he, hh.perm (T := [F, C]) (by simp), _, rfl, rfl, rfl⟩

/-- A slice of numbers, as the reading ahead of the call has it: its block lies in C. -/
def Row (C : Chunk) (k : IntKind) (v : Value) (zs : List Int) : Prop :=
  (∀ z ∈ zs, (Lit.int k z).wf = true) ∧ ∃ a len cap, v = .slice a len cap ∧ len ≤ cap ∧ cap ≤ maxLen ∧ zs.length = len ∧
    (0 < len → ∃ b o cs e m, a = some ⟨b, o, none⟩ ∧ (b, Obj.cells cs e m) ∈ C ∧ ∀ i, i < len → cs[o + i]? = some (.int k (zs.getD i 0)))

theorem open_slc {H : Type} {enc : TypeId × Value → H} {W : World} {base : Nat} {t e : TypeId} {k : IntKind} {v : Value} {d : DataW H} {ps : List MemPlace} (ht : P.underlying t = some (.slice e)) (he : P.underlying e = some (.int k)) (hc : P.cellsOf e = 1)
    (hval : Value.okWide P W .any base t v) (h : DataW.Trod enc P W 0 (fun _ => true) true t v d ps) :
    ∃ zs, ∀ C : Chunk, (∀ k o, W.heap[k]? = some o → (k, o) ∈ C) → Row C k v zs := by
  obtain ⟨a0, len0, cap0, rfl⟩ := okWide_slice ht hval
  obtain ⟨fuel, hf⟩ := h
  rcases open_ints ht he hc hf with ⟨hcs, hx⟩ | ⟨a, len, cap, zs, hcs, _, hle, hmax, hall, hx, hcell, hwf⟩
  · simp [Value.cells] at hcs
    obtain ⟨rfl, rfl, rfl⟩ := hcs
    exact ⟨[], fun C hC => ⟨by simp, none, 0, 0, rfl, Nat.le_refl _, Nat.zero_le _, rfl, fun h => absurd h (Nat.lt_irrefl 0)⟩⟩
  · simp [Value.cells] at hcs
    obtain ⟨rfl, rfl, rfl⟩ := hcs
    simp only [if_true] at hall
    refine ⟨zs.take len0, fun C hC => ⟨fun z hz => hwf z (List.mem_of_mem_take hz), some a, len0, cap0, rfl, hle, hmax, by simp; omega, fun hpos => ?_⟩⟩
    obtain ⟨b, o, rfl, hat⟩ := ints_at hcell (by omega)
    have h0 := hat 0 (by omega)
    unfold World.cell? at h0
    cases hb : W.heap[b]? with
    | none => simp [hb] at h0
    | some ob =>
      cases ob with
      | cells cs e m =>
        refine ⟨b, o, cs, e, m, rfl, hC b _ hb, fun i hi => ?_⟩
        have h1 := hat i (by omega)
        unfold World.cell? at h1
        simp only [hb, Option.isSome_none, Bool.false_eq_true, if_false] at h1
        rw [h1]
        simp [List.getD, List.getElem?_take, hi]
      | _ => simp [hb] at h0

def rowed (P : Program) (ts : List TypeId) : Bool := ts.all fun t => P.readableRec t && decide (t < P.types.size)

theorem trodAll_still {H : Type} {enc : TypeId × Value → H} (hl : laidOutB P = true) {W W' : World} (hb : Below W.heap.size W W') {sp : Nat → Bool} :
    ∀ {ts : List TypeId} {vs : List Value} {ds : List (DataW H)} {ps : List MemPlace}, rowed P ts = true → (∀ p ∈ ps, p.block < W.heap.size ∧ sp p.block = true) →
      DataW.TrodAll enc P W 0 (fun _ => true) true ts vs ds ps → DataW.TrodAll enc P W' 0 sp true ts vs ds ps
  | [], vs, ds, ps, _, _, h => by
    obtain ⟨rfl, rfl, rfl⟩ := trodAll_nil h
    exact trodAll_mk0
  | t :: ts, vs, ds, ps, hr, hp, h => by
    obtain ⟨v, vs, d, ds, p, q, rfl, rfl, rfl, h1, h2⟩ := trodAll_cons h
    simp only [rowed, List.all_cons, Bool.and_eq_true, decide_eq_true_eq] at hr
    exact trodAll_cons_mk (WideElems.Trod_stays hl hr.1.1 hr.1.2 h1 (fun x hx => hb.same (hp x (List.mem_append_left _ hx)).1) (fun x hx => (hp x (List.mem_append_left _ hx)).2))
      (trodAll_still hl hb hr.2 (fun x hx => hp x (List.mem_append_right _ hx)) h2)

theorem below_kept {W W' : World} (hb : Below W.heap.size W W') (may : MemPlace → Prop) : W.keptBut W' may := by
  refine ⟨hb.os, hb.output, fun i hi => ?_⟩
  rw [hb.block i hi]
  cases h : W.heap[i]? with
  | none => trivial
  | some o => cases o <;> first | exact ⟨rfl, rfl, rfl, fun _ _ => rfl⟩ | exact .inr ⟨rfl, rfl⟩ | rfl

/-- A law that returns true, reads its arguments and no variable. -/
theorem law_post {H : Type} {enc : TypeId × Value → H} {f : Func} {s : ChangeSpec} {fresh handsOn again : Bool} {W W' : World} {args : Array Value} {ds gs : List (DataW H)} {before : List MemPlace} {tb : TypeId}
    (hl : laidOutB P = true) (hr : rowed P f.params.toList = true) (hv : s.vars = []) (ht : f.resultTypes = #[tb]) (hu : P.underlying tb = some .bool)
    (hW : DataW.Whole enc P f.params.toList s.vars false W args.toList ds gs before) (hb : Below W.heap.size W W')
    (hs : gs = [] → (s.fn H ds) = { results := [.lit (.bool true)], args := ds }) :
    s.post enc P f false fresh handsOn again W args (.bool true) W' := by
  have hlt := hW.lt
  have hW' := hW
  obtain ⟨p, q, hA, hV, rfl, hz, hn⟩ := hW
  rw [hv] at hV
  obtain ⟨rfl, rfl⟩ := trodVars_none hV
  have e := hs rfl
  simp only [List.append_nil] at hlt hW' hz hn
  have hT : ∀ sp : Nat → Bool, (∀ x ∈ p, sp x.block = true) → DataW.TrodAll enc P W' 0 sp true f.params.toList args.toList ds p := fun sp h =>
    trodAll_still hl hb hr (fun x hx => ⟨hlt x hx, h x hx⟩) hA
  have hR : ∀ (b : Nat) (sp : Nat → Bool) (hd : Bool), DataW.TrodAll enc P W' b sp hd f.resultTypes.toList ((Value.bool true).resultList f.resultTypes.size) [.lit (.bool true)] [] := by
    intro b sp hd
    rw [ht]
    exact trodAll_cons_mk (shut_bool hu _) trodAll_mk0
  have hvv : ∀ sp : Nat → Bool, DataW.TrodVars enc P W' sp s.vars [] [] := by
    intro sp; rw [hv]; rfl
  refine ⟨ds, [], p, [], p, [], hW', ?_, ?_, ?_, World.keptBut_mono (fun x hx => ⟨hx, .inr (.inl hx)⟩) (below_kept hb (· ∈ p)), fun _ => ⟨?_, ?_⟩⟩
  · simp only [List.append_nil, e]; exact hR _ _ _
  · simp only [List.append_nil, e]; exact hT _ (fun x hx => by simpa using hlt x hx)
  · simp only [List.append_nil, e]; exact hvv _
  · intro j t r h1 h2
    rw [ht] at h1 h2
    exact ok_one (f := f) ht rfl (okWide_bool_mk hu true) j t r (by rw [ht]; exact h1) (by rw [ht]; exact h2)
  · refine ⟨_, _, ([] ++ p) ++ [], ⟨[] ++ p, [], trodAll_append (hT _ (fun _ _ => rfl)) (hR _ _ _), hvv _, rfl, ?_, fun h => by cases h⟩, fun x hx _ => by simpa using hx⟩
    intro b off hx
    have hx : MemPlace.cell b off ∈ p := by simpa using hx
    have hz' := hz b off hx
    unfold World.frozen? at hz' ⊢
    rw [hb.block b (hlt _ hx)]
    exact hz'

end Go.Ost
