/- Texts in a row: the walk's rules and contracts, as each says. Conditions: as each says. -/
import Derived.Test.YtbclecppjnlpmaaMfc4042cc
import Derived.Lib.MakeNoZero
import Derived.Laws.Externs
import Derived.Test.YtbclecppjnlpmaaMbf37382f
import Derived.Test.YtbclecppjnlpmaaM9d370173
/- The walk's steps where structures lie in slices, and maps. Conditions: none. -/
set_option linter.unusedSimpArgs false
set_option linter.unusedVariables false
namespace Go.Ost
open Go

variable {P : Program} {n : Nat} {ro : Option Nat} {K : Cont} {D : List Nat} {L : Env} {S : State}

section facts
variable {a : Option Addr} {len cap : Nat} {us : List Value} {H : Chunk} {κ : Value → Prop} {t e e' : TypeId} {z : Value} {s by_ : Nat} {k : IntKind} {α : Type} {enc : α → List Value} {l : List α} {x x' : α} {v : Value}
theorem field_elk {si i off ft : Nat} {m : Nat} [h : TField P si i off ft] (q : κ (.pointer (some (elA a (m + off))))) : PureW P (Instr.fieldAt si (.pointer (some (elA a m))) i) κ := by rw [field_el]; exact q
theorem el_ato {i : Int} [TSlice P t e] [TSized P e z s by_] {cap' : Nat} (ho : Own s e' H a len cap' us) (h0 : 0 ≤ i) (h1 : i < len) (hp : 0 < s) (q : κ (.pointer (some (elA a (i.toNat * s))))) : PureW P (Instr.indexAt t (.slice a len cap) (.int k i)) κ := by
  rw [el_at (ho.rd (S := [H]) (List.mem_cons_self ..)) h0 h1 hp]; exact q
theorem load_el {i off : Nat} [TFlat P t] (ho : Own s e' H a len cap (l.flatMap enc)) (hs : ∀ x, (enc x).length = s) (hx : l[i]? = some x) (hv : (enc x)[off]? = some v) (hH : H ∈ S) (q : κ v) : ReadW P (Instr.loadAt t (.pointer (some (elA a (i * s + off))))) S κ := by
  have hi := (List.getElem?_eq_some_iff.1 hx).1
  have ho' := (List.getElem?_eq_some_iff.1 hv).1
  refine el_load (ho.rd hH) ?_ q
  rw [flat_get enc s hs l i off hi (by rw [← hs x]; exact ho'), List.getElem?_eq_some_iff.1 hx |>.2]
  exact hv
theorem load_el_agg {i : Nat} {b2 : Nat} [TDeep P t] [TSized P t z s b2] (ho : Own s e' H a len cap (l.flatMap enc)) (hs : ∀ x, (enc x).length = s) (hx : l[i]? = some x) (hp : 0 < s) (hH : H ∈ S) (q : κ (.agg (enc x).toArray)) : ReadW P (Instr.loadAt t (.pointer (some (elA a (i * s))))) S κ := by
  have hi := (List.getElem?_eq_some_iff.1 hx).1
  refine el_load_agg (ho.rd hH) hp ?_ ?_
  · rw [flat_len enc s hs]
    have : (i + 1) * s ≤ l.length * s := Nat.mul_le_mul_right s hi
    rw [Nat.add_mul] at this; omega
  · rw [flat_el enc s hs l i hi, List.getElem?_eq_some_iff.1 hx |>.2]; exact q
theorem store_el {i off : Nat} {b2 : Nat} {G : State} {κ : State → Prop} [TSized P t z 1 b2] (ho : Own s e' H a len cap (l.flatMap enc)) (hp : Pick H S G) (hs : ∀ x, (enc x).length = s) (hx : l[i]? = some x) (hc : Value.cell1 v) (hv : (enc x).set off v = enc x') (hoff : off < s)
    (q : ∀ C', Own s e' C' a len cap ((l.set i x').flatMap enc) → κ (C' :: G)) : UnitW P (Instr.storeAt t (.pointer (some (elA a (i * s + off)))) v) S κ := by
  have hi := (List.getElem?_eq_some_iff.1 hx).1
  refine own_store1 ho hp hc ?_ (fun C' h => q C' ?_)
  · rw [flat_len enc s hs]
    have : (i + 1) * s ≤ l.length * s := Nat.mul_le_mul_right s hi
    rw [Nat.add_mul] at this; omega
  · rw [flat_set enc s hs l i off v hi x' (by rw [List.getElem?_eq_some_iff.1 hx |>.2]; exact hv) hoff] at h
    exact h
theorem store_el_agg {i : Nat} {b2 : Nat} {G : State} {κ : State → Prop} [TSized P t z s b2] (ho : Own s e' H a len cap (l.flatMap enc)) (hp : Pick H S G) (hs : ∀ x, (enc x).length = s) (hi : i < l.length) (h0 : 0 < s) (hc : ∀ u ∈ enc x', Value.cell1 u)
    (q : ∀ C', Own s e' C' a len cap ((l.set i x').flatMap enc) → κ (C' :: G)) : UnitW P (Instr.storeAt t (.pointer (some (elA a (i * s)))) (.agg (enc x').toArray)) S κ := by
  refine own_store_agg ho hp h0 (hs x') hc ?_ (fun C' h => q C' ?_)
  · rw [flat_len enc s hs]
    have : (i + 1) * s ≤ l.length * s := Nat.mul_le_mul_right s hi
    rw [Nat.add_mul] at this; omega
  · rw [flat_setL enc s hs l i hi] at h
    exact h
end facts

variable {l l' : List Oper} {L' : Env} {S' : State} {id : Nat} {ops : Array Oper} {KK : Env → State → Prop}
theorem pendq {a b : Prop} (k : b) (h : a := by (first | ((with_reducible apply load_el); (· assumption); (· assumption); (· assumption); (· exact rfl); (· (repeat (first | with_reducible assumption | with_reducible exact List.mem_cons_self .. | with_reducible apply List.mem_cons_of_mem))); exact rfl) | (first | exact trivial | ((with_reducible apply load_box); (· (repeat (first | with_reducible exact Lies.one | with_reducible apply Lies.next))); (· exact rfl)) | ((with_reducible apply load_one); (· (repeat (first | with_reducible exact Lies.one | with_reducible apply Lies.next))); (· exact rfl); (· exact rfl)) | (first | ((with_reducible apply load_rda8); (· assumption); (· (repeat (first | with_reducible assumption | with_reducible exact List.mem_cons_self .. | with_reducible apply List.mem_cons_of_mem))); (· (first | omega | assumption | (simp only [List.length_append, List.length_take, List.length_drop, List.length_map, List.length_replicate, List.length_range, List.length_set, List.length_cons, List.length_nil]; omega))); exact rfl) | ((with_reducible apply load_owa8); (· assumption); (· (repeat (first | with_reducible assumption | with_reducible exact List.mem_cons_self .. | with_reducible apply List.mem_cons_of_mem))); (· (first | omega | assumption | (simp only [List.length_append, List.length_take, List.length_drop, List.length_map, List.length_replicate, List.length_range, List.length_set, List.length_cons, List.length_nil]; omega))); exact rfl) | ((with_reducible apply load_rda); (· assumption); (· assumption); (· (repeat (first | with_reducible assumption | with_reducible exact List.mem_cons_self .. | with_reducible apply List.mem_cons_of_mem))); exact rfl) | ((with_reducible apply load_owa); (· assumption); (· assumption); (· (repeat (first | with_reducible assumption | with_reducible exact List.mem_cons_self .. | with_reducible apply List.mem_cons_of_mem))); exact rfl))))) : a ∧ b := ⟨h, k⟩
theorem regq_to (k : runW P n l.toArray (K .normal D) l' L' S') (h : Runs P n l.toArray l L S l' L' S' := by exact ⟨fun K0 hK0 => by (repeat ((with_reducible refine run_cons fun K hK => ?_); (try simp only [gos, gob, Nat.reduceBEq, if_true, reduceIte, reduceCtorEq, Nat.reduceLT, Nat.reduceEqDiff, Nat.reduceAdd, Nat.reduceSub, Int.reduceLT, Int.reduceLE, Int.reduceBEq, Int.reduceBNe, Int.reduceToNat, Int.reduceAdd, Int.reduceSub, Int.reduceMul, Int.reduceDiv, Int.reduceMod, Int.reducePow, Int.toNat_natCast, Nat.sub_zero]); (try (simp (disch := omega) only [gow, gobw]; try simp only [gos, gob, Nat.reduceBEq, if_true, reduceIte, reduceCtorEq, Nat.reduceLT, Nat.reduceEqDiff, Nat.reduceAdd, Nat.reduceSub, Int.reduceLT, Int.reduceLE, Int.reduceBEq, Int.reduceBNe, Int.reduceToNat, Int.reduceAdd, Int.reduceSub, Int.reduceMul, Int.reduceDiv, Int.reduceMod, Int.reducePow, Int.toNat_natCast, Nat.sub_zero])); (first | (first | (with_reducible refine hK _ _ ?_) | ((with_reducible apply load_box); (· (repeat (first | with_reducible exact Lies.one | with_reducible apply Lies.next))); (with_reducible refine hK _ _ ?_)) | ((with_reducible apply load_one); (· (repeat (first | with_reducible exact Lies.one | with_reducible apply Lies.next))); (· exact rfl); (with_reducible refine hK _ _ ?_)) | ((with_reducible apply store_box); (· exact trivial); (· (repeat (first | with_reducible exact Upd.one | with_reducible apply Upd.next))); (with_reducible refine hK _ _ ?_)) | ((with_reducible apply store_one); (· exact trivial); (· (repeat (first | with_reducible exact Upd.one | with_reducible apply Upd.next))); (· simp); (with_reducible refine hK _ _ ?_)) | (first | ((with_reducible apply index_rda); (· assumption); (· (first | omega | assumption | (simp only [List.length_append, List.length_take, List.length_drop, List.length_map, List.length_replicate, List.length_range, List.length_set, List.length_cons, List.length_nil]; omega))); (· (first | omega | assumption | (simp only [List.length_append, List.length_take, List.length_drop, List.length_map, List.length_replicate, List.length_range, List.length_set, List.length_cons, List.length_nil]; omega))); (with_reducible refine hK _ _ ?_)) | ((with_reducible apply index_owa); (· assumption); (· (first | omega | assumption | (simp only [List.length_append, List.length_take, List.length_drop, List.length_map, List.length_replicate, List.length_range, List.length_set, List.length_cons, List.length_nil]; omega))); (· (first | omega | assumption | (simp only [List.length_append, List.length_take, List.length_drop, List.length_map, List.length_replicate, List.length_range, List.length_set, List.length_cons, List.length_nil]; omega))); (with_reducible refine hK _ _ ?_)) | ((with_reducible apply load_rda8); (· assumption); (· (repeat (first | with_reducible assumption | with_reducible exact List.mem_cons_self .. | with_reducible apply List.mem_cons_of_mem))); (· (first | omega | assumption | (simp only [List.length_append, List.length_take, List.length_drop, List.length_map, List.length_replicate, List.length_range, List.length_set, List.length_cons, List.length_nil]; omega))); (with_reducible refine hK _ _ ?_)) | ((with_reducible apply load_owa8); (· assumption); (· (repeat (first | with_reducible assumption | with_reducible exact List.mem_cons_self .. | with_reducible apply List.mem_cons_of_mem))); (· (first | omega | assumption | (simp only [List.length_append, List.length_take, List.length_drop, List.length_map, List.length_replicate, List.length_range, List.length_set, List.length_cons, List.length_nil]; omega))); (with_reducible refine hK _ _ ?_)) | ((with_reducible apply load_rda); (· assumption); (· assumption); (· (repeat (first | with_reducible assumption | with_reducible exact List.mem_cons_self .. | with_reducible apply List.mem_cons_of_mem))); (with_reducible refine hK _ _ ?_)) | ((with_reducible apply load_owa); (· assumption); (· assumption); (· (repeat (first | with_reducible assumption | with_reducible exact List.mem_cons_self .. | with_reducible apply List.mem_cons_of_mem))); (with_reducible refine hK _ _ ?_)))) | (first | ((with_reducible apply field_elk); (with_reducible refine hK _ _ ?_)) | ((with_reducible apply el_ato); (· assumption); (· (first | omega | assumption | (simp only [List.length_append, List.length_take, List.length_drop, List.length_map, List.length_replicate, List.length_range, List.length_set, List.length_cons, List.length_nil]; omega))); (· (first | omega | assumption | (simp only [List.length_append, List.length_take, List.length_drop, List.length_map, List.length_replicate, List.length_range, List.length_set, List.length_cons, List.length_nil]; omega))); (· exact Nat.succ_pos _); (with_reducible refine hK _ _ ?_)) | ((with_reducible apply load_el); (· assumption); (· assumption); (· assumption); (· exact rfl); (· (repeat (first | with_reducible assumption | with_reducible exact List.mem_cons_self .. | with_reducible apply List.mem_cons_of_mem))); (with_reducible refine hK _ _ ?_)) | ((with_reducible apply map_len); (· assumption); (· (repeat (first | with_reducible assumption | with_reducible exact List.mem_cons_self .. | with_reducible apply List.mem_cons_of_mem))); (with_reducible refine hK _ _ ?_)) | ((with_reducible apply map_look2); (· assumption); (· (repeat (first | with_reducible assumption | with_reducible exact List.mem_cons_self .. | with_reducible apply List.mem_cons_of_mem))); (with_reducible refine hK _ _ ?_)) | ((with_reducible apply map_look1); (· assumption); (· (repeat (first | with_reducible assumption | with_reducible exact List.mem_cons_self .. | with_reducible apply List.mem_cons_of_mem))); (with_reducible refine hK _ _ ?_)))); clear hK K)); exact hK0⟩) : CodeW P n ro (.region id l.toArray false) K D L S := code_reg (h.out _ k)
theorem runq_more {o : Oper} {l : List Oper} (k : runW P n ops KK l' L' S') (h : Runs P n ops (o :: l) L S l' L' S' := by exact ⟨fun K0 hK0 => by ((with_reducible refine run_cons fun K hK => ?_); (try simp only [gos, gob, Nat.reduceBEq, if_true, reduceIte, reduceCtorEq, Nat.reduceLT, Nat.reduceEqDiff, Nat.reduceAdd, Nat.reduceSub, Int.reduceLT, Int.reduceLE, Int.reduceBEq, Int.reduceBNe, Int.reduceToNat, Int.reduceAdd, Int.reduceSub, Int.reduceMul, Int.reduceDiv, Int.reduceMod, Int.reducePow, Int.toNat_natCast, Nat.sub_zero]); (try (simp (disch := omega) only [gow, gobw]; try simp only [gos, gob, Nat.reduceBEq, if_true, reduceIte, reduceCtorEq, Nat.reduceLT, Nat.reduceEqDiff, Nat.reduceAdd, Nat.reduceSub, Int.reduceLT, Int.reduceLE, Int.reduceBEq, Int.reduceBNe, Int.reduceToNat, Int.reduceAdd, Int.reduceSub, Int.reduceMul, Int.reduceDiv, Int.reduceMod, Int.reducePow, Int.toNat_natCast, Nat.sub_zero])); (first | (first | (with_reducible refine hK _ _ ?_) | ((with_reducible apply load_box); (· (repeat (first | with_reducible exact Lies.one | with_reducible apply Lies.next))); (with_reducible refine hK _ _ ?_)) | ((with_reducible apply load_one); (· (repeat (first | with_reducible exact Lies.one | with_reducible apply Lies.next))); (· exact rfl); (with_reducible refine hK _ _ ?_)) | ((with_reducible apply store_box); (· exact trivial); (· (repeat (first | with_reducible exact Upd.one | with_reducible apply Upd.next))); (with_reducible refine hK _ _ ?_)) | ((with_reducible apply store_one); (· exact trivial); (· (repeat (first | with_reducible exact Upd.one | with_reducible apply Upd.next))); (· simp); (with_reducible refine hK _ _ ?_)) | (first | ((with_reducible apply index_rda); (· assumption); (· (first | omega | assumption | (simp only [List.length_append, List.length_take, List.length_drop, List.length_map, List.length_replicate, List.length_range, List.length_set, List.length_cons, List.length_nil]; omega))); (· (first | omega | assumption | (simp only [List.length_append, List.length_take, List.length_drop, List.length_map, List.length_replicate, List.length_range, List.length_set, List.length_cons, List.length_nil]; omega))); (with_reducible refine hK _ _ ?_)) | ((with_reducible apply index_owa); (· assumption); (· (first | omega | assumption | (simp only [List.length_append, List.length_take, List.length_drop, List.length_map, List.length_replicate, List.length_range, List.length_set, List.length_cons, List.length_nil]; omega))); (· (first | omega | assumption | (simp only [List.length_append, List.length_take, List.length_drop, List.length_map, List.length_replicate, List.length_range, List.length_set, List.length_cons, List.length_nil]; omega))); (with_reducible refine hK _ _ ?_)) | ((with_reducible apply load_rda8); (· assumption); (· (repeat (first | with_reducible assumption | with_reducible exact List.mem_cons_self .. | with_reducible apply List.mem_cons_of_mem))); (· (first | omega | assumption | (simp only [List.length_append, List.length_take, List.length_drop, List.length_map, List.length_replicate, List.length_range, List.length_set, List.length_cons, List.length_nil]; omega))); (with_reducible refine hK _ _ ?_)) | ((with_reducible apply load_owa8); (· assumption); (· (repeat (first | with_reducible assumption | with_reducible exact List.mem_cons_self .. | with_reducible apply List.mem_cons_of_mem))); (· (first | omega | assumption | (simp only [List.length_append, List.length_take, List.length_drop, List.length_map, List.length_replicate, List.length_range, List.length_set, List.length_cons, List.length_nil]; omega))); (with_reducible refine hK _ _ ?_)) | ((with_reducible apply load_rda); (· assumption); (· assumption); (· (repeat (first | with_reducible assumption | with_reducible exact List.mem_cons_self .. | with_reducible apply List.mem_cons_of_mem))); (with_reducible refine hK _ _ ?_)) | ((with_reducible apply load_owa); (· assumption); (· assumption); (· (repeat (first | with_reducible assumption | with_reducible exact List.mem_cons_self .. | with_reducible apply List.mem_cons_of_mem))); (with_reducible refine hK _ _ ?_)))) | (first | ((with_reducible apply field_elk); (with_reducible refine hK _ _ ?_)) | ((with_reducible apply el_ato); (· assumption); (· (first | omega | assumption | (simp only [List.length_append, List.length_take, List.length_drop, List.length_map, List.length_replicate, List.length_range, List.length_set, List.length_cons, List.length_nil]; omega))); (· (first | omega | assumption | (simp only [List.length_append, List.length_take, List.length_drop, List.length_map, List.length_replicate, List.length_range, List.length_set, List.length_cons, List.length_nil]; omega))); (· exact Nat.succ_pos _); (with_reducible refine hK _ _ ?_)) | ((with_reducible apply load_el); (· assumption); (· assumption); (· assumption); (· exact rfl); (· (repeat (first | with_reducible assumption | with_reducible exact List.mem_cons_self .. | with_reducible apply List.mem_cons_of_mem))); (with_reducible refine hK _ _ ?_)) | ((with_reducible apply map_len); (· assumption); (· (repeat (first | with_reducible assumption | with_reducible exact List.mem_cons_self .. | with_reducible apply List.mem_cons_of_mem))); (with_reducible refine hK _ _ ?_)) | ((with_reducible apply map_look2); (· assumption); (· (repeat (first | with_reducible assumption | with_reducible exact List.mem_cons_self .. | with_reducible apply List.mem_cons_of_mem))); (with_reducible refine hK _ _ ?_)) | ((with_reducible apply map_look1); (· assumption); (· (repeat (first | with_reducible assumption | with_reducible exact List.mem_cons_self .. | with_reducible apply List.mem_cons_of_mem))); (with_reducible refine hK _ _ ?_)))); clear hK K); (repeat ((with_reducible refine run_cons fun K hK => ?_); (try simp only [gos, gob, Nat.reduceBEq, if_true, reduceIte, reduceCtorEq, Nat.reduceLT, Nat.reduceEqDiff, Nat.reduceAdd, Nat.reduceSub, Int.reduceLT, Int.reduceLE, Int.reduceBEq, Int.reduceBNe, Int.reduceToNat, Int.reduceAdd, Int.reduceSub, Int.reduceMul, Int.reduceDiv, Int.reduceMod, Int.reducePow, Int.toNat_natCast, Nat.sub_zero]); (try (simp (disch := omega) only [gow, gobw]; try simp only [gos, gob, Nat.reduceBEq, if_true, reduceIte, reduceCtorEq, Nat.reduceLT, Nat.reduceEqDiff, Nat.reduceAdd, Nat.reduceSub, Int.reduceLT, Int.reduceLE, Int.reduceBEq, Int.reduceBNe, Int.reduceToNat, Int.reduceAdd, Int.reduceSub, Int.reduceMul, Int.reduceDiv, Int.reduceMod, Int.reducePow, Int.toNat_natCast, Nat.sub_zero])); (first | (first | (with_reducible refine hK _ _ ?_) | ((with_reducible apply load_box); (· (repeat (first | with_reducible exact Lies.one | with_reducible apply Lies.next))); (with_reducible refine hK _ _ ?_)) | ((with_reducible apply load_one); (· (repeat (first | with_reducible exact Lies.one | with_reducible apply Lies.next))); (· exact rfl); (with_reducible refine hK _ _ ?_)) | ((with_reducible apply store_box); (· exact trivial); (· (repeat (first | with_reducible exact Upd.one | with_reducible apply Upd.next))); (with_reducible refine hK _ _ ?_)) | ((with_reducible apply store_one); (· exact trivial); (· (repeat (first | with_reducible exact Upd.one | with_reducible apply Upd.next))); (· simp); (with_reducible refine hK _ _ ?_)) | (first | ((with_reducible apply index_rda); (· assumption); (· (first | omega | assumption | (simp only [List.length_append, List.length_take, List.length_drop, List.length_map, List.length_replicate, List.length_range, List.length_set, List.length_cons, List.length_nil]; omega))); (· (first | omega | assumption | (simp only [List.length_append, List.length_take, List.length_drop, List.length_map, List.length_replicate, List.length_range, List.length_set, List.length_cons, List.length_nil]; omega))); (with_reducible refine hK _ _ ?_)) | ((with_reducible apply index_owa); (· assumption); (· (first | omega | assumption | (simp only [List.length_append, List.length_take, List.length_drop, List.length_map, List.length_replicate, List.length_range, List.length_set, List.length_cons, List.length_nil]; omega))); (· (first | omega | assumption | (simp only [List.length_append, List.length_take, List.length_drop, List.length_map, List.length_replicate, List.length_range, List.length_set, List.length_cons, List.length_nil]; omega))); (with_reducible refine hK _ _ ?_)) | ((with_reducible apply load_rda8); (· assumption); (· (repeat (first | with_reducible assumption | with_reducible exact List.mem_cons_self .. | with_reducible apply List.mem_cons_of_mem))); (· (first | omega | assumption | (simp only [List.length_append, List.length_take, List.length_drop, List.length_map, List.length_replicate, List.length_range, List.length_set, List.length_cons, List.length_nil]; omega))); (with_reducible refine hK _ _ ?_)) | ((with_reducible apply load_owa8); (· assumption); (· (repeat (first | with_reducible assumption | with_reducible exact List.mem_cons_self .. | with_reducible apply List.mem_cons_of_mem))); (· (first | omega | assumption | (simp only [List.length_append, List.length_take, List.length_drop, List.length_map, List.length_replicate, List.length_range, List.length_set, List.length_cons, List.length_nil]; omega))); (with_reducible refine hK _ _ ?_)) | ((with_reducible apply load_rda); (· assumption); (· assumption); (· (repeat (first | with_reducible assumption | with_reducible exact List.mem_cons_self .. | with_reducible apply List.mem_cons_of_mem))); (with_reducible refine hK _ _ ?_)) | ((with_reducible apply load_owa); (· assumption); (· assumption); (· (repeat (first | with_reducible assumption | with_reducible exact List.mem_cons_self .. | with_reducible apply List.mem_cons_of_mem))); (with_reducible refine hK _ _ ?_)))) | (first | ((with_reducible apply field_elk); (with_reducible refine hK _ _ ?_)) | ((with_reducible apply el_ato); (· assumption); (· (first | omega | assumption | (simp only [List.length_append, List.length_take, List.length_drop, List.length_map, List.length_replicate, List.length_range, List.length_set, List.length_cons, List.length_nil]; omega))); (· (first | omega | assumption | (simp only [List.length_append, List.length_take, List.length_drop, List.length_map, List.length_replicate, List.length_range, List.length_set, List.length_cons, List.length_nil]; omega))); (· exact Nat.succ_pos _); (with_reducible refine hK _ _ ?_)) | ((with_reducible apply load_el); (· assumption); (· assumption); (· assumption); (· exact rfl); (· (repeat (first | with_reducible assumption | with_reducible exact List.mem_cons_self .. | with_reducible apply List.mem_cons_of_mem))); (with_reducible refine hK _ _ ?_)) | ((with_reducible apply map_len); (· assumption); (· (repeat (first | with_reducible assumption | with_reducible exact List.mem_cons_self .. | with_reducible apply List.mem_cons_of_mem))); (with_reducible refine hK _ _ ?_)) | ((with_reducible apply map_look2); (· assumption); (· (repeat (first | with_reducible assumption | with_reducible exact List.mem_cons_self .. | with_reducible apply List.mem_cons_of_mem))); (with_reducible refine hK _ _ ?_)) | ((with_reducible apply map_look1); (· assumption); (· (repeat (first | with_reducible assumption | with_reducible exact List.mem_cons_self .. | with_reducible apply List.mem_cons_of_mem))); (with_reducible refine hK _ _ ?_)))); clear hK K)); exact hK0⟩) : runW P n ops KK (o :: l) L S := h.out _ k
theorem drawq_as {p0 : Entry} {p p' : List Entry} (k : drawW P n ops KK p' L' S') (h : Draws P n ops (p0 :: p) L S p' L' S' := by exact ⟨fun K0 hK0 => by refine draw_effect (by simp only [List.getElem?_toArray, List.getElem?_cons_succ, List.getElem?_cons_zero]; rfl) fun K hK => ?_; (try simp only [gos, gob, Nat.reduceBEq, if_true, reduceIte, reduceCtorEq, Nat.reduceLT, Nat.reduceEqDiff, Nat.reduceAdd, Nat.reduceSub, Int.reduceLT, Int.reduceLE, Int.reduceBEq, Int.reduceBNe, Int.reduceToNat, Int.reduceAdd, Int.reduceSub, Int.reduceMul, Int.reduceDiv, Int.reduceMod, Int.reducePow, Int.toNat_natCast, Nat.sub_zero, goq]); (try (simp (disch := omega) only [gow, gobw]; try simp only [gos, gob, Nat.reduceBEq, if_true, reduceIte, reduceCtorEq, Nat.reduceLT, Nat.reduceEqDiff, Nat.reduceAdd, Nat.reduceSub, Int.reduceLT, Int.reduceLE, Int.reduceBEq, Int.reduceBNe, Int.reduceToNat, Int.reduceAdd, Int.reduceSub, Int.reduceMul, Int.reduceDiv, Int.reduceMod, Int.reducePow, Int.toNat_natCast, Nat.sub_zero, goq])); (first | ((repeat refine pendq ?_); (with_reducible refine hK _ _ ?_)) | ((with_reducible apply store_box); (· exact trivial); (· (repeat (first | with_reducible exact Upd.one | with_reducible apply Upd.next))); (repeat refine pendq ?_); (with_reducible refine hK _ _ ?_)) | ((with_reducible apply store_one); (· exact trivial); (· (repeat (first | with_reducible exact Upd.one | with_reducible apply Upd.next))); (· simp); (repeat refine pendq ?_); (with_reducible refine hK _ _ ?_))); clear hK K; exact hK0⟩) : drawW P n ops KK (p0 :: p) L S := h.out _ k
theorem drawq_more {p0 : Entry} {p p' : List Entry} (k : drawW P n ops KK p' L' S') (h : Draws P n ops (p0 :: p) L S p' L' S' := by exact ⟨fun K0 hK0 => by refine draw_quiet (by simp only [List.getElem?_toArray, List.getElem?_cons_succ, List.getElem?_cons_zero]; rfl) fun K hK => ?_; (try simp only [gos, gob, Nat.reduceBEq, if_true, reduceIte, reduceCtorEq, Nat.reduceLT, Nat.reduceEqDiff, Nat.reduceAdd, Nat.reduceSub, Int.reduceLT, Int.reduceLE, Int.reduceBEq, Int.reduceBNe, Int.reduceToNat, Int.reduceAdd, Int.reduceSub, Int.reduceMul, Int.reduceDiv, Int.reduceMod, Int.reducePow, Int.toNat_natCast, Nat.sub_zero, goq]); (try (simp (disch := omega) only [gow, gobw]; try simp only [gos, gob, Nat.reduceBEq, if_true, reduceIte, reduceCtorEq, Nat.reduceLT, Nat.reduceEqDiff, Nat.reduceAdd, Nat.reduceSub, Int.reduceLT, Int.reduceLE, Int.reduceBEq, Int.reduceBNe, Int.reduceToNat, Int.reduceAdd, Int.reduceSub, Int.reduceMul, Int.reduceDiv, Int.reduceMod, Int.reducePow, Int.toNat_natCast, Nat.sub_zero, goq])); (first | (first | (with_reducible refine hK _ _ ?_) | ((with_reducible apply load_box); (· (repeat (first | with_reducible exact Lies.one | with_reducible apply Lies.next))); (with_reducible refine hK _ _ ?_)) | ((with_reducible apply load_one); (· (repeat (first | with_reducible exact Lies.one | with_reducible apply Lies.next))); (· exact rfl); (with_reducible refine hK _ _ ?_)) | ((with_reducible apply store_box); (· exact trivial); (· (repeat (first | with_reducible exact Upd.one | with_reducible apply Upd.next))); (with_reducible refine hK _ _ ?_)) | ((with_reducible apply store_one); (· exact trivial); (· (repeat (first | with_reducible exact Upd.one | with_reducible apply Upd.next))); (· simp); (with_reducible refine hK _ _ ?_)) | (first | ((with_reducible apply index_rda); (· assumption); (· (first | omega | assumption | (simp only [List.length_append, List.length_take, List.length_drop, List.length_map, List.length_replicate, List.length_range, List.length_set, List.length_cons, List.length_nil]; omega))); (· (first | omega | assumption | (simp only [List.length_append, List.length_take, List.length_drop, List.length_map, List.length_replicate, List.length_range, List.length_set, List.length_cons, List.length_nil]; omega))); (with_reducible refine hK _ _ ?_)) | ((with_reducible apply index_owa); (· assumption); (· (first | omega | assumption | (simp only [List.length_append, List.length_take, List.length_drop, List.length_map, List.length_replicate, List.length_range, List.length_set, List.length_cons, List.length_nil]; omega))); (· (first | omega | assumption | (simp only [List.length_append, List.length_take, List.length_drop, List.length_map, List.length_replicate, List.length_range, List.length_set, List.length_cons, List.length_nil]; omega))); (with_reducible refine hK _ _ ?_)) | ((with_reducible apply load_rda8); (· assumption); (· (repeat (first | with_reducible assumption | with_reducible exact List.mem_cons_self .. | with_reducible apply List.mem_cons_of_mem))); (· (first | omega | assumption | (simp only [List.length_append, List.length_take, List.length_drop, List.length_map, List.length_replicate, List.length_range, List.length_set, List.length_cons, List.length_nil]; omega))); (with_reducible refine hK _ _ ?_)) | ((with_reducible apply load_owa8); (· assumption); (· (repeat (first | with_reducible assumption | with_reducible exact List.mem_cons_self .. | with_reducible apply List.mem_cons_of_mem))); (· (first | omega | assumption | (simp only [List.length_append, List.length_take, List.length_drop, List.length_map, List.length_replicate, List.length_range, List.length_set, List.length_cons, List.length_nil]; omega))); (with_reducible refine hK _ _ ?_)) | ((with_reducible apply load_rda); (· assumption); (· assumption); (· (repeat (first | with_reducible assumption | with_reducible exact List.mem_cons_self .. | with_reducible apply List.mem_cons_of_mem))); (with_reducible refine hK _ _ ?_)) | ((with_reducible apply load_owa); (· assumption); (· assumption); (· (repeat (first | with_reducible assumption | with_reducible exact List.mem_cons_self .. | with_reducible apply List.mem_cons_of_mem))); (with_reducible refine hK _ _ ?_)))) | (first | ((with_reducible apply field_elk); (with_reducible refine hK _ _ ?_)) | ((with_reducible apply el_ato); (· assumption); (· (first | omega | assumption | (simp only [List.length_append, List.length_take, List.length_drop, List.length_map, List.length_replicate, List.length_range, List.length_set, List.length_cons, List.length_nil]; omega))); (· (first | omega | assumption | (simp only [List.length_append, List.length_take, List.length_drop, List.length_map, List.length_replicate, List.length_range, List.length_set, List.length_cons, List.length_nil]; omega))); (· exact Nat.succ_pos _); (with_reducible refine hK _ _ ?_)) | ((with_reducible apply load_el); (· assumption); (· assumption); (· assumption); (· exact rfl); (· (repeat (first | with_reducible assumption | with_reducible exact List.mem_cons_self .. | with_reducible apply List.mem_cons_of_mem))); (with_reducible refine hK _ _ ?_)) | ((with_reducible apply map_len); (· assumption); (· (repeat (first | with_reducible assumption | with_reducible exact List.mem_cons_self .. | with_reducible apply List.mem_cons_of_mem))); (with_reducible refine hK _ _ ?_)) | ((with_reducible apply map_look2); (· assumption); (· (repeat (first | with_reducible assumption | with_reducible exact List.mem_cons_self .. | with_reducible apply List.mem_cons_of_mem))); (with_reducible refine hK _ _ ?_)) | ((with_reducible apply map_look1); (· assumption); (· (repeat (first | with_reducible assumption | with_reducible exact List.mem_cons_self .. | with_reducible apply List.mem_cons_of_mem))); (with_reducible refine hK _ _ ?_)))); clear hK K; (repeat (refine draw_quiet (by simp only [List.getElem?_toArray, List.getElem?_cons_succ, List.getElem?_cons_zero]; rfl) fun K hK => ?_; (try simp only [gos, gob, Nat.reduceBEq, if_true, reduceIte, reduceCtorEq, Nat.reduceLT, Nat.reduceEqDiff, Nat.reduceAdd, Nat.reduceSub, Int.reduceLT, Int.reduceLE, Int.reduceBEq, Int.reduceBNe, Int.reduceToNat, Int.reduceAdd, Int.reduceSub, Int.reduceMul, Int.reduceDiv, Int.reduceMod, Int.reducePow, Int.toNat_natCast, Nat.sub_zero, goq]); (try (simp (disch := omega) only [gow, gobw]; try simp only [gos, gob, Nat.reduceBEq, if_true, reduceIte, reduceCtorEq, Nat.reduceLT, Nat.reduceEqDiff, Nat.reduceAdd, Nat.reduceSub, Int.reduceLT, Int.reduceLE, Int.reduceBEq, Int.reduceBNe, Int.reduceToNat, Int.reduceAdd, Int.reduceSub, Int.reduceMul, Int.reduceDiv, Int.reduceMod, Int.reducePow, Int.toNat_natCast, Nat.sub_zero, goq])); (first | (first | (with_reducible refine hK _ _ ?_) | ((with_reducible apply load_box); (· (repeat (first | with_reducible exact Lies.one | with_reducible apply Lies.next))); (with_reducible refine hK _ _ ?_)) | ((with_reducible apply load_one); (· (repeat (first | with_reducible exact Lies.one | with_reducible apply Lies.next))); (· exact rfl); (with_reducible refine hK _ _ ?_)) | ((with_reducible apply store_box); (· exact trivial); (· (repeat (first | with_reducible exact Upd.one | with_reducible apply Upd.next))); (with_reducible refine hK _ _ ?_)) | ((with_reducible apply store_one); (· exact trivial); (· (repeat (first | with_reducible exact Upd.one | with_reducible apply Upd.next))); (· simp); (with_reducible refine hK _ _ ?_)) | (first | ((with_reducible apply index_rda); (· assumption); (· (first | omega | assumption | (simp only [List.length_append, List.length_take, List.length_drop, List.length_map, List.length_replicate, List.length_range, List.length_set, List.length_cons, List.length_nil]; omega))); (· (first | omega | assumption | (simp only [List.length_append, List.length_take, List.length_drop, List.length_map, List.length_replicate, List.length_range, List.length_set, List.length_cons, List.length_nil]; omega))); (with_reducible refine hK _ _ ?_)) | ((with_reducible apply index_owa); (· assumption); (· (first | omega | assumption | (simp only [List.length_append, List.length_take, List.length_drop, List.length_map, List.length_replicate, List.length_range, List.length_set, List.length_cons, List.length_nil]; omega))); (· (first | omega | assumption | (simp only [List.length_append, List.length_take, List.length_drop, List.length_map, List.length_replicate, List.length_range, List.length_set, List.length_cons, List.length_nil]; omega))); (with_reducible refine hK _ _ ?_)) | ((with_reducible apply load_rda8); (· assumption); (· (repeat (first | with_reducible assumption | with_reducible exact List.mem_cons_self .. | with_reducible apply List.mem_cons_of_mem))); (· (first | omega | assumption | (simp only [List.length_append, List.length_take, List.length_drop, List.length_map, List.length_replicate, List.length_range, List.length_set, List.length_cons, List.length_nil]; omega))); (with_reducible refine hK _ _ ?_)) | ((with_reducible apply load_owa8); (· assumption); (· (repeat (first | with_reducible assumption | with_reducible exact List.mem_cons_self .. | with_reducible apply List.mem_cons_of_mem))); (· (first | omega | assumption | (simp only [List.length_append, List.length_take, List.length_drop, List.length_map, List.length_replicate, List.length_range, List.length_set, List.length_cons, List.length_nil]; omega))); (with_reducible refine hK _ _ ?_)) | ((with_reducible apply load_rda); (· assumption); (· assumption); (· (repeat (first | with_reducible assumption | with_reducible exact List.mem_cons_self .. | with_reducible apply List.mem_cons_of_mem))); (with_reducible refine hK _ _ ?_)) | ((with_reducible apply load_owa); (· assumption); (· assumption); (· (repeat (first | with_reducible assumption | with_reducible exact List.mem_cons_self .. | with_reducible apply List.mem_cons_of_mem))); (with_reducible refine hK _ _ ?_)))) | (first | ((with_reducible apply field_elk); (with_reducible refine hK _ _ ?_)) | ((with_reducible apply el_ato); (· assumption); (· (first | omega | assumption | (simp only [List.length_append, List.length_take, List.length_drop, List.length_map, List.length_replicate, List.length_range, List.length_set, List.length_cons, List.length_nil]; omega))); (· (first | omega | assumption | (simp only [List.length_append, List.length_take, List.length_drop, List.length_map, List.length_replicate, List.length_range, List.length_set, List.length_cons, List.length_nil]; omega))); (· exact Nat.succ_pos _); (with_reducible refine hK _ _ ?_)) | ((with_reducible apply load_el); (· assumption); (· assumption); (· assumption); (· exact rfl); (· (repeat (first | with_reducible assumption | with_reducible exact List.mem_cons_self .. | with_reducible apply List.mem_cons_of_mem))); (with_reducible refine hK _ _ ?_)) | ((with_reducible apply map_len); (· assumption); (· (repeat (first | with_reducible assumption | with_reducible exact List.mem_cons_self .. | with_reducible apply List.mem_cons_of_mem))); (with_reducible refine hK _ _ ?_)) | ((with_reducible apply map_look2); (· assumption); (· (repeat (first | with_reducible assumption | with_reducible exact List.mem_cons_self .. | with_reducible apply List.mem_cons_of_mem))); (with_reducible refine hK _ _ ?_)) | ((with_reducible apply map_look1); (· assumption); (· (repeat (first | with_reducible assumption | with_reducible exact List.mem_cons_self .. | with_reducible apply List.mem_cons_of_mem))); (with_reducible refine hK _ _ ?_)))); clear hK K)); exact hK0⟩) : drawW P n ops KK (p0 :: p) L S := h.out _ k

theorem then_mid {c d : Code} {K' : Cont} (Q : List Nat → Env → State → Prop) (h1 : CodeW P n ro c (Cont.then (Mid Q) K) D L S) (h2 : ∀ D L S, Q D L S → CodeW P n ro d K' D L S) : CodeW P n ro c (Cont.then (CodeW P n ro d K') K) D L S :=
  code_mono h1 fun e D L S h => by
    cases e <;> first | exact h | skip
    obtain ⟨L', S', hq, hL, hS⟩ := h
    exact code_less hL hS (h2 D L' S' hq)

end Go.Ost

/- Copying into one's own bytes; new bytes of whatever content. Conditions: as each says. -/
set_option linter.unusedSimpArgs false
set_option linter.unusedVariables false
namespace Go.Ost
open Go

variable {P : Program}

/-- A function of the library's without a text is called. -/
theorem calls_extern {f : FuncId} {fn : Func} {e : Array Value → Sem Value} {args : List Value} {S : State} {κ : Value → State → Prop} (hf : P.funcs[f]? = some fn) (hname : (fn.name == "runtime.NumGoroutine") = false) (hb : fn.body.isNone = true)
    (hn : Extern.findNext fn = none) (he : Extern.find fn = some e) (h : ValW P (e args.toArray) S κ) : CallsW P f args.toArray S κ := by
  refine ⟨fun w hw => ?_⟩
  obtain ⟨v, w', S', h1, h2, h3, h4⟩ := h.out w hw
  refine ⟨.value v, w', ?_, S', h2, h3, h4⟩
  rw [run_callFunc_extern hf hname hb hn he, h1]; rfl

theorem make_nozero {ps : Array TypeId} {t e : TypeId} [ht : TSlice P t e] {n : Nat} {S : State} {κ : Value → State → Prop} (hn : n ≤ 1000000)
    (k : ∀ b cap us C, Own 1 e C (some ⟨b, 0, none⟩) n cap us → κ (.slice (some ⟨b, 0, none⟩) n cap) (C :: S)) : ValW P (Extern.BytealgMakeNoZero.makeNoZero ps #[t] #[.int .i64 n]) S κ := by
  refine ⟨fun w hw => ?_⟩
  obtain ⟨cs, h1, h2, h3⟩ := Lib.run_makeNoZero (P := P) w ps t e ht.und n (by omega)
  refine ⟨_, _, [(w.heap.size, .cells cs e (0, 0))] :: S, h1, ⟨rfl, rfl, rfl, by simp⟩, Hold.new (w := w) hw rfl, k _ _ (cs.toList.take n) [(w.heap.size, .cells cs e (0, 0))] ⟨h2, h3 (by simp [maxLen]; omega), by simp; omega, .inr ⟨_, 0, cs, (0, 0), rfl, rfl, .inl rfl, by simp, fun i hi => ?_⟩⟩⟩
  simp only [List.length_take] at hi
  rw [Nat.zero_add, List.getElem?_take_of_lt (by omega), Array.getElem?_toList]

/-- copy into one's own, from place l on. -/
theorem copy_own {t t2 ty e : TypeId} {z : Value} {by_ : Nat} [ht : TSlice P t e] [hs : TSized P e z 1 by_] {S G : State} {κ : Value → State → Prop} {C : Chunk} {a b : Option Addr} {len cap l d dc n c : Nat} {us vs : List Value}
    (ho : Own 1 e C a len cap us) (hp : Pick C S G) (hr : Rd 1 S b n vs) (h1 : ∀ v ∈ vs, Value.cell1 v) (hl : l + d ≤ len) {a' : Option Addr} (ha : 0 < min n d → a' = a.map (·.add l))
    (k : ∀ C', Own 1 e C' a len cap (us.take l ++ (vs.take (min n d) ++ us.drop (l + min n d))) → κ (.int .i64 (min n d : Nat)) (C' :: G)) :
    ValW P (Builtin.copy_ #[t, t2] ty #[.slice a' d dc, .slice b n c]) S κ := by
  refine ⟨fun w hw => ?_⟩
  have hCG := hw.perm hp.perm
  have hful : us.length = len := by have := ho.2.2.1; omega
  have hvl : vs.length = n := by have := hr.1; omega
  have hcut : Rd 1 S b (min n d) (vs.take (min n d)) := by
    have := rd_cut hr (l := 0) (h' := min n d) (m := 0) (Nat.zero_le _) (Nat.min_le_left _ _)
    refine ⟨by simp; omega, fun hne => ?_⟩
    obtain ⟨b', o, cs, e', m, h2, h3, h4⟩ := hr.2 (by intro e0; subst e0; simp at hne)
    refine ⟨b', o, cs, e', m, h2, h3, fun i hi => ?_⟩
    simp only [List.length_take] at hi
    rw [List.getElem?_take_of_lt (by omega), h4 i (by omega)]
  have f := rd_first (P := P) (c := c) hcut hw
  have f' : (Builtin.firstCells 1 (min n d) (.slice b n c)).run P w = .ok (vs.take (min n d)).toArray w := by
    have e : Builtin.firstCells 1 (min n d) (.slice b n c) = Builtin.firstCells 1 (min n d) (.slice b (min n d) c) := by
      cases b <;> rfl
    rw [e]; exact f
  by_cases h0 : min n d = 0
  · refine ⟨.int .i64 (min n d : Nat), w, C :: G, ?_, Ext.refl w, hCG, k C ?_⟩
    · have f2 := f'
      rw [h0] at f2
      cases a' <;> simp [Builtin.copy_, Sem.run_bind, run_und ht.und, run_size hs, Result.andThen, Builtin.lenOf, h0, goInt, storeCells, f2, show n.min d = 0 from h0]
    · rw [h0]; simpa using ho
  · obtain ⟨b0, o, cs, m, rfl, rfl, hsoft, hbig, hc⟩ := own_some ho (by omega)
    obtain rfl := ha (by omega)
    obtain ⟨lo, hi'⟩ := m
    have hsz : o + us.length ≤ cs.size := by
      have := hc (us.length - 1) (by omega)
      rw [List.getElem?_eq_getElem (by omega)] at this
      have := (Array.getElem?_eq_some_iff.1 this).1
      omega
    obtain ⟨w', q1, q2, q3, q4⟩ := run_storeCells (P := P) (b := b0) (o := o + l) (vs.take (min n d)) 0 w cs (hCG.get b0 (.cells cs e (lo, hi')) (by simp)) (fun u hu => h1 u (List.mem_of_mem_take hu)) (by simp; omega) hsoft.or
    refine ⟨_, w', _, ?_, q2, (Upd.one (S := G)).hold hCG q3 q4, k [(b0, .cells (setCells cs (o + l + 0) (vs.take (min n d))) e (lo, hi'))] ⟨ho.1, ho.2.1, by simp; omega, .inr ⟨b0, o, _, (lo, hi'), rfl, rfl, by rw [setCells_size]; exact hsoft, by rw [setCells_size]; exact hbig, fun j hj => ?_⟩⟩⟩
    · simp only [Option.map_some, add_mk]
      simp [Builtin.copy_, Sem.run_bind, run_und ht.und, run_size hs, Result.andThen, Builtin.lenOf, goInt, f', q1, show n.min d = min n d from rfl]
    · simp only [List.length_append, List.length_take, List.length_drop] at hj
      rw [Nat.add_zero, get_setCells _ _ _ _ (by simp; omega)]
      simp only [List.length_take]
      by_cases h2 : o + l ≤ o + j ∧ o + j < o + l + min (min n d) vs.length
      · rw [if_pos h2, List.getElem?_append_right (by simp; omega), List.getElem?_append_left (by simp; omega)]
        congr 1; simp; omega
      · rw [if_neg h2, hc j (by omega)]
        by_cases h3 : j < l
        · rw [List.getElem?_append_left (by simp; omega), List.getElem?_take_of_lt h3]
        · rw [List.getElem?_append_right (by simp; omega), List.getElem?_append_right (by simp; omega), List.getElem?_drop]
          congr 1; simp; omega

end Go.Ost

/- A contract, its chunks otherwise put together. Conditions: as each says. -/
set_option linter.unusedSimpArgs false
set_option linter.unusedVariables false
namespace Go.Ost
open Go

variable {P : Program}

theorem Among.perm {T S : State} (h : Among T S) : ∃ R : State, S.flatten.Perm (T ++ R).flatten := by
  induction h with
  | nil S => exact ⟨S, List.Perm.refl _⟩
  | cons h k ih =>
    obtain ⟨R, hR⟩ := ih
    refine ⟨R, h.perm.trans ?_⟩
    simp only [List.flatten_cons, List.cons_append]
    exact List.Perm.append_left _ hR
theorem pick_mid (c : Chunk) : ∀ (X A : State), Pick c (X ++ c :: A) (X ++ A)
  | [], A => .head c A
  | d :: X, A => .tail d (pick_mid c X A)
theorem take_tail : ∀ (A X : State), Take A (X ++ A) X
  | [], X => by rw [List.append_nil]; exact .nil X
  | c :: A, X => .cons (pick_mid c X A) (take_tail A X)
theorem among_tail : ∀ (A X : State), Among A (X ++ A)
  | [], X => .nil _
  | c :: A, X => .cons (pick_mid c X A) (among_tail A X)
theorem Meets.conv {f : FuncId} {args : List Value} {A B : State} {R R' : Value → State → Prop} (SA : State) {E : State} (h : Meets P f args A R) (hB : B.flatten = SA.flatten) (hT : Take A SA E)
    (hR : ∀ v A', R v A' → ∃ (B' SB : State), B'.flatten = SB.flatten ∧ Among SB (A' ++ E) ∧ R' v B') : Meets P f args B R' := by
  refine ⟨h.1, fun F w hw => (h.2 (F ++ E.flatten) w (hw.perm ?_)).mono ?_⟩
  · simp only [List.flatten_cons, List.append_assoc]
    refine List.Perm.append_left F ?_
    rw [hB]
    refine hT.perm.trans ?_
    rw [List.flatten_append]
    exact List.perm_append_comm
  · rintro e w' ⟨v, S, rfl, he, hh, A', rfl, hr⟩
    obtain ⟨B', SB, e1, hA, hr'⟩ := hR v A' hr
    refine ⟨v, F :: B', rfl, he, ?_, B', rfl, hr'⟩
    obtain ⟨X, hX⟩ := hA.perm
    have hh2 : Hold w' (F :: (A' ++ E)) := hh.perm (by
      simp only [List.flatten_cons, List.flatten_append, List.append_assoc]
      exact List.Perm.append_left F List.perm_append_comm)
    have hh3 : Hold w' (F :: (SB ++ X)) := hh2.perm (by
      simp only [List.flatten_cons]
      exact List.Perm.append_left F hX)
    refine hh3.sub ?_
    simp only [List.flatten_cons, List.flatten_append, e1]
    exact (List.Sublist.refl F).append (List.sublist_append_left _ _)

end Go.Ost

/- The table as plain data: places in a row, by their neighbours. Conditions: none. -/
set_option linter.unusedSimpArgs false
set_option linter.unusedVariables false
namespace Go.Tab
open Go.Ost

structure En (V : Type) where
  key : List UInt8
  v : V
  ahead : Int
  next : Int

variable {V : Type}

def hd : List Nat → Int → Int
  | [], n => n
  | i :: _, _ => i
def lst : Int → List Nat → Int
  | a, [] => a
  | _, i :: r => lst i r
def Lk (l : List (En V)) : Int → List Nat → Int → Prop
  | _, [], _ => True
  | a, i :: r, n => (∃ e, l[i]? = some e ∧ e.ahead = a ∧ e.next = hd r n) ∧ Lk l i r n

theorem hd_app (p q : List Nat) (n : Int) : hd (p ++ q) n = hd p (hd q n) := by cases p <;> rfl
theorem lst_app : ∀ (p q : List Nat) (a : Int), lst a (p ++ q) = lst (lst a p) q
  | [], q, a => rfl
  | i :: r, q, a => lst_app r q i
theorem lk_app (l : List (En V)) : ∀ (p q : List Nat) (a n : Int), Lk l a (p ++ q) n ↔ Lk l a p (hd q n) ∧ Lk l (lst a p) q n
  | [], q, a, n => by simp [Lk, lst]
  | i :: r, q, a, n => by
    simp only [List.cons_append, Lk, lst, hd_app, lk_app l r q i n, and_assoc]
theorem lst_neg : ∀ (p : List Nat) (a : Int), p ≠ [] → ∃ i ∈ p, lst a p = (i : Int)
  | [], a, h => absurd rfl h
  | [i], a, _ => ⟨i, by simp, rfl⟩
  | i :: j :: r, a, _ => by
    obtain ⟨k, hk, e⟩ := lst_neg (j :: r) i (by simp)
    exact ⟨k, List.mem_cons_of_mem _ hk, e⟩
theorem lk_congr {l l' : List (En V)} : ∀ (p : List Nat) (a n : Int), (∀ i ∈ p, ∀ e, l[i]? = some e → ∃ e', l'[i]? = some e' ∧ e'.ahead = e.ahead ∧ e'.next = e.next) → Lk l a p n → Lk l' a p n
  | [], a, n, _, _ => trivial
  | i :: r, a, n, h, hl => by
    obtain ⟨⟨e, h1, h2, h3⟩, h4⟩ := hl
    obtain ⟨e', g1, g2, g3⟩ := h i (List.mem_cons_self ..) e h1
    exact ⟨⟨e', g1, by rw [g2, h2], by rw [g3, h3]⟩, lk_congr r i n (fun j hj => h j (List.mem_cons_of_mem _ hj)) h4⟩
theorem lk_lt {l : List (En V)} : ∀ (p : List Nat) (a n : Int), Lk l a p n → ∀ i ∈ p, i < l.length
  | [], _, _, _, i, hi => by cases hi
  | j :: r, a, n, h, i, hi => by
    obtain ⟨⟨e, h1, _⟩, h4⟩ := h
    rcases List.mem_cons.1 hi with rfl | hi
    · exact (List.getElem?_eq_some_iff.1 h1).1
    · exact lk_lt r j n h4 i hi

def setA (l : List (En V)) (i : Nat) (a : Int) : List (En V) := l.modify i fun e => { e with ahead := a }
def setN (l : List (En V)) (i : Nat) (n : Int) : List (En V) := l.modify i fun e => { e with next := n }
theorem setA_length (l : List (En V)) (i : Nat) (a : Int) : (setA l i a).length = l.length := by simp [setA]
theorem setN_length (l : List (En V)) (i : Nat) (n : Int) : (setN l i n).length = l.length := by simp [setN]
theorem setA_ne (l : List (En V)) {i j : Nat} (a : Int) (h : i ≠ j) : (setA l i a)[j]? = l[j]? := by simp [setA, List.getElem?_modify, h]
theorem setN_ne (l : List (En V)) {i j : Nat} (a : Int) (h : i ≠ j) : (setN l i a)[j]? = l[j]? := by simp [setN, List.getElem?_modify, h]
theorem setA_eq (l : List (En V)) {i : Nat} (a : Int) {e : En V} (h : l[i]? = some e) : (setA l i a)[i]? = some { e with ahead := a } := by simp [setA, List.getElem?_modify, h]
theorem setN_eq (l : List (En V)) {i : Nat} (a : Int) {e : En V} (h : l[i]? = some e) : (setN l i a)[i]? = some { e with next := a } := by simp [setN, List.getElem?_modify, h]
/-- Neither ahead nor next tells of keys and values. -/
def kv (l : List (En V)) (i : Nat) : Option (List UInt8 × V) := (l[i]?).map fun e => (e.key, e.v)
theorem setA_kv (l : List (En V)) (i j : Nat) (a : Int) : kv (setA l i a) j = kv l j := by
  simp only [kv, setA, List.getElem?_modify]
  by_cases h : i = j
  · subst h; cases l[i]? <;> simp
  · cases l[j]? <;> simp [h]
theorem setN_kv (l : List (En V)) (i j : Nat) (a : Int) : kv (setN l i a) j = kv l j := by
  simp only [kv, setN, List.getElem?_modify]
  by_cases h : i = j
  · subst h; cases l[i]? <;> simp
  · cases l[j]? <;> simp [h]

/-- An entry goes out of the row: the entries, first, last behind it. -/
def unL (l : List (En V)) (a n : Int) : List (En V) :=
  let l1 := if a = -1 then l else setN l a.toNat n
  if n = -1 then l1 else setA l1 n.toNat a
def unF (first a n : Int) : Int := if a = -1 then n else first
def unE (last a n : Int) : Int := if n = -1 then a else last
theorem unL_length (l : List (En V)) (a n : Int) : (unL l a n).length = l.length := by
  unfold unL; split <;> split <;> simp [setA_length, setN_length]
theorem unL_kv (l : List (En V)) (a n : Int) (j : Nat) : kv (unL l a n) j = kv l j := by
  unfold unL; split <;> split <;> simp [setA_kv, setN_kv]

theorem unhang_ok {l : List (En V)} {p q : List Nat} {i : Nat} (hn : (p ++ i :: q).Nodup) (h : Lk l (-1) (p ++ i :: q) (-1)) :
    Lk (unL l (lst (-1) p) (hd q (-1))) (-1) (p ++ q) (-1) ∧ unF (hd (p ++ i :: q) (-1)) (lst (-1) p) (hd q (-1)) = hd (p ++ q) (-1) ∧ unE (lst (-1) (p ++ i :: q)) (lst (-1) p) (hd q (-1)) = lst (-1) (p ++ q) := by
  obtain ⟨hp, ⟨⟨e, h1, h2, h3⟩, hq⟩⟩ := (lk_app l p (i :: q) (-1) (-1)).1 h
  have hp' : Lk l (-1) p i := hp
  -- the row in front
  have key1 : ∃ l1, l1 = (if lst (-1) p = -1 then l else setN l (lst (-1) p).toNat (hd q (-1))) ∧ Lk l1 (-1) p (hd q (-1)) ∧ ∀ j ∉ p, l1[j]? = l[j]? := by
    refine ⟨_, rfl, ?_⟩
    rcases List.eq_nil_or_concat p with rfl | ⟨p0, x, rfl⟩
    · exact ⟨trivial, fun j _ => rfl⟩
    · rw [List.concat_eq_append] at *
      have hl : lst (-1) (p0 ++ [x]) = (x : Int) := by rw [lst_app]; rfl
      rw [hl, if_neg (by omega)]
      have hx : x ∉ p0 := by
        have := (List.nodup_append.1 hn).1
        rw [List.nodup_append] at this
        intro hm; exact this.2.2 x hm x (by simp) rfl
      obtain ⟨g1, ⟨⟨e1, k1, k2, k3⟩, _⟩⟩ := (lk_app l p0 [x] (-1) i).1 hp'
      refine ⟨(lk_app _ p0 [x] (-1) _).2 ⟨?_, ⟨⟨_, setN_eq l _ k1, k2, rfl⟩, trivial⟩⟩, fun j hj => ?_⟩
      · refine lk_congr p0 (-1) _ (fun j hj e' he' => ⟨e', ?_, rfl, rfl⟩) g1
        rw [show ((x : Int)).toNat = x from by omega, setN_ne _ _ (fun e : x = j => hx (by rw [e]; exact hj))]; exact he'
      · rw [show ((x : Int)).toNat = x from by omega]
        exact setN_ne _ _ (fun e => hj (by simp [e]))
  obtain ⟨l1, e1, hL1, hsame⟩ := key1
  have hq1 : Lk l1 i q (-1) := lk_congr q i _ (fun j hj e' he' => ⟨e', by
    rw [hsame j (fun hm => (List.nodup_append.1 hn).2.2 j hm j (List.mem_cons_of_mem _ hj) rfl)]; exact he', rfl, rfl⟩) hq
  refine ⟨?_, ?_, ?_⟩
  · unfold unL
    simp only [← e1]
    cases q with
    | nil =>
      simp only [hd, if_true, List.append_nil]
      exact hL1
    | cons x q0 =>
      have hx1 : ¬ (hd (x :: q0) (-1) = -1) := by show ¬ ((x : Int) = -1); omega
      rw [if_neg hx1, show (hd (x :: q0) (-1)).toNat = x from by show ((x : Int)).toNat = x; omega]
      have hxp : x ∉ p := fun hm => (List.nodup_append.1 hn).2.2 x hm x (by simp) rfl
      have hxq : x ∉ q0 := by
        have := (List.nodup_append.1 hn).2.1
        rw [List.nodup_cons, List.nodup_cons] at this
        exact this.2.1
      obtain ⟨⟨e2, m1, m2, m3⟩, hq2⟩ := hq1
      refine (lk_app _ p (x :: q0) (-1) _).2 ⟨lk_congr p (-1) _ (fun j hj e' he' => ⟨e', by rw [setA_ne _ _ (fun e : x = j => hxp (by rw [e]; exact hj))]; exact he', rfl, rfl⟩) hL1, ⟨⟨_, setA_eq l1 _ m1, rfl, m3⟩, ?_⟩⟩
      exact lk_congr q0 x _ (fun j hj e' he' => ⟨e', by rw [setA_ne _ _ (fun e : x = j => hxq (by rw [e]; exact hj))]; exact he', rfl, rfl⟩) hq2
  · unfold unF
    cases p with
    | nil => simp [lst, hd]
    | cons x p0 =>
      obtain ⟨k, _, hk⟩ := lst_neg (x :: p0) (-1) (by simp)
      rw [hk, if_neg (by omega)]; rfl
  · unfold unE
    rw [lst_app, lst_app]
    cases q with
    | nil => simp [lst, hd]
    | cons x q0 =>
      have hx1 : ¬ (hd (x :: q0) (-1) = -1) := by show ¬ ((x : Int) = -1); omega
      rw [if_neg hx1]; rfl

/-- An entry comes at the row's end. -/
def haL (l : List (En V)) (i : Nat) (last : Int) : List (En V) :=
  let l1 := setN (setA l i last) i (-1)
  if last = -1 then l1 else setN l1 last.toNat i
def haF (first last : Int) (i : Nat) : Int := if last = -1 then i else first
theorem haL_length (l : List (En V)) (i : Nat) (last : Int) : (haL l i last).length = l.length := by
  unfold haL; split <;> simp [setA_length, setN_length]
theorem haL_kv (l : List (En V)) (i : Nat) (last : Int) (j : Nat) : kv (haL l i last) j = kv l j := by
  unfold haL; split <;> simp [setA_kv, setN_kv]
theorem hang_ok {l : List (En V)} {p : List Nat} {i : Nat} (hn : p.Nodup) (hi : i ∉ p) (hlt : i < l.length) (h : Lk l (-1) p (-1)) :
    Lk (haL l i (lst (-1) p)) (-1) (p ++ [i]) (-1) ∧ haF (hd p (-1)) (lst (-1) p) i = hd (p ++ [i]) (-1) ∧ (i : Int) = lst (-1) (p ++ [i]) := by
  have hge : l[i]? = some l[i] := List.getElem?_eq_getElem hlt
  have hi1 : ∀ a, (setN (setA l i a) i (-1))[i]? = some { l[i] with ahead := a, next := -1 } := fun a => by
    rw [setN_eq _ _ (setA_eq l a hge)]
  have hne : ∀ a j, j ≠ i → (setN (setA l i a) i (-1))[j]? = l[j]? := fun a j hj => by
    rw [setN_ne _ _ (Ne.symm hj), setA_ne _ _ (Ne.symm hj)]
  refine ⟨?_, ?_, by rw [lst_app]; rfl⟩
  · unfold haL
    rcases List.eq_nil_or_concat p with rfl | ⟨p0, x, rfl⟩
    · simp only [lst, if_true, List.nil_append]
      exact ⟨⟨_, hi1 _, rfl, rfl⟩, trivial⟩
    · rw [List.concat_eq_append] at *
      have hl : lst (-1) (p0 ++ [x]) = (x : Int) := by rw [lst_app]; rfl
      have hxi : x ≠ i := fun e => hi (by simp [e])
      have hx : x ∉ p0 := by
        rw [List.nodup_append] at hn
        intro hm; exact hn.2.2 x hm x (by simp) rfl
      simp only [hl]
      rw [if_neg (by omega), show ((x : Int)).toNat = x from by omega]
      obtain ⟨g1, ⟨⟨e1, k1, k2, k3⟩, _⟩⟩ := (lk_app l p0 [x] (-1) (-1)).1 h
      refine (lk_app _ (p0 ++ [x]) [i] (-1) (-1)).2 ⟨(lk_app _ p0 [x] (-1) _).2 ⟨?_, ⟨⟨_, setN_eq _ _ (by rw [hne _ _ hxi]; exact k1), k2, rfl⟩, trivial⟩⟩, ⟨⟨_, by rw [setN_ne _ _ hxi]; exact hi1 _, by rw [hl], rfl⟩, trivial⟩⟩
      refine lk_congr p0 (-1) _ (fun j hj e' he' => ⟨e', ?_, rfl, rfl⟩) g1
      rw [setN_ne _ _ (fun e : x = j => hx (by rw [e]; exact hj)), hne _ _ (fun e => hi (by simp [← e, hj]))]; exact he'
  · unfold haF
    cases p with
    | nil => simp [lst, hd]
    | cons x p0 =>
      obtain ⟨k, _, hk⟩ := lst_neg (x :: p0) (-1) (by simp)
      rw [hk, if_neg (by omega)]; rfl

end Go.Tab

/- The table as plain data: what put, set, drop, renew leave. Conditions: none. -/
set_option linter.unusedSimpArgs false
set_option linter.unusedVariables false
namespace Go.Tab
open Go.Ost

variable {V : Type}

/-! ### Lists of keys and values -/

section maps
variable {α : Type}
theorem mget_put (q k : List UInt8) (v : α) : ∀ m : List (List UInt8 × α), mget (mput m k v) q = if q = k then some v else mget m q
  | [] => by simp only [mput, mget]
  | (k', u) :: l => by
    have ih := mget_put q k v l
    simp only [mput]
    by_cases h1 : k = k'
    · subst h1
      rw [if_pos rfl]
      simp only [mget]
      by_cases h2 : q = k
      · rw [if_pos h2, if_pos h2]
      · rw [if_neg h2, if_neg h2, if_neg h2]
    · rw [if_neg h1]
      simp only [mget, ih]
      by_cases h2 : q = k'
      · rw [if_pos h2, if_pos h2, if_neg (by rw [h2]; exact fun e => h1 e.symm)]
      · rw [if_neg h2, if_neg h2]
theorem mget_none {q : List UInt8} : ∀ {m : List (List UInt8 × α)}, mget m q = none ↔ q ∉ m.map (·.1)
  | [] => by simp [mget]
  | (k, u) :: l => by
    simp only [mget, List.map_cons, List.mem_cons, not_or]
    by_cases h : q = k
    · rw [if_pos h]; simp [h]
    · rw [if_neg h, mget_none]; simp [h]
theorem mget_del (q k : List UInt8) : ∀ m : List (List UInt8 × α), (m.map (·.1)).Nodup → mget (mdel m k) q = if q = k then none else mget m q
  | [], _ => by simp [mdel, mget]
  | (k', u) :: l, hn => by
    rw [List.map_cons, List.nodup_cons] at hn
    have ih := mget_del q k l hn.2
    simp only [mdel]
    by_cases h1 : k = k'
    · subst h1
      rw [if_pos rfl]
      by_cases h2 : q = k
      · subst h2; rw [if_pos rfl]; exact mget_none.2 hn.1
      · rw [if_neg h2]; simp only [mget]; rw [if_neg h2]
    · rw [if_neg h1]
      simp only [mget, ih]
      by_cases h2 : q = k'
      · rw [if_pos h2, if_pos h2, if_neg (by rw [h2]; exact fun e => h1 e.symm)]
      · rw [if_neg h2, if_neg h2]
theorem mdel_keys (k : List UInt8) : ∀ m : List (List UInt8 × α), (mdel m k).map (·.1) = (m.map (·.1)).erase k
  | [] => rfl
  | (k', u) :: l => by
    simp only [mdel, List.map_cons, List.erase_cons]
    by_cases h : k = k'
    · subst h; simp
    · rw [if_neg h, if_neg (by simpa using fun e => h e.symm), List.map_cons, mdel_keys k l]
theorem mput_keys_old (k : List UInt8) (v : α) : ∀ m : List (List UInt8 × α), mget m k ≠ none → (mput m k v).map (·.1) = m.map (·.1)
  | [], h => absurd rfl h
  | (k', u) :: l, h => by
    simp only [mput]
    by_cases h1 : k = k'
    · subst h1; simp
    · rw [if_neg h1, List.map_cons, List.map_cons, mput_keys_old k v l (by simpa [mget, h1] using h)]
theorem mput_new (k : List UInt8) (v : α) : ∀ m : List (List UInt8 × α), mget m k = none → mput m k v = m ++ [(k, v)]
  | [], _ => rfl
  | (k', u) :: l, h => by
    simp only [mget] at h
    simp only [mput]
    by_cases h1 : k = k'
    · rw [if_pos h1] at h; cases h
    · rw [if_neg h1] at h ⊢; rw [mput_new k v l h]; rfl
theorem mdel_none (k : List UInt8) (m : List (List UInt8 × α)) (h : mget m k = none) : mdel m k = m := by
  cases hf : mfind m k 0 with
  | none => exact (mfind_none m 0 hf).2.2
  | some p =>
    obtain ⟨_, _, _, _, h3, _⟩ := mfind_some (j := p.1) (v := p.2) m 0 hf
    rw [h3] at h; cases h
theorem mget_split {k : List UInt8} {v : α} {m : List (List UInt8 × α)} (h : mget m k = some v) : ∃ pre post, m = pre ++ (k, v) :: post ∧ (∀ u, mput m k u = pre ++ (k, u) :: post) ∧ mdel m k = pre ++ post ∧ mfind m k 0 = some (pre.length, v) := by
  cases hf : mfind m k 0 with
  | none => rw [(mfind_none m 0 hf).1] at h; cases h
  | some p =>
    obtain ⟨pre, post, h1, h2, h3, h4, h5⟩ := mfind_some (j := p.1) (v := p.2) m 0 hf
    rw [h3] at h; cases h
    refine ⟨pre, post, h1, h4, h5, ?_⟩
    have : p.1 = pre.length := by omega
    rw [← this]
theorem mget_mem {k : List UInt8} {v : α} : ∀ {m : List (List UInt8 × α)}, (m.map (·.1)).Nodup → (mget m k = some v ↔ (k, v) ∈ m)
  | [], _ => by simp [mget]
  | (k', u) :: l, hn => by
    rw [List.map_cons, List.nodup_cons] at hn
    simp only [mget, List.mem_cons, Prod.mk.injEq]
    by_cases h : k = k'
    · subst h
      rw [if_pos rfl]
      constructor
      · intro e; cases e; exact .inl ⟨rfl, rfl⟩
      · rintro (⟨_, rfl⟩ | hm)
        · rfl
        · exact absurd (List.mem_map.2 ⟨_, hm, rfl⟩) hn.1
    · rw [if_neg h, mget_mem hn.2]
      simp [h]
end maps

/-! ### A table's blocks -/

structure Rep (l : List (En V)) (free : List Nat) (m : List (List UInt8 × Nat)) (pl : List Nat) (es : List (List UInt8 × V)) : Prop where
  nd : (pl ++ free).Nodup
  lt : ∀ i ∈ free, i < l.length
  lk : Lk l (-1) pl (-1)
  row : pl.map (kv l) = es.map some
  keys : (es.map (·.1)).Nodup
  mp : ∀ k i, mget m k = some i ↔ i ∈ pl ∧ (kv l i).map (·.1) = some k
  mnd : (m.map (·.1)).Nodup
  mlen : m.length = es.length

theorem Rep.pl_len {l : List (En V)} {free : List Nat} {m : List (List UInt8 × Nat)} {pl : List Nat} {es : List (List UInt8 × V)} (h : Rep l free m pl es) : pl.length = es.length := by
  have := congrArg List.length h.row; simpa using this
theorem Rep.at {l : List (En V)} {free : List Nat} {m : List (List UInt8 × Nat)} {pl : List Nat} {es : List (List UInt8 × V)} (h : Rep l free m pl es) {k : List UInt8} {i : Nat} (hi : mget m k = some i) :
    ∃ v p q pre post, pl = p ++ i :: q ∧ es = pre ++ (k, v) :: post ∧ p.length = pre.length ∧ kv l i = some (k, v) ∧ mget es k = some v ∧ mdel es k = pre ++ post ∧ (∀ u, mput es k u = pre ++ (k, u) :: post) ∧ p.map (kv l) = pre.map some ∧ q.map (kv l) = post.map some := by
  obtain ⟨hm, hk⟩ := (h.mp k i).1 hi
  obtain ⟨p, q, rfl⟩ := List.append_of_mem hm
  have he := h.row
  rw [List.map_append, List.map_cons] at he
  have hlen : p.length + (q.length + 1) = es.length := by have := h.pl_len; simpa using this
  obtain ⟨pre, x, post, rfl, hpl⟩ : ∃ pre x post, es = pre ++ x :: post ∧ pre.length = p.length := by
    have hlt : p.length < es.length := by omega
    exact ⟨es.take p.length, es[p.length], es.drop (p.length + 1), by rw [← List.drop_eq_getElem_cons, List.take_append_drop], by simp; omega⟩
  rw [List.map_append, List.map_cons] at he
  obtain ⟨e1, e2⟩ := List.append_inj he (by simp [hpl])
  obtain ⟨e3, e4⟩ := List.cons.inj e2
  obtain ⟨k', v⟩ := x
  rw [e3] at hk
  simp only [Option.map_some, Option.some.injEq] at hk
  subst hk
  have hg : mget (pre ++ (k', v) :: post) k' = some v := (mget_mem h.keys).2 (by simp)
  obtain ⟨pre', post', g1, g2, g3, g4⟩ := mget_split hg
  have hpp : pre' = pre ∧ post' = post := by
    have hk2 := h.keys
    have : ∀ (a a' b b' : List (List UInt8 × V)), a ++ (k', v) :: b = a' ++ (k', v) :: b' → ((a ++ (k', v) :: b).map (·.1)).Nodup → a = a' ∧ b = b' := by
      intro a
      induction a with
      | nil =>
        intro a' b b' e hn
        cases a' with
        | nil => simp at e; exact ⟨rfl, e⟩
        | cons y a' =>
          simp only [List.nil_append, List.cons_append, List.cons.injEq] at e
          obtain ⟨rfl, rfl⟩ := e
          simp at hn
      | cons x a ih =>
        intro a' b b' e hn
        cases a' with
        | nil =>
          simp only [List.nil_append, List.cons_append, List.cons.injEq] at e
          obtain ⟨rfl, rfl⟩ := e
          simp at hn
        | cons y a' =>
          simp only [List.cons_append, List.cons.injEq] at e
          obtain ⟨rfl, e⟩ := e
          obtain ⟨h1, h2⟩ := ih a' b b' e (by simp only [List.cons_append, List.map_cons, List.nodup_cons] at hn; exact hn.2)
          exact ⟨by rw [h1], h2⟩
    obtain ⟨h1, h2⟩ := this pre pre' post post' g1 hk2
    exact ⟨h1.symm, h2.symm⟩
  obtain ⟨rfl, rfl⟩ := hpp
  exact ⟨v, p, q, pre', post', rfl, rfl, hpl.symm, e3, hg, g3, g2, e1, e4⟩
theorem Rep.miss {l : List (En V)} {free : List Nat} {m : List (List UInt8 × Nat)} {pl : List Nat} {es : List (List UInt8 × V)} (h : Rep l free m pl es) {k : List UInt8} : mget m k = none ↔ mget es k = none := by
  constructor
  · intro hm
    rw [mget_none]
    intro hk
    obtain ⟨⟨k', v⟩, hkv, rfl⟩ := List.mem_map.1 hk
    have : some (k', v) ∈ pl.map (kv l) := by rw [h.row]; exact List.mem_map.2 ⟨_, hkv, rfl⟩
    obtain ⟨i, hi, e⟩ := List.mem_map.1 this
    have := (h.mp k' i).2 ⟨hi, by rw [e]; rfl⟩
    rw [hm] at this; cases this
  · intro he
    cases hm : mget m k with
    | none => rfl
    | some i =>
      obtain ⟨v, _, _, _, _, _, _, _, _, h5, _⟩ := h.at hm
      rw [h5] at he; cases he

theorem map_kv_congr {l l' : List (En V)} {pl : List Nat} (h : ∀ j ∈ pl, kv l' j = kv l j) : pl.map (kv l') = pl.map (kv l) := List.map_congr_left h

/-- A new entry at place i. -/
theorem Rep.put {l l' : List (En V)} {free free' : List Nat} {m : List (List UInt8 × Nat)} {pl : List Nat} {es : List (List UInt8 × V)} (h : Rep l free m pl es) {k : List UInt8} {v : V} {i : Nat}
    (hk : mget es k = none) (hs : ∀ j ∈ pl, l'[j]? = l[j]?) (hi : kv l' i = some (k, v)) (hn : (pl ++ i :: free').Nodup) (hf : ∀ j ∈ free', j < l'.length) :
    Rep (haL l' i (lst (-1) pl)) free' (mput m k i) (pl ++ [i]) (es ++ [(k, v)]) ∧ haF (hd pl (-1)) (lst (-1) pl) i = hd (pl ++ [i]) (-1) ∧ (i : Int) = lst (-1) (pl ++ [i]) := by
  have hlt : i < l'.length := by
    unfold kv at hi
    cases hl : l'[i]? with
    | none => rw [hl] at hi; cases hi
    | some e => exact (List.getElem?_eq_some_iff.1 hl).1
  have hn1 := List.nodup_append.1 hn
  have hip : i ∉ pl := fun hm => hn1.2.2 i hm i (by simp) rfl
  have hk' : ∀ j ∈ pl, kv l' j = kv l j := fun j hj => by simp only [kv, hs j hj]
  obtain ⟨g1, g2, g3⟩ := hang_ok hn1.1 hip hlt (lk_congr pl (-1) (-1) (fun j hj e he => ⟨e, by rw [hs j hj]; exact he, rfl, rfl⟩) h.lk)
  have hmk : mget m k = none := h.miss.2 hk
  refine ⟨⟨by simpa using hn, fun j hj => by rw [haL_length]; exact hf j hj, g1, ?_, ?_, ?_, ?_, ?_⟩, g2, g3⟩
  · rw [List.map_append, List.map_append, map_kv_congr (fun j hj => (haL_kv _ _ _ j).trans (hk' j hj)), h.row]
    simp [haL_kv, hi]
  · rw [List.map_append, List.nodup_append]
    refine ⟨h.keys, by simp, fun x hx y hy e => ?_⟩
    simp at hy; subst hy; subst e
    exact mget_none.1 hk hx
  · intro k1 i1
    rw [mget_put, haL_kv]
    by_cases hkk : k1 = k
    · subst hkk
      rw [if_pos rfl]
      constructor
      · intro e; cases e; exact ⟨by simp, by rw [hi]; rfl⟩
      · rintro ⟨hm, he⟩
        rcases List.mem_append.1 hm with hm | hm
        · rw [hk' i1 hm] at he
          have := (h.mp k1 i1).2 ⟨hm, he⟩
          rw [hmk] at this; cases this
        · simp at hm; rw [hm]
    · rw [if_neg hkk, h.mp]
      constructor
      · rintro ⟨hm, he⟩; exact ⟨List.mem_append_left _ hm, by rw [hk' i1 hm]; exact he⟩
      · rintro ⟨hm, he⟩
        rcases List.mem_append.1 hm with hm | hm
        · exact ⟨hm, by rw [← hk' i1 hm]; exact he⟩
        · simp at hm; subst hm
          rw [hi] at he
          simp at he
          exact absurd he.symm hkk
  · rw [mput_new _ _ _ hmk, List.map_append, List.nodup_append]
    refine ⟨h.mnd, by simp, fun x hx y hy e => ?_⟩
    simp at hy; subst hy; subst e
    exact mget_none.1 hmk hx
  · rw [mput_new _ _ _ hmk]; simp [h.mlen]

def setV (l : List (En V)) (i : Nat) (v : V) : List (En V) := l.modify i fun e => { e with v := v }
theorem setV_length (l : List (En V)) (i : Nat) (v : V) : (setV l i v).length = l.length := by simp [setV]
theorem Rep.set {l : List (En V)} {free : List Nat} {m : List (List UInt8 × Nat)} {pl : List Nat} {es : List (List UInt8 × V)} (h : Rep l free m pl es) {k : List UInt8} {i : Nat} (hi : mget m k = some i) (v : V) :
    Rep (setV l i v) free m pl (mput es k v) := by
  obtain ⟨u, p, q, pre, post, rfl, rfl, hlen, hkv, hg, hd, hp, e1, e2⟩ := h.at hi
  have hn := List.nodup_append.1 (List.nodup_append.1 h.nd).1
  have hother : ∀ j, j ≠ i → (setV l i v)[j]? = l[j]? := fun j hj => by simp [setV, List.getElem?_modify, Ne.symm hj]
  have hkey : ∀ j, (kv (setV l i v) j).map (·.1) = (kv l j).map (·.1) := fun j => by
    simp only [kv, setV, List.getElem?_modify]
    by_cases hj : i = j
    · subst hj; cases l[i]? <;> simp
    · cases l[j]? <;> simp [hj]
  have hip : i ∉ p := fun hm => hn.2.2 i hm i (by simp) rfl
  have hiq : i ∉ q := (List.nodup_cons.1 hn.2.1).1
  refine ⟨h.nd, fun j hj => by rw [setV_length]; exact h.lt j hj, ?_, ?_, ?_, ?_, h.mnd, ?_⟩
  · refine lk_congr _ _ _ (fun j hj e he => ?_) h.lk
    by_cases hji : j = i
    · subst hji; exact ⟨{ e with v := v }, by simp [setV, List.getElem?_modify, he], rfl, rfl⟩
    · exact ⟨e, by rw [hother j hji]; exact he, rfl, rfl⟩
  · rw [hp v, List.map_append, List.map_cons, List.map_append, List.map_cons, ← e1, ← e2]
    congr 1
    · exact map_kv_congr fun j hj => by simp only [kv, hother j (fun e : j = i => hip (by rw [← e]; exact hj))]
    · congr 1
      · simp only [kv] at hkv ⊢
        cases hl : l[i]? with
        | none => rw [hl] at hkv; cases hkv
        | some e => rw [hl] at hkv; simp at hkv; simp [setV, List.getElem?_modify, hl, hkv.1]
      · exact map_kv_congr fun j hj => by simp only [kv, hother j (fun e : j = i => hiq (by rw [← e]; exact hj))]
  · rw [mput_keys_old _ _ _ (by rw [hg]; simp)]; exact h.keys
  · intro k1 i1; rw [hkey]; exact h.mp k1 i1
  · rw [hp v]; have := h.mlen; simpa using this

theorem Rep.drop {l : List (En V)} {free : List Nat} {m : List (List UInt8 × Nat)} {pl : List Nat} {es : List (List UInt8 × V)} (h : Rep l free m pl es) {k : List UInt8} {i : Nat} (hi : mget m k = some i) (z : En V) :
    ∃ a n e, l[i]? = some e ∧ e.ahead = a ∧ e.next = n ∧ (a = -1 ∨ ∃ j : Nat, a = j ∧ j < l.length) ∧ (n = -1 ∨ ∃ j : Nat, n = j ∧ j < l.length) ∧
      ∃ pl', Rep ((unL l a n).set i z) (free ++ [i]) (mdel m k) pl' (mdel es k) ∧ unF (hd pl (-1)) a n = hd pl' (-1) ∧ unE (lst (-1) pl) a n = lst (-1) pl' := by
  obtain ⟨v, p, q, pre, post, rfl, rfl, hlen, hkv, hg, hdel, hp, e1, e2⟩ := h.at hi
  have hn0 := List.nodup_append.1 h.nd
  have hn := List.nodup_append.1 hn0.1
  have hip : i ∉ p := fun hm => hn.2.2 i hm i (by simp) rfl
  have hiq : i ∉ q := (List.nodup_cons.1 hn.2.1).1
  have hif : i ∉ free := fun hm => hn0.2.2 i (by simp) i hm rfl
  have hlt := lk_lt _ _ _ h.lk
  obtain ⟨_, ⟨⟨e, h1, h2, h3⟩, _⟩⟩ := (lk_app l p (i :: q) (-1) (-1)).1 h.lk
  obtain ⟨g1, g2, g3⟩ := unhang_ok hn0.1 h.lk
  refine ⟨lst (-1) p, Tab.hd q (-1), e, h1, h2, h3, ?_, ?_, p ++ q, ?_, g2, g3⟩
  · cases p with
    | nil => exact .inl rfl
    | cons x p0 =>
      obtain ⟨j, hj, ej⟩ := lst_neg (x :: p0) (-1) (by simp)
      exact .inr ⟨j, ej, hlt j (List.mem_append_left _ hj)⟩
  · cases q with
    | nil => exact .inl rfl
    | cons x q0 => exact .inr ⟨x, rfl, hlt x (by simp)⟩
  · have hne : ∀ j, j ≠ i → ((unL l (lst (-1) p) (Tab.hd q (-1))).set i z)[j]? = (unL l (lst (-1) p) (Tab.hd q (-1)))[j]? := fun j hj => List.getElem?_set_ne (Ne.symm hj)
    have hkvne : ∀ j, j ≠ i → kv ((unL l (lst (-1) p) (Tab.hd q (-1))).set i z) j = kv l j := fun j hj => by
      rw [← unL_kv l (lst (-1) p) (Tab.hd q (-1)) j]; simp only [kv, hne j hj]
    refine ⟨?_, ?_, ?_, ?_, ?_, ?_, ?_, ?_⟩
    · have hperm : (p ++ i :: q ++ free).Perm (p ++ q ++ (free ++ [i])) := by
        rw [List.append_assoc, List.append_assoc, List.cons_append]
        refine List.Perm.append_left p ?_
        rw [← List.append_assoc]
        exact (List.perm_append_singleton i (q ++ free)).symm
      exact hperm.nodup_iff.1 h.nd
    · intro j hj
      rw [List.length_set, unL_length]
      rcases List.mem_append.1 hj with hj | hj
      · exact h.lt j hj
      · simp at hj; subst hj; exact hlt j (by simp)
    · refine lk_congr _ _ _ (fun j hj e' he' => ⟨e', ?_, rfl, rfl⟩) g1
      rw [hne j (fun e => by
        subst e
        rcases List.mem_append.1 hj with hj | hj
        · exact hip hj
        · exact hiq hj)]
      exact he'
    · rw [hdel, List.map_append, List.map_append, ← e1, ← e2]
      congr 1
      · exact map_kv_congr fun j hj => hkvne j (fun e : j = i => hip (by rw [← e]; exact hj))
      · exact map_kv_congr fun j hj => hkvne j (fun e : j = i => hiq (by rw [← e]; exact hj))
    · rw [mdel_keys]; exact h.keys.erase _
    · intro k1 i1
      rw [mget_del _ _ _ h.mnd]
      by_cases hkk : k1 = k
      · subst hkk
        rw [if_pos rfl]
        constructor
        · intro e; cases e
        · rintro ⟨hm, he⟩
          have hm' : i1 ∈ p ++ i :: q := by
            rcases List.mem_append.1 hm with hm | hm
            · exact List.mem_append_left _ hm
            · exact List.mem_append_right _ (List.mem_cons_of_mem _ hm)
          have hne1 : i1 ≠ i := fun e => by
            subst e
            rcases List.mem_append.1 hm with hm | hm
            · exact hip hm
            · exact hiq hm
          rw [hkvne i1 hne1] at he
          have := (h.mp k1 i1).2 ⟨hm', he⟩
          rw [hi] at this
          cases this
          exact absurd rfl hne1
      · rw [if_neg hkk, h.mp]
        constructor
        · rintro ⟨hm, he⟩
          have hne1 : i1 ≠ i := fun e => by
            subst e
            rw [hkv] at he
            simp at he
            exact hkk he.symm
          refine ⟨?_, by rw [hkvne i1 hne1]; exact he⟩
          rcases List.mem_append.1 hm with hm | hm
          · exact List.mem_append_left _ hm
          · rcases List.mem_cons.1 hm with rfl | hm
            · exact absurd rfl hne1
            · exact List.mem_append_right _ hm
        · rintro ⟨hm, he⟩
          have hne1 : i1 ≠ i := fun e => by
            subst e
            rcases List.mem_append.1 hm with hm | hm
            · exact hip hm
            · exact hiq hm
          refine ⟨?_, by rw [← hkvne i1 hne1]; exact he⟩
          rcases List.mem_append.1 hm with hm | hm
          · exact List.mem_append_left _ hm
          · exact List.mem_append_right _ (List.mem_cons_of_mem _ hm)
    · rw [mdel_keys]; exact h.mnd.erase _
    · have h5 := h.mlen
      have h6 : (mdel m k).length = m.length - 1 := by
        obtain ⟨a, b, c1, c2, c3, c4⟩ := mget_split hi
        rw [c3, c1]; simp
      rw [h6, hdel, h5]; simp

theorem Rep.renew {l : List (En V)} {free : List Nat} {m : List (List UInt8 × Nat)} {pl : List Nat} {es : List (List UInt8 × V)} (h : Rep l free m pl es) {k : List UInt8} {i : Nat} (hi : mget m k = some i) :
    ∃ v a n e, mget es k = some v ∧ l[i]? = some e ∧ e.ahead = a ∧ e.next = n ∧ (a = -1 ∨ ∃ j : Nat, a = j ∧ j < l.length) ∧ (n = -1 ∨ ∃ j : Nat, n = j ∧ j < l.length) ∧
      (unE (lst (-1) pl) a n = -1 ∨ ∃ j : Nat, unE (lst (-1) pl) a n = j ∧ j < l.length) ∧
      ∃ pl', Rep (haL (unL l a n) i (unE (lst (-1) pl) a n)) free m pl' (mdel es k ++ [(k, v)]) ∧ haF (unF (hd pl (-1)) a n) (unE (lst (-1) pl) a n) i = hd pl' (-1) ∧ (i : Int) = lst (-1) pl' := by
  obtain ⟨v, p, q, pre, post, rfl, rfl, hlen, hkv, hg, hdel, hp, e1, e2⟩ := h.at hi
  have hn0 := List.nodup_append.1 h.nd
  have hn := List.nodup_append.1 hn0.1
  have hip : i ∉ p := fun hm => hn.2.2 i hm i (by simp) rfl
  have hiq : i ∉ q := (List.nodup_cons.1 hn.2.1).1
  have hlt := lk_lt _ _ _ h.lk
  obtain ⟨_, ⟨⟨e, h1, h2, h3⟩, _⟩⟩ := (lk_app l p (i :: q) (-1) (-1)).1 h.lk
  obtain ⟨g1, g2, g3⟩ := unhang_ok hn0.1 h.lk
  have hnpq : (p ++ q).Nodup := List.nodup_append.2 ⟨hn.1, (List.nodup_cons.1 hn.2.1).2, fun x hx y hy => hn.2.2 x hx y (List.mem_cons_of_mem _ hy)⟩
  have hipq : i ∉ p ++ q := fun hm => by
    rcases List.mem_append.1 hm with hm | hm
    · exact hip hm
    · exact hiq hm
  obtain ⟨k1, k2, k3⟩ := hang_ok hnpq hipq (by rw [unL_length]; exact hlt i (by simp)) g1
  have hkvs : ∀ j, kv (haL (unL l (lst (-1) p) (Tab.hd q (-1))) i (lst (-1) (p ++ q))) j = kv l j := fun j => by rw [haL_kv, unL_kv]
  refine ⟨v, lst (-1) p, Tab.hd q (-1), e, hg, h1, h2, h3, ?_, ?_, ?_, p ++ q ++ [i], ?_, by rw [g2, g3]; exact k2, k3⟩
  · cases p with
    | nil => exact .inl rfl
    | cons x p0 =>
      obtain ⟨j, hj, ej⟩ := lst_neg (x :: p0) (-1) (by simp)
      exact .inr ⟨j, ej, hlt j (List.mem_append_left _ hj)⟩
  · cases q with
    | nil => exact .inl rfl
    | cons x q0 => exact .inr ⟨x, rfl, hlt x (by simp)⟩
  · rw [g3]
    rcases hpq : p ++ q with _ | ⟨x, r⟩
    · exact .inl rfl
    · obtain ⟨j, hj, ej⟩ := lst_neg (x :: r) (-1) (by simp)
      rw [← hpq] at hj
      refine .inr ⟨j, ej, hlt j ?_⟩
      rcases List.mem_append.1 hj with hj | hj
      · exact List.mem_append_left _ hj
      · exact List.mem_append_right _ (List.mem_cons_of_mem _ hj)
  · rw [g3]
    have hperm : (p ++ i :: q).Perm (p ++ q ++ [i]) := by
      rw [List.append_assoc]
      exact List.Perm.append_left p (List.perm_append_singleton i q).symm
    refine ⟨(List.Perm.append_right free hperm).nodup_iff.1 h.nd, fun j hj => by rw [haL_length, unL_length]; exact h.lt j hj, k1, ?_, ?_, ?_, h.mnd, ?_⟩
    · rw [hdel, List.map_append, List.map_append, List.map_append, List.map_append, ← e1, ← e2]
      congr 1
      · congr 1
        · exact map_kv_congr fun j hj => hkvs j
        · exact map_kv_congr fun j hj => hkvs j
      · simp [hkvs, hkv]
    · have hk := h.keys
      have hpm : ((pre ++ (k, v) :: post).map (·.1)).Perm ((mdel (pre ++ (k, v) :: post) k ++ [(k, v)]).map (·.1)) := by
        rw [hdel]
        refine List.Perm.map _ ?_
        rw [List.append_assoc]
        exact List.Perm.append_left pre (List.perm_append_singleton (k, v) post).symm
      exact hpm.nodup_iff.1 hk
    · intro k' i'
      rw [hkvs, h.mp, hperm.mem_iff]
    · rw [hdel]; have := h.mlen; simp at this ⊢; omega

theorem Rep.new : Rep ([] : List (En V)) [] [] [] [] :=
  ⟨by simp, by simp, trivial, rfl, by simp, fun k i => by simp [mget], by simp, rfl⟩

end Go.Tab

/- Ranges over functions whose elements lie in the iterator's own memory, which the loop's body may read. Conditions: none. -/
set_option linter.unusedSimpArgs false
set_option linter.unusedVariables false
namespace Go.Ost
open Go

variable {P : Program} {n : Nat} {α : Type}

def Sh (H : Chunk) (J : Chunk → Prop) (C : Chunk) : Prop := ∃ C0, C = C0 ++ H ∧ J C0
def ShS (H : Chunk) (I : State → Prop) (C : State) : Prop := ∃ C0, C = C0 ++ [H] ∧ I C0

/-- An iterator's contract: as before, and what the element x points to lies in the chunk sh x. -/
structure IMeetsS (P : Program) (f : FuncId) (first captured : List Value) (encs : α → List Value) (sh : α → Chunk) (A : State) (Next : List α → α → Prop) (Done : List α → Prop) (inf : Bool) : Prop where
  able : callable P f = true
  out : ∀ (l : Nat) (J Jx : List α → Chunk → Prop), (inf = true → ∃ N, N ≤ 4611686018427387904 ∧ ∀ pre C, J pre C → pre.length ≤ N) →
    (∀ pre x, Next pre x → YMeets P l (encs x) (Sh (sh x) (J pre)) (Sh (sh x) (J (pre ++ [x]))) (Sh (sh x) (Jx (pre ++ [x])))) →
    ∀ C, J [] C → ∀ (F : Chunk) (w : World), Hold w (F :: C :: A) → CallsIn (FW none) 0 P f (first ++ [Value.func (.yield l) #[] #[]] ++ captured).toArray w
      (EndsW w fun _ S => ∃ C', S = F :: C' :: A ∧ ((∃ pre, Done pre ∧ J pre C') ∨ (∃ pre x, Next pre x ∧ Jx (pre ++ [x]) C')))

theorem iter_introS {f : FuncId} {first captured : List Value} {encs : α → List Value} {sh : α → Chunk} {A : State} {Next : List α → α → Prop} {Done : List α → Prop} {inf : Bool} (ha : callable P f = true)
    (h : ∀ (l : Nat) (J Jx : List α → Chunk → Prop), (inf = true → ∃ N, N ≤ 4611686018427387904 ∧ ∀ pre C, J pre C → pre.length ≤ N) → (∀ pre x, Next pre x → YMeets P l (encs x) (Sh (sh x) (J pre)) (Sh (sh x) (J (pre ++ [x]))) (Sh (sh x) (Jx (pre ++ [x])))) →
      ∀ C, J [] C → Meets P f (first ++ [Value.func (.yield l) #[] #[]] ++ captured) (C :: A) fun _ S => ∃ C', S = C' :: A ∧ ((∃ pre, Done pre ∧ J pre C') ∨ (∃ pre x, Next pre x ∧ Jx (pre ++ [x]) C'))) :
    IMeetsS P f first captured encs sh A Next Done inf :=
  ⟨ha, fun l J Jx hN hY C hC F w hw => ((h l J Jx hN hY C hC).out F w hw).mono fun e w' ⟨v, S, a, b, c, A', d, C', e', r⟩ => ⟨v, S, a, b, c, C', by rw [d, e'], r⟩⟩

theorem yield_meetsS {l : Nat} {args : List Value} {Jin Jout Jstop : Chunk → Prop} {S G : State} {C H : Chunk} {κ : Value → State → Prop} (h : YMeets P l args (Sh H Jin) (Sh H Jout) (Sh H Jstop)) (hC : Jin C) (ht : Take [C, H] S G)
    (k1 : ∀ C', Jout C' → κ (.bool true) (C' :: H :: G)) (k2 : ∀ C', Jstop C' → κ (.bool false) (C' :: H :: G)) : YieldW P l args.toArray S κ := by
  refine ⟨fun w hw => ?_⟩
  have h1 := h.out (C ++ H) ⟨C, rfl, hC⟩ G.flatten w (hw.perm (ht.perm.trans (by simp only [List.flatten_append, List.flatten_cons, List.flatten_nil, List.append_nil]; exact List.perm_append_comm)))
  obtain ⟨fn, tm, asg, bd, hr, hR⟩ := h1
  refine ⟨fn, tm, asg, bd, hr, hR.mono ?_⟩
  rintro e w' ⟨v, S', rfl, he, hh, b, C', rfl, rfl, j1, j2⟩
  cases b
  · obtain ⟨C0, rfl, hJ⟩ := j2 rfl
    exact ⟨.bool false, C0 :: H :: G, rfl, he, hh.perm (by simp only [List.flatten_cons, List.flatten_nil, List.append_nil]; rw [← List.append_assoc C0 H]; exact List.perm_append_comm), k2 C0 hJ⟩
  · obtain ⟨C0, rfl, hJ⟩ := j1 rfl
    exact ⟨.bool true, C0 :: H :: G, rfl, he, hh.perm (by simp only [List.flatten_cons, List.flatten_nil, List.append_nil]; rw [← List.append_assoc C0 H]; exact List.perm_append_comm), k1 C0 hJ⟩

theorem YMeets.swap {l : Nat} {args : List Value} {Ji Jo Jx Ki Ko Kx : Chunk → Prop} (h : YMeets P l args Ji Jo Jx) (h1 : ∀ C, Ki C → Ji C) (h2 : ∀ C, Jo C → Ko C) (h3 : ∀ C, Jx C → Kx C) : YMeets P l args Ki Ko Kx := by
  refine ⟨fun C hC F w hw => ?_⟩
  obtain ⟨fn, tm, asg, bd, hr, hR⟩ := h.out C (h1 C hC) F w hw
  refine ⟨fn, tm, asg, bd, hr, hR.mono ?_⟩
  rintro e w' ⟨v, S', rfl, he, hh, b, C', hv, hS, j1, j2⟩
  exact ⟨_, _, rfl, he, hh, b, C', hv, hS, fun hb => h2 _ (j1 hb), fun hb => h3 _ (j2 hb)⟩

/-- The core of both rules: the record l (and whatever else is new) lies; the iterator is called. -/
theorem range_coreS {ro : Option Nat} {fn : FuncId} {t : Array Value} {ps : Array Tmp} {assign body : Code} {dB l : Nat} {L : Env} {f : FuncId} {first captured : List Value} {encs : α → List Value} {sh : α → Chunk} {A C0 M : State}
    {Next : List α → α → Prop} {Done : List α → Prop} {inf : Bool} {Q : Exit → Act → World → Prop} {a' : Act} {w w1 : World}
    (hit : IMeetsS P f first captured encs sh A Next Done inf) (I : List α → State → Prop) (Ix : Code → List α → State → Prop)
    (hinf : inf = true → ∃ N, N ≤ 4611686018427387904 ∧ ∀ pre C, I pre C → pre.length ≤ N) (hag : Agree n L [] { tmps := t, defers := [] }) (hps : ∀ x, (encs x).length = ps.size) (h0 : I [] C0) (he : Ext w w1)
    (hw1 : Hold w1 ([(l, .loop { state := .ready, pending := none, fn, tmps := t, params := ps, assign, body, defers := dB })] :: M ++ C0 ++ A))
    (hround : ∀ (F : Chunk) (C : State) (r : Loop) (pre : List α) (x : α), Next pre x → I pre C → CodeW P n (some l) assign (assignK P n l r body F (ShS (sh x) (I (pre ++ [x]))) (fun c => ShS (sh x) (Ix c (pre ++ [x])))) [] (putAll n ps.toList (encs x) L) ([(l, .loop r)] :: F :: (C ++ [sh x])))
    (hdone : ∀ (pre : List α) (C : State) (w2 : World), Done pre → I pre C → Ext w w2 → Hold w2 (M ++ C ++ A) → Q .normal a' w2)
    (hstop : ∀ (c : Code) (pre : List α) (x : α) (C : State) (w2 : World), Next pre x → Ix c (pre ++ [x]) C → Ext w w2 → Hold w2 (M ++ C ++ A) → c.wpIn (FW ro) 0 P Q a' w2) :
    CallsIn (FW none) 0 P f (first ++ [Value.func (.yield l) #[] #[]] ++ captured).toArray w1 (rangePost (FW ro) 0 P l Q a') := by
  have h1 := hit.out l (fun pre C => ∃ C1 : State, C = (l, .loop { state := .ready, pending := none, fn, tmps := t, params := ps, assign, body, defers := dB }) :: C1.flatten ∧ I pre C1)
    (fun pre C => ∃ (c : Code) (C1 : State), C = (l, .loop { state := .done, pending := some c, fn, tmps := t, params := ps, assign, body, defers := dB }) :: C1.flatten ∧ Ix c pre C1)
    (fun h => let ⟨N, hN0, hN⟩ := hinf h; ⟨N, hN0, fun pre C ⟨C1, _, hI⟩ => hN pre C1 hI⟩)
    (fun pre x hx => (round_meets (fn := fn) (t := t) (ps := ps) (assign := assign) (body := body) (dB := dB) (I := ShS (sh x) (I pre)) (Iout := ShS (sh x) (I (pre ++ [x]))) (Ix := fun c => ShS (sh x) (Ix c (pre ++ [x]))) hag (hps x) fun F C r _ ⟨C0, hC0, hI⟩ => by rw [hC0]; exact hround F C0 r pre x hx hI).swap
      (fun C hC => by obtain ⟨C0, h1, C1, h2, h3⟩ := hC; exact ⟨C1 ++ [sh x], by rw [h1, h2]; simp, C1, rfl, h3⟩)
      (fun C hC => by obtain ⟨C0, h1, C1, h2, h3⟩ := hC; exact ⟨_, by rw [h1, h2, List.flatten_append, ← List.cons_append]; simp only [List.flatten_cons, List.flatten_nil, List.append_nil], C1, rfl, h3⟩)
      (fun C hC => by obtain ⟨c, C0, h1, C1, h2, h3⟩ := hC; exact ⟨_, by rw [h1, h2, List.flatten_append, ← List.cons_append]; simp only [List.flatten_cons, List.flatten_nil, List.append_nil], c, C1, rfl, h3⟩)) _ ⟨C0, rfl, h0⟩ M.flatten w1
    (hw1.perm (by
      simp only [List.flatten_append, List.flatten_cons, List.cons_append, List.append_assoc, List.nil_append]
      exact List.perm_middle.symm))
  refine h1.mono ?_
  rintro e w2 ⟨v, S, rfl, he2, hh, C', rfl, (⟨pre, hd, C1, rfl, hI⟩ | ⟨pre, x, hx, c, C1, rfl, hI⟩)⟩
  · have hw2 : Hold w2 ([(l, .loop { state := .ready, pending := none, fn, tmps := t, params := ps, assign, body, defers := dB })] :: (M ++ C1 ++ A)) := hh.perm (by
      simp only [List.flatten_append, List.flatten_cons, List.cons_append, List.append_assoc, List.nil_append]
      exact List.perm_middle)
    have hl2 : w2.heap[l]? = some (.loop { state := .ready, pending := none, fn, tmps := t, params := ps, assign, body, defers := dB }) := hw2.get l _ (by simp)
    refine ⟨none, _, run_endLoop (P := P) hl2 (by simp), hdone pre C1 _ hd hI ((he.trans he2).trans (put_ext _ _ _)) ?_⟩
    exact (put_hold hw2).sub (by simp)
  · have hw2 : Hold w2 ([(l, .loop { state := .done, pending := some c, fn, tmps := t, params := ps, assign, body, defers := dB })] :: (M ++ C1 ++ A)) := hh.perm (by
      simp only [List.flatten_append, List.flatten_cons, List.cons_append, List.append_assoc, List.nil_append]
      exact List.perm_middle)
    have hl2 : w2.heap[l]? = some (.loop { state := .done, pending := some c, fn, tmps := t, params := ps, assign, body, defers := dB }) := hw2.get l _ (by simp)
    refine ⟨some c, _, run_endLoop (P := P) hl2 (by simp), hstop c pre x C1 _ hx hI ((he.trans he2).trans (put_ext _ _ _)) ?_⟩
    exact (put_hold hw2).sub (by simp)

/-- 'for .. := range f { .. }', in no other such loop's body. -/
theorem code_rangeS {g : Operand} {ps : Array Tmp} {assign body : Code} {K : Cont} {D : List Nat} {L : Env} {S A C0 : State} {f : FuncId} {first captured : Array Value} {encs : α → List Value} {sh : α → Chunk}
    {Next : List α → α → Prop} {Done : List α → Prop} {inf : Bool} (hg : evT L g = some (.func (.func f) first captured)) (hit : IMeetsS P f first.toList captured.toList encs sh A Next Done inf)
    (ht : Take A S C0) (I : List α → State → Prop) (Ix : Code → List α → State → Prop) (hinf : inf = true → ∃ N, N ≤ 4611686018427387904 ∧ ∀ pre C, I pre C → pre.length ≤ N) (hps : ∀ x, (encs x).length = ps.size) (h0 : I [] C0)
    (hround : ∀ (l : Nat) (F : Chunk) (C : State) (r : Loop) (pre : List α) (x : α), Next pre x → I pre C → CodeW P n (some l) assign (assignK P n l r body F (ShS (sh x) (I (pre ++ [x]))) (fun c => ShS (sh x) (Ix c (pre ++ [x])))) [] (putAll n ps.toList (encs x) L) ([(l, .loop r)] :: F :: (C ++ [sh x])))
    (hdone : ∀ (d : Nat) (pre : List α) (C : State), Done pre → I pre C → K .normal (d :: D) L ([(d, .deferred (some []))] :: (C ++ A)))
    (hstop : ∀ (d : Nat) (c : Code) (pre : List α) (x : α) (C : State), Next pre x → Ix c (pre ++ [x]) C → CodeW P n none c K (d :: D) L ([(d, .deferred (some []))] :: (C ++ A))) :
    CodeW P n none (.rangeFunc g ps assign body) K D L S := by
  refine ⟨fun a w ha hw => wpIn_rangeFunc fun fn _ => ?_⟩
  obtain ⟨W1, hW1⟩ : ∃ W1 : World, W1 = (w.alloc (.deferred (some []))).alloc (.loop { state := .ready, pending := none, fn, tmps := a.tmps, params := ps, assign, body, defers := w.heap.size }) := ⟨_, rfl⟩
  refine ⟨w.heap.size + 1, [markD w.heap.size], W1,
    { target := .fn (.func f) captured, args := first ++ #[.func (.yield (w.heap.size + 1)) #[] #[]] }, W1, f, (first.toList ++ [Value.func (.yield (w.heap.size + 1)) #[] #[]] ++ captured.toList).toArray, W1,
    by rw [hW1]; exact run_enterLoop_outer fn a.tmps ps assign body, ?_, fun _ _ => trivial, ?_, fun h => (by cases h), ?_⟩
  · simp only [resolve, ha.ev hg]
    simp [Deferred.ofValue, Act.eval]
  · simp only [invoke]
    rw [enters_able hit.able]
    congr 2
    apply Array.ext'; simp
  · have e1 : (w.alloc (.deferred (some []))).heap = w.heap.push (.deferred (some [])) := rfl
    have hw1 := hw.new (w' := w.alloc (.deferred (some []))) (o := .deferred (some [])) rfl
    have hw2 := hw1.new (w' := (w.alloc (.deferred (some []))).alloc (.loop { state := .ready, pending := none, fn, tmps := a.tmps, params := ps, assign, body, defers := w.heap.size })) rfl
    rw [World.size_alloc, ← hW1] at hw2
    refine range_coreS (n := n) (L := L) (dB := w.heap.size) (t := a.tmps) (fn := fn) (C0 := C0) (M := [[(w.heap.size, .deferred (some []))]]) (w := w) hit I Ix hinf ⟨ha.size, ha.get, rfl⟩ hps h0
      (by rw [hW1]; exact ⟨rfl, rfl, rfl, by simp only [World.size_alloc]; omega⟩) ?_ (fun F C r pre x hx hI => hround _ F C r pre x hx hI) ?_ ?_
    · refine hw2.perm ?_
      simp only [List.flatten_append, List.flatten_cons, List.cons_append, List.append_assoc, List.nil_append, List.flatten_nil]
      refine List.Perm.cons _ (List.Perm.cons _ ?_)
      have := ht.perm
      rw [List.flatten_append] at this
      exact this.trans List.perm_append_comm
    · intro pre C w2 hd hI he hh
      exact ⟨_, L, _, hdone w.heap.size pre C hd hI, ⟨ha.size, ha.get, by simp [ha.marks]⟩, he, hh.perm (by simp)⟩
    · intro c pre x C w2 hx hI he hh
      refine wpIn_mono ((hstop w.heap.size c pre x C hx hI).out { a with defers := [markD w.heap.size] ++ a.defers } w2 ⟨ha.size, ha.get, by simp [ha.marks]⟩ (hh.perm (by simp))) fun _ _ _ hq => hq.ext he


end Go.Ost

/- Ranges over functions, in full: what the loop's memory holds when the range begins, what goes from the iterator to the loop's body with an element and back, what the iterator's own memory has become. Conditions: none. -/
set_option linter.unusedSimpArgs false
set_option linter.unusedVariables false
namespace Go.Ost
open Go

variable {P : Program} {n : Nat} {α : Type}

/-- A chunk of two parts. -/
def Gv (H : State → Prop) (J : Chunk → Prop) (C : Chunk) : Prop := ∃ (C0 : Chunk) (H0 : State), C = C0 ++ H0.flatten ∧ J C0 ∧ H H0
def GvS (H : State → Prop) (I : State → Prop) (C : State) : Prop := ∃ C0 H0 : State, C = C0 ++ H0 ∧ I C0 ∧ H H0

/-- An iterator's contract, in full. T0: what lies in the loop's memory at the beginning. Hin: what goes with an element; Hout, Hst: what comes back (as the loop goes on, or stops). E: what the iterator's memory has become. -/
structure IMeetsG (P : Program) (f : FuncId) (first captured : List Value) (encs : α → List Value) (A : State) (T0 : Chunk → Prop) (Hin Hout Hst : List α → α → State → Prop) (Next : List α → α → Prop) (Done : List α → Prop) (E Es : List α → State → Prop) (inf : Bool) : Prop where
  able : callable P f = true
  out : ∀ (l : Nat) (J Jx : List α → Chunk → Prop), (inf = true → ∃ N, N ≤ 4611686018427387904 ∧ ∀ pre C, J pre C → pre.length ≤ N) → (∀ C, J [] C → ∃ T R, T0 T ∧ C.Perm (T ++ R)) →
    (∀ pre x, Next pre x → YMeets P l (encs x) (Gv (Hin pre x) (J pre)) (Gv (Hout pre x) (J (pre ++ [x]))) (Gv (Hst pre x) (Jx (pre ++ [x])))) →
    ∀ C, J [] C → ∀ (F : Chunk) (w : World), Hold w (F :: C :: A) → CallsIn (FW none) 0 P f (first ++ [Value.func (.yield l) #[] #[]] ++ captured).toArray w
      (EndsW w fun _ S => ∃ C' A', S = F :: C' :: A' ∧ ((∃ pre, Done pre ∧ J pre C' ∧ E pre A') ∨ (∃ pre x, Next pre x ∧ Jx (pre ++ [x]) C' ∧ Es (pre ++ [x]) A')))

theorem iter_introG {f : FuncId} {first captured : List Value} {encs : α → List Value} {A : State} {T0 : Chunk → Prop} {Hin Hout Hst : List α → α → State → Prop} {Next : List α → α → Prop} {Done : List α → Prop} {E Es : List α → State → Prop} {inf : Bool} (ha : callable P f = true)
    (h : ∀ (l : Nat) (J Jx : List α → Chunk → Prop), (inf = true → ∃ N, N ≤ 4611686018427387904 ∧ ∀ pre C, J pre C → pre.length ≤ N) → (∀ C, J [] C → ∃ T R, T0 T ∧ C.Perm (T ++ R)) →
      (∀ pre x, Next pre x → YMeets P l (encs x) (Gv (Hin pre x) (J pre)) (Gv (Hout pre x) (J (pre ++ [x]))) (Gv (Hst pre x) (Jx (pre ++ [x])))) →
      ∀ C, J [] C → Meets P f (first ++ [Value.func (.yield l) #[] #[]] ++ captured) (C :: A) fun _ S => ∃ C' A', S = C' :: A' ∧ ((∃ pre, Done pre ∧ J pre C' ∧ E pre A') ∨ (∃ pre x, Next pre x ∧ Jx (pre ++ [x]) C' ∧ Es (pre ++ [x]) A'))) :
    IMeetsG P f first captured encs A T0 Hin Hout Hst Next Done E Es inf :=
  ⟨ha, fun l J Jx hN hT hY C hC F w hw => ((h l J Jx hN hT hY C hC).out F w hw).mono fun e w' ⟨v, S, a, b, c, A', d, C', A'', e', r⟩ => ⟨v, S, a, b, c, C', A'', by rw [d, e'], r⟩⟩

/-- In the iterator's own walk: yield is called. -/
theorem yield_meetsG {l : Nat} {args : List Value} {Jin Jout Jstop : Chunk → Prop} {Hi Ho Hs : State → Prop} {S G H : State} {C : Chunk} {κ : Value → State → Prop} (h : YMeets P l args (Gv Hi Jin) (Gv Ho Jout) (Gv Hs Jstop)) (hC : Jin C) (hH : Hi H) (ht : Take (C :: H) S G)
    (k1 : ∀ C' H', Jout C' → Ho H' → κ (.bool true) (C' :: (H' ++ G))) (k2 : ∀ C' H', Jstop C' → Hs H' → κ (.bool false) (C' :: (H' ++ G))) : YieldW P l args.toArray S κ := by
  refine ⟨fun w hw => ?_⟩
  have h1 := h.out (C ++ H.flatten) ⟨C, H, rfl, hC, hH⟩ G.flatten w (hw.perm (ht.perm.trans (by simp only [List.cons_append, List.flatten_append, List.flatten_cons, List.flatten_nil, List.append_nil]; rw [← List.append_assoc]; exact List.perm_append_comm)))
  obtain ⟨fn, tm, asg, bd, hr, hR⟩ := h1
  refine ⟨fn, tm, asg, bd, hr, hR.mono ?_⟩
  rintro e w' ⟨v, S', rfl, he, hh, b, C', rfl, rfl, j1, j2⟩
  cases b
  · obtain ⟨C0, H0, rfl, hJ, hH0⟩ := j2 rfl
    exact ⟨.bool false, C0 :: (H0 ++ G), rfl, he, hh.perm (by simp only [List.flatten_append, List.flatten_cons, List.flatten_nil, List.append_nil]; rw [← List.append_assoc C0]; exact List.perm_append_comm), k2 C0 H0 hJ hH0⟩
  · obtain ⟨C0, H0, rfl, hJ, hH0⟩ := j1 rfl
    exact ⟨.bool true, C0 :: (H0 ++ G), rfl, he, hh.perm (by simp only [List.flatten_append, List.flatten_cons, List.flatten_nil, List.append_nil]; rw [← List.append_assoc C0]; exact List.perm_append_comm), k1 C0 H0 hJ hH0⟩

/-- The core of both rules: the record l (and whatever else is new) lies; the iterator is called. -/
theorem range_coreG {ro : Option Nat} {fn : FuncId} {t : Array Value} {ps : Array Tmp} {assign body : Code} {dB l : Nat} {L : Env} {f : FuncId} {first captured : List Value} {encs : α → List Value} {A C0 M : State}
    {T0 : Chunk → Prop} {Hin Hout Hst : List α → α → State → Prop} {Next : List α → α → Prop} {Done : List α → Prop} {E Es : List α → State → Prop} {inf : Bool} {Q : Exit → Act → World → Prop} {a' : Act} {w w1 : World}
    (hit : IMeetsG P f first captured encs A T0 Hin Hout Hst Next Done E Es inf) (I : List α → State → Prop) (Ix : Code → List α → State → Prop)
    (hinf : inf = true → ∃ N, N ≤ 4611686018427387904 ∧ ∀ pre C, I pre C → pre.length ≤ N) (hT : ∀ C, I [] C → ∃ T R, T0 T ∧ C.flatten.Perm (T ++ R)) (hag : Agree n L [] { tmps := t, defers := [] }) (hps : ∀ x, (encs x).length = ps.size) (h0 : I [] C0) (he : Ext w w1)
    (hw1 : Hold w1 ([(l, .loop { state := .ready, pending := none, fn, tmps := t, params := ps, assign, body, defers := dB })] :: M ++ C0 ++ A))
    (hround : ∀ (F : Chunk) (C H : State) (r : Loop) (pre : List α) (x : α), Next pre x → I pre C → Hin pre x H → CodeW P n (some l) assign (assignK P n l r body F (GvS (Hout pre x) (I (pre ++ [x]))) (fun c => GvS (Hst pre x) (Ix c (pre ++ [x])))) [] (putAll n ps.toList (encs x) L) ([(l, .loop r)] :: F :: (C ++ H)))
    (hdone : ∀ (pre : List α) (C A : State) (w2 : World), Done pre → I pre C → E pre A → Ext w w2 → Hold w2 (M ++ C ++ A) → Q .normal a' w2)
    (hstop : ∀ (c : Code) (pre : List α) (x : α) (C A : State) (w2 : World), Next pre x → Ix c (pre ++ [x]) C → Es (pre ++ [x]) A → Ext w w2 → Hold w2 (M ++ C ++ A) → c.wpIn (FW ro) 0 P Q a' w2) :
    CallsIn (FW none) 0 P f (first ++ [Value.func (.yield l) #[] #[]] ++ captured).toArray w1 (rangePost (FW ro) 0 P l Q a') := by
  have h1 := hit.out l (fun pre C => ∃ C1 : State, C = (l, .loop { state := .ready, pending := none, fn, tmps := t, params := ps, assign, body, defers := dB }) :: C1.flatten ∧ I pre C1)
    (fun pre C => ∃ (c : Code) (C1 : State), C = (l, .loop { state := .done, pending := some c, fn, tmps := t, params := ps, assign, body, defers := dB }) :: C1.flatten ∧ Ix c pre C1)
    (fun h => let ⟨N, hN0, hN⟩ := hinf h; ⟨N, hN0, fun pre C ⟨C1, _, hI⟩ => hN pre C1 hI⟩)
    (fun C ⟨C1, hC, hI⟩ => by
      obtain ⟨T, R, h1, h2⟩ := hT C1 hI
      exact ⟨T, _ :: R, h1, by rw [hC]; exact (List.Perm.cons _ h2).trans List.perm_middle.symm⟩)
    (fun pre x hx => (round_meets (fn := fn) (t := t) (ps := ps) (assign := assign) (body := body) (dB := dB) (I := GvS (Hin pre x) (I pre)) (Iout := GvS (Hout pre x) (I (pre ++ [x]))) (Ix := fun c => GvS (Hst pre x) (Ix c (pre ++ [x]))) hag (hps x) fun F C r _ ⟨C0, H0, hC0, hI, hH⟩ => by rw [hC0]; exact hround F C0 H0 r pre x hx hI hH).swap
      (fun C hC => by obtain ⟨C0, H0, h1, ⟨C1, h2, h3⟩, h4⟩ := hC; exact ⟨C1 ++ H0, by rw [h1, h2]; simp, C1, H0, rfl, h3, h4⟩)
      (fun C hC => by obtain ⟨C0, h1, C1, H0, h2, h3, h4⟩ := hC; exact ⟨_, H0, by rw [h1, h2, List.flatten_append, ← List.cons_append], ⟨C1, rfl, h3⟩, h4⟩)
      (fun C hC => by obtain ⟨c, C0, h1, C1, H0, h2, h3, h4⟩ := hC; exact ⟨_, H0, by rw [h1, h2, List.flatten_append, ← List.cons_append], ⟨c, C1, rfl, h3⟩, h4⟩)) _ ⟨C0, rfl, h0⟩ M.flatten w1
    (hw1.perm (by
      simp only [List.flatten_append, List.flatten_cons, List.cons_append, List.append_assoc, List.nil_append]
      exact List.perm_middle.symm))
  refine h1.mono ?_
  rintro e w2 ⟨v, S, rfl, he2, hh, C', A, rfl, (⟨pre, hd, ⟨C1, rfl, hI⟩, hE⟩ | ⟨pre, x, hx, ⟨c, C1, rfl, hI⟩, hE⟩)⟩
  · have hw2 : Hold w2 ([(l, .loop { state := .ready, pending := none, fn, tmps := t, params := ps, assign, body, defers := dB })] :: (M ++ C1 ++ A)) := hh.perm (by
      simp only [List.flatten_append, List.flatten_cons, List.cons_append, List.append_assoc, List.nil_append]
      exact List.perm_middle)
    have hl2 : w2.heap[l]? = some (.loop { state := .ready, pending := none, fn, tmps := t, params := ps, assign, body, defers := dB }) := hw2.get l _ (by simp)
    refine ⟨none, _, run_endLoop (P := P) hl2 (by simp), hdone pre C1 A _ hd hI hE ((he.trans he2).trans (put_ext _ _ _)) ?_⟩
    exact (put_hold hw2).sub (by simp)
  · have hw2 : Hold w2 ([(l, .loop { state := .done, pending := some c, fn, tmps := t, params := ps, assign, body, defers := dB })] :: (M ++ C1 ++ A)) := hh.perm (by
      simp only [List.flatten_append, List.flatten_cons, List.cons_append, List.append_assoc, List.nil_append]
      exact List.perm_middle)
    have hl2 : w2.heap[l]? = some (.loop { state := .done, pending := some c, fn, tmps := t, params := ps, assign, body, defers := dB }) := hw2.get l _ (by simp)
    refine ⟨some c, _, run_endLoop (P := P) hl2 (by simp), hstop c pre x C1 A _ hx hI hE ((he.trans he2).trans (put_ext _ _ _)) ?_⟩
    exact (put_hold hw2).sub (by simp)

/-- 'for .. := range f { .. }', in no other such loop's body. -/
theorem code_rangeG {g : Operand} {ps : Array Tmp} {assign body : Code} {K : Cont} {D : List Nat} {L : Env} {S A C0 : State} {f : FuncId} {first captured : Array Value} {encs : α → List Value}
    {T0 : Chunk → Prop} {Hin Hout Hst : List α → α → State → Prop} {Next : List α → α → Prop} {Done : List α → Prop} {E Es : List α → State → Prop} {inf : Bool} (hg : evT L g = some (.func (.func f) first captured)) (hit : IMeetsG P f first.toList captured.toList encs A T0 Hin Hout Hst Next Done E Es inf)
    (ht : Take A S C0) (I : List α → State → Prop) (Ix : Code → List α → State → Prop) (hinf : inf = true → ∃ N, N ≤ 4611686018427387904 ∧ ∀ pre C, I pre C → pre.length ≤ N) (hT : ∀ C, I [] C → ∃ T R, T0 T ∧ C.flatten.Perm (T ++ R)) (hps : ∀ x, (encs x).length = ps.size) (h0 : I [] C0)
    (hround : ∀ (l : Nat) (F : Chunk) (C H : State) (r : Loop) (pre : List α) (x : α), Next pre x → I pre C → Hin pre x H → CodeW P n (some l) assign (assignK P n l r body F (GvS (Hout pre x) (I (pre ++ [x]))) (fun c => GvS (Hst pre x) (Ix c (pre ++ [x])))) [] (putAll n ps.toList (encs x) L) ([(l, .loop r)] :: F :: (C ++ H)))
    (hdone : ∀ (d : Nat) (pre : List α) (C A : State), Done pre → I pre C → E pre A → K .normal (d :: D) L ([(d, .deferred (some []))] :: (C ++ A)))
    (hstop : ∀ (d : Nat) (c : Code) (pre : List α) (x : α) (C A : State), Next pre x → Ix c (pre ++ [x]) C → Es (pre ++ [x]) A → CodeW P n none c K (d :: D) L ([(d, .deferred (some []))] :: (C ++ A))) :
    CodeW P n none (.rangeFunc g ps assign body) K D L S := by
  refine ⟨fun a w ha hw => wpIn_rangeFunc fun fn _ => ?_⟩
  obtain ⟨W1, hW1⟩ : ∃ W1 : World, W1 = (w.alloc (.deferred (some []))).alloc (.loop { state := .ready, pending := none, fn, tmps := a.tmps, params := ps, assign, body, defers := w.heap.size }) := ⟨_, rfl⟩
  refine ⟨w.heap.size + 1, [markD w.heap.size], W1,
    { target := .fn (.func f) captured, args := first ++ #[.func (.yield (w.heap.size + 1)) #[] #[]] }, W1, f, (first.toList ++ [Value.func (.yield (w.heap.size + 1)) #[] #[]] ++ captured.toList).toArray, W1,
    by rw [hW1]; exact run_enterLoop_outer fn a.tmps ps assign body, ?_, fun _ _ => trivial, ?_, fun h => (by cases h), ?_⟩
  · simp only [resolve, ha.ev hg]
    simp [Deferred.ofValue, Act.eval]
  · simp only [invoke]
    rw [enters_able hit.able]
    congr 2
    apply Array.ext'; simp
  · have e1 : (w.alloc (.deferred (some []))).heap = w.heap.push (.deferred (some [])) := rfl
    have hw1 := hw.new (w' := w.alloc (.deferred (some []))) (o := .deferred (some [])) rfl
    have hw2 := hw1.new (w' := (w.alloc (.deferred (some []))).alloc (.loop { state := .ready, pending := none, fn, tmps := a.tmps, params := ps, assign, body, defers := w.heap.size })) rfl
    rw [World.size_alloc, ← hW1] at hw2
    refine range_coreG (n := n) (L := L) (dB := w.heap.size) (t := a.tmps) (fn := fn) (C0 := C0) (M := [[(w.heap.size, .deferred (some []))]]) (w := w) hit I Ix hinf hT ⟨ha.size, ha.get, rfl⟩ hps h0
      (by rw [hW1]; exact ⟨rfl, rfl, rfl, by simp only [World.size_alloc]; omega⟩) ?_ (fun F C H r pre x hx hI hH => hround _ F C H r pre x hx hI hH) ?_ ?_
    · refine hw2.perm ?_
      simp only [List.flatten_append, List.flatten_cons, List.cons_append, List.append_assoc, List.nil_append, List.flatten_nil]
      refine List.Perm.cons _ (List.Perm.cons _ ?_)
      have := ht.perm
      rw [List.flatten_append] at this
      exact this.trans List.perm_append_comm
    · intro pre C A w2 hd hI hE he hh
      exact ⟨_, L, _, hdone w.heap.size pre C A hd hI hE, ⟨ha.size, ha.get, by simp [ha.marks]⟩, he, hh.perm (by simp)⟩
    · intro c pre x C A w2 hx hI hE he hh
      refine wpIn_mono ((hstop w.heap.size c pre x C A hx hI hE).out { a with defers := [markD w.heap.size] ++ a.defers } w2 ⟨ha.size, ha.get, by simp [ha.marks]⟩ (hh.perm (by simp))) fun _ _ _ hq => hq.ext he

/-- The same in the body of such a loop (of the record l₀). -/
theorem code_rangeG_in {l₀ : Nat} {r₀ : Loop} {g : Operand} {ps : Array Tmp} {assign body : Code} {K : Cont} {D : List Nat} {L : Env} {S A C0 : State} {f : FuncId} {first captured : Array Value} {encs : α → List Value}
    {T0 : Chunk → Prop} {Hin Hout Hst : List α → α → State → Prop} {Next : List α → α → Prop} {Done : List α → Prop} {E Es : List α → State → Prop} {inf : Bool} (hg : evT L g = some (.func (.func f) first captured)) (hl : Lies l₀ (.loop r₀) S) (hit : IMeetsG P f first.toList captured.toList encs A T0 Hin Hout Hst Next Done E Es inf)
    (ht : Take A S C0) (I : List α → State → Prop) (Ix : Code → List α → State → Prop) (hinf : inf = true → ∃ N, N ≤ 4611686018427387904 ∧ ∀ pre C, I pre C → pre.length ≤ N) (hT : ∀ C, I [] C → ∃ T R, T0 T ∧ C.flatten.Perm (T ++ R)) (hps : ∀ x, (encs x).length = ps.size) (h0 : I [] C0)
    (hround : ∀ (l : Nat) (F : Chunk) (C H : State) (r : Loop) (pre : List α) (x : α), Next pre x → I pre C → Hin pre x H → CodeW P n (some l) assign (assignK P n l r body F (GvS (Hout pre x) (I (pre ++ [x]))) (fun c => GvS (Hst pre x) (Ix c (pre ++ [x])))) [] (putAll n ps.toList (encs x) L) ([(l, .loop r)] :: F :: (C ++ H)))
    (hdone : ∀ (pre : List α) (C A : State), Done pre → I pre C → E pre A → K .normal D L (C ++ A))
    (hstop : ∀ (c : Code) (pre : List α) (x : α) (C A : State), Next pre x → Ix c (pre ++ [x]) C → Es (pre ++ [x]) A → CodeW P n (some l₀) c K D L (C ++ A)) :
    CodeW P n (some l₀) (.rangeFunc g ps assign body) K D L S := by
  refine ⟨fun a w ha hw => wpIn_rangeFunc fun fn _ => ?_⟩
  have hr := hl.get hw
  obtain ⟨W1, hW1⟩ : ∃ W1 : World, W1 = w.alloc (.loop { state := .ready, pending := none, fn, tmps := a.tmps, params := ps, assign, body, defers := r₀.defers }) := ⟨_, rfl⟩
  refine ⟨w.heap.size, [], W1,
    { target := .fn (.func f) captured, args := first ++ #[.func (.yield w.heap.size) #[] #[]] }, W1, f, (first.toList ++ [Value.func (.yield w.heap.size) #[] #[]] ++ captured.toList).toArray, W1,
    by rw [hW1]; exact run_enterLoop_inner hr fn a.tmps ps assign body, ?_, fun _ _ => trivial, ?_, fun h => (by cases h), ?_⟩
  · simp only [resolve, ha.ev hg]
    simp [Deferred.ofValue, Act.eval]
  · simp only [invoke]
    rw [enters_able hit.able]
    congr 2
    apply Array.ext'; simp
  · have hw1 := hw.new (w' := w.alloc (.loop { state := .ready, pending := none, fn, tmps := a.tmps, params := ps, assign, body, defers := r₀.defers })) rfl
    rw [← hW1] at hw1
    refine range_coreG (n := n) (L := L) (dB := r₀.defers) (t := a.tmps) (fn := fn) (C0 := C0) (M := []) (w := w) hit I Ix hinf hT ⟨ha.size, ha.get, rfl⟩ hps h0
      (by rw [hW1]; exact ⟨rfl, rfl, rfl, by simp only [World.size_alloc]; omega⟩) ?_ (fun F C H r pre x hx hI hH => hround _ F C H r pre x hx hI hH) ?_ ?_
    · refine hw1.perm ?_
      simp only [List.flatten_append, List.flatten_cons, List.cons_append, List.append_assoc, List.nil_append, List.flatten_nil]
      refine List.Perm.cons _ ?_
      have := ht.perm
      rw [List.flatten_append] at this
      exact this.trans List.perm_append_comm
    · intro pre C A w2 hd hI hE he hh
      exact ⟨_, L, _, hdone pre C A hd hI hE, ⟨ha.size, ha.get, by simp [ha.marks]⟩, he, hh.perm (by simp)⟩
    · intro c pre x C A w2 hx hI hE he hh
      refine wpIn_mono ((hstop c pre x C A hx hI hE).out { a with defers := [] ++ a.defers } w2 ⟨ha.size, ha.get, by simp [ha.marks]⟩ (hh.perm (by simp))) fun _ _ _ hq => hq.ext he


/-- The same blocks, in other chunks. -/
theorem code_perm {ro : Option Nat} {c : Code} {K : Cont} {D : List Nat} {L : Env} {S S' : State} (hp : S.flatten.Perm S'.flatten) (h : CodeW P n ro c K D L S') : CodeW P n ro c K D L S :=
  ⟨fun a w ha hw => h.out a w ha (hw.perm hp)⟩
theorem T0_in {T R Cj : Chunk} {T0 : Chunk → Prop} {S G : State} (h : T0 T) (hp : Pick Cj S G) (hc : Cj.Perm (T ++ R)) : ∃ T R, T0 T ∧ S.flatten.Perm (T ++ R) :=
  ⟨T, R ++ G.flatten, h, hp.perm.trans (by rw [List.flatten_cons, ← List.append_assoc]; exact List.Perm.append_right _ hc)⟩
theorem T0_pick {T : Chunk} {T0 : Chunk → Prop} {S G : State} (h : T0 T) (hp : Pick T S G) : ∃ T R, T0 T ∧ S.flatten.Perm (T ++ R) := ⟨T, G.flatten, h, hp.perm⟩
/-- A whole block is written anew. -/
theorem store_all {b : Nat} {e t : TypeId} {z : Value} {s by_ : Nat} {cs : Array Value} {vs : List Value} {S S' : State} {κ : State → Prop} [hs : TSized P t z s by_] (hz : vs.length = s) (hc : ∀ v ∈ vs, Value.cell1 v)
    (hu : Upd b (.cells cs e (0, 0)) (.cells vs.toArray e (0, 0)) S S') (hcs : cs.size = s) (k : κ S') : UnitW P (Instr.storeAt t (.pointer (some ⟨b, 0, none⟩)) (.agg vs.toArray)) S κ := by
  have e1 : setCells cs 0 vs = vs.toArray := by
    have := setCells_all vs [] cs.toList [] (by simp [hcs, hz])
    simpa using this
  have e2 : vs.toArray.toList = vs := by simp
  exact store_agg (e := e) (cs := cs) (by simpa using hz) (by simpa using hc) (by rw [e2, e1]; exact hu) (by omega) k
/-- A whole block is read. -/
theorem load_all {b : Nat} {e t : TypeId} {z : Value} {s by_ : Nat} {vs : List Value} {m : Nat × Nat} {S : State} {κ : Value → Prop} [hf : TDeep P t] [hs : TSized P t z s by_] (hl : Lies b (.cells vs.toArray e m) S) (hz : vs.length = s) (k : κ (.agg vs.toArray)) :
    ReadW P (Instr.loadAt t (.pointer (some ⟨b, 0, none⟩))) S κ := by
  refine load_agg hl (by simp [hz]) ?_
  have e1 : vs.toArray.extract 0 (0 + s) = vs.toArray := by
    apply Array.ext'
    simp [List.extract_eq_take_drop, ← hz]
  rw [e1]; exact k
/-- A part of a block is read. -/
theorem load_sub {b : Nat} {e t : TypeId} {z : Value} {s by_ : Nat} {vs ws : List Value} {o : Nat} {m : Nat × Nat} {S : State} {κ : Value → Prop} [hf : TDeep P t] [hs : TSized P t z s by_] (hl : Lies b (.cells vs.toArray e m) S) (ho : o + s ≤ vs.length) (hw : (vs.drop o).take s = ws) (k : κ (.agg ws.toArray)) :
    ReadW P (Instr.loadAt t (.pointer (some ⟨b, o, none⟩))) S κ := by
  refine load_agg hl (by simpa using ho) ?_
  have e1 : vs.toArray.extract o (o + s) = ws.toArray := by
    apply Array.ext'
    simp [List.extract_eq_take_drop, ← hw]
  rw [e1]; exact k
/-- A block of one cell. -/
abbrev bx (p : Nat) (v : Value) (t : TypeId) : Chunk := [(p, .cells #[v] t (0, 0))]
/-- What goes along with no element. -/
abbrev noH {α : Type} (_ : List α) (_ : α) (H : State) : Prop := H = []
end Go.Ost

/- A slice of one structure, written out. Conditions: as each says. -/
set_option linter.unusedSimpArgs false
set_option linter.unusedVariables false
namespace Go.Ost
open Go

variable {P : Program}

theorem foldl_set (vs : List Value) : ∀ (l p r : List Value), r.length = l.length → vs = p ++ l →
    (l.zipIdx p.length).foldl (fun (cs : Array Value) (x : Value × Nat) => cs.setIfInBounds x.2 x.1) (p ++ r).toArray = vs.toArray
  | [], p, [], _, h => by simp at h; simp [h]
  | v :: l, p, x :: r, hl, h => by
    rw [List.zipIdx_cons, List.foldl_cons]
    have ih := foldl_set vs l (p ++ [v]) r (by simpa using hl) (by rw [h]; simp)
    rw [List.length_append, List.length_cons, List.length_nil] at ih
    have e : (p ++ x :: r).toArray.setIfInBounds p.length v = (p ++ [v] ++ r).toArray := by
      apply Array.ext'; simp
    rw [e]; exact ih

theorem build_el1 {t e : TypeId} {z : Value} {s by_ : Nat} [ht : TSlice P t e] [hs : TSized P e z s by_] (hz : z.cells.size = s) (h0 : 0 < s) (hs2 : s ≤ 1000) {vs : List Value} (hv : vs.length = s) {S : State} {κ : Value → State → Prop}
    (k : ∀ b C, Own s e C (some ⟨b, 0, none⟩) 1 1 vs → κ (.slice (some ⟨b, 0, none⟩) 1 1) (C :: S)) : ValW P (Instr.buildSlice t 1 #[(0, .agg vs.toArray)]) S κ := by
  refine ⟨fun w hw => ?_⟩
  refine ⟨_, { w with heap := w.heap.push (.cells vs.toArray e) }, _, ?_, ext_push rfl, hw.new rfl, k _ _ ⟨Nat.le_refl _, by simp [maxLen], by omega, .inr ⟨_, 0, _, (0, 0), rfl, rfl, .inl rfl, by simp [hv], fun i hi => by simp⟩⟩⟩
  have hfill : ∀ cells : Array Value, cells.size = s → Instr.fill (fun i => some (i * s, s)) cells [(0, .agg vs.toArray)] = some vs.toArray := by
    intro cells hc
    have e1 : (Value.agg vs.toArray).cells = vs.toArray := rfl
    simp only [Instr.fill, e1]
    rw [if_neg (by simp [hv, hc])]
    congr 1
    have := foldl_set vs vs [] cells.toList (by simp [hc, hv]) rfl
    simp only [List.nil_append, List.length_nil, Array.toArray_toList] at this
    refine Eq.trans ?_ this
    simp
  have hne : ¬ (1 * s = 0) := by omega
  have hle : ¬ 16777216 < 1 * s := by omega
  simp only [Instr.buildSlice, Sem.run_bind, run_und ht.und, run_size hs, run_zero hs, Result.andThen]
  rw [show (2 : Nat) ^ 24 = 16777216 from rfl, if_neg hle, if_neg hne]
  simp only [Sem.run_bind, Sem.run_pure, Result.andThen, run_zero hs]
  rw [hfill _ (by simp)]
  simp [newRow, newObj, Sem.run_bind, Sem.run, Result.andThen]

theorem build_el0 {t e : TypeId} {z : Value} {s by_ : Nat} [ht : TSlice P t e] [hs : TSized P e z s by_] {S : State} {κ : Value → State → Prop}
    (k : ∀ b C, Own s e C (some ⟨b, 0, none⟩) 0 0 [] → κ (.slice (some ⟨b, 0, none⟩) 0 0) (C :: S)) : ValW P (Instr.buildSlice t 0 #[]) S κ := by
  refine ⟨fun w hw => ?_⟩
  refine ⟨_, { w with heap := w.heap.push (.cells #[] e) }, _, ?_, ext_push rfl, hw.new rfl, k _ _ ⟨Nat.le_refl _, by simp [maxLen], by simp, .inr ⟨_, 0, _, (0, 0), rfl, rfl, .inl rfl, by simp, fun i hi => by simp at hi⟩⟩⟩
  simp [Instr.buildSlice, Sem.run_bind, run_und ht.und, run_size hs, Result.andThen, Instr.fill, newRow, newObj, Sem.run, show Array.range 0 = #[] from rfl]

theorem flat_take {α : Type} (enc : α → List Value) (s : Nat) (hs : ∀ x, (enc x).length = s) : ∀ (l : List α) (i : Nat), (l.flatMap enc).take (i * s) = (l.take i).flatMap enc
  | l, 0 => by simp
  | [], i + 1 => by simp
  | x :: l, i + 1 => by
    rw [List.flatMap_cons, Nat.add_mul, Nat.one_mul, Nat.add_comm, List.take_add, List.take_left' (hs x), List.drop_left' (hs x), flat_take enc s hs l i, List.take_succ_cons, List.flatMap_cons]
theorem rd_cutF {α : Type} {enc : α → List Value} {s : Nat} (hs : ∀ x, (enc x).length = s) {S : State} {a : Option Addr} {len : Nat} {us : List α} (h : Rd s S a len (us.flatMap enc)) {l h' m : Nat} (h1 : l ≤ h') (h2 : h' ≤ len) (h3 : h' ≤ m) :
    Rd s S (cutA s a l m) (h' - l) (((us.drop l).take (h' - l)).flatMap enc) := by
  have q := rd_cut h h1 h2 h3
  rwa [flat_drop enc s hs, flat_take enc s hs] at q

end Go.Ost

/- Parts of elements: a structure within a structure. Conditions: as each says. -/
set_option linter.unusedSimpArgs false
set_option linter.unusedVariables false
namespace Go.Ost
open Go

variable {P : Program}

section rows
variable {α : Type} (enc : α → List Value) (s : Nat) (hs : ∀ x, (enc x).length = s)
include hs
theorem flat_parts (l : List α) (i : Nat) (h : i < l.length) : l.flatMap enc = (l.take i).flatMap enc ++ (enc l[i] ++ (l.drop (i + 1)).flatMap enc) ∧ ((l.take i).flatMap enc).length = i * s := by
  refine ⟨?_, ?_⟩
  · conv => lhs; rw [← List.take_append_drop i l, List.flatMap_append, List.drop_eq_getElem_cons h, List.flatMap_cons]
  · rw [flat_len enc s hs, List.length_take]; congr 1; omega
theorem flat_sub (l : List α) (i off n : Nat) (h : i < l.length) (hn : off + n ≤ s) : ((l.flatMap enc).drop (i * s + off)).take n = ((enc l[i]).drop off).take n := by
  obtain ⟨e1, e2⟩ := flat_parts enc s hs l i h
  rw [e1, ← e2, ← List.drop_drop, List.drop_left' rfl, List.drop_append_of_le_length (by rw [hs]; omega), List.take_append_of_le_length (by rw [List.length_drop, hs]; omega)]
theorem flat_setL_sub (l : List α) (i off : Nat) (vs : List Value) (h : i < l.length) (hn : off + vs.length ≤ s) (x' : α) (hx : (enc l[i]).take off ++ (vs ++ (enc l[i]).drop (off + vs.length)) = enc x') :
    setL (l.flatMap enc) (i * s + off) vs = (l.set i x').flatMap enc := by
  obtain ⟨e1, e2⟩ := flat_parts enc s hs l i h
  have e3 : enc l[i] = (enc l[i]).take off ++ (((enc l[i]).drop off).take vs.length ++ (enc l[i]).drop (off + vs.length)) := by
    conv => lhs; rw [← List.take_append_drop off (enc l[i]), ← List.take_append_drop vs.length ((enc l[i]).drop off), List.drop_drop]
  have e4 : l.flatMap enc = ((l.take i).flatMap enc ++ (enc l[i]).take off) ++ (((enc l[i]).drop off).take vs.length ++ ((enc l[i]).drop (off + vs.length) ++ (l.drop (i + 1)).flatMap enc)) := by
    rw [e1]; conv => lhs; rw [e3]
    simp only [List.append_assoc]
  have e5 : ((l.take i).flatMap enc ++ (enc l[i]).take off).length = i * s + off := by
    rw [List.length_append, e2, List.length_take, hs]; omega
  rw [e4, ← e5, setL_app vs _ _ _ (by rw [List.length_take, List.length_drop, hs]; omega), List.set_eq_take_append_cons_drop, if_pos h, List.flatMap_append, List.flatMap_cons, ← hx]
  simp only [List.append_assoc]
end rows

section facts
variable {a : Option Addr} {len cap : Nat} {H : Chunk} {κ : Value → Prop} {t e' : TypeId} {z : Value} {s n b2 : Nat} {α : Type} {enc : α → List Value} {l : List α} {x x' : α} {i off : Nat} {S G : State} {vs : List Value}
theorem load_el_sub [TDeep P t] [TSized P t z n b2] (ho : Own s e' H a len cap (l.flatMap enc)) (hs : ∀ x, (enc x).length = s) (hx : l[i]? = some x) (h0 : 0 < n) (hn : off + n ≤ s) (hw : ((enc x).drop off).take n = vs) (hH : H ∈ S) (q : κ (.agg vs.toArray)) :
    ReadW P (Instr.loadAt t (.pointer (some (elA a (i * s + off))))) S κ := by
  have hi := (List.getElem?_eq_some_iff.1 hx).1
  refine el_load_agg (ho.rd hH) h0 ?_ ?_
  · rw [flat_len enc s hs]
    have : (i + 1) * s ≤ l.length * s := Nat.mul_le_mul_right s hi
    rw [Nat.add_mul] at this; omega
  · rw [flat_sub enc s hs l i off n hi hn, List.getElem?_eq_some_iff.1 hx |>.2, hw]; exact q
theorem store_el_sub {κ : State → Prop} [TSized P t z n b2] (ho : Own s e' H a len cap (l.flatMap enc)) (hp : Pick H S G) (hs : ∀ x, (enc x).length = s) (hx : l[i]? = some x) (h0 : 0 < n) (hvs : vs.length = n) (hc : ∀ u ∈ vs, Value.cell1 u) (hn : off + n ≤ s)
    (hv : (enc x).take off ++ (vs ++ (enc x).drop (off + n)) = enc x') (q : ∀ C', Own s e' C' a len cap ((l.set i x').flatMap enc) → κ (C' :: G)) : UnitW P (Instr.storeAt t (.pointer (some (elA a (i * s + off)))) (.agg vs.toArray)) S κ := by
  have hi := (List.getElem?_eq_some_iff.1 hx).1
  refine own_store_agg ho hp h0 hvs hc ?_ (fun C' h => q C' ?_)
  · rw [flat_len enc s hs]
    have : (i + 1) * s ≤ l.length * s := Nat.mul_le_mul_right s hi
    rw [Nat.add_mul] at this; omega
  · rw [flat_setL_sub enc s hs l i off vs hi (by omega) x' (by rw [List.getElem?_eq_some_iff.1 hx |>.2, hvs]; exact hv)] at h
    exact h
theorem load_rd_agg [TDeep P t] [TSized P t z s b2]
    (hr : Rd s [H] a len (l.flatMap enc)) (hs : ∀ x, (enc x).length = s) (hx : l[i]? = some x) (hp : 0 < s) (hH : H ∈ S) (q : κ (.agg (enc x).toArray)) : ReadW P (Instr.loadAt t (.pointer (some (elA a (i * s))))) S κ := by
  have hi := (List.getElem?_eq_some_iff.1 hx).1
  refine el_load_agg (hr.mem hH) hp ?_ ?_
  · rw [flat_len enc s hs]
    have : (i + 1) * s ≤ l.length * s := Nat.mul_le_mul_right s hi
    rw [Nat.add_mul] at this; omega
  · rw [flat_el enc s hs l i hi, List.getElem?_eq_some_iff.1 hx |>.2]; exact q
theorem alloc_as {κ : Value → State → Prop} {by_ : Nat} [hs : TSized P t z s by_] (cs : Array Value) (hz : z.cells = cs) (k : ∀ b : Nat, κ (.pointer (some ⟨b, 0, none⟩)) ([(b, .cells cs t (0, 0))] :: S)) : ValW P (Instr.alloc t true (.tuple #[])) S κ :=
  alloc_new fun b => by rw [hz]; exact k b
end facts

end Go.Ost
