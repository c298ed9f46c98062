/- Texts in a row: the walk's rules and contracts, as each says. Conditions: as each says. -/
import Derived.Test.YtfoppclmjmpjiaaM486c02ee
import Derived.Test.YtfoppclmjmpjiaaM97ab6f2e
import Derived.Lib.MakeNoZero
import Derived.Laws.Externs
/- The walk through statements, what comes next laid out. Conditions: none. -/
set_option linter.unusedSimpArgs false
set_option linter.unusedVariables false
namespace Go.Ost
open Go

variable {P : Program} {n : Nat} {ro : Option Nat} {K : Cont} {N : List Nat → Env → State → Prop} {D : List Nat} {L : Env} {S : State}

theorem then_n (k : N D L S) : Cont.then N K .normal D L S := k
theorem then_r (k : K .ret D L S) : Cont.then N K .ret D L S := k
theorem then_e {i : Nat} (k : K (.exit i) D L S) : Cont.then N K (.exit i) D L S := k
theorem block_n {b : Nat} (k : K .normal D L S) : Cont.block b K .normal D L S := k
theorem block_r {b : Nat} (k : K .ret D L S) : Cont.block b K .ret D L S := k
theorem block_e {b : Nat} (k : K .normal D L S) : Cont.block b K (.exit b) D L S := by simp only [Cont.block, if_true]; exact k
theorem block_o {b i : Nat} (k : K (.exit i) D L S) (h : i ≠ b := by decide) : Cont.block b K (.exit i) D L S := by simp only [Cont.block]; rw [if_neg h]; exact k
theorem scope_n (k : K .normal D L S) : Cont.noGoto K .normal D L S := k
theorem scope_r (k : K .ret D L S) : Cont.noGoto K .ret D L S := k
theorem scope_e {i : Nat} (k : K (.exit i) D L S) : Cont.noGoto K (.exit i) D L S := k

variable {l l' : List Oper} {L' : Env} {S' : State} {id : Nat} {x y : Code}
theorem code_dr {ops : Array Oper} (A : List (List Nat)) (pl : List Entry) (h : drawW P n ops (K .normal D) pl L S) (hm : P.follows .mixedOrders = true := by kernel_rfl)
    (hok : okDraw ops A n pl = true := by kernel_rfl) : CodeW P n ro (.region id ops true) K D L S := code_draw A pl hm hok h

/-- A condition that is decided. -/
theorem if_d {c : Operand} {p : Prop} [Decidable p] (ht : p → CodeW P n ro x K D L S) (hf : ¬ p → CodeW P n ro y K D L S) (hc : evT L c = some (.bool (decide p)) := by (try simp only [evT, lookT_hit, lookT_miss, Nat.reduceBEq]); (first | done | exact rfl)) : CodeW P n ro (.cond c x y) K D L S :=
  code_cond hc (fun h => ht (of_decide_eq_true h)) (fun h => hf (of_decide_eq_false h))
theorem if_b {c : Operand} {α : Type} [BEq α] [LawfulBEq α] {a b : α} (ht : a = b → CodeW P n ro x K D L S) (hf : a ≠ b → CodeW P n ro y K D L S) (hc : evT L c = some (.bool (a == b)) := by (try simp only [evT, lookT_hit, lookT_miss, Nat.reduceBEq]); (first | done | exact rfl)) : CodeW P n ro (.cond c x y) K D L S :=
  code_cond hc (fun h => ht (eq_of_beq h)) (fun h => hf (fun e => by subst e; simp at h))
theorem if_nb {c : Operand} {α : Type} [BEq α] [LawfulBEq α] {a b : α} (ht : a ≠ b → CodeW P n ro x K D L S) (hf : a = b → CodeW P n ro y K D L S) (hc : evT L c = some (.bool (a != b)) := by (try simp only [evT, lookT_hit, lookT_miss, Nat.reduceBEq]); (first | done | exact rfl)) : CodeW P n ro (.cond c x y) K D L S :=
  code_cond hc (fun h => ht (fun e => by subst e; simp at h)) (fun h => hf (by simpa using h))
theorem if_n {c : Operand} {b : Bool} (ht : b = false → CodeW P n ro x K D L S) (hf : b = true → CodeW P n ro y K D L S) (hc : evT L c = some (.bool (!b)) := by (try simp only [evT, lookT_hit, lookT_miss, Nat.reduceBEq]); (first | done | exact rfl)) : CodeW P n ro (.cond c x y) K D L S :=
  code_cond hc (fun h => ht (by simpa using h)) (fun h => hf (by simpa using h))

theorem run_probe {ops : Array Oper} {KK : Env → State → Prop} {o : Oper} {l : List Oper} (k : runW P n ops KK (o :: l) L S) : runW P n ops KK (o :: l) L S := k
theorem draw_probe {ops : Array Oper} {KK : Env → State → Prop} {p0 : Entry} {p : List Entry} (k : drawW P n ops KK (p0 :: p) L S) : drawW P n ops KK (p0 :: p) L S := k
theorem reg_probe {id : Nat} {ops : Array Oper} {K : Cont} {D : List Nat} {L : Env} {S : State} {ro : Option Nat} (k : CodeW P n ro (.region id ops false) K D L S) : CodeW P n ro (.region id ops false) K D L S := k
theorem block_probe {b i : Nat} {K : Cont} {D : List Nat} {L : Env} {S : State} (k : Cont.block b K (.exit i) D L S) : Cont.block b K (.exit i) D L S := k
theorem cond_probe {c : Operand} {x y : Code} {K : Cont} {D : List Nat} {L : Env} {S : State} {ro : Option Nat} (k : CodeW P n ro (.cond c x y) K D L S) : CodeW P n ro (.cond c x y) K D L S := k
theorem run_more {ops : Array Oper} {KK : Env → State → Prop} {o : Oper} {l : List Oper} (k : runW P n ops KK l' L' S') (h : Runs P n ops (o :: l) L S l' L' S' := by exact ⟨fun K0 hK0 => by ((with_reducible refine run_cons fun K hK => ?_); (try simp only [gos, gob, Nat.reduceBEq, if_true, reduceIte, reduceCtorEq, Nat.reduceLT, Nat.reduceEqDiff, Nat.reduceAdd, Nat.reduceSub, Int.reduceLT, Int.reduceLE, Int.reduceBEq, Int.reduceBNe, Int.reduceToNat, Int.reduceAdd, Int.reduceSub, Int.reduceMul, Int.reduceDiv, Int.reduceMod, Int.reducePow, Int.toNat_natCast, Nat.sub_zero]); (try (simp (disch := omega) only [gow, gobw]; try simp only [gos, gob, Nat.reduceBEq, if_true, reduceIte, reduceCtorEq, Nat.reduceLT, Nat.reduceEqDiff, Nat.reduceAdd, Nat.reduceSub, Int.reduceLT, Int.reduceLE, Int.reduceBEq, Int.reduceBNe, Int.reduceToNat, Int.reduceAdd, Int.reduceSub, Int.reduceMul, Int.reduceDiv, Int.reduceMod, Int.reducePow, Int.toNat_natCast, Nat.sub_zero])); (first | (with_reducible refine hK _ _ ?_) | ((with_reducible apply load_box); (· (repeat (first | with_reducible exact Lies.one | with_reducible apply Lies.next))); (with_reducible refine hK _ _ ?_)) | ((with_reducible apply load_one); (· (repeat (first | with_reducible exact Lies.one | with_reducible apply Lies.next))); (· exact rfl); (with_reducible refine hK _ _ ?_)) | ((with_reducible apply store_box); (· exact trivial); (· (repeat (first | with_reducible exact Upd.one | with_reducible apply Upd.next))); (with_reducible refine hK _ _ ?_)) | ((with_reducible apply store_one); (· exact trivial); (· (repeat (first | with_reducible exact Upd.one | with_reducible apply Upd.next))); (· simp); (with_reducible refine hK _ _ ?_)) | (first | ((with_reducible apply index_rda); (· assumption); (· (first | omega | assumption | (simp only [List.length_append, List.length_take, List.length_drop, List.length_map, List.length_replicate, List.length_range, List.length_set, List.length_cons, List.length_nil]; omega))); (· (first | omega | assumption | (simp only [List.length_append, List.length_take, List.length_drop, List.length_map, List.length_replicate, List.length_range, List.length_set, List.length_cons, List.length_nil]; omega))); (with_reducible refine hK _ _ ?_)) | ((with_reducible apply index_owa); (· assumption); (· (first | omega | assumption | (simp only [List.length_append, List.length_take, List.length_drop, List.length_map, List.length_replicate, List.length_range, List.length_set, List.length_cons, List.length_nil]; omega))); (· (first | omega | assumption | (simp only [List.length_append, List.length_take, List.length_drop, List.length_map, List.length_replicate, List.length_range, List.length_set, List.length_cons, List.length_nil]; omega))); (with_reducible refine hK _ _ ?_)) | ((with_reducible apply load_rda8); (· assumption); (· (repeat (first | with_reducible assumption | with_reducible exact List.mem_cons_self .. | with_reducible apply List.mem_cons_of_mem))); (· (first | omega | assumption | (simp only [List.length_append, List.length_take, List.length_drop, List.length_map, List.length_replicate, List.length_range, List.length_set, List.length_cons, List.length_nil]; omega))); (with_reducible refine hK _ _ ?_)) | ((with_reducible apply load_owa8); (· assumption); (· (repeat (first | with_reducible assumption | with_reducible exact List.mem_cons_self .. | with_reducible apply List.mem_cons_of_mem))); (· (first | omega | assumption | (simp only [List.length_append, List.length_take, List.length_drop, List.length_map, List.length_replicate, List.length_range, List.length_set, List.length_cons, List.length_nil]; omega))); (with_reducible refine hK _ _ ?_)) | ((with_reducible apply load_rda); (· assumption); (· assumption); (· (repeat (first | with_reducible assumption | with_reducible exact List.mem_cons_self .. | with_reducible apply List.mem_cons_of_mem))); (with_reducible refine hK _ _ ?_)) | ((with_reducible apply load_owa); (· assumption); (· assumption); (· (repeat (first | with_reducible assumption | with_reducible exact List.mem_cons_self .. | with_reducible apply List.mem_cons_of_mem))); (with_reducible refine hK _ _ ?_)))); clear hK K); (repeat ((with_reducible refine run_cons fun K hK => ?_); (try simp only [gos, gob, Nat.reduceBEq, if_true, reduceIte, reduceCtorEq, Nat.reduceLT, Nat.reduceEqDiff, Nat.reduceAdd, Nat.reduceSub, Int.reduceLT, Int.reduceLE, Int.reduceBEq, Int.reduceBNe, Int.reduceToNat, Int.reduceAdd, Int.reduceSub, Int.reduceMul, Int.reduceDiv, Int.reduceMod, Int.reducePow, Int.toNat_natCast, Nat.sub_zero]); (try (simp (disch := omega) only [gow, gobw]; try simp only [gos, gob, Nat.reduceBEq, if_true, reduceIte, reduceCtorEq, Nat.reduceLT, Nat.reduceEqDiff, Nat.reduceAdd, Nat.reduceSub, Int.reduceLT, Int.reduceLE, Int.reduceBEq, Int.reduceBNe, Int.reduceToNat, Int.reduceAdd, Int.reduceSub, Int.reduceMul, Int.reduceDiv, Int.reduceMod, Int.reducePow, Int.toNat_natCast, Nat.sub_zero])); (first | (with_reducible refine hK _ _ ?_) | ((with_reducible apply load_box); (· (repeat (first | with_reducible exact Lies.one | with_reducible apply Lies.next))); (with_reducible refine hK _ _ ?_)) | ((with_reducible apply load_one); (· (repeat (first | with_reducible exact Lies.one | with_reducible apply Lies.next))); (· exact rfl); (with_reducible refine hK _ _ ?_)) | ((with_reducible apply store_box); (· exact trivial); (· (repeat (first | with_reducible exact Upd.one | with_reducible apply Upd.next))); (with_reducible refine hK _ _ ?_)) | ((with_reducible apply store_one); (· exact trivial); (· (repeat (first | with_reducible exact Upd.one | with_reducible apply Upd.next))); (· simp); (with_reducible refine hK _ _ ?_)) | (first | ((with_reducible apply index_rda); (· assumption); (· (first | omega | assumption | (simp only [List.length_append, List.length_take, List.length_drop, List.length_map, List.length_replicate, List.length_range, List.length_set, List.length_cons, List.length_nil]; omega))); (· (first | omega | assumption | (simp only [List.length_append, List.length_take, List.length_drop, List.length_map, List.length_replicate, List.length_range, List.length_set, List.length_cons, List.length_nil]; omega))); (with_reducible refine hK _ _ ?_)) | ((with_reducible apply index_owa); (· assumption); (· (first | omega | assumption | (simp only [List.length_append, List.length_take, List.length_drop, List.length_map, List.length_replicate, List.length_range, List.length_set, List.length_cons, List.length_nil]; omega))); (· (first | omega | assumption | (simp only [List.length_append, List.length_take, List.length_drop, List.length_map, List.length_replicate, List.length_range, List.length_set, List.length_cons, List.length_nil]; omega))); (with_reducible refine hK _ _ ?_)) | ((with_reducible apply load_rda8); (· assumption); (· (repeat (first | with_reducible assumption | with_reducible exact List.mem_cons_self .. | with_reducible apply List.mem_cons_of_mem))); (· (first | omega | assumption | (simp only [List.length_append, List.length_take, List.length_drop, List.length_map, List.length_replicate, List.length_range, List.length_set, List.length_cons, List.length_nil]; omega))); (with_reducible refine hK _ _ ?_)) | ((with_reducible apply load_owa8); (· assumption); (· (repeat (first | with_reducible assumption | with_reducible exact List.mem_cons_self .. | with_reducible apply List.mem_cons_of_mem))); (· (first | omega | assumption | (simp only [List.length_append, List.length_take, List.length_drop, List.length_map, List.length_replicate, List.length_range, List.length_set, List.length_cons, List.length_nil]; omega))); (with_reducible refine hK _ _ ?_)) | ((with_reducible apply load_rda); (· assumption); (· assumption); (· (repeat (first | with_reducible assumption | with_reducible exact List.mem_cons_self .. | with_reducible apply List.mem_cons_of_mem))); (with_reducible refine hK _ _ ?_)) | ((with_reducible apply load_owa); (· assumption); (· assumption); (· (repeat (first | with_reducible assumption | with_reducible exact List.mem_cons_self .. | with_reducible apply List.mem_cons_of_mem))); (with_reducible refine hK _ _ ?_)))); clear hK K)); exact hK0⟩) : runW P n ops KK (o :: l) L S := h.out _ k
theorem draw_as {ops : Array Oper} {KK : Env → State → Prop} {p0 : Entry} {p p' : List Entry} (k : drawW P n ops KK p' L' S') (h : Draws P n ops (p0 :: p) L S p' L' S' := by exact ⟨fun K0 hK0 => by refine draw_effect (by simp only [List.getElem?_toArray, List.getElem?_cons_succ, List.getElem?_cons_zero]; rfl) fun K hK => ?_; (try simp only [gos, gob, Nat.reduceBEq, if_true, reduceIte, reduceCtorEq, Nat.reduceLT, Nat.reduceEqDiff, Nat.reduceAdd, Nat.reduceSub, Int.reduceLT, Int.reduceLE, Int.reduceBEq, Int.reduceBNe, Int.reduceToNat, Int.reduceAdd, Int.reduceSub, Int.reduceMul, Int.reduceDiv, Int.reduceMod, Int.reducePow, Int.toNat_natCast, Nat.sub_zero, goq]); (try (simp (disch := omega) only [gow, gobw]; try simp only [gos, gob, Nat.reduceBEq, if_true, reduceIte, reduceCtorEq, Nat.reduceLT, Nat.reduceEqDiff, Nat.reduceAdd, Nat.reduceSub, Int.reduceLT, Int.reduceLE, Int.reduceBEq, Int.reduceBNe, Int.reduceToNat, Int.reduceAdd, Int.reduceSub, Int.reduceMul, Int.reduceDiv, Int.reduceMod, Int.reducePow, Int.toNat_natCast, Nat.sub_zero, goq])); (first | ((repeat refine pend ?_); (with_reducible refine hK _ _ ?_)) | ((with_reducible apply store_box); (· exact trivial); (· (repeat (first | with_reducible exact Upd.one | with_reducible apply Upd.next))); (repeat refine pend ?_); (with_reducible refine hK _ _ ?_)) | ((with_reducible apply store_one); (· exact trivial); (· (repeat (first | with_reducible exact Upd.one | with_reducible apply Upd.next))); (· simp); (repeat refine pend ?_); (with_reducible refine hK _ _ ?_))); clear hK K; exact hK0⟩) : drawW P n ops KK (p0 :: p) L S := h.out _ k
theorem draw_more {ops : Array Oper} {KK : Env → State → Prop} {p0 : Entry} {p p' : List Entry} (k : drawW P n ops KK p' L' S') (h : Draws P n ops (p0 :: p) L S p' L' S' := by exact ⟨fun K0 hK0 => by refine draw_quiet (by simp only [List.getElem?_toArray, List.getElem?_cons_succ, List.getElem?_cons_zero]; rfl) fun K hK => ?_; (try simp only [gos, gob, Nat.reduceBEq, if_true, reduceIte, reduceCtorEq, Nat.reduceLT, Nat.reduceEqDiff, Nat.reduceAdd, Nat.reduceSub, Int.reduceLT, Int.reduceLE, Int.reduceBEq, Int.reduceBNe, Int.reduceToNat, Int.reduceAdd, Int.reduceSub, Int.reduceMul, Int.reduceDiv, Int.reduceMod, Int.reducePow, Int.toNat_natCast, Nat.sub_zero, goq]); (try (simp (disch := omega) only [gow, gobw]; try simp only [gos, gob, Nat.reduceBEq, if_true, reduceIte, reduceCtorEq, Nat.reduceLT, Nat.reduceEqDiff, Nat.reduceAdd, Nat.reduceSub, Int.reduceLT, Int.reduceLE, Int.reduceBEq, Int.reduceBNe, Int.reduceToNat, Int.reduceAdd, Int.reduceSub, Int.reduceMul, Int.reduceDiv, Int.reduceMod, Int.reducePow, Int.toNat_natCast, Nat.sub_zero, goq])); (first | (with_reducible refine hK _ _ ?_) | ((with_reducible apply load_box); (· (repeat (first | with_reducible exact Lies.one | with_reducible apply Lies.next))); (with_reducible refine hK _ _ ?_)) | ((with_reducible apply load_one); (· (repeat (first | with_reducible exact Lies.one | with_reducible apply Lies.next))); (· exact rfl); (with_reducible refine hK _ _ ?_)) | ((with_reducible apply store_box); (· exact trivial); (· (repeat (first | with_reducible exact Upd.one | with_reducible apply Upd.next))); (with_reducible refine hK _ _ ?_)) | ((with_reducible apply store_one); (· exact trivial); (· (repeat (first | with_reducible exact Upd.one | with_reducible apply Upd.next))); (· simp); (with_reducible refine hK _ _ ?_)) | (first | ((with_reducible apply index_rda); (· assumption); (· (first | omega | assumption | (simp only [List.length_append, List.length_take, List.length_drop, List.length_map, List.length_replicate, List.length_range, List.length_set, List.length_cons, List.length_nil]; omega))); (· (first | omega | assumption | (simp only [List.length_append, List.length_take, List.length_drop, List.length_map, List.length_replicate, List.length_range, List.length_set, List.length_cons, List.length_nil]; omega))); (with_reducible refine hK _ _ ?_)) | ((with_reducible apply index_owa); (· assumption); (· (first | omega | assumption | (simp only [List.length_append, List.length_take, List.length_drop, List.length_map, List.length_replicate, List.length_range, List.length_set, List.length_cons, List.length_nil]; omega))); (· (first | omega | assumption | (simp only [List.length_append, List.length_take, List.length_drop, List.length_map, List.length_replicate, List.length_range, List.length_set, List.length_cons, List.length_nil]; omega))); (with_reducible refine hK _ _ ?_)) | ((with_reducible apply load_rda8); (· assumption); (· (repeat (first | with_reducible assumption | with_reducible exact List.mem_cons_self .. | with_reducible apply List.mem_cons_of_mem))); (· (first | omega | assumption | (simp only [List.length_append, List.length_take, List.length_drop, List.length_map, List.length_replicate, List.length_range, List.length_set, List.length_cons, List.length_nil]; omega))); (with_reducible refine hK _ _ ?_)) | ((with_reducible apply load_owa8); (· assumption); (· (repeat (first | with_reducible assumption | with_reducible exact List.mem_cons_self .. | with_reducible apply List.mem_cons_of_mem))); (· (first | omega | assumption | (simp only [List.length_append, List.length_take, List.length_drop, List.length_map, List.length_replicate, List.length_range, List.length_set, List.length_cons, List.length_nil]; omega))); (with_reducible refine hK _ _ ?_)) | ((with_reducible apply load_rda); (· assumption); (· assumption); (· (repeat (first | with_reducible assumption | with_reducible exact List.mem_cons_self .. | with_reducible apply List.mem_cons_of_mem))); (with_reducible refine hK _ _ ?_)) | ((with_reducible apply load_owa); (· assumption); (· assumption); (· (repeat (first | with_reducible assumption | with_reducible exact List.mem_cons_self .. | with_reducible apply List.mem_cons_of_mem))); (with_reducible refine hK _ _ ?_)))); clear hK K; (repeat (refine draw_quiet (by simp only [List.getElem?_toArray, List.getElem?_cons_succ, List.getElem?_cons_zero]; rfl) fun K hK => ?_; (try simp only [gos, gob, Nat.reduceBEq, if_true, reduceIte, reduceCtorEq, Nat.reduceLT, Nat.reduceEqDiff, Nat.reduceAdd, Nat.reduceSub, Int.reduceLT, Int.reduceLE, Int.reduceBEq, Int.reduceBNe, Int.reduceToNat, Int.reduceAdd, Int.reduceSub, Int.reduceMul, Int.reduceDiv, Int.reduceMod, Int.reducePow, Int.toNat_natCast, Nat.sub_zero, goq]); (try (simp (disch := omega) only [gow, gobw]; try simp only [gos, gob, Nat.reduceBEq, if_true, reduceIte, reduceCtorEq, Nat.reduceLT, Nat.reduceEqDiff, Nat.reduceAdd, Nat.reduceSub, Int.reduceLT, Int.reduceLE, Int.reduceBEq, Int.reduceBNe, Int.reduceToNat, Int.reduceAdd, Int.reduceSub, Int.reduceMul, Int.reduceDiv, Int.reduceMod, Int.reducePow, Int.toNat_natCast, Nat.sub_zero, goq])); (first | (with_reducible refine hK _ _ ?_) | ((with_reducible apply load_box); (· (repeat (first | with_reducible exact Lies.one | with_reducible apply Lies.next))); (with_reducible refine hK _ _ ?_)) | ((with_reducible apply load_one); (· (repeat (first | with_reducible exact Lies.one | with_reducible apply Lies.next))); (· exact rfl); (with_reducible refine hK _ _ ?_)) | ((with_reducible apply store_box); (· exact trivial); (· (repeat (first | with_reducible exact Upd.one | with_reducible apply Upd.next))); (with_reducible refine hK _ _ ?_)) | ((with_reducible apply store_one); (· exact trivial); (· (repeat (first | with_reducible exact Upd.one | with_reducible apply Upd.next))); (· simp); (with_reducible refine hK _ _ ?_)) | (first | ((with_reducible apply index_rda); (· assumption); (· (first | omega | assumption | (simp only [List.length_append, List.length_take, List.length_drop, List.length_map, List.length_replicate, List.length_range, List.length_set, List.length_cons, List.length_nil]; omega))); (· (first | omega | assumption | (simp only [List.length_append, List.length_take, List.length_drop, List.length_map, List.length_replicate, List.length_range, List.length_set, List.length_cons, List.length_nil]; omega))); (with_reducible refine hK _ _ ?_)) | ((with_reducible apply index_owa); (· assumption); (· (first | omega | assumption | (simp only [List.length_append, List.length_take, List.length_drop, List.length_map, List.length_replicate, List.length_range, List.length_set, List.length_cons, List.length_nil]; omega))); (· (first | omega | assumption | (simp only [List.length_append, List.length_take, List.length_drop, List.length_map, List.length_replicate, List.length_range, List.length_set, List.length_cons, List.length_nil]; omega))); (with_reducible refine hK _ _ ?_)) | ((with_reducible apply load_rda8); (· assumption); (· (repeat (first | with_reducible assumption | with_reducible exact List.mem_cons_self .. | with_reducible apply List.mem_cons_of_mem))); (· (first | omega | assumption | (simp only [List.length_append, List.length_take, List.length_drop, List.length_map, List.length_replicate, List.length_range, List.length_set, List.length_cons, List.length_nil]; omega))); (with_reducible refine hK _ _ ?_)) | ((with_reducible apply load_owa8); (· assumption); (· (repeat (first | with_reducible assumption | with_reducible exact List.mem_cons_self .. | with_reducible apply List.mem_cons_of_mem))); (· (first | omega | assumption | (simp only [List.length_append, List.length_take, List.length_drop, List.length_map, List.length_replicate, List.length_range, List.length_set, List.length_cons, List.length_nil]; omega))); (with_reducible refine hK _ _ ?_)) | ((with_reducible apply load_rda); (· assumption); (· assumption); (· (repeat (first | with_reducible assumption | with_reducible exact List.mem_cons_self .. | with_reducible apply List.mem_cons_of_mem))); (with_reducible refine hK _ _ ?_)) | ((with_reducible apply load_owa); (· assumption); (· assumption); (· (repeat (first | with_reducible assumption | with_reducible exact List.mem_cons_self .. | with_reducible apply List.mem_cons_of_mem))); (with_reducible refine hK _ _ ?_)))); clear hK K)); exact hK0⟩) : drawW P n ops KK (p0 :: p) L S := h.out _ k

/-- What holds where two roads come together. -/
structure Mid (Q : List Nat → Env → State → Prop) (D : List Nat) (L : Env) (S : State) : Prop where
  out : ∃ L' S', Q D L' S' ∧ Knows L' L ∧ Among S' S
theorem mid {Q : List Nat → Env → State → Prop} {L' : Env} {S' : State} (h : Q D L' S') (hL : Knows L' L := by (repeat (first | exact True.intro | (refine And.intro ?_ ?_; (· (try simp only [evT, lookT_hit, lookT_miss, Nat.reduceBEq]); (first | done | exact rfl)))))) (hS : Among S' S := by first | ((repeat (first | with_reducible exact Among.nil _ | with_reducible exact Pick.head _ _ | with_reducible apply Pick.tail | with_reducible apply Among.cons)); done) | ((repeat (first | exact Among.nil _ | exact Pick.head _ _ | apply Pick.tail | apply Among.cons)); done)) : Mid Q D L S := ⟨L', S', h, hL, hS⟩
theorem seq_mid {c d : Code} (Q : List Nat → Env → State → Prop) (h1 : CodeW P n ro c (Cont.then (Mid Q) K) D L S) (h2 : ∀ D L S, Q D L S → CodeW P n ro d K D L S) : CodeW P n ro (.seq c d) K D L S :=
  code_seq (code_mono h1 fun e D L S h => by
    cases e <;> first | exact h | skip
    obtain ⟨L', S', hq, hL, hS⟩ := h
    exact code_less hL hS (h2 D L' S' hq))

/-- A loop: what holds at its head. -/
theorem loop_i {c : Code} (I : Nat → List Nat → Env → State → Prop) {m : Nat} {L0 : Env} {S0 : State} (h0 : I m D L0 S0) (round : ∀ m D L S, I m D L S → CodeW P n ro c (Cont.then (Again I m) K) D L S)
    (hL : Knows L0 L := by (repeat (first | exact True.intro | (refine And.intro ?_ ?_; (· (try simp only [evT, lookT_hit, lookT_miss, Nat.reduceBEq]); (first | done | exact rfl)))))) (hS : Among S0 S := by first | ((repeat (first | with_reducible exact Among.nil _ | with_reducible exact Pick.head _ _ | with_reducible apply Pick.tail | with_reducible apply Among.cons)); done) | ((repeat (first | exact Among.nil _ | exact Pick.head _ _ | apply Pick.tail | apply Among.cons)); done)) : CodeW P n ro (.loop c) K D L S := code_loop I ⟨m, L0, S0, h0, hL, hS⟩ round

/-- The same chunks, otherwise. -/
theorem code_cut {c : Code} {A B : Chunk} (h : CodeW P n ro c K D L (A :: B :: S)) : CodeW P n ro c K D L ((A ++ B) :: S) :=
  ⟨fun a w ha hw => h.out a w ha (hw.perm (by simp))⟩
theorem code_sub {c : Code} {S' : State} (h : CodeW P n ro c K D L S') (hs : Among S' S := by first | ((repeat (first | with_reducible exact Among.nil _ | with_reducible exact Pick.head _ _ | with_reducible apply Pick.tail | with_reducible apply Among.cons)); done) | ((repeat (first | exact Among.nil _ | exact Pick.head _ _ | apply Pick.tail | apply Among.cons)); done)) : CodeW P n ro c K D L S := ⟨fun a w ha hw => h.out a w ha (hs.hold hw)⟩

end Go.Ost

/- The walk's steps where structures lie in slices, and maps. Conditions: none. -/
set_option linter.unusedSimpArgs false
set_option linter.unusedVariables false
namespace Go.Ost
open Go

variable {P : Program} {n : Nat} {ro : Option Nat} {K : Cont} {D : List Nat} {L : Env} {S : State}

section facts
variable {a : Option Addr} {len cap : Nat} {us : List Value} {H : Chunk} {κ : Value → Prop} {t e e' : TypeId} {z : Value} {s by_ : Nat} {k : IntKind} {α : Type} {enc : α → List Value} {l : List α} {x x' : α} {v : Value}
theorem field_elk {si i off ft : Nat} {m : Nat} [h : TField P si i off ft] (q : κ (.pointer (some (elA a (m + off))))) : PureW P (Instr.fieldAt si (.pointer (some (elA a m))) i) κ := by rw [field_el]; exact q
theorem el_ato {i : Int} [TSlice P t e] [TSized P e z s by_] {cap' : Nat} (ho : Own s e' H a len cap' us) (h0 : 0 ≤ i) (h1 : i < len) (hp : 0 < s) (q : κ (.pointer (some (elA a (i.toNat * s))))) : PureW P (Instr.indexAt t (.slice a len cap) (.int k i)) κ := by
  rw [el_at (ho.rd (S := [H]) (List.mem_cons_self ..)) h0 h1 hp]; exact q
theorem load_el {i off : Nat} [TFlat P t] (ho : Own s e' H a len cap (l.flatMap enc)) (hs : ∀ x, (enc x).length = s) (hx : l[i]? = some x) (hv : (enc x)[off]? = some v) (hH : H ∈ S) (q : κ v) : ReadW P (Instr.loadAt t (.pointer (some (elA a (i * s + off))))) S κ := by
  have hi := (List.getElem?_eq_some_iff.1 hx).1
  have ho' := (List.getElem?_eq_some_iff.1 hv).1
  refine el_load (ho.rd hH) ?_ q
  rw [flat_get enc s hs l i off hi (by rw [← hs x]; exact ho'), List.getElem?_eq_some_iff.1 hx |>.2]
  exact hv
theorem load_el_agg {i : Nat} {b2 : Nat} [TDeep P t] [TSized P t z s b2] (ho : Own s e' H a len cap (l.flatMap enc)) (hs : ∀ x, (enc x).length = s) (hx : l[i]? = some x) (hp : 0 < s) (hH : H ∈ S) (q : κ (.agg (enc x).toArray)) : ReadW P (Instr.loadAt t (.pointer (some (elA a (i * s))))) S κ := by
  have hi := (List.getElem?_eq_some_iff.1 hx).1
  refine el_load_agg (ho.rd hH) hp ?_ ?_
  · rw [flat_len enc s hs]
    have : (i + 1) * s ≤ l.length * s := Nat.mul_le_mul_right s hi
    rw [Nat.add_mul] at this; omega
  · rw [flat_el enc s hs l i hi, List.getElem?_eq_some_iff.1 hx |>.2]; exact q
theorem store_el {i off : Nat} {b2 : Nat} {G : State} {κ : State → Prop} [TSized P t z 1 b2] (ho : Own s e' H a len cap (l.flatMap enc)) (hp : Pick H S G) (hs : ∀ x, (enc x).length = s) (hx : l[i]? = some x) (hc : Value.cell1 v) (hv : (enc x).set off v = enc x') (hoff : off < s)
    (q : ∀ C', Own s e' C' a len cap ((l.set i x').flatMap enc) → κ (C' :: G)) : UnitW P (Instr.storeAt t (.pointer (some (elA a (i * s + off)))) v) S κ := by
  have hi := (List.getElem?_eq_some_iff.1 hx).1
  refine own_store1 ho hp hc ?_ (fun C' h => q C' ?_)
  · rw [flat_len enc s hs]
    have : (i + 1) * s ≤ l.length * s := Nat.mul_le_mul_right s hi
    rw [Nat.add_mul] at this; omega
  · rw [flat_set enc s hs l i off v hi x' (by rw [List.getElem?_eq_some_iff.1 hx |>.2]; exact hv) hoff] at h
    exact h
theorem store_el_agg {i : Nat} {b2 : Nat} {G : State} {κ : State → Prop} [TSized P t z s b2] (ho : Own s e' H a len cap (l.flatMap enc)) (hp : Pick H S G) (hs : ∀ x, (enc x).length = s) (hi : i < l.length) (h0 : 0 < s) (hc : ∀ u ∈ enc x', Value.cell1 u)
    (q : ∀ C', Own s e' C' a len cap ((l.set i x').flatMap enc) → κ (C' :: G)) : UnitW P (Instr.storeAt t (.pointer (some (elA a (i * s)))) (.agg (enc x').toArray)) S κ := by
  refine own_store_agg ho hp h0 (hs x') hc ?_ (fun C' h => q C' ?_)
  · rw [flat_len enc s hs]
    have : (i + 1) * s ≤ l.length * s := Nat.mul_le_mul_right s hi
    rw [Nat.add_mul] at this; omega
  · rw [flat_setL enc s hs l i hi] at h
    exact h
end facts

variable {l l' : List Oper} {L' : Env} {S' : State} {id : Nat} {ops : Array Oper} {KK : Env → State → Prop}
theorem pendq {a b : Prop} (k : b) (h : a := by (first | ((with_reducible apply load_el); (· assumption); (· assumption); (· assumption); (· exact rfl); (· (repeat (first | with_reducible assumption | with_reducible exact List.mem_cons_self .. | with_reducible apply List.mem_cons_of_mem))); exact rfl) | (first | exact trivial | ((with_reducible apply load_box); (· (repeat (first | with_reducible exact Lies.one | with_reducible apply Lies.next))); (· exact rfl)) | ((with_reducible apply load_one); (· (repeat (first | with_reducible exact Lies.one | with_reducible apply Lies.next))); (· exact rfl); (· exact rfl)) | (first | ((with_reducible apply load_rda8); (· assumption); (· (repeat (first | with_reducible assumption | with_reducible exact List.mem_cons_self .. | with_reducible apply List.mem_cons_of_mem))); (· (first | omega | assumption | (simp only [List.length_append, List.length_take, List.length_drop, List.length_map, List.length_replicate, List.length_range, List.length_set, List.length_cons, List.length_nil]; omega))); exact rfl) | ((with_reducible apply load_owa8); (· assumption); (· (repeat (first | with_reducible assumption | with_reducible exact List.mem_cons_self .. | with_reducible apply List.mem_cons_of_mem))); (· (first | omega | assumption | (simp only [List.length_append, List.length_take, List.length_drop, List.length_map, List.length_replicate, List.length_range, List.length_set, List.length_cons, List.length_nil]; omega))); exact rfl) | ((with_reducible apply load_rda); (· assumption); (· assumption); (· (repeat (first | with_reducible assumption | with_reducible exact List.mem_cons_self .. | with_reducible apply List.mem_cons_of_mem))); exact rfl) | ((with_reducible apply load_owa); (· assumption); (· assumption); (· (repeat (first | with_reducible assumption | with_reducible exact List.mem_cons_self .. | with_reducible apply List.mem_cons_of_mem))); exact rfl))))) : a ∧ b := ⟨h, k⟩
theorem regq_to (k : runW P n l.toArray (K .normal D) l' L' S') (h : Runs P n l.toArray l L S l' L' S' := by exact ⟨fun K0 hK0 => by (repeat ((with_reducible refine run_cons fun K hK => ?_); (try simp only [gos, gob, Nat.reduceBEq, if_true, reduceIte, reduceCtorEq, Nat.reduceLT, Nat.reduceEqDiff, Nat.reduceAdd, Nat.reduceSub, Int.reduceLT, Int.reduceLE, Int.reduceBEq, Int.reduceBNe, Int.reduceToNat, Int.reduceAdd, Int.reduceSub, Int.reduceMul, Int.reduceDiv, Int.reduceMod, Int.reducePow, Int.toNat_natCast, Nat.sub_zero]); (try (simp (disch := omega) only [gow, gobw]; try simp only [gos, gob, Nat.reduceBEq, if_true, reduceIte, reduceCtorEq, Nat.reduceLT, Nat.reduceEqDiff, Nat.reduceAdd, Nat.reduceSub, Int.reduceLT, Int.reduceLE, Int.reduceBEq, Int.reduceBNe, Int.reduceToNat, Int.reduceAdd, Int.reduceSub, Int.reduceMul, Int.reduceDiv, Int.reduceMod, Int.reducePow, Int.toNat_natCast, Nat.sub_zero])); (first | (first | (with_reducible refine hK _ _ ?_) | ((with_reducible apply load_box); (· (repeat (first | with_reducible exact Lies.one | with_reducible apply Lies.next))); (with_reducible refine hK _ _ ?_)) | ((with_reducible apply load_one); (· (repeat (first | with_reducible exact Lies.one | with_reducible apply Lies.next))); (· exact rfl); (with_reducible refine hK _ _ ?_)) | ((with_reducible apply store_box); (· exact trivial); (· (repeat (first | with_reducible exact Upd.one | with_reducible apply Upd.next))); (with_reducible refine hK _ _ ?_)) | ((with_reducible apply store_one); (· exact trivial); (· (repeat (first | with_reducible exact Upd.one | with_reducible apply Upd.next))); (· simp); (with_reducible refine hK _ _ ?_)) | (first | ((with_reducible apply index_rda); (· assumption); (· (first | omega | assumption | (simp only [List.length_append, List.length_take, List.length_drop, List.length_map, List.length_replicate, List.length_range, List.length_set, List.length_cons, List.length_nil]; omega))); (· (first | omega | assumption | (simp only [List.length_append, List.length_take, List.length_drop, List.length_map, List.length_replicate, List.length_range, List.length_set, List.length_cons, List.length_nil]; omega))); (with_reducible refine hK _ _ ?_)) | ((with_reducible apply index_owa); (· assumption); (· (first | omega | assumption | (simp only [List.length_append, List.length_take, List.length_drop, List.length_map, List.length_replicate, List.length_range, List.length_set, List.length_cons, List.length_nil]; omega))); (· (first | omega | assumption | (simp only [List.length_append, List.length_take, List.length_drop, List.length_map, List.length_replicate, List.length_range, List.length_set, List.length_cons, List.length_nil]; omega))); (with_reducible refine hK _ _ ?_)) | ((with_reducible apply load_rda8); (· assumption); (· (repeat (first | with_reducible assumption | with_reducible exact List.mem_cons_self .. | with_reducible apply List.mem_cons_of_mem))); (· (first | omega | assumption | (simp only [List.length_append, List.length_take, List.length_drop, List.length_map, List.length_replicate, List.length_range, List.length_set, List.length_cons, List.length_nil]; omega))); (with_reducible refine hK _ _ ?_)) | ((with_reducible apply load_owa8); (· assumption); (· (repeat (first | with_reducible assumption | with_reducible exact List.mem_cons_self .. | with_reducible apply List.mem_cons_of_mem))); (· (first | omega | assumption | (simp only [List.length_append, List.length_take, List.length_drop, List.length_map, List.length_replicate, List.length_range, List.length_set, List.length_cons, List.length_nil]; omega))); (with_reducible refine hK _ _ ?_)) | ((with_reducible apply load_rda); (· assumption); (· assumption); (· (repeat (first | with_reducible assumption | with_reducible exact List.mem_cons_self .. | with_reducible apply List.mem_cons_of_mem))); (with_reducible refine hK _ _ ?_)) | ((with_reducible apply load_owa); (· assumption); (· assumption); (· (repeat (first | with_reducible assumption | with_reducible exact List.mem_cons_self .. | with_reducible apply List.mem_cons_of_mem))); (with_reducible refine hK _ _ ?_)))) | (first | ((with_reducible apply field_elk); (with_reducible refine hK _ _ ?_)) | ((with_reducible apply el_ato); (· assumption); (· (first | omega | assumption | (simp only [List.length_append, List.length_take, List.length_drop, List.length_map, List.length_replicate, List.length_range, List.length_set, List.length_cons, List.length_nil]; omega))); (· (first | omega | assumption | (simp only [List.length_append, List.length_take, List.length_drop, List.length_map, List.length_replicate, List.length_range, List.length_set, List.length_cons, List.length_nil]; omega))); (· exact Nat.succ_pos _); (with_reducible refine hK _ _ ?_)) | ((with_reducible apply load_el); (· assumption); (· assumption); (· assumption); (· exact rfl); (· (repeat (first | with_reducible assumption | with_reducible exact List.mem_cons_self .. | with_reducible apply List.mem_cons_of_mem))); (with_reducible refine hK _ _ ?_)) | ((with_reducible apply map_len); (· assumption); (· (repeat (first | with_reducible assumption | with_reducible exact List.mem_cons_self .. | with_reducible apply List.mem_cons_of_mem))); (with_reducible refine hK _ _ ?_)) | ((with_reducible apply map_look2); (· assumption); (· (repeat (first | with_reducible assumption | with_reducible exact List.mem_cons_self .. | with_reducible apply List.mem_cons_of_mem))); (with_reducible refine hK _ _ ?_)) | ((with_reducible apply map_look1); (· assumption); (· (repeat (first | with_reducible assumption | with_reducible exact List.mem_cons_self .. | with_reducible apply List.mem_cons_of_mem))); (with_reducible refine hK _ _ ?_)))); clear hK K)); exact hK0⟩) : CodeW P n ro (.region id l.toArray false) K D L S := code_reg (h.out _ k)
theorem runq_more {o : Oper} {l : List Oper} (k : runW P n ops KK l' L' S') (h : Runs P n ops (o :: l) L S l' L' S' := by exact ⟨fun K0 hK0 => by ((with_reducible refine run_cons fun K hK => ?_); (try simp only [gos, gob, Nat.reduceBEq, if_true, reduceIte, reduceCtorEq, Nat.reduceLT, Nat.reduceEqDiff, Nat.reduceAdd, Nat.reduceSub, Int.reduceLT, Int.reduceLE, Int.reduceBEq, Int.reduceBNe, Int.reduceToNat, Int.reduceAdd, Int.reduceSub, Int.reduceMul, Int.reduceDiv, Int.reduceMod, Int.reducePow, Int.toNat_natCast, Nat.sub_zero]); (try (simp (disch := omega) only [gow, gobw]; try simp only [gos, gob, Nat.reduceBEq, if_true, reduceIte, reduceCtorEq, Nat.reduceLT, Nat.reduceEqDiff, Nat.reduceAdd, Nat.reduceSub, Int.reduceLT, Int.reduceLE, Int.reduceBEq, Int.reduceBNe, Int.reduceToNat, Int.reduceAdd, Int.reduceSub, Int.reduceMul, Int.reduceDiv, Int.reduceMod, Int.reducePow, Int.toNat_natCast, Nat.sub_zero])); (first | (first | (with_reducible refine hK _ _ ?_) | ((with_reducible apply load_box); (· (repeat (first | with_reducible exact Lies.one | with_reducible apply Lies.next))); (with_reducible refine hK _ _ ?_)) | ((with_reducible apply load_one); (· (repeat (first | with_reducible exact Lies.one | with_reducible apply Lies.next))); (· exact rfl); (with_reducible refine hK _ _ ?_)) | ((with_reducible apply store_box); (· exact trivial); (· (repeat (first | with_reducible exact Upd.one | with_reducible apply Upd.next))); (with_reducible refine hK _ _ ?_)) | ((with_reducible apply store_one); (· exact trivial); (· (repeat (first | with_reducible exact Upd.one | with_reducible apply Upd.next))); (· simp); (with_reducible refine hK _ _ ?_)) | (first | ((with_reducible apply index_rda); (· assumption); (· (first | omega | assumption | (simp only [List.length_append, List.length_take, List.length_drop, List.length_map, List.length_replicate, List.length_range, List.length_set, List.length_cons, List.length_nil]; omega))); (· (first | omega | assumption | (simp only [List.length_append, List.length_take, List.length_drop, List.length_map, List.length_replicate, List.length_range, List.length_set, List.length_cons, List.length_nil]; omega))); (with_reducible refine hK _ _ ?_)) | ((with_reducible apply index_owa); (· assumption); (· (first | omega | assumption | (simp only [List.length_append, List.length_take, List.length_drop, List.length_map, List.length_replicate, List.length_range, List.length_set, List.length_cons, List.length_nil]; omega))); (· (first | omega | assumption | (simp only [List.length_append, List.length_take, List.length_drop, List.length_map, List.length_replicate, List.length_range, List.length_set, List.length_cons, List.length_nil]; omega))); (with_reducible refine hK _ _ ?_)) | ((with_reducible apply load_rda8); (· assumption); (· (repeat (first | with_reducible assumption | with_reducible exact List.mem_cons_self .. | with_reducible apply List.mem_cons_of_mem))); (· (first | omega | assumption | (simp only [List.length_append, List.length_take, List.length_drop, List.length_map, List.length_replicate, List.length_range, List.length_set, List.length_cons, List.length_nil]; omega))); (with_reducible refine hK _ _ ?_)) | ((with_reducible apply load_owa8); (· assumption); (· (repeat (first | with_reducible assumption | with_reducible exact List.mem_cons_self .. | with_reducible apply List.mem_cons_of_mem))); (· (first | omega | assumption | (simp only [List.length_append, List.length_take, List.length_drop, List.length_map, List.length_replicate, List.length_range, List.length_set, List.length_cons, List.length_nil]; omega))); (with_reducible refine hK _ _ ?_)) | ((with_reducible apply load_rda); (· assumption); (· assumption); (· (repeat (first | with_reducible assumption | with_reducible exact List.mem_cons_self .. | with_reducible apply List.mem_cons_of_mem))); (with_reducible refine hK _ _ ?_)) | ((with_reducible apply load_owa); (· assumption); (· assumption); (· (repeat (first | with_reducible assumption | with_reducible exact List.mem_cons_self .. | with_reducible apply List.mem_cons_of_mem))); (with_reducible refine hK _ _ ?_)))) | (first | ((with_reducible apply field_elk); (with_reducible refine hK _ _ ?_)) | ((with_reducible apply el_ato); (· assumption); (· (first | omega | assumption | (simp only [List.length_append, List.length_take, List.length_drop, List.length_map, List.length_replicate, List.length_range, List.length_set, List.length_cons, List.length_nil]; omega))); (· (first | omega | assumption | (simp only [List.length_append, List.length_take, List.length_drop, List.length_map, List.length_replicate, List.length_range, List.length_set, List.length_cons, List.length_nil]; omega))); (· exact Nat.succ_pos _); (with_reducible refine hK _ _ ?_)) | ((with_reducible apply load_el); (· assumption); (· assumption); (· assumption); (· exact rfl); (· (repeat (first | with_reducible assumption | with_reducible exact List.mem_cons_self .. | with_reducible apply List.mem_cons_of_mem))); (with_reducible refine hK _ _ ?_)) | ((with_reducible apply map_len); (· assumption); (· (repeat (first | with_reducible assumption | with_reducible exact List.mem_cons_self .. | with_reducible apply List.mem_cons_of_mem))); (with_reducible refine hK _ _ ?_)) | ((with_reducible apply map_look2); (· assumption); (· (repeat (first | with_reducible assumption | with_reducible exact List.mem_cons_self .. | with_reducible apply List.mem_cons_of_mem))); (with_reducible refine hK _ _ ?_)) | ((with_reducible apply map_look1); (· assumption); (· (repeat (first | with_reducible assumption | with_reducible exact List.mem_cons_self .. | with_reducible apply List.mem_cons_of_mem))); (with_reducible refine hK _ _ ?_)))); clear hK K); (repeat ((with_reducible refine run_cons fun K hK => ?_); (try simp only [gos, gob, Nat.reduceBEq, if_true, reduceIte, reduceCtorEq, Nat.reduceLT, Nat.reduceEqDiff, Nat.reduceAdd, Nat.reduceSub, Int.reduceLT, Int.reduceLE, Int.reduceBEq, Int.reduceBNe, Int.reduceToNat, Int.reduceAdd, Int.reduceSub, Int.reduceMul, Int.reduceDiv, Int.reduceMod, Int.reducePow, Int.toNat_natCast, Nat.sub_zero]); (try (simp (disch := omega) only [gow, gobw]; try simp only [gos, gob, Nat.reduceBEq, if_true, reduceIte, reduceCtorEq, Nat.reduceLT, Nat.reduceEqDiff, Nat.reduceAdd, Nat.reduceSub, Int.reduceLT, Int.reduceLE, Int.reduceBEq, Int.reduceBNe, Int.reduceToNat, Int.reduceAdd, Int.reduceSub, Int.reduceMul, Int.reduceDiv, Int.reduceMod, Int.reducePow, Int.toNat_natCast, Nat.sub_zero])); (first | (first | (with_reducible refine hK _ _ ?_) | ((with_reducible apply load_box); (· (repeat (first | with_reducible exact Lies.one | with_reducible apply Lies.next))); (with_reducible refine hK _ _ ?_)) | ((with_reducible apply load_one); (· (repeat (first | with_reducible exact Lies.one | with_reducible apply Lies.next))); (· exact rfl); (with_reducible refine hK _ _ ?_)) | ((with_reducible apply store_box); (· exact trivial); (· (repeat (first | with_reducible exact Upd.one | with_reducible apply Upd.next))); (with_reducible refine hK _ _ ?_)) | ((with_reducible apply store_one); (· exact trivial); (· (repeat (first | with_reducible exact Upd.one | with_reducible apply Upd.next))); (· simp); (with_reducible refine hK _ _ ?_)) | (first | ((with_reducible apply index_rda); (· assumption); (· (first | omega | assumption | (simp only [List.length_append, List.length_take, List.length_drop, List.length_map, List.length_replicate, List.length_range, List.length_set, List.length_cons, List.length_nil]; omega))); (· (first | omega | assumption | (simp only [List.length_append, List.length_take, List.length_drop, List.length_map, List.length_replicate, List.length_range, List.length_set, List.length_cons, List.length_nil]; omega))); (with_reducible refine hK _ _ ?_)) | ((with_reducible apply index_owa); (· assumption); (· (first | omega | assumption | (simp only [List.length_append, List.length_take, List.length_drop, List.length_map, List.length_replicate, List.length_range, List.length_set, List.length_cons, List.length_nil]; omega))); (· (first | omega | assumption | (simp only [List.length_append, List.length_take, List.length_drop, List.length_map, List.length_replicate, List.length_range, List.length_set, List.length_cons, List.length_nil]; omega))); (with_reducible refine hK _ _ ?_)) | ((with_reducible apply load_rda8); (· assumption); (· (repeat (first | with_reducible assumption | with_reducible exact List.mem_cons_self .. | with_reducible apply List.mem_cons_of_mem))); (· (first | omega | assumption | (simp only [List.length_append, List.length_take, List.length_drop, List.length_map, List.length_replicate, List.length_range, List.length_set, List.length_cons, List.length_nil]; omega))); (with_reducible refine hK _ _ ?_)) | ((with_reducible apply load_owa8); (· assumption); (· (repeat (first | with_reducible assumption | with_reducible exact List.mem_cons_self .. | with_reducible apply List.mem_cons_of_mem))); (· (first | omega | assumption | (simp only [List.length_append, List.length_take, List.length_drop, List.length_map, List.length_replicate, List.length_range, List.length_set, List.length_cons, List.length_nil]; omega))); (with_reducible refine hK _ _ ?_)) | ((with_reducible apply load_rda); (· assumption); (· assumption); (· (repeat (first | with_reducible assumption | with_reducible exact List.mem_cons_self .. | with_reducible apply List.mem_cons_of_mem))); (with_reducible refine hK _ _ ?_)) | ((with_reducible apply load_owa); (· assumption); (· assumption); (· (repeat (first | with_reducible assumption | with_reducible exact List.mem_cons_self .. | with_reducible apply List.mem_cons_of_mem))); (with_reducible refine hK _ _ ?_)))) | (first | ((with_reducible apply field_elk); (with_reducible refine hK _ _ ?_)) | ((with_reducible apply el_ato); (· assumption); (· (first | omega | assumption | (simp only [List.length_append, List.length_take, List.length_drop, List.length_map, List.length_replicate, List.length_range, List.length_set, List.length_cons, List.length_nil]; omega))); (· (first | omega | assumption | (simp only [List.length_append, List.length_take, List.length_drop, List.length_map, List.length_replicate, List.length_range, List.length_set, List.length_cons, List.length_nil]; omega))); (· exact Nat.succ_pos _); (with_reducible refine hK _ _ ?_)) | ((with_reducible apply load_el); (· assumption); (· assumption); (· assumption); (· exact rfl); (· (repeat (first | with_reducible assumption | with_reducible exact List.mem_cons_self .. | with_reducible apply List.mem_cons_of_mem))); (with_reducible refine hK _ _ ?_)) | ((with_reducible apply map_len); (· assumption); (· (repeat (first | with_reducible assumption | with_reducible exact List.mem_cons_self .. | with_reducible apply List.mem_cons_of_mem))); (with_reducible refine hK _ _ ?_)) | ((with_reducible apply map_look2); (· assumption); (· (repeat (first | with_reducible assumption | with_reducible exact List.mem_cons_self .. | with_reducible apply List.mem_cons_of_mem))); (with_reducible refine hK _ _ ?_)) | ((with_reducible apply map_look1); (· assumption); (· (repeat (first | with_reducible assumption | with_reducible exact List.mem_cons_self .. | with_reducible apply List.mem_cons_of_mem))); (with_reducible refine hK _ _ ?_)))); clear hK K)); exact hK0⟩) : runW P n ops KK (o :: l) L S := h.out _ k
theorem drawq_as {p0 : Entry} {p p' : List Entry} (k : drawW P n ops KK p' L' S') (h : Draws P n ops (p0 :: p) L S p' L' S' := by exact ⟨fun K0 hK0 => by refine draw_effect (by simp only [List.getElem?_toArray, List.getElem?_cons_succ, List.getElem?_cons_zero]; rfl) fun K hK => ?_; (try simp only [gos, gob, Nat.reduceBEq, if_true, reduceIte, reduceCtorEq, Nat.reduceLT, Nat.reduceEqDiff, Nat.reduceAdd, Nat.reduceSub, Int.reduceLT, Int.reduceLE, Int.reduceBEq, Int.reduceBNe, Int.reduceToNat, Int.reduceAdd, Int.reduceSub, Int.reduceMul, Int.reduceDiv, Int.reduceMod, Int.reducePow, Int.toNat_natCast, Nat.sub_zero, goq]); (try (simp (disch := omega) only [gow, gobw]; try simp only [gos, gob, Nat.reduceBEq, if_true, reduceIte, reduceCtorEq, Nat.reduceLT, Nat.reduceEqDiff, Nat.reduceAdd, Nat.reduceSub, Int.reduceLT, Int.reduceLE, Int.reduceBEq, Int.reduceBNe, Int.reduceToNat, Int.reduceAdd, Int.reduceSub, Int.reduceMul, Int.reduceDiv, Int.reduceMod, Int.reducePow, Int.toNat_natCast, Nat.sub_zero, goq])); (first | ((repeat refine pendq ?_); (with_reducible refine hK _ _ ?_)) | ((with_reducible apply store_box); (· exact trivial); (· (repeat (first | with_reducible exact Upd.one | with_reducible apply Upd.next))); (repeat refine pendq ?_); (with_reducible refine hK _ _ ?_)) | ((with_reducible apply store_one); (· exact trivial); (· (repeat (first | with_reducible exact Upd.one | with_reducible apply Upd.next))); (· simp); (repeat refine pendq ?_); (with_reducible refine hK _ _ ?_))); clear hK K; exact hK0⟩) : drawW P n ops KK (p0 :: p) L S := h.out _ k
theorem drawq_more {p0 : Entry} {p p' : List Entry} (k : drawW P n ops KK p' L' S') (h : Draws P n ops (p0 :: p) L S p' L' S' := by exact ⟨fun K0 hK0 => by refine draw_quiet (by simp only [List.getElem?_toArray, List.getElem?_cons_succ, List.getElem?_cons_zero]; rfl) fun K hK => ?_; (try simp only [gos, gob, Nat.reduceBEq, if_true, reduceIte, reduceCtorEq, Nat.reduceLT, Nat.reduceEqDiff, Nat.reduceAdd, Nat.reduceSub, Int.reduceLT, Int.reduceLE, Int.reduceBEq, Int.reduceBNe, Int.reduceToNat, Int.reduceAdd, Int.reduceSub, Int.reduceMul, Int.reduceDiv, Int.reduceMod, Int.reducePow, Int.toNat_natCast, Nat.sub_zero, goq]); (try (simp (disch := omega) only [gow, gobw]; try simp only [gos, gob, Nat.reduceBEq, if_true, reduceIte, reduceCtorEq, Nat.reduceLT, Nat.reduceEqDiff, Nat.reduceAdd, Nat.reduceSub, Int.reduceLT, Int.reduceLE, Int.reduceBEq, Int.reduceBNe, Int.reduceToNat, Int.reduceAdd, Int.reduceSub, Int.reduceMul, Int.reduceDiv, Int.reduceMod, Int.reducePow, Int.toNat_natCast, Nat.sub_zero, goq])); (first | (first | (with_reducible refine hK _ _ ?_) | ((with_reducible apply load_box); (· (repeat (first | with_reducible exact Lies.one | with_reducible apply Lies.next))); (with_reducible refine hK _ _ ?_)) | ((with_reducible apply load_one); (· (repeat (first | with_reducible exact Lies.one | with_reducible apply Lies.next))); (· exact rfl); (with_reducible refine hK _ _ ?_)) | ((with_reducible apply store_box); (· exact trivial); (· (repeat (first | with_reducible exact Upd.one | with_reducible apply Upd.next))); (with_reducible refine hK _ _ ?_)) | ((with_reducible apply store_one); (· exact trivial); (· (repeat (first | with_reducible exact Upd.one | with_reducible apply Upd.next))); (· simp); (with_reducible refine hK _ _ ?_)) | (first | ((with_reducible apply index_rda); (· assumption); (· (first | omega | assumption | (simp only [List.length_append, List.length_take, List.length_drop, List.length_map, List.length_replicate, List.length_range, List.length_set, List.length_cons, List.length_nil]; omega))); (· (first | omega | assumption | (simp only [List.length_append, List.length_take, List.length_drop, List.length_map, List.length_replicate, List.length_range, List.length_set, List.length_cons, List.length_nil]; omega))); (with_reducible refine hK _ _ ?_)) | ((with_reducible apply index_owa); (· assumption); (· (first | omega | assumption | (simp only [List.length_append, List.length_take, List.length_drop, List.length_map, List.length_replicate, List.length_range, List.length_set, List.length_cons, List.length_nil]; omega))); (· (first | omega | assumption | (simp only [List.length_append, List.length_take, List.length_drop, List.length_map, List.length_replicate, List.length_range, List.length_set, List.length_cons, List.length_nil]; omega))); (with_reducible refine hK _ _ ?_)) | ((with_reducible apply load_rda8); (· assumption); (· (repeat (first | with_reducible assumption | with_reducible exact List.mem_cons_self .. | with_reducible apply List.mem_cons_of_mem))); (· (first | omega | assumption | (simp only [List.length_append, List.length_take, List.length_drop, List.length_map, List.length_replicate, List.length_range, List.length_set, List.length_cons, List.length_nil]; omega))); (with_reducible refine hK _ _ ?_)) | ((with_reducible apply load_owa8); (· assumption); (· (repeat (first | with_reducible assumption | with_reducible exact List.mem_cons_self .. | with_reducible apply List.mem_cons_of_mem))); (· (first | omega | assumption | (simp only [List.length_append, List.length_take, List.length_drop, List.length_map, List.length_replicate, List.length_range, List.length_set, List.length_cons, List.length_nil]; omega))); (with_reducible refine hK _ _ ?_)) | ((with_reducible apply load_rda); (· assumption); (· assumption); (· (repeat (first | with_reducible assumption | with_reducible exact List.mem_cons_self .. | with_reducible apply List.mem_cons_of_mem))); (with_reducible refine hK _ _ ?_)) | ((with_reducible apply load_owa); (· assumption); (· assumption); (· (repeat (first | with_reducible assumption | with_reducible exact List.mem_cons_self .. | with_reducible apply List.mem_cons_of_mem))); (with_reducible refine hK _ _ ?_)))) | (first | ((with_reducible apply field_elk); (with_reducible refine hK _ _ ?_)) | ((with_reducible apply el_ato); (· assumption); (· (first | omega | assumption | (simp only [List.length_append, List.length_take, List.length_drop, List.length_map, List.length_replicate, List.length_range, List.length_set, List.length_cons, List.length_nil]; omega))); (· (first | omega | assumption | (simp only [List.length_append, List.length_take, List.length_drop, List.length_map, List.length_replicate, List.length_range, List.length_set, List.length_cons, List.length_nil]; omega))); (· exact Nat.succ_pos _); (with_reducible refine hK _ _ ?_)) | ((with_reducible apply load_el); (· assumption); (· assumption); (· assumption); (· exact rfl); (· (repeat (first | with_reducible assumption | with_reducible exact List.mem_cons_self .. | with_reducible apply List.mem_cons_of_mem))); (with_reducible refine hK _ _ ?_)) | ((with_reducible apply map_len); (· assumption); (· (repeat (first | with_reducible assumption | with_reducible exact List.mem_cons_self .. | with_reducible apply List.mem_cons_of_mem))); (with_reducible refine hK _ _ ?_)) | ((with_reducible apply map_look2); (· assumption); (· (repeat (first | with_reducible assumption | with_reducible exact List.mem_cons_self .. | with_reducible apply List.mem_cons_of_mem))); (with_reducible refine hK _ _ ?_)) | ((with_reducible apply map_look1); (· assumption); (· (repeat (first | with_reducible assumption | with_reducible exact List.mem_cons_self .. | with_reducible apply List.mem_cons_of_mem))); (with_reducible refine hK _ _ ?_)))); clear hK K; (repeat (refine draw_quiet (by simp only [List.getElem?_toArray, List.getElem?_cons_succ, List.getElem?_cons_zero]; rfl) fun K hK => ?_; (try simp only [gos, gob, Nat.reduceBEq, if_true, reduceIte, reduceCtorEq, Nat.reduceLT, Nat.reduceEqDiff, Nat.reduceAdd, Nat.reduceSub, Int.reduceLT, Int.reduceLE, Int.reduceBEq, Int.reduceBNe, Int.reduceToNat, Int.reduceAdd, Int.reduceSub, Int.reduceMul, Int.reduceDiv, Int.reduceMod, Int.reducePow, Int.toNat_natCast, Nat.sub_zero, goq]); (try (simp (disch := omega) only [gow, gobw]; try simp only [gos, gob, Nat.reduceBEq, if_true, reduceIte, reduceCtorEq, Nat.reduceLT, Nat.reduceEqDiff, Nat.reduceAdd, Nat.reduceSub, Int.reduceLT, Int.reduceLE, Int.reduceBEq, Int.reduceBNe, Int.reduceToNat, Int.reduceAdd, Int.reduceSub, Int.reduceMul, Int.reduceDiv, Int.reduceMod, Int.reducePow, Int.toNat_natCast, Nat.sub_zero, goq])); (first | (first | (with_reducible refine hK _ _ ?_) | ((with_reducible apply load_box); (· (repeat (first | with_reducible exact Lies.one | with_reducible apply Lies.next))); (with_reducible refine hK _ _ ?_)) | ((with_reducible apply load_one); (· (repeat (first | with_reducible exact Lies.one | with_reducible apply Lies.next))); (· exact rfl); (with_reducible refine hK _ _ ?_)) | ((with_reducible apply store_box); (· exact trivial); (· (repeat (first | with_reducible exact Upd.one | with_reducible apply Upd.next))); (with_reducible refine hK _ _ ?_)) | ((with_reducible apply store_one); (· exact trivial); (· (repeat (first | with_reducible exact Upd.one | with_reducible apply Upd.next))); (· simp); (with_reducible refine hK _ _ ?_)) | (first | ((with_reducible apply index_rda); (· assumption); (· (first | omega | assumption | (simp only [List.length_append, List.length_take, List.length_drop, List.length_map, List.length_replicate, List.length_range, List.length_set, List.length_cons, List.length_nil]; omega))); (· (first | omega | assumption | (simp only [List.length_append, List.length_take, List.length_drop, List.length_map, List.length_replicate, List.length_range, List.length_set, List.length_cons, List.length_nil]; omega))); (with_reducible refine hK _ _ ?_)) | ((with_reducible apply index_owa); (· assumption); (· (first | omega | assumption | (simp only [List.length_append, List.length_take, List.length_drop, List.length_map, List.length_replicate, List.length_range, List.length_set, List.length_cons, List.length_nil]; omega))); (· (first | omega | assumption | (simp only [List.length_append, List.length_take, List.length_drop, List.length_map, List.length_replicate, List.length_range, List.length_set, List.length_cons, List.length_nil]; omega))); (with_reducible refine hK _ _ ?_)) | ((with_reducible apply load_rda8); (· assumption); (· (repeat (first | with_reducible assumption | with_reducible exact List.mem_cons_self .. | with_reducible apply List.mem_cons_of_mem))); (· (first | omega | assumption | (simp only [List.length_append, List.length_take, List.length_drop, List.length_map, List.length_replicate, List.length_range, List.length_set, List.length_cons, List.length_nil]; omega))); (with_reducible refine hK _ _ ?_)) | ((with_reducible apply load_owa8); (· assumption); (· (repeat (first | with_reducible assumption | with_reducible exact List.mem_cons_self .. | with_reducible apply List.mem_cons_of_mem))); (· (first | omega | assumption | (simp only [List.length_append, List.length_take, List.length_drop, List.length_map, List.length_replicate, List.length_range, List.length_set, List.length_cons, List.length_nil]; omega))); (with_reducible refine hK _ _ ?_)) | ((with_reducible apply load_rda); (· assumption); (· assumption); (· (repeat (first | with_reducible assumption | with_reducible exact List.mem_cons_self .. | with_reducible apply List.mem_cons_of_mem))); (with_reducible refine hK _ _ ?_)) | ((with_reducible apply load_owa); (· assumption); (· assumption); (· (repeat (first | with_reducible assumption | with_reducible exact List.mem_cons_self .. | with_reducible apply List.mem_cons_of_mem))); (with_reducible refine hK _ _ ?_)))) | (first | ((with_reducible apply field_elk); (with_reducible refine hK _ _ ?_)) | ((with_reducible apply el_ato); (· assumption); (· (first | omega | assumption | (simp only [List.length_append, List.length_take, List.length_drop, List.length_map, List.length_replicate, List.length_range, List.length_set, List.length_cons, List.length_nil]; omega))); (· (first | omega | assumption | (simp only [List.length_append, List.length_take, List.length_drop, List.length_map, List.length_replicate, List.length_range, List.length_set, List.length_cons, List.length_nil]; omega))); (· exact Nat.succ_pos _); (with_reducible refine hK _ _ ?_)) | ((with_reducible apply load_el); (· assumption); (· assumption); (· assumption); (· exact rfl); (· (repeat (first | with_reducible assumption | with_reducible exact List.mem_cons_self .. | with_reducible apply List.mem_cons_of_mem))); (with_reducible refine hK _ _ ?_)) | ((with_reducible apply map_len); (· assumption); (· (repeat (first | with_reducible assumption | with_reducible exact List.mem_cons_self .. | with_reducible apply List.mem_cons_of_mem))); (with_reducible refine hK _ _ ?_)) | ((with_reducible apply map_look2); (· assumption); (· (repeat (first | with_reducible assumption | with_reducible exact List.mem_cons_self .. | with_reducible apply List.mem_cons_of_mem))); (with_reducible refine hK _ _ ?_)) | ((with_reducible apply map_look1); (· assumption); (· (repeat (first | with_reducible assumption | with_reducible exact List.mem_cons_self .. | with_reducible apply List.mem_cons_of_mem))); (with_reducible refine hK _ _ ?_)))); clear hK K)); exact hK0⟩) : drawW P n ops KK (p0 :: p) L S := h.out _ k

theorem then_mid {c d : Code} {K' : Cont} (Q : List Nat → Env → State → Prop) (h1 : CodeW P n ro c (Cont.then (Mid Q) K) D L S) (h2 : ∀ D L S, Q D L S → CodeW P n ro d K' D L S) : CodeW P n ro c (Cont.then (CodeW P n ro d K') K) D L S :=
  code_mono h1 fun e D L S h => by
    cases e <;> first | exact h | skip
    obtain ⟨L', S', hq, hL, hS⟩ := h
    exact code_less hL hS (h2 D L' S' hq)

end Go.Ost

/- As far as a run goes by itself. Conditions: none. -/
set_option linter.unusedSimpArgs false
set_option linter.unusedVariables false
namespace Go.Ost
open Go

structure Impl (a b : Prop) : Prop where out : a → b
structure Hid (a : Prop) : Prop where out : a
theorem going {G G' : Prop} (k : G') (h : Impl (Hid G') G := by exact ⟨fun k0 => by (repeat (first | (with_reducible refine run_nil ?_) | ((with_reducible refine run_probe ?_); refine runq_more ?_) | (with_reducible refine then_n ?_) | (with_reducible refine then_r ?_) | (with_reducible refine then_e ?_) | (with_reducible refine block_n ?_) | (with_reducible refine block_r ?_) | (with_reducible refine block_e ?_) | ((with_reducible refine block_probe ?_); refine block_o ?_) | (with_reducible refine scope_n ?_) | (with_reducible refine scope_r ?_) | (with_reducible refine scope_e ?_) | (with_reducible refine code_seq ?_) | (with_reducible refine code_skip ?_) | (with_reducible refine code_label ?_) | (with_reducible refine code_block ?_) | (with_reducible refine code_scope ?_) | (with_reducible refine code_exit ?_) | (with_reducible refine code_ret ?_) | ((with_reducible refine reg_probe ?_); refine regq_to ?_) | (with_reducible refine draw_nil ?_) | ((with_reducible refine draw_probe ?_); (first | refine drawq_more ?_ | refine drawq_as ?_)) | ((with_reducible refine cond_probe ?_); (first | refine code_then ?_ | refine code_else ?_)))); exact k0.out⟩) : G := h.out ⟨k⟩

end Go.Ost

/- Where a loop in a block ends. Conditions: none. -/
set_option linter.unusedSimpArgs false
set_option linter.unusedVariables false
namespace Go.Ost
open Go

theorem block_mid {P : Program} {n : Nat} {ro : Option Nat} {K : Cont} {D : List Nat} {L : Env} {S : State} {c d : Code} {l : Nat} {K' : Cont} (Q : List Nat → Env → State → Prop) (h1 : CodeW P n ro c ((Cont.then (Mid Q) K).block l) D L S) (h2 : ∀ D L S, Q D L S → CodeW P n ro d K' D L S) : CodeW P n ro c ((Cont.then (CodeW P n ro d K') K).block l) D L S :=
  code_mono h1 fun e D L S h => by
    have go : Mid Q D L S → CodeW P n ro d K' D L S := fun ⟨L', S', hq, hL, hS⟩ => code_less hL hS (h2 D L' S' hq)
    cases e with
    | exit l' =>
      by_cases hl : l' = l
      · simp only [Cont.block, if_pos hl, Cont.then] at h ⊢; exact go h
      · simp only [Cont.block, if_neg hl, Cont.then] at h ⊢; exact h
    | normal => exact go h
    | _ => exact h

end Go.Ost

/- A slice of one structure, written out. Conditions: as each says. -/
set_option linter.unusedSimpArgs false
set_option linter.unusedVariables false
namespace Go.Ost
open Go

variable {P : Program}

theorem foldl_set (vs : List Value) : ∀ (l p r : List Value), r.length = l.length → vs = p ++ l →
    (l.zipIdx p.length).foldl (fun (cs : Array Value) (x : Value × Nat) => cs.setIfInBounds x.2 x.1) (p ++ r).toArray = vs.toArray
  | [], p, [], _, h => by simp at h; simp [h]
  | v :: l, p, x :: r, hl, h => by
    rw [List.zipIdx_cons, List.foldl_cons]
    have ih := foldl_set vs l (p ++ [v]) r (by simpa using hl) (by rw [h]; simp)
    rw [List.length_append, List.length_cons, List.length_nil] at ih
    have e : (p ++ x :: r).toArray.setIfInBounds p.length v = (p ++ [v] ++ r).toArray := by
      apply Array.ext'; simp
    rw [e]; exact ih

theorem build_el1 {t e : TypeId} {z : Value} {s by_ : Nat} [ht : TSlice P t e] [hs : TSized P e z s by_] (hz : z.cells.size = s) (h0 : 0 < s) (hs2 : s ≤ 1000) {vs : List Value} (hv : vs.length = s) {S : State} {κ : Value → State → Prop}
    (k : ∀ b C, Own s e C (some ⟨b, 0, none⟩) 1 1 vs → κ (.slice (some ⟨b, 0, none⟩) 1 1) (C :: S)) : ValW P (Instr.buildSlice t 1 #[(0, .agg vs.toArray)]) S κ := by
  refine ⟨fun w hw => ?_⟩
  refine ⟨_, { w with heap := w.heap.push (.cells vs.toArray e) }, _, ?_, ext_push rfl, hw.new rfl, k _ _ ⟨Nat.le_refl _, by simp [maxLen], by omega, .inr ⟨_, 0, _, (0, 0), rfl, rfl, .inl rfl, by simp [hv], fun i hi => by simp⟩⟩⟩
  have hfill : ∀ cells : Array Value, cells.size = s → Instr.fill (fun i => some (i * s, s)) cells [(0, .agg vs.toArray)] = some vs.toArray := by
    intro cells hc
    have e1 : (Value.agg vs.toArray).cells = vs.toArray := rfl
    simp only [Instr.fill, e1]
    rw [if_neg (by simp [hv, hc])]
    congr 1
    have := foldl_set vs vs [] cells.toList (by simp [hc, hv]) rfl
    simp only [List.nil_append, List.length_nil, Array.toArray_toList] at this
    refine Eq.trans ?_ this
    simp
  have hne : ¬ (1 * s = 0) := by omega
  have hle : ¬ 16777216 < 1 * s := by omega
  simp only [Instr.buildSlice, Sem.run_bind, run_und ht.und, run_size hs, run_zero hs, Result.andThen]
  rw [show (2 : Nat) ^ 24 = 16777216 from rfl, if_neg hle, if_neg hne]
  simp only [Sem.run_bind, Sem.run_pure, Result.andThen, run_zero hs]
  rw [hfill _ (by simp)]
  simp [newRow, newObj, Sem.run_bind, Sem.run, Result.andThen]

theorem build_el0 {t e : TypeId} {z : Value} {s by_ : Nat} [ht : TSlice P t e] [hs : TSized P e z s by_] {S : State} {κ : Value → State → Prop}
    (k : ∀ b C, Own s e C (some ⟨b, 0, none⟩) 0 0 [] → κ (.slice (some ⟨b, 0, none⟩) 0 0) (C :: S)) : ValW P (Instr.buildSlice t 0 #[]) S κ := by
  refine ⟨fun w hw => ?_⟩
  refine ⟨_, { w with heap := w.heap.push (.cells #[] e) }, _, ?_, ext_push rfl, hw.new rfl, k _ _ ⟨Nat.le_refl _, by simp [maxLen], by simp, .inr ⟨_, 0, _, (0, 0), rfl, rfl, .inl rfl, by simp, fun i hi => by simp at hi⟩⟩⟩
  simp [Instr.buildSlice, Sem.run_bind, run_und ht.und, run_size hs, Result.andThen, Instr.fill, newRow, newObj, Sem.run, show Array.range 0 = #[] from rfl]

theorem flat_take {α : Type} (enc : α → List Value) (s : Nat) (hs : ∀ x, (enc x).length = s) : ∀ (l : List α) (i : Nat), (l.flatMap enc).take (i * s) = (l.take i).flatMap enc
  | l, 0 => by simp
  | [], i + 1 => by simp
  | x :: l, i + 1 => by
    rw [List.flatMap_cons, Nat.add_mul, Nat.one_mul, Nat.add_comm, List.take_add, List.take_left' (hs x), List.drop_left' (hs x), flat_take enc s hs l i, List.take_succ_cons, List.flatMap_cons]
theorem rd_cutF {α : Type} {enc : α → List Value} {s : Nat} (hs : ∀ x, (enc x).length = s) {S : State} {a : Option Addr} {len : Nat} {us : List α} (h : Rd s S a len (us.flatMap enc)) {l h' m : Nat} (h1 : l ≤ h') (h2 : h' ≤ len) (h3 : h' ≤ m) :
    Rd s S (cutA s a l m) (h' - l) (((us.drop l).take (h' - l)).flatMap enc) := by
  have q := rd_cut h h1 h2 h3
  rwa [flat_drop enc s hs, flat_take enc s hs] at q

end Go.Ost

/- Ranges over functions whose elements lie in the iterator's own memory, which the loop's body may read. Conditions: none. -/
set_option linter.unusedSimpArgs false
set_option linter.unusedVariables false
namespace Go.Ost
open Go

variable {P : Program} {n : Nat} {α : Type}

def Sh (H : Chunk) (J : Chunk → Prop) (C : Chunk) : Prop := ∃ C0, C = C0 ++ H ∧ J C0
def ShS (H : Chunk) (I : State → Prop) (C : State) : Prop := ∃ C0, C = C0 ++ [H] ∧ I C0

/-- An iterator's contract: as before, and what the element x points to lies in the chunk sh x. -/
structure IMeetsS (P : Program) (f : FuncId) (first captured : List Value) (encs : α → List Value) (sh : α → Chunk) (A : State) (Next : List α → α → Prop) (Done : List α → Prop) (inf : Bool) : Prop where
  able : callable P f = true
  out : ∀ (l : Nat) (J Jx : List α → Chunk → Prop), (inf = true → ∃ N, N ≤ 4611686018427387904 ∧ ∀ pre C, J pre C → pre.length ≤ N) →
    (∀ pre x, Next pre x → YMeets P l (encs x) (Sh (sh x) (J pre)) (Sh (sh x) (J (pre ++ [x]))) (Sh (sh x) (Jx (pre ++ [x])))) →
    ∀ C, J [] C → ∀ (F : Chunk) (w : World), Hold w (F :: C :: A) → CallsIn (FW none) 0 P f (first ++ [Value.func (.yield l) #[] #[]] ++ captured).toArray w
      (EndsW w fun _ S => ∃ C', S = F :: C' :: A ∧ ((∃ pre, Done pre ∧ J pre C') ∨ (∃ pre x, Next pre x ∧ Jx (pre ++ [x]) C')))

theorem iter_introS {f : FuncId} {first captured : List Value} {encs : α → List Value} {sh : α → Chunk} {A : State} {Next : List α → α → Prop} {Done : List α → Prop} {inf : Bool} (ha : callable P f = true)
    (h : ∀ (l : Nat) (J Jx : List α → Chunk → Prop), (inf = true → ∃ N, N ≤ 4611686018427387904 ∧ ∀ pre C, J pre C → pre.length ≤ N) → (∀ pre x, Next pre x → YMeets P l (encs x) (Sh (sh x) (J pre)) (Sh (sh x) (J (pre ++ [x]))) (Sh (sh x) (Jx (pre ++ [x])))) →
      ∀ C, J [] C → Meets P f (first ++ [Value.func (.yield l) #[] #[]] ++ captured) (C :: A) fun _ S => ∃ C', S = C' :: A ∧ ((∃ pre, Done pre ∧ J pre C') ∨ (∃ pre x, Next pre x ∧ Jx (pre ++ [x]) C'))) :
    IMeetsS P f first captured encs sh A Next Done inf :=
  ⟨ha, fun l J Jx hN hY C hC F w hw => ((h l J Jx hN hY C hC).out F w hw).mono fun e w' ⟨v, S, a, b, c, A', d, C', e', r⟩ => ⟨v, S, a, b, c, C', by rw [d, e'], r⟩⟩

theorem yield_meetsS {l : Nat} {args : List Value} {Jin Jout Jstop : Chunk → Prop} {S G : State} {C H : Chunk} {κ : Value → State → Prop} (h : YMeets P l args (Sh H Jin) (Sh H Jout) (Sh H Jstop)) (hC : Jin C) (ht : Take [C, H] S G)
    (k1 : ∀ C', Jout C' → κ (.bool true) (C' :: H :: G)) (k2 : ∀ C', Jstop C' → κ (.bool false) (C' :: H :: G)) : YieldW P l args.toArray S κ := by
  refine ⟨fun w hw => ?_⟩
  have h1 := h.out (C ++ H) ⟨C, rfl, hC⟩ G.flatten w (hw.perm (ht.perm.trans (by simp only [List.flatten_append, List.flatten_cons, List.flatten_nil, List.append_nil]; exact List.perm_append_comm)))
  obtain ⟨fn, tm, asg, bd, hr, hR⟩ := h1
  refine ⟨fn, tm, asg, bd, hr, hR.mono ?_⟩
  rintro e w' ⟨v, S', rfl, he, hh, b, C', rfl, rfl, j1, j2⟩
  cases b
  · obtain ⟨C0, rfl, hJ⟩ := j2 rfl
    exact ⟨.bool false, C0 :: H :: G, rfl, he, hh.perm (by simp only [List.flatten_cons, List.flatten_nil, List.append_nil]; rw [← List.append_assoc C0 H]; exact List.perm_append_comm), k2 C0 hJ⟩
  · obtain ⟨C0, rfl, hJ⟩ := j1 rfl
    exact ⟨.bool true, C0 :: H :: G, rfl, he, hh.perm (by simp only [List.flatten_cons, List.flatten_nil, List.append_nil]; rw [← List.append_assoc C0 H]; exact List.perm_append_comm), k1 C0 hJ⟩

theorem YMeets.swap {l : Nat} {args : List Value} {Ji Jo Jx Ki Ko Kx : Chunk → Prop} (h : YMeets P l args Ji Jo Jx) (h1 : ∀ C, Ki C → Ji C) (h2 : ∀ C, Jo C → Ko C) (h3 : ∀ C, Jx C → Kx C) : YMeets P l args Ki Ko Kx := by
  refine ⟨fun C hC F w hw => ?_⟩
  obtain ⟨fn, tm, asg, bd, hr, hR⟩ := h.out C (h1 C hC) F w hw
  refine ⟨fn, tm, asg, bd, hr, hR.mono ?_⟩
  rintro e w' ⟨v, S', rfl, he, hh, b, C', hv, hS, j1, j2⟩
  exact ⟨_, _, rfl, he, hh, b, C', hv, hS, fun hb => h2 _ (j1 hb), fun hb => h3 _ (j2 hb)⟩

/-- The core of both rules: the record l (and whatever else is new) lies; the iterator is called. -/
theorem range_coreS {ro : Option Nat} {fn : FuncId} {t : Array Value} {ps : Array Tmp} {assign body : Code} {dB l : Nat} {L : Env} {f : FuncId} {first captured : List Value} {encs : α → List Value} {sh : α → Chunk} {A C0 M : State}
    {Next : List α → α → Prop} {Done : List α → Prop} {inf : Bool} {Q : Exit → Act → World → Prop} {a' : Act} {w w1 : World}
    (hit : IMeetsS P f first captured encs sh A Next Done inf) (I : List α → State → Prop) (Ix : Code → List α → State → Prop)
    (hinf : inf = true → ∃ N, N ≤ 4611686018427387904 ∧ ∀ pre C, I pre C → pre.length ≤ N) (hag : Agree n L [] { tmps := t, defers := [] }) (hps : ∀ x, (encs x).length = ps.size) (h0 : I [] C0) (he : Ext w w1)
    (hw1 : Hold w1 ([(l, .loop { state := .ready, pending := none, fn, tmps := t, params := ps, assign, body, defers := dB })] :: M ++ C0 ++ A))
    (hround : ∀ (F : Chunk) (C : State) (r : Loop) (pre : List α) (x : α), Next pre x → I pre C → CodeW P n (some l) assign (assignK P n l r body F (ShS (sh x) (I (pre ++ [x]))) (fun c => ShS (sh x) (Ix c (pre ++ [x])))) [] (putAll n ps.toList (encs x) L) ([(l, .loop r)] :: F :: (C ++ [sh x])))
    (hdone : ∀ (pre : List α) (C : State) (w2 : World), Done pre → I pre C → Ext w w2 → Hold w2 (M ++ C ++ A) → Q .normal a' w2)
    (hstop : ∀ (c : Code) (pre : List α) (x : α) (C : State) (w2 : World), Next pre x → Ix c (pre ++ [x]) C → Ext w w2 → Hold w2 (M ++ C ++ A) → c.wpIn (FW ro) 0 P Q a' w2) :
    CallsIn (FW none) 0 P f (first ++ [Value.func (.yield l) #[] #[]] ++ captured).toArray w1 (rangePost (FW ro) 0 P l Q a') := by
  have h1 := hit.out l (fun pre C => ∃ C1 : State, C = (l, .loop { state := .ready, pending := none, fn, tmps := t, params := ps, assign, body, defers := dB }) :: C1.flatten ∧ I pre C1)
    (fun pre C => ∃ (c : Code) (C1 : State), C = (l, .loop { state := .done, pending := some c, fn, tmps := t, params := ps, assign, body, defers := dB }) :: C1.flatten ∧ Ix c pre C1)
    (fun h => let ⟨N, hN0, hN⟩ := hinf h; ⟨N, hN0, fun pre C ⟨C1, _, hI⟩ => hN pre C1 hI⟩)
    (fun pre x hx => (round_meets (fn := fn) (t := t) (ps := ps) (assign := assign) (body := body) (dB := dB) (I := ShS (sh x) (I pre)) (Iout := ShS (sh x) (I (pre ++ [x]))) (Ix := fun c => ShS (sh x) (Ix c (pre ++ [x]))) hag (hps x) fun F C r _ ⟨C0, hC0, hI⟩ => by rw [hC0]; exact hround F C0 r pre x hx hI).swap
      (fun C hC => by obtain ⟨C0, h1, C1, h2, h3⟩ := hC; exact ⟨C1 ++ [sh x], by rw [h1, h2]; simp, C1, rfl, h3⟩)
      (fun C hC => by obtain ⟨C0, h1, C1, h2, h3⟩ := hC; exact ⟨_, by rw [h1, h2, List.flatten_append, ← List.cons_append]; simp only [List.flatten_cons, List.flatten_nil, List.append_nil], C1, rfl, h3⟩)
      (fun C hC => by obtain ⟨c, C0, h1, C1, h2, h3⟩ := hC; exact ⟨_, by rw [h1, h2, List.flatten_append, ← List.cons_append]; simp only [List.flatten_cons, List.flatten_nil, List.append_nil], c, C1, rfl, h3⟩)) _ ⟨C0, rfl, h0⟩ M.flatten w1
    (hw1.perm (by
      simp only [List.flatten_append, List.flatten_cons, List.cons_append, List.append_assoc, List.nil_append]
      exact List.perm_middle.symm))
  refine h1.mono ?_
  rintro e w2 ⟨v, S, rfl, he2, hh, C', rfl, (⟨pre, hd, C1, rfl, hI⟩ | ⟨pre, x, hx, c, C1, rfl, hI⟩)⟩
  · have hw2 : Hold w2 ([(l, .loop { state := .ready, pending := none, fn, tmps := t, params := ps, assign, body, defers := dB })] :: (M ++ C1 ++ A)) := hh.perm (by
      simp only [List.flatten_append, List.flatten_cons, List.cons_append, List.append_assoc, List.nil_append]
      exact List.perm_middle)
    have hl2 : w2.heap[l]? = some (.loop { state := .ready, pending := none, fn, tmps := t, params := ps, assign, body, defers := dB }) := hw2.get l _ (by simp)
    refine ⟨none, _, run_endLoop (P := P) hl2 (by simp), hdone pre C1 _ hd hI ((he.trans he2).trans (put_ext _ _ _)) ?_⟩
    exact (put_hold hw2).sub (by simp)
  · have hw2 : Hold w2 ([(l, .loop { state := .done, pending := some c, fn, tmps := t, params := ps, assign, body, defers := dB })] :: (M ++ C1 ++ A)) := hh.perm (by
      simp only [List.flatten_append, List.flatten_cons, List.cons_append, List.append_assoc, List.nil_append]
      exact List.perm_middle)
    have hl2 : w2.heap[l]? = some (.loop { state := .done, pending := some c, fn, tmps := t, params := ps, assign, body, defers := dB }) := hw2.get l _ (by simp)
    refine ⟨some c, _, run_endLoop (P := P) hl2 (by simp), hstop c pre x C1 _ hx hI ((he.trans he2).trans (put_ext _ _ _)) ?_⟩
    exact (put_hold hw2).sub (by simp)

/-- 'for .. := range f { .. }', in no other such loop's body. -/
theorem code_rangeS {g : Operand} {ps : Array Tmp} {assign body : Code} {K : Cont} {D : List Nat} {L : Env} {S A C0 : State} {f : FuncId} {first captured : Array Value} {encs : α → List Value} {sh : α → Chunk}
    {Next : List α → α → Prop} {Done : List α → Prop} {inf : Bool} (hg : evT L g = some (.func (.func f) first captured)) (hit : IMeetsS P f first.toList captured.toList encs sh A Next Done inf)
    (ht : Take A S C0) (I : List α → State → Prop) (Ix : Code → List α → State → Prop) (hinf : inf = true → ∃ N, N ≤ 4611686018427387904 ∧ ∀ pre C, I pre C → pre.length ≤ N) (hps : ∀ x, (encs x).length = ps.size) (h0 : I [] C0)
    (hround : ∀ (l : Nat) (F : Chunk) (C : State) (r : Loop) (pre : List α) (x : α), Next pre x → I pre C → CodeW P n (some l) assign (assignK P n l r body F (ShS (sh x) (I (pre ++ [x]))) (fun c => ShS (sh x) (Ix c (pre ++ [x])))) [] (putAll n ps.toList (encs x) L) ([(l, .loop r)] :: F :: (C ++ [sh x])))
    (hdone : ∀ (d : Nat) (pre : List α) (C : State), Done pre → I pre C → K .normal (d :: D) L ([(d, .deferred (some []))] :: (C ++ A)))
    (hstop : ∀ (d : Nat) (c : Code) (pre : List α) (x : α) (C : State), Next pre x → Ix c (pre ++ [x]) C → CodeW P n none c K (d :: D) L ([(d, .deferred (some []))] :: (C ++ A))) :
    CodeW P n none (.rangeFunc g ps assign body) K D L S := by
  refine ⟨fun a w ha hw => wpIn_rangeFunc fun fn _ => ?_⟩
  obtain ⟨W1, hW1⟩ : ∃ W1 : World, W1 = (w.alloc (.deferred (some []))).alloc (.loop { state := .ready, pending := none, fn, tmps := a.tmps, params := ps, assign, body, defers := w.heap.size }) := ⟨_, rfl⟩
  refine ⟨w.heap.size + 1, [markD w.heap.size], W1,
    { target := .fn (.func f) captured, args := first ++ #[.func (.yield (w.heap.size + 1)) #[] #[]] }, W1, f, (first.toList ++ [Value.func (.yield (w.heap.size + 1)) #[] #[]] ++ captured.toList).toArray, W1,
    by rw [hW1]; exact run_enterLoop_outer fn a.tmps ps assign body, ?_, fun _ _ => trivial, ?_, fun h => (by cases h), ?_⟩
  · simp only [resolve, ha.ev hg]
    simp [Deferred.ofValue, Act.eval]
  · simp only [invoke]
    rw [enters_able hit.able]
    congr 2
    apply Array.ext'; simp
  · have e1 : (w.alloc (.deferred (some []))).heap = w.heap.push (.deferred (some [])) := rfl
    have hw1 := hw.new (w' := w.alloc (.deferred (some []))) (o := .deferred (some [])) rfl
    have hw2 := hw1.new (w' := (w.alloc (.deferred (some []))).alloc (.loop { state := .ready, pending := none, fn, tmps := a.tmps, params := ps, assign, body, defers := w.heap.size })) rfl
    rw [World.size_alloc, ← hW1] at hw2
    refine range_coreS (n := n) (L := L) (dB := w.heap.size) (t := a.tmps) (fn := fn) (C0 := C0) (M := [[(w.heap.size, .deferred (some []))]]) (w := w) hit I Ix hinf ⟨ha.size, ha.get, rfl⟩ hps h0
      (by rw [hW1]; exact ⟨rfl, rfl, rfl, by simp only [World.size_alloc]; omega⟩) ?_ (fun F C r pre x hx hI => hround _ F C r pre x hx hI) ?_ ?_
    · refine hw2.perm ?_
      simp only [List.flatten_append, List.flatten_cons, List.cons_append, List.append_assoc, List.nil_append, List.flatten_nil]
      refine List.Perm.cons _ (List.Perm.cons _ ?_)
      have := ht.perm
      rw [List.flatten_append] at this
      exact this.trans List.perm_append_comm
    · intro pre C w2 hd hI he hh
      exact ⟨_, L, _, hdone w.heap.size pre C hd hI, ⟨ha.size, ha.get, by simp [ha.marks]⟩, he, hh.perm (by simp)⟩
    · intro c pre x C w2 hx hI he hh
      refine wpIn_mono ((hstop w.heap.size c pre x C hx hI).out { a with defers := [markD w.heap.size] ++ a.defers } w2 ⟨ha.size, ha.get, by simp [ha.marks]⟩ (hh.perm (by simp))) fun _ _ _ hq => hq.ext he


end Go.Ost

/- Ranges over functions, in full: what the loop's memory holds when the range begins, what goes from the iterator to the loop's body with an element and back, what the iterator's own memory has become. Conditions: none. -/
set_option linter.unusedSimpArgs false
set_option linter.unusedVariables false
namespace Go.Ost
open Go

variable {P : Program} {n : Nat} {α : Type}

/-- A chunk of two parts. -/
def Gv (H : State → Prop) (J : Chunk → Prop) (C : Chunk) : Prop := ∃ (C0 : Chunk) (H0 : State), C = C0 ++ H0.flatten ∧ J C0 ∧ H H0
def GvS (H : State → Prop) (I : State → Prop) (C : State) : Prop := ∃ C0 H0 : State, C = C0 ++ H0 ∧ I C0 ∧ H H0

/-- An iterator's contract, in full. T0: what lies in the loop's memory at the beginning. Hin: what goes with an element; Hout, Hst: what comes back (as the loop goes on, or stops). E: what the iterator's memory has become. -/
structure IMeetsG (P : Program) (f : FuncId) (first captured : List Value) (encs : α → List Value) (A : State) (T0 : Chunk → Prop) (Hin Hout Hst : List α → α → State → Prop) (Next : List α → α → Prop) (Done : List α → Prop) (E Es : List α → State → Prop) (inf : Bool) : Prop where
  able : callable P f = true
  out : ∀ (l : Nat) (J Jx : List α → Chunk → Prop), (inf = true → ∃ N, N ≤ 4611686018427387904 ∧ ∀ pre C, J pre C → pre.length ≤ N) → (∀ C, J [] C → ∃ T R, T0 T ∧ C.Perm (T ++ R)) →
    (∀ pre x, Next pre x → YMeets P l (encs x) (Gv (Hin pre x) (J pre)) (Gv (Hout pre x) (J (pre ++ [x]))) (Gv (Hst pre x) (Jx (pre ++ [x])))) →
    ∀ C, J [] C → ∀ (F : Chunk) (w : World), Hold w (F :: C :: A) → CallsIn (FW none) 0 P f (first ++ [Value.func (.yield l) #[] #[]] ++ captured).toArray w
      (EndsW w fun _ S => ∃ C' A', S = F :: C' :: A' ∧ ((∃ pre, Done pre ∧ J pre C' ∧ E pre A') ∨ (∃ pre x, Next pre x ∧ Jx (pre ++ [x]) C' ∧ Es (pre ++ [x]) A')))

theorem iter_introG {f : FuncId} {first captured : List Value} {encs : α → List Value} {A : State} {T0 : Chunk → Prop} {Hin Hout Hst : List α → α → State → Prop} {Next : List α → α → Prop} {Done : List α → Prop} {E Es : List α → State → Prop} {inf : Bool} (ha : callable P f = true)
    (h : ∀ (l : Nat) (J Jx : List α → Chunk → Prop), (inf = true → ∃ N, N ≤ 4611686018427387904 ∧ ∀ pre C, J pre C → pre.length ≤ N) → (∀ C, J [] C → ∃ T R, T0 T ∧ C.Perm (T ++ R)) →
      (∀ pre x, Next pre x → YMeets P l (encs x) (Gv (Hin pre x) (J pre)) (Gv (Hout pre x) (J (pre ++ [x]))) (Gv (Hst pre x) (Jx (pre ++ [x])))) →
      ∀ C, J [] C → Meets P f (first ++ [Value.func (.yield l) #[] #[]] ++ captured) (C :: A) fun _ S => ∃ C' A', S = C' :: A' ∧ ((∃ pre, Done pre ∧ J pre C' ∧ E pre A') ∨ (∃ pre x, Next pre x ∧ Jx (pre ++ [x]) C' ∧ Es (pre ++ [x]) A'))) :
    IMeetsG P f first captured encs A T0 Hin Hout Hst Next Done E Es inf :=
  ⟨ha, fun l J Jx hN hT hY C hC F w hw => ((h l J Jx hN hT hY C hC).out F w hw).mono fun e w' ⟨v, S, a, b, c, A', d, C', A'', e', r⟩ => ⟨v, S, a, b, c, C', A'', by rw [d, e'], r⟩⟩

/-- In the iterator's own walk: yield is called. -/
theorem yield_meetsG {l : Nat} {args : List Value} {Jin Jout Jstop : Chunk → Prop} {Hi Ho Hs : State → Prop} {S G H : State} {C : Chunk} {κ : Value → State → Prop} (h : YMeets P l args (Gv Hi Jin) (Gv Ho Jout) (Gv Hs Jstop)) (hC : Jin C) (hH : Hi H) (ht : Take (C :: H) S G)
    (k1 : ∀ C' H', Jout C' → Ho H' → κ (.bool true) (C' :: (H' ++ G))) (k2 : ∀ C' H', Jstop C' → Hs H' → κ (.bool false) (C' :: (H' ++ G))) : YieldW P l args.toArray S κ := by
  refine ⟨fun w hw => ?_⟩
  have h1 := h.out (C ++ H.flatten) ⟨C, H, rfl, hC, hH⟩ G.flatten w (hw.perm (ht.perm.trans (by simp only [List.cons_append, List.flatten_append, List.flatten_cons, List.flatten_nil, List.append_nil]; rw [← List.append_assoc]; exact List.perm_append_comm)))
  obtain ⟨fn, tm, asg, bd, hr, hR⟩ := h1
  refine ⟨fn, tm, asg, bd, hr, hR.mono ?_⟩
  rintro e w' ⟨v, S', rfl, he, hh, b, C', rfl, rfl, j1, j2⟩
  cases b
  · obtain ⟨C0, H0, rfl, hJ, hH0⟩ := j2 rfl
    exact ⟨.bool false, C0 :: (H0 ++ G), rfl, he, hh.perm (by simp only [List.flatten_append, List.flatten_cons, List.flatten_nil, List.append_nil]; rw [← List.append_assoc C0]; exact List.perm_append_comm), k2 C0 H0 hJ hH0⟩
  · obtain ⟨C0, H0, rfl, hJ, hH0⟩ := j1 rfl
    exact ⟨.bool true, C0 :: (H0 ++ G), rfl, he, hh.perm (by simp only [List.flatten_append, List.flatten_cons, List.flatten_nil, List.append_nil]; rw [← List.append_assoc C0]; exact List.perm_append_comm), k1 C0 H0 hJ hH0⟩

/-- The core of both rules: the record l (and whatever else is new) lies; the iterator is called. -/
theorem range_coreG {ro : Option Nat} {fn : FuncId} {t : Array Value} {ps : Array Tmp} {assign body : Code} {dB l : Nat} {L : Env} {f : FuncId} {first captured : List Value} {encs : α → List Value} {A C0 M : State}
    {T0 : Chunk → Prop} {Hin Hout Hst : List α → α → State → Prop} {Next : List α → α → Prop} {Done : List α → Prop} {E Es : List α → State → Prop} {inf : Bool} {Q : Exit → Act → World → Prop} {a' : Act} {w w1 : World}
    (hit : IMeetsG P f first captured encs A T0 Hin Hout Hst Next Done E Es inf) (I : List α → State → Prop) (Ix : Code → List α → State → Prop)
    (hinf : inf = true → ∃ N, N ≤ 4611686018427387904 ∧ ∀ pre C, I pre C → pre.length ≤ N) (hT : ∀ C, I [] C → ∃ T R, T0 T ∧ C.flatten.Perm (T ++ R)) (hag : Agree n L [] { tmps := t, defers := [] }) (hps : ∀ x, (encs x).length = ps.size) (h0 : I [] C0) (he : Ext w w1)
    (hw1 : Hold w1 ([(l, .loop { state := .ready, pending := none, fn, tmps := t, params := ps, assign, body, defers := dB })] :: M ++ C0 ++ A))
    (hround : ∀ (F : Chunk) (C H : State) (r : Loop) (pre : List α) (x : α), Next pre x → I pre C → Hin pre x H → CodeW P n (some l) assign (assignK P n l r body F (GvS (Hout pre x) (I (pre ++ [x]))) (fun c => GvS (Hst pre x) (Ix c (pre ++ [x])))) [] (putAll n ps.toList (encs x) L) ([(l, .loop r)] :: F :: (C ++ H)))
    (hdone : ∀ (pre : List α) (C A : State) (w2 : World), Done pre → I pre C → E pre A → Ext w w2 → Hold w2 (M ++ C ++ A) → Q .normal a' w2)
    (hstop : ∀ (c : Code) (pre : List α) (x : α) (C A : State) (w2 : World), Next pre x → Ix c (pre ++ [x]) C → Es (pre ++ [x]) A → Ext w w2 → Hold w2 (M ++ C ++ A) → c.wpIn (FW ro) 0 P Q a' w2) :
    CallsIn (FW none) 0 P f (first ++ [Value.func (.yield l) #[] #[]] ++ captured).toArray w1 (rangePost (FW ro) 0 P l Q a') := by
  have h1 := hit.out l (fun pre C => ∃ C1 : State, C = (l, .loop { state := .ready, pending := none, fn, tmps := t, params := ps, assign, body, defers := dB }) :: C1.flatten ∧ I pre C1)
    (fun pre C => ∃ (c : Code) (C1 : State), C = (l, .loop { state := .done, pending := some c, fn, tmps := t, params := ps, assign, body, defers := dB }) :: C1.flatten ∧ Ix c pre C1)
    (fun h => let ⟨N, hN0, hN⟩ := hinf h; ⟨N, hN0, fun pre C ⟨C1, _, hI⟩ => hN pre C1 hI⟩)
    (fun C ⟨C1, hC, hI⟩ => by
      obtain ⟨T, R, h1, h2⟩ := hT C1 hI
      exact ⟨T, _ :: R, h1, by rw [hC]; exact (List.Perm.cons _ h2).trans List.perm_middle.symm⟩)
    (fun pre x hx => (round_meets (fn := fn) (t := t) (ps := ps) (assign := assign) (body := body) (dB := dB) (I := GvS (Hin pre x) (I pre)) (Iout := GvS (Hout pre x) (I (pre ++ [x]))) (Ix := fun c => GvS (Hst pre x) (Ix c (pre ++ [x]))) hag (hps x) fun F C r _ ⟨C0, H0, hC0, hI, hH⟩ => by rw [hC0]; exact hround F C0 H0 r pre x hx hI hH).swap
      (fun C hC => by obtain ⟨C0, H0, h1, ⟨C1, h2, h3⟩, h4⟩ := hC; exact ⟨C1 ++ H0, by rw [h1, h2]; simp, C1, H0, rfl, h3, h4⟩)
      (fun C hC => by obtain ⟨C0, h1, C1, H0, h2, h3, h4⟩ := hC; exact ⟨_, H0, by rw [h1, h2, List.flatten_append, ← List.cons_append], ⟨C1, rfl, h3⟩, h4⟩)
      (fun C hC => by obtain ⟨c, C0, h1, C1, H0, h2, h3, h4⟩ := hC; exact ⟨_, H0, by rw [h1, h2, List.flatten_append, ← List.cons_append], ⟨c, C1, rfl, h3⟩, h4⟩)) _ ⟨C0, rfl, h0⟩ M.flatten w1
    (hw1.perm (by
      simp only [List.flatten_append, List.flatten_cons, List.cons_append, List.append_assoc, List.nil_append]
      exact List.perm_middle.symm))
  refine h1.mono ?_
  rintro e w2 ⟨v, S, rfl, he2, hh, C', A, rfl, (⟨pre, hd, ⟨C1, rfl, hI⟩, hE⟩ | ⟨pre, x, hx, ⟨c, C1, rfl, hI⟩, hE⟩)⟩
  · have hw2 : Hold w2 ([(l, .loop { state := .ready, pending := none, fn, tmps := t, params := ps, assign, body, defers := dB })] :: (M ++ C1 ++ A)) := hh.perm (by
      simp only [List.flatten_append, List.flatten_cons, List.cons_append, List.append_assoc, List.nil_append]
      exact List.perm_middle)
    have hl2 : w2.heap[l]? = some (.loop { state := .ready, pending := none, fn, tmps := t, params := ps, assign, body, defers := dB }) := hw2.get l _ (by simp)
    refine ⟨none, _, run_endLoop (P := P) hl2 (by simp), hdone pre C1 A _ hd hI hE ((he.trans he2).trans (put_ext _ _ _)) ?_⟩
    exact (put_hold hw2).sub (by simp)
  · have hw2 : Hold w2 ([(l, .loop { state := .done, pending := some c, fn, tmps := t, params := ps, assign, body, defers := dB })] :: (M ++ C1 ++ A)) := hh.perm (by
      simp only [List.flatten_append, List.flatten_cons, List.cons_append, List.append_assoc, List.nil_append]
      exact List.perm_middle)
    have hl2 : w2.heap[l]? = some (.loop { state := .done, pending := some c, fn, tmps := t, params := ps, assign, body, defers := dB }) := hw2.get l _ (by simp)
    refine ⟨some c, _, run_endLoop (P := P) hl2 (by simp), hstop c pre x C1 A _ hx hI hE ((he.trans he2).trans (put_ext _ _ _)) ?_⟩
    exact (put_hold hw2).sub (by simp)

/-- 'for .. := range f { .. }', in no other such loop's body. -/
theorem code_rangeG {g : Operand} {ps : Array Tmp} {assign body : Code} {K : Cont} {D : List Nat} {L : Env} {S A C0 : State} {f : FuncId} {first captured : Array Value} {encs : α → List Value}
    {T0 : Chunk → Prop} {Hin Hout Hst : List α → α → State → Prop} {Next : List α → α → Prop} {Done : List α → Prop} {E Es : List α → State → Prop} {inf : Bool} (hg : evT L g = some (.func (.func f) first captured)) (hit : IMeetsG P f first.toList captured.toList encs A T0 Hin Hout Hst Next Done E Es inf)
    (ht : Take A S C0) (I : List α → State → Prop) (Ix : Code → List α → State → Prop) (hinf : inf = true → ∃ N, N ≤ 4611686018427387904 ∧ ∀ pre C, I pre C → pre.length ≤ N) (hT : ∀ C, I [] C → ∃ T R, T0 T ∧ C.flatten.Perm (T ++ R)) (hps : ∀ x, (encs x).length = ps.size) (h0 : I [] C0)
    (hround : ∀ (l : Nat) (F : Chunk) (C H : State) (r : Loop) (pre : List α) (x : α), Next pre x → I pre C → Hin pre x H → CodeW P n (some l) assign (assignK P n l r body F (GvS (Hout pre x) (I (pre ++ [x]))) (fun c => GvS (Hst pre x) (Ix c (pre ++ [x])))) [] (putAll n ps.toList (encs x) L) ([(l, .loop r)] :: F :: (C ++ H)))
    (hdone : ∀ (d : Nat) (pre : List α) (C A : State), Done pre → I pre C → E pre A → K .normal (d :: D) L ([(d, .deferred (some []))] :: (C ++ A)))
    (hstop : ∀ (d : Nat) (c : Code) (pre : List α) (x : α) (C A : State), Next pre x → Ix c (pre ++ [x]) C → Es (pre ++ [x]) A → CodeW P n none c K (d :: D) L ([(d, .deferred (some []))] :: (C ++ A))) :
    CodeW P n none (.rangeFunc g ps assign body) K D L S := by
  refine ⟨fun a w ha hw => wpIn_rangeFunc fun fn _ => ?_⟩
  obtain ⟨W1, hW1⟩ : ∃ W1 : World, W1 = (w.alloc (.deferred (some []))).alloc (.loop { state := .ready, pending := none, fn, tmps := a.tmps, params := ps, assign, body, defers := w.heap.size }) := ⟨_, rfl⟩
  refine ⟨w.heap.size + 1, [markD w.heap.size], W1,
    { target := .fn (.func f) captured, args := first ++ #[.func (.yield (w.heap.size + 1)) #[] #[]] }, W1, f, (first.toList ++ [Value.func (.yield (w.heap.size + 1)) #[] #[]] ++ captured.toList).toArray, W1,
    by rw [hW1]; exact run_enterLoop_outer fn a.tmps ps assign body, ?_, fun _ _ => trivial, ?_, fun h => (by cases h), ?_⟩
  · simp only [resolve, ha.ev hg]
    simp [Deferred.ofValue, Act.eval]
  · simp only [invoke]
    rw [enters_able hit.able]
    congr 2
    apply Array.ext'; simp
  · have e1 : (w.alloc (.deferred (some []))).heap = w.heap.push (.deferred (some [])) := rfl
    have hw1 := hw.new (w' := w.alloc (.deferred (some []))) (o := .deferred (some [])) rfl
    have hw2 := hw1.new (w' := (w.alloc (.deferred (some []))).alloc (.loop { state := .ready, pending := none, fn, tmps := a.tmps, params := ps, assign, body, defers := w.heap.size })) rfl
    rw [World.size_alloc, ← hW1] at hw2
    refine range_coreG (n := n) (L := L) (dB := w.heap.size) (t := a.tmps) (fn := fn) (C0 := C0) (M := [[(w.heap.size, .deferred (some []))]]) (w := w) hit I Ix hinf hT ⟨ha.size, ha.get, rfl⟩ hps h0
      (by rw [hW1]; exact ⟨rfl, rfl, rfl, by simp only [World.size_alloc]; omega⟩) ?_ (fun F C H r pre x hx hI hH => hround _ F C H r pre x hx hI hH) ?_ ?_
    · refine hw2.perm ?_
      simp only [List.flatten_append, List.flatten_cons, List.cons_append, List.append_assoc, List.nil_append, List.flatten_nil]
      refine List.Perm.cons _ (List.Perm.cons _ ?_)
      have := ht.perm
      rw [List.flatten_append] at this
      exact this.trans List.perm_append_comm
    · intro pre C A w2 hd hI hE he hh
      exact ⟨_, L, _, hdone w.heap.size pre C A hd hI hE, ⟨ha.size, ha.get, by simp [ha.marks]⟩, he, hh.perm (by simp)⟩
    · intro c pre x C A w2 hx hI hE he hh
      refine wpIn_mono ((hstop w.heap.size c pre x C A hx hI hE).out { a with defers := [markD w.heap.size] ++ a.defers } w2 ⟨ha.size, ha.get, by simp [ha.marks]⟩ (hh.perm (by simp))) fun _ _ _ hq => hq.ext he

/-- The same in the body of such a loop (of the record l₀). -/
theorem code_rangeG_in {l₀ : Nat} {r₀ : Loop} {g : Operand} {ps : Array Tmp} {assign body : Code} {K : Cont} {D : List Nat} {L : Env} {S A C0 : State} {f : FuncId} {first captured : Array Value} {encs : α → List Value}
    {T0 : Chunk → Prop} {Hin Hout Hst : List α → α → State → Prop} {Next : List α → α → Prop} {Done : List α → Prop} {E Es : List α → State → Prop} {inf : Bool} (hg : evT L g = some (.func (.func f) first captured)) (hl : Lies l₀ (.loop r₀) S) (hit : IMeetsG P f first.toList captured.toList encs A T0 Hin Hout Hst Next Done E Es inf)
    (ht : Take A S C0) (I : List α → State → Prop) (Ix : Code → List α → State → Prop) (hinf : inf = true → ∃ N, N ≤ 4611686018427387904 ∧ ∀ pre C, I pre C → pre.length ≤ N) (hT : ∀ C, I [] C → ∃ T R, T0 T ∧ C.flatten.Perm (T ++ R)) (hps : ∀ x, (encs x).length = ps.size) (h0 : I [] C0)
    (hround : ∀ (l : Nat) (F : Chunk) (C H : State) (r : Loop) (pre : List α) (x : α), Next pre x → I pre C → Hin pre x H → CodeW P n (some l) assign (assignK P n l r body F (GvS (Hout pre x) (I (pre ++ [x]))) (fun c => GvS (Hst pre x) (Ix c (pre ++ [x])))) [] (putAll n ps.toList (encs x) L) ([(l, .loop r)] :: F :: (C ++ H)))
    (hdone : ∀ (pre : List α) (C A : State), Done pre → I pre C → E pre A → K .normal D L (C ++ A))
    (hstop : ∀ (c : Code) (pre : List α) (x : α) (C A : State), Next pre x → Ix c (pre ++ [x]) C → Es (pre ++ [x]) A → CodeW P n (some l₀) c K D L (C ++ A)) :
    CodeW P n (some l₀) (.rangeFunc g ps assign body) K D L S := by
  refine ⟨fun a w ha hw => wpIn_rangeFunc fun fn _ => ?_⟩
  have hr := hl.get hw
  obtain ⟨W1, hW1⟩ : ∃ W1 : World, W1 = w.alloc (.loop { state := .ready, pending := none, fn, tmps := a.tmps, params := ps, assign, body, defers := r₀.defers }) := ⟨_, rfl⟩
  refine ⟨w.heap.size, [], W1,
    { target := .fn (.func f) captured, args := first ++ #[.func (.yield w.heap.size) #[] #[]] }, W1, f, (first.toList ++ [Value.func (.yield w.heap.size) #[] #[]] ++ captured.toList).toArray, W1,
    by rw [hW1]; exact run_enterLoop_inner hr fn a.tmps ps assign body, ?_, fun _ _ => trivial, ?_, fun h => (by cases h), ?_⟩
  · simp only [resolve, ha.ev hg]
    simp [Deferred.ofValue, Act.eval]
  · simp only [invoke]
    rw [enters_able hit.able]
    congr 2
    apply Array.ext'; simp
  · have hw1 := hw.new (w' := w.alloc (.loop { state := .ready, pending := none, fn, tmps := a.tmps, params := ps, assign, body, defers := r₀.defers })) rfl
    rw [← hW1] at hw1
    refine range_coreG (n := n) (L := L) (dB := r₀.defers) (t := a.tmps) (fn := fn) (C0 := C0) (M := []) (w := w) hit I Ix hinf hT ⟨ha.size, ha.get, rfl⟩ hps h0
      (by rw [hW1]; exact ⟨rfl, rfl, rfl, by simp only [World.size_alloc]; omega⟩) ?_ (fun F C H r pre x hx hI hH => hround _ F C H r pre x hx hI hH) ?_ ?_
    · refine hw1.perm ?_
      simp only [List.flatten_append, List.flatten_cons, List.cons_append, List.append_assoc, List.nil_append, List.flatten_nil]
      refine List.Perm.cons _ ?_
      have := ht.perm
      rw [List.flatten_append] at this
      exact this.trans List.perm_append_comm
    · intro pre C A w2 hd hI hE he hh
      exact ⟨_, L, _, hdone pre C A hd hI hE, ⟨ha.size, ha.get, by simp [ha.marks]⟩, he, hh.perm (by simp)⟩
    · intro c pre x C A w2 hx hI hE he hh
      refine wpIn_mono ((hstop c pre x C A hx hI hE).out { a with defers := [] ++ a.defers } w2 ⟨ha.size, ha.get, by simp [ha.marks]⟩ (hh.perm (by simp))) fun _ _ _ hq => hq.ext he


/-- The same blocks, in other chunks. -/
theorem code_perm {ro : Option Nat} {c : Code} {K : Cont} {D : List Nat} {L : Env} {S S' : State} (hp : S.flatten.Perm S'.flatten) (h : CodeW P n ro c K D L S') : CodeW P n ro c K D L S :=
  ⟨fun a w ha hw => h.out a w ha (hw.perm hp)⟩
theorem T0_in {T R Cj : Chunk} {T0 : Chunk → Prop} {S G : State} (h : T0 T) (hp : Pick Cj S G) (hc : Cj.Perm (T ++ R)) : ∃ T R, T0 T ∧ S.flatten.Perm (T ++ R) :=
  ⟨T, R ++ G.flatten, h, hp.perm.trans (by rw [List.flatten_cons, ← List.append_assoc]; exact List.Perm.append_right _ hc)⟩
theorem T0_pick {T : Chunk} {T0 : Chunk → Prop} {S G : State} (h : T0 T) (hp : Pick T S G) : ∃ T R, T0 T ∧ S.flatten.Perm (T ++ R) := ⟨T, G.flatten, h, hp.perm⟩
/-- A whole block is written anew. -/
theorem store_all {b : Nat} {e t : TypeId} {z : Value} {s by_ : Nat} {cs : Array Value} {vs : List Value} {S S' : State} {κ : State → Prop} [hs : TSized P t z s by_] (hz : vs.length = s) (hc : ∀ v ∈ vs, Value.cell1 v)
    (hu : Upd b (.cells cs e (0, 0)) (.cells vs.toArray e (0, 0)) S S') (hcs : cs.size = s) (k : κ S') : UnitW P (Instr.storeAt t (.pointer (some ⟨b, 0, none⟩)) (.agg vs.toArray)) S κ := by
  have e1 : setCells cs 0 vs = vs.toArray := by
    have := setCells_all vs [] cs.toList [] (by simp [hcs, hz])
    simpa using this
  have e2 : vs.toArray.toList = vs := by simp
  exact store_agg (e := e) (cs := cs) (by simpa using hz) (by simpa using hc) (by rw [e2, e1]; exact hu) (by omega) k
/-- A whole block is read. -/
theorem load_all {b : Nat} {e t : TypeId} {z : Value} {s by_ : Nat} {vs : List Value} {m : Nat × Nat} {S : State} {κ : Value → Prop} [hf : TDeep P t] [hs : TSized P t z s by_] (hl : Lies b (.cells vs.toArray e m) S) (hz : vs.length = s) (k : κ (.agg vs.toArray)) :
    ReadW P (Instr.loadAt t (.pointer (some ⟨b, 0, none⟩))) S κ := by
  refine load_agg hl (by simp [hz]) ?_
  have e1 : vs.toArray.extract 0 (0 + s) = vs.toArray := by
    apply Array.ext'
    simp [List.extract_eq_take_drop, ← hz]
  rw [e1]; exact k
/-- A part of a block is read. -/
theorem load_sub {b : Nat} {e t : TypeId} {z : Value} {s by_ : Nat} {vs ws : List Value} {o : Nat} {m : Nat × Nat} {S : State} {κ : Value → Prop} [hf : TDeep P t] [hs : TSized P t z s by_] (hl : Lies b (.cells vs.toArray e m) S) (ho : o + s ≤ vs.length) (hw : (vs.drop o).take s = ws) (k : κ (.agg ws.toArray)) :
    ReadW P (Instr.loadAt t (.pointer (some ⟨b, o, none⟩))) S κ := by
  refine load_agg hl (by simpa using ho) ?_
  have e1 : vs.toArray.extract o (o + s) = ws.toArray := by
    apply Array.ext'
    simp [List.extract_eq_take_drop, ← hw]
  rw [e1]; exact k
/-- A block of one cell. -/
abbrev bx (p : Nat) (v : Value) (t : TypeId) : Chunk := [(p, .cells #[v] t (0, 0))]
/-- What goes along with no element. -/
abbrev noH {α : Type} (_ : List α) (_ : α) (H : State) : Prop := H = []
end Go.Ost

/- Parts of elements: a structure within a structure. Conditions: as each says. -/
set_option linter.unusedSimpArgs false
set_option linter.unusedVariables false
namespace Go.Ost
open Go

variable {P : Program}

section rows
variable {α : Type} (enc : α → List Value) (s : Nat) (hs : ∀ x, (enc x).length = s)
include hs
theorem flat_parts (l : List α) (i : Nat) (h : i < l.length) : l.flatMap enc = (l.take i).flatMap enc ++ (enc l[i] ++ (l.drop (i + 1)).flatMap enc) ∧ ((l.take i).flatMap enc).length = i * s := by
  refine ⟨?_, ?_⟩
  · conv => lhs; rw [← List.take_append_drop i l, List.flatMap_append, List.drop_eq_getElem_cons h, List.flatMap_cons]
  · rw [flat_len enc s hs, List.length_take]; congr 1; omega
theorem flat_sub (l : List α) (i off n : Nat) (h : i < l.length) (hn : off + n ≤ s) : ((l.flatMap enc).drop (i * s + off)).take n = ((enc l[i]).drop off).take n := by
  obtain ⟨e1, e2⟩ := flat_parts enc s hs l i h
  rw [e1, ← e2, ← List.drop_drop, List.drop_left' rfl, List.drop_append_of_le_length (by rw [hs]; omega), List.take_append_of_le_length (by rw [List.length_drop, hs]; omega)]
theorem flat_setL_sub (l : List α) (i off : Nat) (vs : List Value) (h : i < l.length) (hn : off + vs.length ≤ s) (x' : α) (hx : (enc l[i]).take off ++ (vs ++ (enc l[i]).drop (off + vs.length)) = enc x') :
    setL (l.flatMap enc) (i * s + off) vs = (l.set i x').flatMap enc := by
  obtain ⟨e1, e2⟩ := flat_parts enc s hs l i h
  have e3 : enc l[i] = (enc l[i]).take off ++ (((enc l[i]).drop off).take vs.length ++ (enc l[i]).drop (off + vs.length)) := by
    conv => lhs; rw [← List.take_append_drop off (enc l[i]), ← List.take_append_drop vs.length ((enc l[i]).drop off), List.drop_drop]
  have e4 : l.flatMap enc = ((l.take i).flatMap enc ++ (enc l[i]).take off) ++ (((enc l[i]).drop off).take vs.length ++ ((enc l[i]).drop (off + vs.length) ++ (l.drop (i + 1)).flatMap enc)) := by
    rw [e1]; conv => lhs; rw [e3]
    simp only [List.append_assoc]
  have e5 : ((l.take i).flatMap enc ++ (enc l[i]).take off).length = i * s + off := by
    rw [List.length_append, e2, List.length_take, hs]; omega
  rw [e4, ← e5, setL_app vs _ _ _ (by rw [List.length_take, List.length_drop, hs]; omega), List.set_eq_take_append_cons_drop, if_pos h, List.flatMap_append, List.flatMap_cons, ← hx]
  simp only [List.append_assoc]
end rows

section facts
variable {a : Option Addr} {len cap : Nat} {H : Chunk} {κ : Value → Prop} {t e' : TypeId} {z : Value} {s n b2 : Nat} {α : Type} {enc : α → List Value} {l : List α} {x x' : α} {i off : Nat} {S G : State} {vs : List Value}
theorem load_el_sub [TDeep P t] [TSized P t z n b2] (ho : Own s e' H a len cap (l.flatMap enc)) (hs : ∀ x, (enc x).length = s) (hx : l[i]? = some x) (h0 : 0 < n) (hn : off + n ≤ s) (hw : ((enc x).drop off).take n = vs) (hH : H ∈ S) (q : κ (.agg vs.toArray)) :
    ReadW P (Instr.loadAt t (.pointer (some (elA a (i * s + off))))) S κ := by
  have hi := (List.getElem?_eq_some_iff.1 hx).1
  refine el_load_agg (ho.rd hH) h0 ?_ ?_
  · rw [flat_len enc s hs]
    have : (i + 1) * s ≤ l.length * s := Nat.mul_le_mul_right s hi
    rw [Nat.add_mul] at this; omega
  · rw [flat_sub enc s hs l i off n hi hn, List.getElem?_eq_some_iff.1 hx |>.2, hw]; exact q
theorem store_el_sub {κ : State → Prop} [TSized P t z n b2] (ho : Own s e' H a len cap (l.flatMap enc)) (hp : Pick H S G) (hs : ∀ x, (enc x).length = s) (hx : l[i]? = some x) (h0 : 0 < n) (hvs : vs.length = n) (hc : ∀ u ∈ vs, Value.cell1 u) (hn : off + n ≤ s)
    (hv : (enc x).take off ++ (vs ++ (enc x).drop (off + n)) = enc x') (q : ∀ C', Own s e' C' a len cap ((l.set i x').flatMap enc) → κ (C' :: G)) : UnitW P (Instr.storeAt t (.pointer (some (elA a (i * s + off)))) (.agg vs.toArray)) S κ := by
  have hi := (List.getElem?_eq_some_iff.1 hx).1
  refine own_store_agg ho hp h0 hvs hc ?_ (fun C' h => q C' ?_)
  · rw [flat_len enc s hs]
    have : (i + 1) * s ≤ l.length * s := Nat.mul_le_mul_right s hi
    rw [Nat.add_mul] at this; omega
  · rw [flat_setL_sub enc s hs l i off vs hi (by omega) x' (by rw [List.getElem?_eq_some_iff.1 hx |>.2, hvs]; exact hv)] at h
    exact h
theorem load_rd_agg [TDeep P t] [TSized P t z s b2]
    (hr : Rd s [H] a len (l.flatMap enc)) (hs : ∀ x, (enc x).length = s) (hx : l[i]? = some x) (hp : 0 < s) (hH : H ∈ S) (q : κ (.agg (enc x).toArray)) : ReadW P (Instr.loadAt t (.pointer (some (elA a (i * s))))) S κ := by
  have hi := (List.getElem?_eq_some_iff.1 hx).1
  refine el_load_agg (hr.mem hH) hp ?_ ?_
  · rw [flat_len enc s hs]
    have : (i + 1) * s ≤ l.length * s := Nat.mul_le_mul_right s hi
    rw [Nat.add_mul] at this; omega
  · rw [flat_el enc s hs l i hi, List.getElem?_eq_some_iff.1 hx |>.2]; exact q
theorem alloc_as {κ : Value → State → Prop} {by_ : Nat} [hs : TSized P t z s by_] (cs : Array Value) (hz : z.cells = cs) (k : ∀ b : Nat, κ (.pointer (some ⟨b, 0, none⟩)) ([(b, .cells cs t (0, 0))] :: S)) : ValW P (Instr.alloc t true (.tuple #[])) S κ :=
  alloc_new fun b => by rw [hz]; exact k b
end facts

end Go.Ost

/- Rules for signs of texts: numbers of 32 bits, structures in arrays, arrays as slices. Conditions: as each says. -/
set_option linter.unusedSimpArgs false
set_option linter.unusedVariables false
namespace Go.Ost
open Go

variable {P : Program}

section bits
variable {t : TypeId} {x y : Operand} {a b n : Int} {j : IntKind} {κ : Value → Prop}
theorem i32_and (a0 : 0 ≤ a) (a1 : a ≤ 2147483647) (b0 : 0 ≤ b) (b1 : b ≤ 2147483647) : PureW P (do eqGuard .and t x y (.int .i32 a) (.int .i32 b); binOp .and t (.int .i32 a) (.int .i32 b)) κ = κ (.int .i32 ((a.toNat &&& b.toNat : Nat) : Int)) :=
  pureW_eq (fun w => by
    obtain ⟨m, rfl⟩ : ∃ m : Nat, a = m := ⟨a.toNat, by omega⟩
    obtain ⟨k, rfl⟩ : ∃ k : Nat, b = k := ⟨b.toNat, by omega⟩
    have hle : m &&& k ≤ m := Nat.and_le_left
    show Result.ok (Value.int .i32 (IntKind.i32.wrap ((BitVec.ofInt 32 (m : Int) &&& BitVec.ofInt 32 (k : Int)).toNat : Int))) w = _
    rw [BitVec.ofInt_natCast, BitVec.ofInt_natCast, BitVec.toNat_and, BitVec.toNat_ofNat, BitVec.toNat_ofNat, Nat.mod_eq_of_lt (by omega), Nat.mod_eq_of_lt (by omega), wrap_i32 (by omega) (by omega)]
    rfl) κ
theorem i32_or (a0 : 0 ≤ a) (a1 : a ≤ 2147483647) (b0 : 0 ≤ b) (b1 : b ≤ 2147483647) : PureW P (do eqGuard .or t x y (.int .i32 a) (.int .i32 b); binOp .or t (.int .i32 a) (.int .i32 b)) κ = κ (.int .i32 ((a.toNat ||| b.toNat : Nat) : Int)) :=
  pureW_eq (fun w => by
    obtain ⟨m, rfl⟩ : ∃ m : Nat, a = m := ⟨a.toNat, by omega⟩
    obtain ⟨k, rfl⟩ : ∃ k : Nat, b = k := ⟨b.toNat, by omega⟩
    have hle : m ||| k < 2 ^ 31 := Nat.or_lt_two_pow (by omega) (by omega)
    show Result.ok (Value.int .i32 (IntKind.i32.wrap ((BitVec.ofInt 32 (m : Int) ||| BitVec.ofInt 32 (k : Int)).toNat : Int))) w = _
    rw [BitVec.ofInt_natCast, BitVec.ofInt_natCast, BitVec.toNat_or, BitVec.toNat_ofNat, BitVec.toNat_ofNat, Nat.mod_eq_of_lt (by omega), Nat.mod_eq_of_lt (by omega), wrap_i32 (by omega) (by omega)]
    rfl) κ
theorem i32_shl6 (a0 : 0 ≤ a) (a1 : a ≤ 33554431) : PureW P (do eqGuard .shl t x y (.int .i32 a) (.int j 6); binOp .shl t (.int .i32 a) (.int j 6)) κ = κ (.int .i32 (a * 64)) :=
  pureW_eq (fun w => by
    have e : min (6 : Int).toNat IntKind.i32.bits = 6 := rfl
    show (Op.shift .shl .i32 a j 6).run P w = _
    rw [Op.shift, if_neg (by decide), e]
    show Result.ok (Value.int .i32 (IntKind.i32.wrap (a * 2 ^ 6))) w = _
    rw [show (2 : Int) ^ 6 = 64 from rfl, wrap_i32 (by omega) (by omega)]) κ
theorem i32_shr (a0 : 0 ≤ a) (h0 : 0 ≤ n) (h1 : n ≤ 32) : PureW P (do eqGuard .shr t x y (.int .i32 a) (.int j n); binOp .shr t (.int .i32 a) (.int j n)) κ = κ (.int .i32 ((a.toNat / 2 ^ n.toNat : Nat) : Int)) :=
  pureW_eq (fun w => by
    obtain ⟨m, rfl⟩ : ∃ m : Nat, a = m := ⟨a.toNat, by omega⟩
    have e : min n.toNat IntKind.i32.bits = n.toNat := by show min n.toNat 32 = n.toNat; omega
    have h3 : ¬ n < 0 := by omega
    show (Op.shift .shr .i32 m j n).run P w = _
    rw [Op.shift, if_neg h3, e]
    show Result.ok (Value.int .i32 (Int.fdiv m (2 ^ n.toNat))) w = _
    rw [Int.fdiv_eq_ediv_of_nonneg _ (Int.le_of_lt (Int.pow_pos (by decide)))]
    simp) κ
theorem u8_wrap (m : Nat) : Value.int .u8 (IntKind.u8.wrap (m : Int)) = b8 (UInt8.ofNat m) := by rw [wrap8_mod]; rfl
theorem cq_b8_i32 {s d : TypeId} [hs : TInt P s .u8] [hd : TInt P d .i32] {x : UInt8} {κ : Value → Prop} : PureW P (convert s d (b8 x)) κ = κ (.int .i32 x.toNat) := by
  have hx := x.toNat_lt
  show PureW P (convert s d (.int .u8 (x.toNat : Int))) κ = _
  rw [conv_int, wrap_i32 (by omega) (by omega)]
theorem conv_b8_i32 {s d : TypeId} [hs : TInt P s .u8] [hd : TInt P d .i32] {x : UInt8} {S : State} {κ : Value → State → Prop} : ConvW P s d (b8 x) S κ = κ (.int .i32 x.toNat) S := by
  have hx := x.toNat_lt
  exact conv_b8_int (wrap_i32 (by omega) (by omega))
theorem u8_sub128 {c : UInt8} {m : Nat} (h : c.toNat = m) (h1 : 128 ≤ m) (h2 : m ≤ 255) : PureW P (do eqGuard .sub t x y (b8 c) (.int .u8 128); binOp .sub t (b8 c) (.int .u8 128)) κ = κ (.int .u8 ((m - 128 : Nat) : Int)) := by
  show PureW P (do eqGuard .sub t x y (.int .u8 (c.toNat : Int)) (.int .u8 128); binOp .sub t (.int .u8 (c.toNat : Int)) (.int .u8 128)) κ = _
  rw [bin_sub, wrap_u8 (by omega) (by omega), h]
  congr 2; omega
end bits

/-- A structure in an array. -/
theorem arr_el {t e n s by_ : Nat} {z : Value} {cs : Array Value} {k : IntKind} {i : Int} {κ : Value → Prop} [h : TArr P t n e] [hs : TSized P e z s by_] [hd : TDeep P e] (h0 : 0 ≤ i) (h1 : i < n) :
    PureW P (Instr.index t (.agg cs) (.int k i)) κ = κ (.agg (cs.extract (i.toNat * s) (i.toNat * s + s))) :=
  pureW_eq (fun w => by
    simp [Instr.index, asIntOf, Sem.run_bind, run_und h.und, Result.andThen, run_size hs, h0, h1, part, run_isAgg_deep hd]) κ
/-- An array as a slice. -/
theorem arr_cut {t e n s by_ : Nat} {z : Value} {b o : Nat} {κ : Value → Prop} [h : TArr P t n e] [hs : TSized P e z s by_] :
    PureW P (Instr.sliceAt t (.pointer (some ⟨b, o, none⟩)) none none none) κ = κ (.slice (some ⟨b, o, none⟩) n n) :=
  pureW_eq (fun w => by
    simp only [Instr.sliceAt, Sem.run_bind, run_und h.und, Result.andThen, Instr.sureAddr, Instr.sliceBounds, Sem.run_pure, run_size hs]
    by_cases hn : n = 0 <;> simp [hn, add_mk]) κ
/-- What a block holds, as a slice. -/
theorem rd_block {C : Chunk} {b : Nat} {vs : List Value} {t : TypeId} {m : Nat × Nat} {s len : Nat} (h : (b, Obj.cells vs.toArray t m) ∈ C) (hl : vs.length = len * s) : Rd s [C] (some ⟨b, 0, none⟩) len vs :=
  ⟨hl, fun _ => ⟨b, 0, vs.toArray, t, m, rfl, .here h, fun i hi => by simp⟩⟩
theorem lies_mem {b : Nat} {o : Obj} {C : Chunk} {S : State} (h : (b, o) ∈ C) (hm : C ∈ S) : Lies b o S := Lies.sub (.here h) hm

/-- What remains to be told of a list, by an iterator. -/
def NextL {α : Type} (L pre : List α) (x : α) : Prop := ∃ post, L = pre ++ x :: post

end Go.Ost

/- Copying into one's own bytes; new bytes of whatever content. Conditions: as each says. -/
set_option linter.unusedSimpArgs false
set_option linter.unusedVariables false
namespace Go.Ost
open Go

variable {P : Program}

/-- A function of the library's without a text is called. -/
theorem calls_extern {f : FuncId} {fn : Func} {e : Array Value → Sem Value} {args : List Value} {S : State} {κ : Value → State → Prop} (hf : P.funcs[f]? = some fn) (hname : (fn.name == "runtime.NumGoroutine") = false) (hb : fn.body.isNone = true)
    (hn : Extern.findNext fn = none) (he : Extern.find fn = some e) (h : ValW P (e args.toArray) S κ) : CallsW P f args.toArray S κ := by
  refine ⟨fun w hw => ?_⟩
  obtain ⟨v, w', S', h1, h2, h3, h4⟩ := h.out w hw
  refine ⟨.value v, w', ?_, S', h2, h3, h4⟩
  rw [run_callFunc_extern hf hname hb hn he, h1]; rfl

theorem make_nozero {ps : Array TypeId} {t e : TypeId} [ht : TSlice P t e] {n : Nat} {S : State} {κ : Value → State → Prop} (hn : n ≤ 1000000)
    (k : ∀ b cap us C, Own 1 e C (some ⟨b, 0, none⟩) n cap us → κ (.slice (some ⟨b, 0, none⟩) n cap) (C :: S)) : ValW P (Extern.BytealgMakeNoZero.makeNoZero ps #[t] #[.int .i64 n]) S κ := by
  refine ⟨fun w hw => ?_⟩
  obtain ⟨cs, h1, h2, h3⟩ := Lib.run_makeNoZero (P := P) w ps t e ht.und n (by omega)
  refine ⟨_, _, [(w.heap.size, .cells cs e (0, 0))] :: S, h1, ⟨rfl, rfl, rfl, by simp⟩, Hold.new (w := w) hw rfl, k _ _ (cs.toList.take n) [(w.heap.size, .cells cs e (0, 0))] ⟨h2, h3 (by simp [maxLen]; omega), by simp; omega, .inr ⟨_, 0, cs, (0, 0), rfl, rfl, .inl rfl, by simp, fun i hi => ?_⟩⟩⟩
  simp only [List.length_take] at hi
  rw [Nat.zero_add, List.getElem?_take_of_lt (by omega), Array.getElem?_toList]

/-- copy into one's own, from place l on. -/
theorem copy_own {t t2 ty e : TypeId} {z : Value} {by_ : Nat} [ht : TSlice P t e] [hs : TSized P e z 1 by_] {S G : State} {κ : Value → State → Prop} {C : Chunk} {a b : Option Addr} {len cap l d dc n c : Nat} {us vs : List Value}
    (ho : Own 1 e C a len cap us) (hp : Pick C S G) (hr : Rd 1 S b n vs) (h1 : ∀ v ∈ vs, Value.cell1 v) (hl : l + d ≤ len) {a' : Option Addr} (ha : 0 < min n d → a' = a.map (·.add l))
    (k : ∀ C', Own 1 e C' a len cap (us.take l ++ (vs.take (min n d) ++ us.drop (l + min n d))) → κ (.int .i64 (min n d : Nat)) (C' :: G)) :
    ValW P (Builtin.copy_ #[t, t2] ty #[.slice a' d dc, .slice b n c]) S κ := by
  refine ⟨fun w hw => ?_⟩
  have hCG := hw.perm hp.perm
  have hful : us.length = len := by have := ho.2.2.1; omega
  have hvl : vs.length = n := by have := hr.1; omega
  have hcut : Rd 1 S b (min n d) (vs.take (min n d)) := by
    have := rd_cut hr (l := 0) (h' := min n d) (m := 0) (Nat.zero_le _) (Nat.min_le_left _ _)
    refine ⟨by simp; omega, fun hne => ?_⟩
    obtain ⟨b', o, cs, e', m, h2, h3, h4⟩ := hr.2 (by intro e0; subst e0; simp at hne)
    refine ⟨b', o, cs, e', m, h2, h3, fun i hi => ?_⟩
    simp only [List.length_take] at hi
    rw [List.getElem?_take_of_lt (by omega), h4 i (by omega)]
  have f := rd_first (P := P) (c := c) hcut hw
  have f' : (Builtin.firstCells 1 (min n d) (.slice b n c)).run P w = .ok (vs.take (min n d)).toArray w := by
    have e : Builtin.firstCells 1 (min n d) (.slice b n c) = Builtin.firstCells 1 (min n d) (.slice b (min n d) c) := by
      cases b <;> rfl
    rw [e]; exact f
  by_cases h0 : min n d = 0
  · refine ⟨.int .i64 (min n d : Nat), w, C :: G, ?_, Ext.refl w, hCG, k C ?_⟩
    · have f2 := f'
      rw [h0] at f2
      cases a' <;> simp [Builtin.copy_, Sem.run_bind, run_und ht.und, run_size hs, Result.andThen, Builtin.lenOf, h0, goInt, storeCells, f2, show n.min d = 0 from h0]
    · rw [h0]; simpa using ho
  · obtain ⟨b0, o, cs, m, rfl, rfl, hsoft, hbig, hc⟩ := own_some ho (by omega)
    obtain rfl := ha (by omega)
    obtain ⟨lo, hi'⟩ := m
    have hsz : o + us.length ≤ cs.size := by
      have := hc (us.length - 1) (by omega)
      rw [List.getElem?_eq_getElem (by omega)] at this
      have := (Array.getElem?_eq_some_iff.1 this).1
      omega
    obtain ⟨w', q1, q2, q3, q4⟩ := run_storeCells (P := P) (b := b0) (o := o + l) (vs.take (min n d)) 0 w cs (hCG.get b0 (.cells cs e (lo, hi')) (by simp)) (fun u hu => h1 u (List.mem_of_mem_take hu)) (by simp; omega) hsoft.or
    refine ⟨_, w', _, ?_, q2, (Upd.one (S := G)).hold hCG q3 q4, k [(b0, .cells (setCells cs (o + l + 0) (vs.take (min n d))) e (lo, hi'))] ⟨ho.1, ho.2.1, by simp; omega, .inr ⟨b0, o, _, (lo, hi'), rfl, rfl, by rw [setCells_size]; exact hsoft, by rw [setCells_size]; exact hbig, fun j hj => ?_⟩⟩⟩
    · simp only [Option.map_some, add_mk]
      simp [Builtin.copy_, Sem.run_bind, run_und ht.und, run_size hs, Result.andThen, Builtin.lenOf, goInt, f', q1, show n.min d = min n d from rfl]
    · simp only [List.length_append, List.length_take, List.length_drop] at hj
      rw [Nat.add_zero, get_setCells _ _ _ _ (by simp; omega)]
      simp only [List.length_take]
      by_cases h2 : o + l ≤ o + j ∧ o + j < o + l + min (min n d) vs.length
      · rw [if_pos h2, List.getElem?_append_right (by simp; omega), List.getElem?_append_left (by simp; omega)]
        congr 1; simp; omega
      · rw [if_neg h2, hc j (by omega)]
        by_cases h3 : j < l
        · rw [List.getElem?_append_left (by simp; omega), List.getElem?_take_of_lt h3]
        · rw [List.getElem?_append_right (by simp; omega), List.getElem?_append_right (by simp; omega), List.getElem?_drop]
          congr 1; simp; omega

end Go.Ost
