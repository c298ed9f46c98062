/- Texts in a row: the walk's rules and contracts, as each says. Conditions: as each says. -/
import Derived.Test.YtkgnhhpgnkkigaaM0e2e97af
import Derived.Test.YtkgnhhpgnkkigaaM186dd872
/- A table: its row, and all of it. Conditions: as each says. -/
set_option linter.unusedSimpArgs false
set_option linter.unusedVariables false
namespace Go.Proofs.Ytkgnhhpgnkkigaa
open Go Go.Ost Go.Tab

theorem lk_at {V : Type} {l : List (En V)} {pre suf : List Nat} {i : Nat} (h : Lk l (-1) (pre ++ i :: suf) (-1)) : ∃ e, l[i]? = some e ∧ e.next = hd suf (-1) := by
  obtain ⟨_, ⟨e, h1, _, h3⟩, _⟩ := (lk_app l pre (i :: suf) (-1) (-1)).1 h
  exact ⟨e, h1, h3⟩
theorem ents_of {V : Type} {l : List (En V)} : ∀ (pl : List Nat) (es : List (List UInt8 × V)), pl.map (kv l) = es.map some → ∃ ents : List (En V), ents.length = pl.length ∧ (∀ (j i : Nat), pl[j]? = some i → l[i]? = ents[j]?) ∧ ents.map (fun e => (e.key, e.v)) = es
  | [], [], _ => ⟨[], rfl, fun j i h => by simp at h, rfl⟩
  | [], _ :: _, h => by cases h
  | _ :: _, [], h => by cases h
  | i :: pl, x :: es, h => by
    simp only [List.map_cons, List.cons.injEq] at h
    obtain ⟨ents, h1, h2, h3⟩ := ents_of pl es h.2
    have hk := h.1
    unfold kv at hk
    cases hl : l[i]? with
    | none => rw [hl] at hk; cases hk
    | some e =>
      rw [hl] at hk
      simp only [Option.map_some, Option.some.injEq] at hk
      refine ⟨e :: ents, by simp [h1], fun j k hj => ?_, by rw [List.map_cons, hk, h3]⟩
      cases j with
      | zero => simp at hj; subst hj; simpa using hl
      | succ j => simp at hj ⊢; exact h2 j k hj
theorem ents_el {V : Type} {ents : List (En V)} {es : List (List UInt8 × V)} (h : ents.map (fun e => (e.key, e.v)) = es) {j : Nat} {e : En V} (he : ents[j]? = some e) : es[j]? = some (e.key, e.v) := by
  rw [← h, List.getElem?_map, he]; rfl

abbrev tabB (b room : Nat) (la : Option Addr) (l : List (En Int)) (lc : Nat) (fa : Option Addr) (free : List Nat) (fc r : Nat) (pl : List Nat) : Chunk :=
  [(b, tabO room la l.length lc fa free.length fc r (hd pl (-1)) (lst (-1) pl))]
abbrev entB (c : Nat) (e : En Int) : Chunk := [(c, .cells (encE e).toArray 58 (0, 0))]

section all
variable {b room : Nat} {la : Option Addr} {lc : Nat} {l : List (En Int)} {fa : Option Addr} {fc : Nat} {free : List Nat} {r : Nat} {m : List (List UInt8 × Nat)} {pl : List Nat} {es : List (List UInt8 × Int)} {Cl Cf Cm : Chunk}

theorem trow_nil : Meets Try.prog 35 [.pointer none] [] fun v A => v = .slice none 0 0 ∧ A = [] := by
  refine spec_intro Try.func35 rfl (by kernel_rfl) (by rw [Try.ntmps35]; simp) fun F => ?_; rw [Try.ntmps35, Try.results35]
  (repeat (first | (with_reducible refine then_n ?_) | (with_reducible refine then_r ?_) | (with_reducible refine then_e ?_) | (with_reducible refine block_n ?_) | (with_reducible refine block_r ?_) | (with_reducible refine block_e ?_) | refine block_o ?_ | (with_reducible refine scope_n ?_) | (with_reducible refine scope_r ?_) | (with_reducible refine scope_e ?_) | (with_reducible refine code_seq ?_) | (with_reducible refine code_skip ?_) | (with_reducible refine code_label ?_) | (with_reducible refine code_block ?_) | (with_reducible refine code_scope ?_) | (with_reducible refine code_exit ?_) | (with_reducible refine code_ret ?_) | refine regq_to ?_ | (with_reducible refine run_nil ?_) | ((with_reducible refine run_probe ?_); refine runq_more ?_) | (with_reducible refine draw_nil ?_) | ((with_reducible refine draw_probe ?_); (first | refine drawq_more ?_ | refine drawq_as ?_)) | refine code_then ?_ | refine code_else ?_))
  refine back_tmp [] ?_; exact ⟨rfl, rfl⟩

theorem trow_spec (h : Lies4 room la lc l fa fc free r m pl es Cl Cf Cm) :
    Meets Try.prog 35 [.pointer (some ⟨b, 0, none⟩)] [tabB b room la l lc fa free fc r pl, Cl]
      fun v A => ∃ D a c, v = .slice a pl.length c ∧ OwnF D a c pl ∧ A = [D, tabB b room la l lc fa free fc r pl, Cl] := by
  have hs := encE_len
  have hol := h.ol
  have hbig := h.big
  have hpl := h.rep.pl_len
  have hfit := h.fits
  refine spec_intro Try.func35 rfl (by kernel_rfl) (by rw [Try.ntmps35]; simp) fun F => ?_; rw [Try.ntmps35, Try.results35]
  (repeat (first | (with_reducible refine then_n ?_) | (with_reducible refine then_r ?_) | (with_reducible refine then_e ?_) | (with_reducible refine block_n ?_) | (with_reducible refine block_r ?_) | (with_reducible refine block_e ?_) | refine block_o ?_ | (with_reducible refine scope_n ?_) | (with_reducible refine scope_r ?_) | (with_reducible refine scope_e ?_) | (with_reducible refine code_seq ?_) | (with_reducible refine code_skip ?_) | (with_reducible refine code_label ?_) | (with_reducible refine code_block ?_) | (with_reducible refine code_scope ?_) | (with_reducible refine code_exit ?_) | (with_reducible refine code_ret ?_) | refine regq_to ?_ | (with_reducible refine run_nil ?_) | ((with_reducible refine run_probe ?_); refine runq_more ?_) | (with_reducible refine draw_nil ?_) | ((with_reducible refine draw_probe ?_); (first | refine drawq_more ?_ | refine drawq_as ?_)) | refine code_then ?_ | refine code_else ?_))
  refine code_nil ?_
  refine loop_i (fun q D L S => ∃ (pre suf : List Nat) (X : Chunk) (xa : Option Addr) (xc : Nat), pl = pre ++ suf ∧ OwnF X xa xc pre ∧ q = suf.length ∧ D = [] ∧
    L = [(4, .int .i64 (hd suf (-1))), (3, .slice xa pre.length xc), (0, .pointer (some ⟨b, 0, none⟩))] ∧ S = [X, tabB b room la l lc fa free fc r pl, Cl, F])
    ⟨[], pl, [], none, 0, rfl, own_nil, rfl, rfl, rfl, rfl⟩ ?_
  rintro q D L S ⟨pre, suf, X, xa, xc, e0, hX, rfl, rfl, rfl, rfl⟩
  cases suf with
  | nil =>
    rw [List.append_nil] at e0
    subst e0
    simp only [hd]
    (repeat (first | (with_reducible refine then_n ?_) | (with_reducible refine then_r ?_) | (with_reducible refine then_e ?_) | (with_reducible refine block_n ?_) | (with_reducible refine block_r ?_) | (with_reducible refine block_e ?_) | refine block_o ?_ | (with_reducible refine scope_n ?_) | (with_reducible refine scope_r ?_) | (with_reducible refine scope_e ?_) | (with_reducible refine code_seq ?_) | (with_reducible refine code_skip ?_) | (with_reducible refine code_label ?_) | (with_reducible refine code_block ?_) | (with_reducible refine code_scope ?_) | (with_reducible refine code_exit ?_) | (with_reducible refine code_ret ?_) | refine regq_to ?_ | (with_reducible refine run_nil ?_) | ((with_reducible refine run_probe ?_); refine runq_more ?_) | (with_reducible refine draw_nil ?_) | ((with_reducible refine draw_probe ?_); (first | refine drawq_more ?_ | refine drawq_as ?_)) | refine code_then ?_ | refine code_else ?_))
    refine back_tmp [X, tabB b room la l lc fa free fc r pl, Cl] ⟨X, xa, xc, rfl, hX, rfl⟩
  | cons i suf =>
    obtain ⟨e, hx, hnext⟩ := lk_at (e0 ▸ h.rep.lk)
    have hi : i < l.length := (List.getElem?_eq_some_iff.1 hx).1
    have hlen : pre.length + 1 ≤ 4096 := by
      have := congrArg List.length e0
      rw [List.length_append, List.length_cons] at this
      omega
    simp only [hd]
    (repeat (first | (with_reducible refine then_n ?_) | (with_reducible refine then_r ?_) | (with_reducible refine then_e ?_) | (with_reducible refine block_n ?_) | (with_reducible refine block_r ?_) | (with_reducible refine block_e ?_) | refine block_o ?_ | (with_reducible refine scope_n ?_) | (with_reducible refine scope_r ?_) | (with_reducible refine scope_e ?_) | (with_reducible refine code_seq ?_) | (with_reducible refine code_skip ?_) | (with_reducible refine code_label ?_) | (with_reducible refine code_block ?_) | (with_reducible refine code_scope ?_) | (with_reducible refine code_exit ?_) | (with_reducible refine code_ret ?_) | refine regq_to ?_ | (with_reducible refine run_nil ?_) | ((with_reducible refine run_probe ?_); refine runq_more ?_) | (with_reducible refine draw_nil ?_) | ((with_reducible refine draw_probe ?_); (first | refine drawq_more ?_ | refine drawq_as ?_)) | refine code_then ?_ | refine code_else ?_))
    refine run_op fun K hK => ?_; refine build1 rfl [nat64 i] (by decide) rfl rfl (by simp [Value.cell1]) (fun b3 C3 ho3 => ?_); refine hK _ _ ?_; clear hK K
    refine run_op fun K hK => ?_; refine app1 rfl hX (.inr (by (repeat (first | with_reducible exact Pick.head _ _ | with_reducible apply Pick.tail)))) (ho3.rd (by (repeat (first | with_reducible assumption | with_reducible exact List.mem_cons_self .. | with_reducible apply List.mem_cons_of_mem)))) (by simp [Value.cell1]) (by omega) (by decide) (fun C4 a4 cap4 ho4 => ?_); refine hK _ _ ?_; clear hK K
    have e4 : pre.map nat64 ++ [nat64 i] = (pre ++ [i]).map nat64 := by simp
    have e5 : pre.length + 1 = (pre ++ [i]).length := by simp
    rw [e4, e5] at ho4
    rw [e5]
    (repeat (first | (with_reducible refine then_n ?_) | (with_reducible refine then_r ?_) | (with_reducible refine then_e ?_) | (with_reducible refine block_n ?_) | (with_reducible refine block_r ?_) | (with_reducible refine block_e ?_) | refine block_o ?_ | (with_reducible refine scope_n ?_) | (with_reducible refine scope_r ?_) | (with_reducible refine scope_e ?_) | (with_reducible refine code_seq ?_) | (with_reducible refine code_skip ?_) | (with_reducible refine code_label ?_) | (with_reducible refine code_block ?_) | (with_reducible refine code_scope ?_) | (with_reducible refine code_exit ?_) | (with_reducible refine code_ret ?_) | refine regq_to ?_ | (with_reducible refine run_nil ?_) | ((with_reducible refine run_probe ?_); refine runq_more ?_) | (with_reducible refine draw_nil ?_) | ((with_reducible refine draw_probe ?_); (first | refine drawq_more ?_ | refine drawq_as ?_)) | refine code_then ?_ | refine code_else ?_))
    rw [hnext]
    exact again ⟨pre ++ [i], suf, C4, a4, cap4, by rw [e0]; simp, ho4, rfl, rfl, rfl, rfl⟩ (hm := by simp)

/-- What is told of all entries. -/
def encX (x : List UInt8 × Int) : List Value := [.string (str x.1), .int .i64 x.2]
abbrev NextX (es pre : List (List UInt8 × Int)) (x : List UInt8 × Int) : Prop := ∃ suf, es = pre ++ x :: suf

set_option maxHeartbeats 1000000 in
theorem all_iter (c : Nat) (b room : Nat) (es : List (List UInt8 × Int)) :
    IMeetsG Try.prog 34 [] [.pointer (some ⟨c, 0, none⟩)] encX [bx c (.pointer (some ⟨b, 0, none⟩)) 23]
      (fun T => IsTab T b room es) noH noH noH (NextX es) (fun pre => pre = es)
      (fun _ A => A = [bx c (.pointer (some ⟨b, 0, none⟩)) 23]) (fun _ A => A = [bx c (.pointer (some ⟨b, 0, none⟩)) 23]) false := by
  refine iter_introG (by kernel_rfl) fun l0 J Jx hN hT hY C hC => ?_
  obtain ⟨T, R, ⟨la, lc, l, fa, fc, free, r, m, pl, Cl, Cf, Cm, h, hTC⟩, hperm⟩ := hT C hC
  have hs := encE_len
  have hol := h.ol
  have hbig := h.big
  have hpl := h.rep.pl_len
  have hfit := h.fits
  obtain ⟨ents, en1, en2, en3⟩ := ents_of pl es h.rep.row
  refine spec_intro Try.func34 rfl (by kernel_rfl) (by rw [Try.ntmps34]; simp) fun F => ?_; rw [Try.ntmps34, Try.results34]
  have hp0 : [F, C, bx c (.pointer (some ⟨b, 0, none⟩)) 23].flatten.Perm [F, tabB b room la l lc fa free fc r pl, Cl, Cf, Cm, R, bx c (.pointer (some ⟨b, 0, none⟩)) 23].flatten := by
    simp only [List.flatten_cons, List.flatten_nil, List.append_nil]
    refine List.Perm.append_left F ?_
    have h2 := (hTC ▸ hperm).append_right (bx c (.pointer (some ⟨b, 0, none⟩)) 23)
    simpa only [List.append_assoc] using h2
  refine code_perm hp0 ?_
  (repeat (first | (with_reducible refine then_n ?_) | (with_reducible refine then_r ?_) | (with_reducible refine then_e ?_) | (with_reducible refine block_n ?_) | (with_reducible refine block_r ?_) | (with_reducible refine block_e ?_) | refine block_o ?_ | (with_reducible refine scope_n ?_) | (with_reducible refine scope_r ?_) | (with_reducible refine scope_e ?_) | (with_reducible refine code_seq ?_) | (with_reducible refine code_skip ?_) | (with_reducible refine code_label ?_) | (with_reducible refine code_block ?_) | (with_reducible refine code_scope ?_) | (with_reducible refine code_exit ?_) | (with_reducible refine code_ret ?_) | refine regq_to ?_ | (with_reducible refine run_nil ?_) | ((with_reducible refine run_probe ?_); refine runq_more ?_) | (with_reducible refine draw_nil ?_) | ((with_reducible refine draw_probe ?_); (first | refine drawq_more ?_ | refine drawq_as ?_)) | refine code_then ?_ | refine code_else ?_))
  refine run_op fun K hK => ?_; refine calls_to (trow_spec h) ?_; rintro v A ⟨D1, a1, c1, rfl, ho1, rfl⟩; (try simp only [List.nil_append, List.cons_append]); refine hK _ _ ?_; clear hK K; (repeat (first | (with_reducible refine then_n ?_) | (with_reducible refine then_r ?_) | (with_reducible refine then_e ?_) | (with_reducible refine block_n ?_) | (with_reducible refine block_r ?_) | (with_reducible refine block_e ?_) | refine block_o ?_ | (with_reducible refine scope_n ?_) | (with_reducible refine scope_r ?_) | (with_reducible refine scope_e ?_) | (with_reducible refine code_seq ?_) | (with_reducible refine code_skip ?_) | (with_reducible refine code_label ?_) | (with_reducible refine code_block ?_) | (with_reducible refine code_scope ?_) | (with_reducible refine code_exit ?_) | (with_reducible refine code_ret ?_) | refine regq_to ?_ | (with_reducible refine run_nil ?_) | ((with_reducible refine run_probe ?_); refine runq_more ?_) | (with_reducible refine draw_nil ?_) | ((with_reducible refine draw_probe ?_); (first | refine drawq_more ?_ | refine drawq_as ?_)) | refine code_then ?_ | refine code_else ?_))
  refine code_nil ?_
  refine loop_i (fun q D L S => ∃ (j : Nat) (X : Chunk) (xa : Option Addr) (xc : Nat), j ≤ pl.length ∧ Ost.Own 4 58 X xa j xc ((ents.take j).flatMap encE) ∧ q = pl.length - j ∧ D = [] ∧
    L = [(11, .int .i64 j), (10, .int .i64 pl.length), (9, .slice a1 pl.length c1), (3, .slice xa j xc), (0, .func (.yield l0) #[] #[]), (1, .pointer (some ⟨c, 0, none⟩))] ∧
    S = [X, D1, F, tabB b room la l lc fa free fc r pl, Cl, Cf, Cm, R, bx c (.pointer (some ⟨b, 0, none⟩)) 23])
    ⟨0, [], none, 0, by omega, own_nil, rfl, rfl, rfl, rfl⟩ ?_
  rintro q D L S ⟨j, X, xa, xc, hj, hX, rfl, rfl, rfl, rfl⟩
  (repeat (first | (with_reducible refine then_n ?_) | (with_reducible refine then_r ?_) | (with_reducible refine then_e ?_) | (with_reducible refine block_n ?_) | (with_reducible refine block_r ?_) | (with_reducible refine block_e ?_) | refine block_o ?_ | (with_reducible refine scope_n ?_) | (with_reducible refine scope_r ?_) | (with_reducible refine scope_e ?_) | (with_reducible refine code_seq ?_) | (with_reducible refine code_skip ?_) | (with_reducible refine code_label ?_) | (with_reducible refine code_block ?_) | (with_reducible refine code_scope ?_) | (with_reducible refine code_exit ?_) | (with_reducible refine code_ret ?_) | refine regq_to ?_ | (with_reducible refine run_nil ?_) | ((with_reducible refine run_probe ?_); refine runq_more ?_) | (with_reducible refine draw_nil ?_) | ((with_reducible refine draw_probe ?_); (first | refine drawq_more ?_ | refine drawq_as ?_)) | refine code_then ?_ | refine code_else ?_))
  refine if_d (fun hc => ?_) (fun hc => ?_)
  · have hjp : j < pl.length := by omega
    have hpj : pl[j]? = some pl[j] := List.getElem?_eq_getElem hjp
    have hus : (pl.map nat64)[j]? = some (nat64 pl[j]) := by rw [List.getElem?_map, hpj]; rfl
    have hx := en2 j _ hpj
    have hej : ents[j]? = some ents[j] := List.getElem?_eq_getElem (by omega)
    rw [hej] at hx
    have hi : pl[j] < l.length := (List.getElem?_eq_some_iff.1 hx).1
    generalize pl[j] = i at *
    (repeat (first | (with_reducible refine then_n ?_) | (with_reducible refine then_r ?_) | (with_reducible refine then_e ?_) | (with_reducible refine block_n ?_) | (with_reducible refine block_r ?_) | (with_reducible refine block_e ?_) | refine block_o ?_ | (with_reducible refine scope_n ?_) | (with_reducible refine scope_r ?_) | (with_reducible refine scope_e ?_) | (with_reducible refine code_seq ?_) | (with_reducible refine code_skip ?_) | (with_reducible refine code_label ?_) | (with_reducible refine code_block ?_) | (with_reducible refine code_scope ?_) | (with_reducible refine code_exit ?_) | (with_reducible refine code_ret ?_) | refine regq_to ?_ | (with_reducible refine run_nil ?_) | ((with_reducible refine run_probe ?_); refine runq_more ?_) | (with_reducible refine draw_nil ?_) | ((with_reducible refine draw_probe ?_); (first | refine drawq_more ?_ | refine drawq_as ?_)) | refine code_then ?_ | refine code_else ?_))
    refine run_op fun K hK => ?_; refine load_el_agg hol hs hx (by decide) (by (repeat (first | with_reducible assumption | with_reducible exact List.mem_cons_self .. | with_reducible apply List.mem_cons_of_mem))) ?_; refine hK _ _ ?_; clear hK K
    refine run_op fun K hK => ?_; refine build_el1 (e := 58) (s := 4) (hs := inferInstance) (vs := encE ents[j]) (by rfl) (by decide) (by decide) rfl (fun b2 C2 ho2 => ?_); refine hK _ _ ?_; clear hK K
    refine run_op fun K hK => ?_; refine append_own (e := 58) (s := 4) (hs := inferInstance) (by rfl) (by decide) hX (.inr (by (repeat (first | with_reducible exact Pick.head _ _ | with_reducible apply Pick.tail)))) (ho2.rd (by (repeat (first | with_reducible assumption | with_reducible exact List.mem_cons_self .. | with_reducible apply List.mem_cons_of_mem)))) (by simp [encE, Value.cell1]) (by simp only [maxLen]; omega) (by omega) (fun C3 a3 cap3 ho3 => ?_); refine hK _ _ ?_; clear hK K
    have e3 : (ents.take j).flatMap encE ++ encE ents[j] = (ents.take (j + 1)).flatMap encE := by
      rw [List.take_succ_eq_append_getElem (by omega), List.flatMap_append]; simp
    rw [e3] at ho3
    (repeat (first | (with_reducible refine then_n ?_) | (with_reducible refine then_r ?_) | (with_reducible refine then_e ?_) | (with_reducible refine block_n ?_) | (with_reducible refine block_r ?_) | (with_reducible refine block_e ?_) | refine block_o ?_ | (with_reducible refine scope_n ?_) | (with_reducible refine scope_r ?_) | (with_reducible refine scope_e ?_) | (with_reducible refine code_seq ?_) | (with_reducible refine code_skip ?_) | (with_reducible refine code_label ?_) | (with_reducible refine code_block ?_) | (with_reducible refine code_scope ?_) | (with_reducible refine code_exit ?_) | (with_reducible refine code_ret ?_) | refine regq_to ?_ | (with_reducible refine run_nil ?_) | ((with_reducible refine run_probe ?_); refine runq_more ?_) | (with_reducible refine draw_nil ?_) | ((with_reducible refine draw_probe ?_); (first | refine drawq_more ?_ | refine drawq_as ?_)) | refine code_then ?_ | refine code_else ?_))
    exact again ⟨j + 1, C3, a3, cap3, by omega, ho3, rfl, rfl, rfl, rfl⟩
  · obtain rfl : j = pl.length := by omega
    rw [List.take_of_length_le (by omega)] at hX
    have hX2 : OwnE X xa xc ents := by unfold OwnE; rw [en1]; exact hX
    rw [← en1]
    (repeat (first | (with_reducible refine then_n ?_) | (with_reducible refine then_r ?_) | (with_reducible refine then_e ?_) | (with_reducible refine block_n ?_) | (with_reducible refine block_r ?_) | (with_reducible refine block_e ?_) | refine block_o ?_ | (with_reducible refine scope_n ?_) | (with_reducible refine scope_r ?_) | (with_reducible refine scope_e ?_) | (with_reducible refine code_seq ?_) | (with_reducible refine code_skip ?_) | (with_reducible refine code_label ?_) | (with_reducible refine code_block ?_) | (with_reducible refine code_scope ?_) | (with_reducible refine code_exit ?_) | (with_reducible refine code_ret ?_) | refine regq_to ?_ | (with_reducible refine run_nil ?_) | ((with_reducible refine run_probe ?_); refine runq_more ?_) | (with_reducible refine draw_nil ?_) | ((with_reducible refine draw_probe ?_); (first | refine drawq_more ?_ | refine drawq_as ?_)) | refine code_then ?_ | refine code_else ?_))
    refine code_perm (S' := [X, C, F, bx c (.pointer (some ⟨b, 0, none⟩)) 23, D1]) ?_ ?_
    · simp only [List.flatten_cons, List.flatten_nil, List.append_nil] at hp0 ⊢
      have h2 : (D1 ++ (F ++ (tabB b room la l lc fa free fc r pl ++ (Cl ++ (Cf ++ (Cm ++ (R ++ bx c (.pointer (some ⟨b, 0, none⟩)) 23))))))).Perm (C ++ (F ++ (bx c (.pointer (some ⟨b, 0, none⟩)) 23 ++ D1))) := by
        refine (List.Perm.append_left D1 hp0.symm).trans ?_
        refine List.perm_append_comm.trans ?_
        rw [← List.append_assoc C, ← List.append_assoc, ← List.append_assoc]
        refine List.Perm.append_right _ ?_
        rw [List.append_assoc, List.append_assoc]
        have : (F ++ (C ++ bx c (.pointer (some ⟨b, 0, none⟩)) 23)).Perm (C ++ (F ++ bx c (.pointer (some ⟨b, 0, none⟩)) 23)) := by
          rw [← List.append_assoc, ← List.append_assoc]; exact List.Perm.append_right _ List.perm_append_comm
        simpa only [List.append_assoc] using this
      exact List.Perm.append_left X h2
    refine loop_i (fun q D L S => ∃ (j : Nat) (C : Chunk), j ≤ ents.length ∧ J (es.take j) C ∧ q = ents.length - j ∧ D = [] ∧
      L = [(28, .int .i64 j), (27, .int .i64 ents.length), (26, .slice xa ents.length xc), (0, .func (.yield l0) #[] #[]), (1, .pointer (some ⟨c, 0, none⟩))] ∧
      S = [X, C, F, bx c (.pointer (some ⟨b, 0, none⟩)) 23])
      ⟨0, C, by omega, hC, rfl, rfl, rfl, rfl⟩ ?_
    rintro q D L S ⟨j, C', hj, hJ, rfl, rfl, rfl, rfl⟩
    (repeat (first | (with_reducible refine then_n ?_) | (with_reducible refine then_r ?_) | (with_reducible refine then_e ?_) | (with_reducible refine block_n ?_) | (with_reducible refine block_r ?_) | (with_reducible refine block_e ?_) | refine block_o ?_ | (with_reducible refine scope_n ?_) | (with_reducible refine scope_r ?_) | (with_reducible refine scope_e ?_) | (with_reducible refine code_seq ?_) | (with_reducible refine code_skip ?_) | (with_reducible refine code_label ?_) | (with_reducible refine code_block ?_) | (with_reducible refine code_scope ?_) | (with_reducible refine code_exit ?_) | (with_reducible refine code_ret ?_) | refine regq_to ?_ | (with_reducible refine run_nil ?_) | ((with_reducible refine run_probe ?_); refine runq_more ?_) | (with_reducible refine draw_nil ?_) | ((with_reducible refine draw_probe ?_); (first | refine drawq_more ?_ | refine drawq_as ?_)) | refine code_then ?_ | refine code_else ?_))
    refine if_d (fun hc => ?_) (fun hc => ?_)
    · have hje : j < ents.length := by omega
      have hx : ents[j]? = some ents[j] := List.getElem?_eq_getElem hje
      have hjs : j < es.length := by omega
      have hee : es[j] = (ents[j].key, ents[j].v) := by
        have := ents_el en3 hx
        rw [List.getElem?_eq_getElem hjs] at this
        exact Option.some.inj this
      have hnx : NextX es (es.take j) (ents[j].key, ents[j].v) := ⟨es.drop (j + 1), by rw [← hee, ← List.drop_eq_getElem_cons, List.take_append_drop]⟩
      have htk : es.take j ++ [(ents[j].key, ents[j].v)] = es.take (j + 1) := by rw [List.take_succ_eq_append_getElem hjs, hee]
      have hY' := hY _ _ hnx
      rw [htk] at hY'
      (repeat (first | (with_reducible refine then_n ?_) | (with_reducible refine then_r ?_) | (with_reducible refine then_e ?_) | (with_reducible refine block_n ?_) | (with_reducible refine block_r ?_) | (with_reducible refine block_e ?_) | refine block_o ?_ | (with_reducible refine scope_n ?_) | (with_reducible refine scope_r ?_) | (with_reducible refine scope_e ?_) | (with_reducible refine code_seq ?_) | (with_reducible refine code_skip ?_) | (with_reducible refine code_label ?_) | (with_reducible refine code_block ?_) | (with_reducible refine code_scope ?_) | (with_reducible refine code_exit ?_) | (with_reducible refine code_ret ?_) | refine regq_to ?_ | (with_reducible refine run_nil ?_) | ((with_reducible refine run_probe ?_); refine runq_more ?_) | (with_reducible refine draw_nil ?_) | ((with_reducible refine draw_probe ?_); (first | refine drawq_more ?_ | refine drawq_as ?_)) | refine code_then ?_ | refine code_else ?_))
      refine run_op fun K hK => ?_; refine load_el_agg hX2 hs hx (by decide) (by (repeat (first | with_reducible assumption | with_reducible exact List.mem_cons_self .. | with_reducible apply List.mem_cons_of_mem))) ?_; refine hK _ _ ?_; clear hK K
      refine run_op fun K hK => ?_; refine alloc_new fun b7 => ?_; (try simp only [Value.cells]); refine hK _ _ ?_; clear hK K
      refine run_op fun K hK => ?_; refine store_all rfl (by simp [encE, Value.cell1]) (by (repeat (first | with_reducible exact Upd.one | with_reducible apply Upd.next))) (by rfl) ?_; refine hK _ _ ?_; clear hK K
      (repeat (first | (with_reducible refine then_n ?_) | (with_reducible refine then_r ?_) | (with_reducible refine then_e ?_) | (with_reducible refine block_n ?_) | (with_reducible refine block_r ?_) | (with_reducible refine block_e ?_) | refine block_o ?_ | (with_reducible refine scope_n ?_) | (with_reducible refine scope_r ?_) | (with_reducible refine scope_e ?_) | (with_reducible refine code_seq ?_) | (with_reducible refine code_skip ?_) | (with_reducible refine code_label ?_) | (with_reducible refine code_block ?_) | (with_reducible refine code_scope ?_) | (with_reducible refine code_exit ?_) | (with_reducible refine code_ret ?_) | refine regq_to ?_ | (with_reducible refine run_nil ?_) | ((with_reducible refine run_probe ?_); refine runq_more ?_) | (with_reducible refine draw_nil ?_) | ((with_reducible refine draw_probe ?_); (first | refine drawq_more ?_ | refine drawq_as ?_)) | refine code_then ?_ | refine code_else ?_))
      refine run_op fun K hK => ?_
      refine yield_meetsG hY' hJ rfl (by (repeat (first | with_reducible exact Take.nil _ | with_reducible exact Pick.head _ _ | with_reducible apply Pick.tail | with_reducible apply Take.cons))) (fun C4 H4 hJ4 hH4 => ?_) (fun C4 H4 hJ4 hH4 => ?_)
      · subst hH4
        (try simp only [List.nil_append])
        refine hK _ _ ?_; clear hK K
        (repeat (first | (with_reducible refine then_n ?_) | (with_reducible refine then_r ?_) | (with_reducible refine then_e ?_) | (with_reducible refine block_n ?_) | (with_reducible refine block_r ?_) | (with_reducible refine block_e ?_) | refine block_o ?_ | (with_reducible refine scope_n ?_) | (with_reducible refine scope_r ?_) | (with_reducible refine scope_e ?_) | (with_reducible refine code_seq ?_) | (with_reducible refine code_skip ?_) | (with_reducible refine code_label ?_) | (with_reducible refine code_block ?_) | (with_reducible refine code_scope ?_) | (with_reducible refine code_exit ?_) | (with_reducible refine code_ret ?_) | refine regq_to ?_ | (with_reducible refine run_nil ?_) | ((with_reducible refine run_probe ?_); refine runq_more ?_) | (with_reducible refine draw_nil ?_) | ((with_reducible refine draw_probe ?_); (first | refine drawq_more ?_ | refine drawq_as ?_)) | refine code_then ?_ | refine code_else ?_))
        exact again ⟨j + 1, C4, by omega, hJ4, rfl, rfl, rfl, rfl⟩
      · subst hH4
        (try simp only [List.nil_append])
        refine hK _ _ ?_; clear hK K
        (repeat (first | (with_reducible refine then_n ?_) | (with_reducible refine then_r ?_) | (with_reducible refine then_e ?_) | (with_reducible refine block_n ?_) | (with_reducible refine block_r ?_) | (with_reducible refine block_e ?_) | refine block_o ?_ | (with_reducible refine scope_n ?_) | (with_reducible refine scope_r ?_) | (with_reducible refine scope_e ?_) | (with_reducible refine code_seq ?_) | (with_reducible refine code_skip ?_) | (with_reducible refine code_label ?_) | (with_reducible refine code_block ?_) | (with_reducible refine code_scope ?_) | (with_reducible refine code_exit ?_) | (with_reducible refine code_ret ?_) | refine regq_to ?_ | (with_reducible refine run_nil ?_) | ((with_reducible refine run_probe ?_); refine runq_more ?_) | (with_reducible refine draw_nil ?_) | ((with_reducible refine draw_probe ?_); (first | refine drawq_more ?_ | refine drawq_as ?_)) | refine code_then ?_ | refine code_else ?_))
        exact back_none [C4, bx c (.pointer (some ⟨b, 0, none⟩)) 23] ⟨C4, [bx c (.pointer (some ⟨b, 0, none⟩)) 23], rfl, .inr ⟨_, _, hnx, by rw [htk]; exact hJ4, rfl⟩⟩
    · obtain rfl : j = ents.length := by omega
      rw [List.take_of_length_le (by omega)] at hJ
      (repeat (first | (with_reducible refine then_n ?_) | (with_reducible refine then_r ?_) | (with_reducible refine then_e ?_) | (with_reducible refine block_n ?_) | (with_reducible refine block_r ?_) | (with_reducible refine block_e ?_) | refine block_o ?_ | (with_reducible refine scope_n ?_) | (with_reducible refine scope_r ?_) | (with_reducible refine scope_e ?_) | (with_reducible refine code_seq ?_) | (with_reducible refine code_skip ?_) | (with_reducible refine code_label ?_) | (with_reducible refine code_block ?_) | (with_reducible refine code_scope ?_) | (with_reducible refine code_exit ?_) | (with_reducible refine code_ret ?_) | refine regq_to ?_ | (with_reducible refine run_nil ?_) | ((with_reducible refine run_probe ?_); refine runq_more ?_) | (with_reducible refine draw_nil ?_) | ((with_reducible refine draw_probe ?_); (first | refine drawq_more ?_ | refine drawq_as ?_)) | refine code_then ?_ | refine code_else ?_))
      exact back_none_n [C', bx c (.pointer (some ⟨b, 0, none⟩)) 23] ⟨C', [bx c (.pointer (some ⟨b, 0, none⟩)) 23], rfl, .inl ⟨es, rfl, hJ, rfl⟩⟩

theorem all_iter_nil (c : Nat) :
    IMeetsG Try.prog 34 [] [.pointer (some ⟨c, 0, none⟩)] encX [bx c (.pointer none) 23]
      (fun T => T = []) noH noH noH (fun _ _ => False) (fun pre => pre = [])
      (fun _ A => A = [bx c (.pointer none) 23]) (fun _ A => A = [bx c (.pointer none) 23]) false := by
  refine iter_introG (by kernel_rfl) fun l0 J Jx hN hT hY C hC => ?_
  refine spec_intro Try.func34 rfl (by kernel_rfl) (by rw [Try.ntmps34]; simp) fun F => ?_; rw [Try.ntmps34, Try.results34]
  (repeat (first | (with_reducible refine then_n ?_) | (with_reducible refine then_r ?_) | (with_reducible refine then_e ?_) | (with_reducible refine block_n ?_) | (with_reducible refine block_r ?_) | (with_reducible refine block_e ?_) | refine block_o ?_ | (with_reducible refine scope_n ?_) | (with_reducible refine scope_r ?_) | (with_reducible refine scope_e ?_) | (with_reducible refine code_seq ?_) | (with_reducible refine code_skip ?_) | (with_reducible refine code_label ?_) | (with_reducible refine code_block ?_) | (with_reducible refine code_scope ?_) | (with_reducible refine code_exit ?_) | (with_reducible refine code_ret ?_) | refine regq_to ?_ | (with_reducible refine run_nil ?_) | ((with_reducible refine run_probe ?_); refine runq_more ?_) | (with_reducible refine draw_nil ?_) | ((with_reducible refine draw_probe ?_); (first | refine drawq_more ?_ | refine drawq_as ?_)) | refine code_then ?_ | refine code_else ?_))
  refine run_op fun K hK => ?_; refine calls_to (trow_nil) ?_; rintro v A ⟨rfl, rfl⟩; (try simp only [List.nil_append, List.cons_append]); refine hK _ _ ?_; clear hK K; (repeat (first | (with_reducible refine then_n ?_) | (with_reducible refine then_r ?_) | (with_reducible refine then_e ?_) | (with_reducible refine block_n ?_) | (with_reducible refine block_r ?_) | (with_reducible refine block_e ?_) | refine block_o ?_ | (with_reducible refine scope_n ?_) | (with_reducible refine scope_r ?_) | (with_reducible refine scope_e ?_) | (with_reducible refine code_seq ?_) | (with_reducible refine code_skip ?_) | (with_reducible refine code_label ?_) | (with_reducible refine code_block ?_) | (with_reducible refine code_scope ?_) | (with_reducible refine code_exit ?_) | (with_reducible refine code_ret ?_) | refine regq_to ?_ | (with_reducible refine run_nil ?_) | ((with_reducible refine run_probe ?_); refine runq_more ?_) | (with_reducible refine draw_nil ?_) | ((with_reducible refine draw_probe ?_); (first | refine drawq_more ?_ | refine drawq_as ?_)) | refine code_then ?_ | refine code_else ?_))
  refine loop_i (fun q D L S => q = 0 ∧ D = [] ∧ L = [(11, .int .i64 0), (10, .int .i64 0), (3, .slice none 0 0)] ∧ S = [C, F, bx c (.pointer none) 23]) ⟨rfl, rfl, rfl, rfl⟩ ?_
  rintro q D L S ⟨rfl, rfl, rfl, rfl⟩
  (repeat (first | (with_reducible refine then_n ?_) | (with_reducible refine then_r ?_) | (with_reducible refine then_e ?_) | (with_reducible refine block_n ?_) | (with_reducible refine block_r ?_) | (with_reducible refine block_e ?_) | refine block_o ?_ | (with_reducible refine scope_n ?_) | (with_reducible refine scope_r ?_) | (with_reducible refine scope_e ?_) | (with_reducible refine code_seq ?_) | (with_reducible refine code_skip ?_) | (with_reducible refine code_label ?_) | (with_reducible refine code_block ?_) | (with_reducible refine code_scope ?_) | (with_reducible refine code_exit ?_) | (with_reducible refine code_ret ?_) | refine regq_to ?_ | (with_reducible refine run_nil ?_) | ((with_reducible refine run_probe ?_); refine runq_more ?_) | (with_reducible refine draw_nil ?_) | ((with_reducible refine draw_probe ?_); (first | refine drawq_more ?_ | refine drawq_as ?_)) | refine code_then ?_ | refine code_else ?_))
  refine loop_i (fun q D L S => q = 0 ∧ D = [] ∧ L = [(28, .int .i64 0), (27, .int .i64 0)] ∧ S = [C, F, bx c (.pointer none) 23]) ⟨rfl, rfl, rfl, rfl⟩ ?_
  rintro q D L S ⟨rfl, rfl, rfl, rfl⟩
  (repeat (first | (with_reducible refine then_n ?_) | (with_reducible refine then_r ?_) | (with_reducible refine then_e ?_) | (with_reducible refine block_n ?_) | (with_reducible refine block_r ?_) | (with_reducible refine block_e ?_) | refine block_o ?_ | (with_reducible refine scope_n ?_) | (with_reducible refine scope_r ?_) | (with_reducible refine scope_e ?_) | (with_reducible refine code_seq ?_) | (with_reducible refine code_skip ?_) | (with_reducible refine code_label ?_) | (with_reducible refine code_block ?_) | (with_reducible refine code_scope ?_) | (with_reducible refine code_exit ?_) | (with_reducible refine code_ret ?_) | refine regq_to ?_ | (with_reducible refine run_nil ?_) | ((with_reducible refine run_probe ?_); refine runq_more ?_) | (with_reducible refine draw_nil ?_) | ((with_reducible refine draw_probe ?_); (first | refine drawq_more ?_ | refine drawq_as ?_)) | refine code_then ?_ | refine code_else ?_))
  exact back_none_n [C, bx c (.pointer none) 23] ⟨C, [bx c (.pointer none) 23], rfl, .inl ⟨[], rfl, hC, rfl⟩⟩

theorem all_spec (p : Option Addr) : Meets Try.prog 17 [.pointer p] []
    fun u A => ∃ c, u = .func (.func 34) #[] #[.pointer (some ⟨c, 0, none⟩)] ∧ A = [bx c (.pointer p) 23] := by
  refine spec_intro Try.func17 rfl (by kernel_rfl) (by rw [Try.ntmps17]; simp) fun F => ?_; rw [Try.ntmps17, Try.results17]
  (repeat (first | (with_reducible refine then_n ?_) | (with_reducible refine then_r ?_) | (with_reducible refine then_e ?_) | (with_reducible refine block_n ?_) | (with_reducible refine block_r ?_) | (with_reducible refine block_e ?_) | refine block_o ?_ | (with_reducible refine scope_n ?_) | (with_reducible refine scope_r ?_) | (with_reducible refine scope_e ?_) | (with_reducible refine code_seq ?_) | (with_reducible refine code_skip ?_) | (with_reducible refine code_label ?_) | (with_reducible refine code_block ?_) | (with_reducible refine code_scope ?_) | (with_reducible refine code_exit ?_) | (with_reducible refine code_ret ?_) | refine regq_to ?_ | (with_reducible refine run_nil ?_) | ((with_reducible refine run_probe ?_); refine runq_more ?_) | (with_reducible refine draw_nil ?_) | ((with_reducible refine draw_probe ?_); (first | refine drawq_more ?_ | refine drawq_as ?_)) | refine code_then ?_ | refine code_else ?_))
  refine run_op fun K hK => ?_; refine box_new fun p1 => ?_; (try simp only [Value.cells]); refine hK _ _ ?_; clear hK K
  (repeat (first | (with_reducible refine then_n ?_) | (with_reducible refine then_r ?_) | (with_reducible refine then_e ?_) | (with_reducible refine block_n ?_) | (with_reducible refine block_r ?_) | (with_reducible refine block_e ?_) | refine block_o ?_ | (with_reducible refine scope_n ?_) | (with_reducible refine scope_r ?_) | (with_reducible refine scope_e ?_) | (with_reducible refine code_seq ?_) | (with_reducible refine code_skip ?_) | (with_reducible refine code_label ?_) | (with_reducible refine code_block ?_) | (with_reducible refine code_scope ?_) | (with_reducible refine code_exit ?_) | (with_reducible refine code_ret ?_) | refine regq_to ?_ | (with_reducible refine run_nil ?_) | ((with_reducible refine run_probe ?_); refine runq_more ?_) | (with_reducible refine draw_nil ?_) | ((with_reducible refine draw_probe ?_); (first | refine drawq_more ?_ | refine drawq_as ?_)) | refine code_then ?_ | refine code_else ?_))
  refine back_tmp [bx p1 (.pointer p) 23] ⟨p1, rfl, rfl⟩

end all
end Go.Proofs.Ytkgnhhpgnkkigaa

/- A table: the eldest, a new one, those that go. Conditions: as each says. -/
set_option linter.unusedSimpArgs false
set_option linter.unusedVariables false
namespace Go.Proofs.Ytkgnhhpgnkkigaa
open Go Go.Ost Go.Tab

section more
variable {b room : Nat} {es : List (List UInt8 × Int)}

theorem next_at {α : Type} {es pre : List α} {x : α} {suf : List α} (h : es = pre ++ x :: suf) : es[pre.length]? = some x := by subst h; simp

theorem oldest_nil : Meets Try.prog 12 [.pointer none] [] fun v A => v = .tuple #[.string (str []), .int .i64 0, .bool false] ∧ A = [] := by
  refine spec_intro Try.func12 rfl (by kernel_rfl) (by rw [Try.ntmps12]; simp) fun F => ?_; rw [Try.ntmps12, Try.results12]
  (repeat (first | (with_reducible refine then_n ?_) | (with_reducible refine then_r ?_) | (with_reducible refine then_e ?_) | (with_reducible refine block_n ?_) | (with_reducible refine block_r ?_) | (with_reducible refine block_e ?_) | refine block_o ?_ | (with_reducible refine scope_n ?_) | (with_reducible refine scope_r ?_) | (with_reducible refine scope_e ?_) | (with_reducible refine code_seq ?_) | (with_reducible refine code_skip ?_) | (with_reducible refine code_label ?_) | (with_reducible refine code_block ?_) | (with_reducible refine code_scope ?_) | (with_reducible refine code_exit ?_) | (with_reducible refine code_ret ?_) | refine regq_to ?_ | (with_reducible refine run_nil ?_) | ((with_reducible refine run_probe ?_); refine runq_more ?_) | (with_reducible refine draw_nil ?_) | ((with_reducible refine draw_probe ?_); (first | refine drawq_more ?_ | refine drawq_as ?_)) | refine code_then ?_ | refine code_else ?_))
  refine run_op fun K hK => ?_; refine alloc_new fun b2 => ?_; (try simp only [Value.cells]); refine hK _ _ ?_; clear hK K
  (repeat (first | (with_reducible refine then_n ?_) | (with_reducible refine then_r ?_) | (with_reducible refine then_e ?_) | (with_reducible refine block_n ?_) | (with_reducible refine block_r ?_) | (with_reducible refine block_e ?_) | refine block_o ?_ | (with_reducible refine scope_n ?_) | (with_reducible refine scope_r ?_) | (with_reducible refine scope_e ?_) | (with_reducible refine code_seq ?_) | (with_reducible refine code_skip ?_) | (with_reducible refine code_label ?_) | (with_reducible refine code_block ?_) | (with_reducible refine code_scope ?_) | (with_reducible refine code_exit ?_) | (with_reducible refine code_ret ?_) | refine regq_to ?_ | (with_reducible refine run_nil ?_) | ((with_reducible refine run_probe ?_); refine runq_more ?_) | (with_reducible refine draw_nil ?_) | ((with_reducible refine draw_probe ?_); (first | refine drawq_more ?_ | refine drawq_as ?_)) | refine code_then ?_ | refine code_else ?_))
  refine run_op fun K hK => ?_; refine alloc_new fun b3 => ?_; (try simp only [Value.cells]); refine hK _ _ ?_; clear hK K
  (repeat (first | (with_reducible refine then_n ?_) | (with_reducible refine then_r ?_) | (with_reducible refine then_e ?_) | (with_reducible refine block_n ?_) | (with_reducible refine block_r ?_) | (with_reducible refine block_e ?_) | refine block_o ?_ | (with_reducible refine scope_n ?_) | (with_reducible refine scope_r ?_) | (with_reducible refine scope_e ?_) | (with_reducible refine code_seq ?_) | (with_reducible refine code_skip ?_) | (with_reducible refine code_label ?_) | (with_reducible refine code_block ?_) | (with_reducible refine code_scope ?_) | (with_reducible refine code_exit ?_) | (with_reducible refine code_ret ?_) | refine regq_to ?_ | (with_reducible refine run_nil ?_) | ((with_reducible refine run_probe ?_); refine runq_more ?_) | (with_reducible refine draw_nil ?_) | ((with_reducible refine draw_probe ?_); (first | refine drawq_more ?_ | refine drawq_as ?_)) | refine code_then ?_ | refine code_else ?_))
  refine run_op fun K hK => ?_; refine alloc_new fun b4 => ?_; (try simp only [Value.cells]); refine hK _ _ ?_; clear hK K
  (repeat (first | (with_reducible refine then_n ?_) | (with_reducible refine then_r ?_) | (with_reducible refine then_e ?_) | (with_reducible refine block_n ?_) | (with_reducible refine block_r ?_) | (with_reducible refine block_e ?_) | refine block_o ?_ | (with_reducible refine scope_n ?_) | (with_reducible refine scope_r ?_) | (with_reducible refine scope_e ?_) | (with_reducible refine code_seq ?_) | (with_reducible refine code_skip ?_) | (with_reducible refine code_label ?_) | (with_reducible refine code_block ?_) | (with_reducible refine code_scope ?_) | (with_reducible refine code_exit ?_) | (with_reducible refine code_ret ?_) | refine regq_to ?_ | (with_reducible refine run_nil ?_) | ((with_reducible refine run_probe ?_); refine runq_more ?_) | (with_reducible refine draw_nil ?_) | ((with_reducible refine draw_probe ?_); (first | refine drawq_more ?_ | refine drawq_as ?_)) | refine code_then ?_ | refine code_else ?_))
  refine run_op fun K hK => ?_; refine calls_to (all_spec none) ?_; rintro v A ⟨c, rfl, rfl⟩; (try simp only [List.nil_append, List.cons_append]); refine hK _ _ ?_; clear hK K; (repeat (first | (with_reducible refine then_n ?_) | (with_reducible refine then_r ?_) | (with_reducible refine then_e ?_) | (with_reducible refine block_n ?_) | (with_reducible refine block_r ?_) | (with_reducible refine block_e ?_) | refine block_o ?_ | (with_reducible refine scope_n ?_) | (with_reducible refine scope_r ?_) | (with_reducible refine scope_e ?_) | (with_reducible refine code_seq ?_) | (with_reducible refine code_skip ?_) | (with_reducible refine code_label ?_) | (with_reducible refine code_block ?_) | (with_reducible refine code_scope ?_) | (with_reducible refine code_exit ?_) | (with_reducible refine code_ret ?_) | refine regq_to ?_ | (with_reducible refine run_nil ?_) | ((with_reducible refine run_probe ?_); refine runq_more ?_) | (with_reducible refine draw_nil ?_) | ((with_reducible refine draw_probe ?_); (first | refine drawq_more ?_ | refine drawq_as ?_)) | refine code_then ?_ | refine code_else ?_))
  refine code_rangeG (by (try simp only [evT, lookT_hit, lookT_miss, Nat.reduceBEq]); (first | done | exact rfl)) (all_iter_nil c) (by (repeat (first | exact Take.nil _ | with_reducible exact Pick.head _ _ | with_reducible apply Pick.tail | with_reducible apply Take.cons))) (fun pre C => C = [bx b4 (.bool false) 4, bx b3 (.int .i64 0) 3, bx b2 (.string (str [])) 9, F]) (fun c pre C => False) (fun h => by cases h) (fun C hC => ⟨[], C.flatten, rfl, by simp⟩) (fun _ => rfl) rfl ?_ ?_ ?_
  · rintro l F1 C H r pre x hx
    exact hx.elim
  · rintro d pre C A hd rfl rfl
    (try simp only [List.nil_append, List.cons_append])
    (repeat (first | (with_reducible refine then_n ?_) | (with_reducible refine then_r ?_) | (with_reducible refine then_e ?_) | (with_reducible refine block_n ?_) | (with_reducible refine block_r ?_) | (with_reducible refine block_e ?_) | refine block_o ?_ | (with_reducible refine scope_n ?_) | (with_reducible refine scope_r ?_) | (with_reducible refine scope_e ?_) | (with_reducible refine code_seq ?_) | (with_reducible refine code_skip ?_) | (with_reducible refine code_label ?_) | (with_reducible refine code_block ?_) | (with_reducible refine code_scope ?_) | (with_reducible refine code_exit ?_) | (with_reducible refine code_ret ?_) | refine regq_to ?_ | (with_reducible refine run_nil ?_) | ((with_reducible refine run_probe ?_); refine runq_more ?_) | (with_reducible refine draw_nil ?_) | ((with_reducible refine draw_probe ?_); (first | refine drawq_more ?_ | refine drawq_as ?_)) | refine code_then ?_ | refine code_else ?_))
    refine back_cells [] ?_; exact ⟨rfl, rfl⟩
  · rintro d c pre x C A hx
    exact hx.elim

def oldE (es : List (List UInt8 × Int)) : Value := match es with | [] => .tuple #[.string (str []), .int .i64 0, .bool false] | x :: _ => .tuple #[.string (str x.1), .int .i64 x.2, .bool true]
theorem oldest_spec (T : Chunk) (h : IsTab T b room es) : Meets Try.prog 12 [.pointer (some ⟨b, 0, none⟩)] [T]
    fun v A => v = oldE es ∧ A = [T] := by
  refine spec_intro Try.func12 rfl (by kernel_rfl) (by rw [Try.ntmps12]; simp) fun F => ?_; rw [Try.ntmps12, Try.results12]
  (repeat (first | (with_reducible refine then_n ?_) | (with_reducible refine then_r ?_) | (with_reducible refine then_e ?_) | (with_reducible refine block_n ?_) | (with_reducible refine block_r ?_) | (with_reducible refine block_e ?_) | refine block_o ?_ | (with_reducible refine scope_n ?_) | (with_reducible refine scope_r ?_) | (with_reducible refine scope_e ?_) | (with_reducible refine code_seq ?_) | (with_reducible refine code_skip ?_) | (with_reducible refine code_label ?_) | (with_reducible refine code_block ?_) | (with_reducible refine code_scope ?_) | (with_reducible refine code_exit ?_) | (with_reducible refine code_ret ?_) | refine regq_to ?_ | (with_reducible refine run_nil ?_) | ((with_reducible refine run_probe ?_); refine runq_more ?_) | (with_reducible refine draw_nil ?_) | ((with_reducible refine draw_probe ?_); (first | refine drawq_more ?_ | refine drawq_as ?_)) | refine code_then ?_ | refine code_else ?_))
  refine run_op fun K hK => ?_; refine alloc_new fun b2 => ?_; (try simp only [Value.cells]); refine hK _ _ ?_; clear hK K
  (repeat (first | (with_reducible refine then_n ?_) | (with_reducible refine then_r ?_) | (with_reducible refine then_e ?_) | (with_reducible refine block_n ?_) | (with_reducible refine block_r ?_) | (with_reducible refine block_e ?_) | refine block_o ?_ | (with_reducible refine scope_n ?_) | (with_reducible refine scope_r ?_) | (with_reducible refine scope_e ?_) | (with_reducible refine code_seq ?_) | (with_reducible refine code_skip ?_) | (with_reducible refine code_label ?_) | (with_reducible refine code_block ?_) | (with_reducible refine code_scope ?_) | (with_reducible refine code_exit ?_) | (with_reducible refine code_ret ?_) | refine regq_to ?_ | (with_reducible refine run_nil ?_) | ((with_reducible refine run_probe ?_); refine runq_more ?_) | (with_reducible refine draw_nil ?_) | ((with_reducible refine draw_probe ?_); (first | refine drawq_more ?_ | refine drawq_as ?_)) | refine code_then ?_ | refine code_else ?_))
  refine run_op fun K hK => ?_; refine alloc_new fun b3 => ?_; (try simp only [Value.cells]); refine hK _ _ ?_; clear hK K
  (repeat (first | (with_reducible refine then_n ?_) | (with_reducible refine then_r ?_) | (with_reducible refine then_e ?_) | (with_reducible refine block_n ?_) | (with_reducible refine block_r ?_) | (with_reducible refine block_e ?_) | refine block_o ?_ | (with_reducible refine scope_n ?_) | (with_reducible refine scope_r ?_) | (with_reducible refine scope_e ?_) | (with_reducible refine code_seq ?_) | (with_reducible refine code_skip ?_) | (with_reducible refine code_label ?_) | (with_reducible refine code_block ?_) | (with_reducible refine code_scope ?_) | (with_reducible refine code_exit ?_) | (with_reducible refine code_ret ?_) | refine regq_to ?_ | (with_reducible refine run_nil ?_) | ((with_reducible refine run_probe ?_); refine runq_more ?_) | (with_reducible refine draw_nil ?_) | ((with_reducible refine draw_probe ?_); (first | refine drawq_more ?_ | refine drawq_as ?_)) | refine code_then ?_ | refine code_else ?_))
  refine run_op fun K hK => ?_; refine alloc_new fun b4 => ?_; (try simp only [Value.cells]); refine hK _ _ ?_; clear hK K
  (repeat (first | (with_reducible refine then_n ?_) | (with_reducible refine then_r ?_) | (with_reducible refine then_e ?_) | (with_reducible refine block_n ?_) | (with_reducible refine block_r ?_) | (with_reducible refine block_e ?_) | refine block_o ?_ | (with_reducible refine scope_n ?_) | (with_reducible refine scope_r ?_) | (with_reducible refine scope_e ?_) | (with_reducible refine code_seq ?_) | (with_reducible refine code_skip ?_) | (with_reducible refine code_label ?_) | (with_reducible refine code_block ?_) | (with_reducible refine code_scope ?_) | (with_reducible refine code_exit ?_) | (with_reducible refine code_ret ?_) | refine regq_to ?_ | (with_reducible refine run_nil ?_) | ((with_reducible refine run_probe ?_); refine runq_more ?_) | (with_reducible refine draw_nil ?_) | ((with_reducible refine draw_probe ?_); (first | refine drawq_more ?_ | refine drawq_as ?_)) | refine code_then ?_ | refine code_else ?_))
  refine run_op fun K hK => ?_; refine calls_to (all_spec _) ?_; rintro v A ⟨c, rfl, rfl⟩; (try simp only [List.nil_append, List.cons_append]); refine hK _ _ ?_; clear hK K; (repeat (first | (with_reducible refine then_n ?_) | (with_reducible refine then_r ?_) | (with_reducible refine then_e ?_) | (with_reducible refine block_n ?_) | (with_reducible refine block_r ?_) | (with_reducible refine block_e ?_) | refine block_o ?_ | (with_reducible refine scope_n ?_) | (with_reducible refine scope_r ?_) | (with_reducible refine scope_e ?_) | (with_reducible refine code_seq ?_) | (with_reducible refine code_skip ?_) | (with_reducible refine code_label ?_) | (with_reducible refine code_block ?_) | (with_reducible refine code_scope ?_) | (with_reducible refine code_exit ?_) | (with_reducible refine code_ret ?_) | refine regq_to ?_ | (with_reducible refine run_nil ?_) | ((with_reducible refine run_probe ?_); refine runq_more ?_) | (with_reducible refine draw_nil ?_) | ((with_reducible refine draw_probe ?_); (first | refine drawq_more ?_ | refine drawq_as ?_)) | refine code_then ?_ | refine code_else ?_))
  refine code_rangeG (by (try simp only [evT, lookT_hit, lookT_miss, Nat.reduceBEq]); (first | done | exact rfl)) (all_iter c b room es) (by (repeat (first | exact Take.nil _ | with_reducible exact Pick.head _ _ | with_reducible apply Pick.tail | with_reducible apply Take.cons))) (fun pre C => pre = [] ∧ C = [bx b4 (.bool false) 4, bx b3 (.int .i64 0) 3, bx b2 (.string (str [])) 9, F, T])
    (fun c pre C => ∃ x suf, c = .ret ∧ es = x :: suf ∧ C = [bx b4 (.bool true) 4, bx b3 (.int .i64 x.2) 3, bx b2 (.string (str x.1)) 9, F, T]) (fun h => by cases h)
    (fun C hC => by obtain ⟨_, rfl⟩ := hC; exact T0_pick h (by (repeat (first | with_reducible exact Pick.head _ _ | with_reducible apply Pick.tail)))) (fun _ => rfl) ⟨rfl, rfl⟩ ?_ ?_ ?_
  · rintro l F1 C H r pre x ⟨suf, hx⟩ ⟨rfl, rfl⟩ rfl
    (try simp only [List.nil_append, List.cons_append, List.append_nil, encX])
    (try simp only [putAll, putT, Nat.reduceLT, if_true, reduceIte, Array.toList, List.toList_toArray])
    (repeat (first | (with_reducible refine then_n ?_) | (with_reducible refine then_r ?_) | (with_reducible refine then_e ?_) | (with_reducible refine block_n ?_) | (with_reducible refine block_r ?_) | (with_reducible refine block_e ?_) | refine block_o ?_ | (with_reducible refine scope_n ?_) | (with_reducible refine scope_r ?_) | (with_reducible refine scope_e ?_) | (with_reducible refine code_seq ?_) | (with_reducible refine code_skip ?_) | (with_reducible refine code_label ?_) | (with_reducible refine code_block ?_) | (with_reducible refine code_scope ?_) | (with_reducible refine code_exit ?_) | (with_reducible refine code_ret ?_) | refine regq_to ?_ | (with_reducible refine run_nil ?_) | ((with_reducible refine run_probe ?_); refine runq_more ?_) | (with_reducible refine draw_nil ?_) | ((with_reducible refine draw_probe ?_); (first | refine drawq_more ?_ | refine drawq_as ?_)) | refine code_then ?_ | refine code_else ?_))
    refine ⟨_, Among.refl _, fun r' _ => ?_⟩
    (repeat (first | (with_reducible refine then_n ?_) | (with_reducible refine then_r ?_) | (with_reducible refine then_e ?_) | (with_reducible refine block_n ?_) | (with_reducible refine block_r ?_) | (with_reducible refine block_e ?_) | refine block_o ?_ | (with_reducible refine scope_n ?_) | (with_reducible refine scope_r ?_) | (with_reducible refine scope_e ?_) | (with_reducible refine code_seq ?_) | (with_reducible refine code_skip ?_) | (with_reducible refine code_label ?_) | (with_reducible refine code_block ?_) | (with_reducible refine code_scope ?_) | (with_reducible refine code_exit ?_) | (with_reducible refine code_ret ?_) | refine regq_to ?_ | (with_reducible refine run_nil ?_) | ((with_reducible refine run_probe ?_); refine runq_more ?_) | (with_reducible refine draw_nil ?_) | ((with_reducible refine draw_probe ?_); (first | refine drawq_more ?_ | refine drawq_as ?_)) | refine code_then ?_ | refine code_else ?_))
    exact ⟨[bx b4 (.bool true) 4, bx b3 (.int .i64 x.2) 3, bx b2 (.string (str x.1)) 9, F, T], ⟨_, [], rfl, ⟨x, suf, rfl, hx, rfl⟩, rfl⟩, by first | ((repeat (first | with_reducible exact Among.nil _ | with_reducible exact Pick.head _ _ | with_reducible apply Pick.tail | with_reducible apply Among.cons)); done) | ((repeat (first | exact Among.nil _ | exact Pick.head _ _ | apply Pick.tail | apply Among.cons)); done)⟩
  · rintro d pre C A rfl ⟨rfl, rfl⟩ rfl
    (try simp only [List.nil_append, List.cons_append])
    (repeat (first | (with_reducible refine then_n ?_) | (with_reducible refine then_r ?_) | (with_reducible refine then_e ?_) | (with_reducible refine block_n ?_) | (with_reducible refine block_r ?_) | (with_reducible refine block_e ?_) | refine block_o ?_ | (with_reducible refine scope_n ?_) | (with_reducible refine scope_r ?_) | (with_reducible refine scope_e ?_) | (with_reducible refine code_seq ?_) | (with_reducible refine code_skip ?_) | (with_reducible refine code_label ?_) | (with_reducible refine code_block ?_) | (with_reducible refine code_scope ?_) | (with_reducible refine code_exit ?_) | (with_reducible refine code_ret ?_) | refine regq_to ?_ | (with_reducible refine run_nil ?_) | ((with_reducible refine run_probe ?_); refine runq_more ?_) | (with_reducible refine draw_nil ?_) | ((with_reducible refine draw_probe ?_); (first | refine drawq_more ?_ | refine drawq_as ?_)) | refine code_then ?_ | refine code_else ?_))
    refine back_cells [T] ?_; exact ⟨rfl, rfl⟩
  · rintro d c pre x C A hx ⟨y, suf, rfl, rfl, rfl⟩ rfl
    (try simp only [List.nil_append, List.cons_append])
    (repeat (first | (with_reducible refine then_n ?_) | (with_reducible refine then_r ?_) | (with_reducible refine then_e ?_) | (with_reducible refine block_n ?_) | (with_reducible refine block_r ?_) | (with_reducible refine block_e ?_) | refine block_o ?_ | (with_reducible refine scope_n ?_) | (with_reducible refine scope_r ?_) | (with_reducible refine scope_e ?_) | (with_reducible refine code_seq ?_) | (with_reducible refine code_skip ?_) | (with_reducible refine code_label ?_) | (with_reducible refine code_block ?_) | (with_reducible refine code_scope ?_) | (with_reducible refine code_exit ?_) | (with_reducible refine code_ret ?_) | refine regq_to ?_ | (with_reducible refine run_nil ?_) | ((with_reducible refine run_probe ?_); refine runq_more ?_) | (with_reducible refine draw_nil ?_) | ((with_reducible refine draw_probe ?_); (first | refine drawq_more ?_ | refine drawq_as ?_)) | refine code_then ?_ | refine code_else ?_))
    refine back_cells [T] ?_; exact ⟨rfl, rfl⟩

end more
end Go.Proofs.Ytkgnhhpgnkkigaa
