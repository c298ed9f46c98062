/- Texts in a row: the walk's rules and contracts, as each says. Conditions: as each says. -/
import Derived.Test.YtjagaagemgppcaaMb8aea12f
import Derived.Test.YtjagaagemgppcaaM5fb1742b
import Derived.Test.YtjagaagemgppcaaM7fd4872f
/- A table: an entry that is no more, one that is the last. Conditions: as each says. -/
set_option linter.unusedSimpArgs false
set_option linter.unusedVariables false
namespace Go.Proofs.Ytjagaagemgppcaa
open Go Go.Ost Go.Tab

section ops
variable {b room : Nat} {la : Option Addr} {lc : Nat} {l : List (En V)} {fa : Option Addr} {fc : Nat} {free : List Nat} {r : Nat} {m : List (List UInt8 × Nat)} {pl : List Nat} {es : List (List UInt8 × V)} {Cl Cf Cm : Chunk}

theorem drop_ok (h : Lies4 room la lc l fa fc free r m pl es Cl Cf Cm) (k : List UInt8) (u : V) (hk : mget es k = some u) :
    Meets Try.prog 52 [.pointer (some ⟨b, 0, none⟩), .string (str k)] [[(b, tabO room la l.length lc fa free.length fc r (hd pl (-1)) (lst (-1) pl))], Cl, Cf, Cm]
      fun v' A => v' = .int .i64 0 ∧ ∃ la lc l fa fc free m pl Cl Cf Cm, Lies4 room la lc l fa fc free r m pl (mdel es k) Cl Cf Cm ∧ A = [[(b, tabO room la l.length lc fa free.length fc r (hd pl (-1)) (lst (-1) pl))], Cl, Cf, Cm] := by
  obtain ⟨i, hm, hi, hkv⟩ := h.place hk
  obtain ⟨a, n, e, hx, rfl, rfl, ha, hn, pl', hrep, q1, q2⟩ := h.rep.drop hm ⟨[], v0, 0, 0⟩
  have hs := encE_len
  have hlu := unL_length l e.ahead e.next
  have hll := h.ll
  have hbig := h.big
  have hall := h.all
  have hml := h.rep.mlen
  have hml' := hrep.mlen
  have hofr := h.ofr
  have him := h.im
  have hfits := h.fits
  have hlen : (mdel es k).length + 1 = es.length := by
    obtain ⟨pre, post, c1, _, c3, _⟩ := mget_split hk
    rw [c3, c1]; simp; omega
  refine spec_intro Try.func52 rfl (by kernel_rfl) (by rw [Try.ntmps52]; simp) fun F => ?_; rw [Try.ntmps52, Try.results52]
  (repeat (first | (with_reducible refine then_n ?_) | (with_reducible refine then_r ?_) | (with_reducible refine then_e ?_) | (with_reducible refine block_n ?_) | (with_reducible refine block_r ?_) | (with_reducible refine block_e ?_) | refine block_o ?_ | (with_reducible refine scope_n ?_) | (with_reducible refine scope_r ?_) | (with_reducible refine scope_e ?_) | (with_reducible refine code_seq ?_) | (with_reducible refine code_skip ?_) | (with_reducible refine code_label ?_) | (with_reducible refine code_block ?_) | (with_reducible refine code_scope ?_) | (with_reducible refine code_exit ?_) | (with_reducible refine code_ret ?_) | refine regq_to ?_ | (with_reducible refine run_nil ?_) | ((with_reducible refine run_probe ?_); refine runq_more ?_) | (with_reducible refine draw_nil ?_) | ((with_reducible refine draw_probe ?_); (first | refine drawq_more ?_ | refine drawq_as ?_)) | refine code_then ?_ | refine code_else ?_))
  refine run_op fun K hK => ?_; refine calls_to (place_spec b room la l.length lc fa free.length fc r _ _ Cm m h.im k) ?_; rintro v A ⟨rfl, rfl⟩; (try simp only [List.nil_append, List.cons_append]); refine hK _ _ ?_; clear hK K; (repeat (first | (with_reducible refine then_n ?_) | (with_reducible refine then_r ?_) | (with_reducible refine then_e ?_) | (with_reducible refine block_n ?_) | (with_reducible refine block_r ?_) | (with_reducible refine block_e ?_) | refine block_o ?_ | (with_reducible refine scope_n ?_) | (with_reducible refine scope_r ?_) | (with_reducible refine scope_e ?_) | (with_reducible refine code_seq ?_) | (with_reducible refine code_skip ?_) | (with_reducible refine code_label ?_) | (with_reducible refine code_block ?_) | (with_reducible refine code_scope ?_) | (with_reducible refine code_exit ?_) | (with_reducible refine code_ret ?_) | refine regq_to ?_ | (with_reducible refine run_nil ?_) | ((with_reducible refine run_probe ?_); refine runq_more ?_) | (with_reducible refine draw_nil ?_) | ((with_reducible refine draw_probe ?_); (first | refine drawq_more ?_ | refine drawq_as ?_)) | refine code_then ?_ | refine code_else ?_))
  rw [hm]
  (repeat (first | (with_reducible refine then_n ?_) | (with_reducible refine then_r ?_) | (with_reducible refine then_e ?_) | (with_reducible refine block_n ?_) | (with_reducible refine block_r ?_) | (with_reducible refine block_e ?_) | refine block_o ?_ | (with_reducible refine scope_n ?_) | (with_reducible refine scope_r ?_) | (with_reducible refine scope_e ?_) | (with_reducible refine code_seq ?_) | (with_reducible refine code_skip ?_) | (with_reducible refine code_label ?_) | (with_reducible refine code_block ?_) | (with_reducible refine code_scope ?_) | (with_reducible refine code_exit ?_) | (with_reducible refine code_ret ?_) | refine regq_to ?_ | (with_reducible refine run_nil ?_) | ((with_reducible refine run_probe ?_); refine runq_more ?_) | (with_reducible refine draw_nil ?_) | ((with_reducible refine draw_probe ?_); (first | refine drawq_more ?_ | refine drawq_as ?_)) | refine code_then ?_ | refine code_else ?_))
  refine run_op fun K hK => ?_; refine calls_to (unhang_spec b room la lc fa free.length fc r _ _ Cl l h.ol i e hx ha hn) ?_; rintro v A ⟨C1, ho1, rfl⟩; (try simp only [List.nil_append, List.cons_append]); refine hK _ _ ?_; clear hK K; (repeat (first | (with_reducible refine then_n ?_) | (with_reducible refine then_r ?_) | (with_reducible refine then_e ?_) | (with_reducible refine block_n ?_) | (with_reducible refine block_r ?_) | (with_reducible refine block_e ?_) | refine block_o ?_ | (with_reducible refine scope_n ?_) | (with_reducible refine scope_r ?_) | (with_reducible refine scope_e ?_) | (with_reducible refine code_seq ?_) | (with_reducible refine code_skip ?_) | (with_reducible refine code_label ?_) | (with_reducible refine code_block ?_) | (with_reducible refine code_scope ?_) | (with_reducible refine code_exit ?_) | (with_reducible refine code_ret ?_) | refine regq_to ?_ | (with_reducible refine run_nil ?_) | ((with_reducible refine run_probe ?_); refine runq_more ?_) | (with_reducible refine draw_nil ?_) | ((with_reducible refine draw_probe ?_); (first | refine drawq_more ?_ | refine drawq_as ?_)) | refine code_then ?_ | refine code_else ?_))
  rw [q1, q2, ← hlu]
  refine run_op fun K hK => ?_; rw [build_struct (ps := []) (cs := (encE ⟨[], v0, 0, 0⟩).toArray) rfl]; refine hK _ _ ?_; clear hK K
  (repeat (first | (with_reducible refine then_n ?_) | (with_reducible refine then_r ?_) | (with_reducible refine then_e ?_) | (with_reducible refine block_n ?_) | (with_reducible refine block_r ?_) | (with_reducible refine block_e ?_) | refine block_o ?_ | (with_reducible refine scope_n ?_) | (with_reducible refine scope_r ?_) | (with_reducible refine scope_e ?_) | (with_reducible refine code_seq ?_) | (with_reducible refine code_skip ?_) | (with_reducible refine code_label ?_) | (with_reducible refine code_block ?_) | (with_reducible refine code_scope ?_) | (with_reducible refine code_exit ?_) | (with_reducible refine code_ret ?_) | refine regq_to ?_ | (with_reducible refine run_nil ?_) | ((with_reducible refine run_probe ?_); refine runq_more ?_) | (with_reducible refine draw_nil ?_) | ((with_reducible refine draw_probe ?_); (first | refine drawq_more ?_ | refine drawq_as ?_)) | refine code_then ?_ | refine code_else ?_))
  refine run_op fun K hK => ?_; refine store_el_agg (x' := (⟨[], v0, 0, 0⟩ : En V)) ho1 (by (repeat (first | with_reducible exact Pick.head _ _ | with_reducible apply Pick.tail))) hs (by omega) (by decide) (cell_E _) (fun C2 ho2 => ?_); refine hK _ _ ?_; clear hK K
  (repeat (first | (with_reducible refine then_n ?_) | (with_reducible refine then_r ?_) | (with_reducible refine then_e ?_) | (with_reducible refine block_n ?_) | (with_reducible refine block_r ?_) | (with_reducible refine block_e ?_) | refine block_o ?_ | (with_reducible refine scope_n ?_) | (with_reducible refine scope_r ?_) | (with_reducible refine scope_e ?_) | (with_reducible refine code_seq ?_) | (with_reducible refine code_skip ?_) | (with_reducible refine code_label ?_) | (with_reducible refine code_block ?_) | (with_reducible refine code_scope ?_) | (with_reducible refine code_exit ?_) | (with_reducible refine code_ret ?_) | refine regq_to ?_ | (with_reducible refine run_nil ?_) | ((with_reducible refine run_probe ?_); refine runq_more ?_) | (with_reducible refine draw_nil ?_) | ((with_reducible refine draw_probe ?_); (first | refine drawq_more ?_ | refine drawq_as ?_)) | refine code_then ?_ | refine code_else ?_))
  refine run_op fun K hK => ?_; refine build1 rfl [nat64 i] (by decide) rfl rfl (by simp [Value.cell1]) (fun b3 C3 ho3 => ?_); refine hK _ _ ?_; clear hK K
  refine run_op fun K hK => ?_; refine app1 rfl hofr (.inr (by (repeat (first | with_reducible exact Pick.head _ _ | with_reducible apply Pick.tail)))) (ho3.rd (by (repeat (first | with_reducible assumption | with_reducible exact List.mem_cons_self .. | with_reducible apply List.mem_cons_of_mem)))) (by simp [Value.cell1]) (by omega) (by decide) (fun C4 a4 cap4 ho4 => ?_); refine hK _ _ ?_; clear hK K
  have e4 : free.map nat64 ++ [nat64 i] = (free ++ [i]).map nat64 := by simp
  have e5 : free.length + 1 = (free ++ [i]).length := by simp
  rw [e4, e5] at ho4
  rw [e5]
  (repeat (first | (with_reducible refine then_n ?_) | (with_reducible refine then_r ?_) | (with_reducible refine then_e ?_) | (with_reducible refine block_n ?_) | (with_reducible refine block_r ?_) | (with_reducible refine block_e ?_) | refine block_o ?_ | (with_reducible refine scope_n ?_) | (with_reducible refine scope_r ?_) | (with_reducible refine scope_e ?_) | (with_reducible refine code_seq ?_) | (with_reducible refine code_skip ?_) | (with_reducible refine code_label ?_) | (with_reducible refine code_block ?_) | (with_reducible refine code_scope ?_) | (with_reducible refine code_exit ?_) | (with_reducible refine code_ret ?_) | refine regq_to ?_ | (with_reducible refine run_nil ?_) | ((with_reducible refine run_probe ?_); refine runq_more ?_) | (with_reducible refine draw_nil ?_) | ((with_reducible refine draw_probe ?_); (first | refine drawq_more ?_ | refine drawq_as ?_)) | refine code_then ?_ | refine code_else ?_))
  (try simp only [List.setIfInBounds_toArray, List.set_cons_succ, List.set_cons_zero, List.getElem_toArray, List.getElem_cons_succ, List.getElem_cons_zero])
  refine run_op fun K hK => ?_; refine map_del him (by (repeat (first | with_reducible exact Pick.head _ _ | with_reducible apply Pick.tail))) (fun C6 him6 => ?_); refine hK _ _ ?_; clear hK K
  rw [mdel_val nat64 m k] at him6
  (repeat (first | (with_reducible refine then_n ?_) | (with_reducible refine then_r ?_) | (with_reducible refine then_e ?_) | (with_reducible refine block_n ?_) | (with_reducible refine block_r ?_) | (with_reducible refine block_e ?_) | refine block_o ?_ | (with_reducible refine scope_n ?_) | (with_reducible refine scope_r ?_) | (with_reducible refine scope_e ?_) | (with_reducible refine code_seq ?_) | (with_reducible refine code_skip ?_) | (with_reducible refine code_label ?_) | (with_reducible refine code_block ?_) | (with_reducible refine code_scope ?_) | (with_reducible refine code_exit ?_) | (with_reducible refine code_ret ?_) | refine regq_to ?_ | (with_reducible refine run_nil ?_) | ((with_reducible refine run_probe ?_); refine runq_more ?_) | (with_reducible refine draw_nil ?_) | ((with_reducible refine draw_probe ?_); (first | refine drawq_more ?_ | refine drawq_as ?_)) | refine code_then ?_ | refine code_else ?_))
  refine back_tmp [[(b, tabO room la (unL l e.ahead e.next).length lc a4 (free ++ [i]).length cap4 r (hd pl' (-1)) (lst (-1) pl'))], C2, C4, C6] ?_
  exact ⟨rfl, la, lc, (unL l e.ahead e.next).set i ⟨[], v0, 0, 0⟩, a4, cap4, free ++ [i], mdel m k, pl', C2, C4, C6, ⟨by unfold OwnE; rw [List.length_set]; exact ho2, ho4, him6, hrep, hbig, by omega, by rw [List.length_set, hlu]; simp; omega, by rw [List.length_set, hlu]; exact hll⟩, by rw [List.length_set]⟩

end ops
end Go.Proofs.Ytjagaagemgppcaa

/- A table: its row, and all of it. Conditions: as each says. -/
set_option linter.unusedSimpArgs false
set_option linter.unusedVariables false
namespace Go.Proofs.Ytjagaagemgppcaa
open Go Go.Ost Go.Tab

theorem lk_at {V : Type} {l : List (En V)} {pre suf : List Nat} {i : Nat} (h : Lk l (-1) (pre ++ i :: suf) (-1)) : ∃ e, l[i]? = some e ∧ e.next = hd suf (-1) := by
  obtain ⟨_, ⟨e, h1, _, h3⟩, _⟩ := (lk_app l pre (i :: suf) (-1) (-1)).1 h
  exact ⟨e, h1, h3⟩
theorem ents_of {V : Type} {l : List (En V)} : ∀ (pl : List Nat) (es : List (List UInt8 × V)), pl.map (kv l) = es.map some → ∃ ents : List (En V), ents.length = pl.length ∧ (∀ (j i : Nat), pl[j]? = some i → l[i]? = ents[j]?) ∧ ents.map (fun e => (e.key, e.v)) = es
  | [], [], _ => ⟨[], rfl, fun j i h => by simp at h, rfl⟩
  | [], _ :: _, h => by cases h
  | _ :: _, [], h => by cases h
  | i :: pl, x :: es, h => by
    simp only [List.map_cons, List.cons.injEq] at h
    obtain ⟨ents, h1, h2, h3⟩ := ents_of pl es h.2
    have hk := h.1
    unfold kv at hk
    cases hl : l[i]? with
    | none => rw [hl] at hk; cases hk
    | some e =>
      rw [hl] at hk
      simp only [Option.map_some, Option.some.injEq] at hk
      refine ⟨e :: ents, by simp [h1], fun j k hj => ?_, by rw [List.map_cons, hk, h3]⟩
      cases j with
      | zero => simp at hj; subst hj; simpa using hl
      | succ j => simp at hj ⊢; exact h2 j k hj
theorem ents_el {V : Type} {ents : List (En V)} {es : List (List UInt8 × V)} (h : ents.map (fun e => (e.key, e.v)) = es) {j : Nat} {e : En V} (he : ents[j]? = some e) : es[j]? = some (e.key, e.v) := by
  rw [← h, List.getElem?_map, he]; rfl

abbrev tabB (b room : Nat) (la : Option Addr) (l : List (En V)) (lc : Nat) (fa : Option Addr) (free : List Nat) (fc r : Nat) (pl : List Nat) : Chunk :=
  [(b, tabO room la l.length lc fa free.length fc r (hd pl (-1)) (lst (-1) pl))]
abbrev entB (c : Nat) (e : En V) : Chunk := [(c, .cells (encE e).toArray 97 (0, 0))]

section all
variable {b room : Nat} {la : Option Addr} {lc : Nat} {l : List (En V)} {fa : Option Addr} {fc : Nat} {free : List Nat} {r : Nat} {m : List (List UInt8 × Nat)} {pl : List Nat} {es : List (List UInt8 × V)} {Cl Cf Cm : Chunk}

theorem trow_nil : Meets Try.prog 59 [.pointer none] [] fun v A => v = .slice none 0 0 ∧ A = [] := by
  refine spec_intro Try.func59 rfl (by kernel_rfl) (by rw [Try.ntmps59]; simp) fun F => ?_; rw [Try.ntmps59, Try.results59]
  (repeat (first | (with_reducible refine then_n ?_) | (with_reducible refine then_r ?_) | (with_reducible refine then_e ?_) | (with_reducible refine block_n ?_) | (with_reducible refine block_r ?_) | (with_reducible refine block_e ?_) | refine block_o ?_ | (with_reducible refine scope_n ?_) | (with_reducible refine scope_r ?_) | (with_reducible refine scope_e ?_) | (with_reducible refine code_seq ?_) | (with_reducible refine code_skip ?_) | (with_reducible refine code_label ?_) | (with_reducible refine code_block ?_) | (with_reducible refine code_scope ?_) | (with_reducible refine code_exit ?_) | (with_reducible refine code_ret ?_) | refine regq_to ?_ | (with_reducible refine run_nil ?_) | ((with_reducible refine run_probe ?_); refine runq_more ?_) | (with_reducible refine draw_nil ?_) | ((with_reducible refine draw_probe ?_); (first | refine drawq_more ?_ | refine drawq_as ?_)) | refine code_then ?_ | refine code_else ?_))
  refine back_tmp [] ?_; exact ⟨rfl, rfl⟩

theorem trow_spec (h : Lies4 room la lc l fa fc free r m pl es Cl Cf Cm) :
    Meets Try.prog 59 [.pointer (some ⟨b, 0, none⟩)] [tabB b room la l lc fa free fc r pl, Cl]
      fun v A => ∃ D a c, v = .slice a pl.length c ∧ OwnF D a c pl ∧ A = [D, tabB b room la l lc fa free fc r pl, Cl] := by
  have hs := encE_len
  have hol := h.ol
  have hbig := h.big
  have hpl := h.rep.pl_len
  have hfit := h.fits
  refine spec_intro Try.func59 rfl (by kernel_rfl) (by rw [Try.ntmps59]; simp) fun F => ?_; rw [Try.ntmps59, Try.results59]
  (repeat (first | (with_reducible refine then_n ?_) | (with_reducible refine then_r ?_) | (with_reducible refine then_e ?_) | (with_reducible refine block_n ?_) | (with_reducible refine block_r ?_) | (with_reducible refine block_e ?_) | refine block_o ?_ | (with_reducible refine scope_n ?_) | (with_reducible refine scope_r ?_) | (with_reducible refine scope_e ?_) | (with_reducible refine code_seq ?_) | (with_reducible refine code_skip ?_) | (with_reducible refine code_label ?_) | (with_reducible refine code_block ?_) | (with_reducible refine code_scope ?_) | (with_reducible refine code_exit ?_) | (with_reducible refine code_ret ?_) | refine regq_to ?_ | (with_reducible refine run_nil ?_) | ((with_reducible refine run_probe ?_); refine runq_more ?_) | (with_reducible refine draw_nil ?_) | ((with_reducible refine draw_probe ?_); (first | refine drawq_more ?_ | refine drawq_as ?_)) | refine code_then ?_ | refine code_else ?_))
  refine code_nil ?_
  refine loop_i (fun q D L S => ∃ (pre suf : List Nat) (X : Chunk) (xa : Option Addr) (xc : Nat), pl = pre ++ suf ∧ OwnF X xa xc pre ∧ q = suf.length ∧ D = [] ∧
    L = [(4, .int .i64 (hd suf (-1))), (3, .slice xa pre.length xc), (0, .pointer (some ⟨b, 0, none⟩))] ∧ S = [X, tabB b room la l lc fa free fc r pl, Cl, F])
    ⟨[], pl, [], none, 0, rfl, own_nil, rfl, rfl, rfl, rfl⟩ ?_
  rintro q D L S ⟨pre, suf, X, xa, xc, e0, hX, rfl, rfl, rfl, rfl⟩
  cases suf with
  | nil =>
    rw [List.append_nil] at e0
    subst e0
    simp only [hd]
    (repeat (first | (with_reducible refine then_n ?_) | (with_reducible refine then_r ?_) | (with_reducible refine then_e ?_) | (with_reducible refine block_n ?_) | (with_reducible refine block_r ?_) | (with_reducible refine block_e ?_) | refine block_o ?_ | (with_reducible refine scope_n ?_) | (with_reducible refine scope_r ?_) | (with_reducible refine scope_e ?_) | (with_reducible refine code_seq ?_) | (with_reducible refine code_skip ?_) | (with_reducible refine code_label ?_) | (with_reducible refine code_block ?_) | (with_reducible refine code_scope ?_) | (with_reducible refine code_exit ?_) | (with_reducible refine code_ret ?_) | refine regq_to ?_ | (with_reducible refine run_nil ?_) | ((with_reducible refine run_probe ?_); refine runq_more ?_) | (with_reducible refine draw_nil ?_) | ((with_reducible refine draw_probe ?_); (first | refine drawq_more ?_ | refine drawq_as ?_)) | refine code_then ?_ | refine code_else ?_))
    refine back_tmp [X, tabB b room la l lc fa free fc r pl, Cl] ⟨X, xa, xc, rfl, hX, rfl⟩
  | cons i suf =>
    obtain ⟨e, hx, hnext⟩ := lk_at (e0 ▸ h.rep.lk)
    have hi : i < l.length := (List.getElem?_eq_some_iff.1 hx).1
    have hlen : pre.length + 1 ≤ 4096 := by
      have := congrArg List.length e0
      rw [List.length_append, List.length_cons] at this
      omega
    simp only [hd]
    (repeat (first | (with_reducible refine then_n ?_) | (with_reducible refine then_r ?_) | (with_reducible refine then_e ?_) | (with_reducible refine block_n ?_) | (with_reducible refine block_r ?_) | (with_reducible refine block_e ?_) | refine block_o ?_ | (with_reducible refine scope_n ?_) | (with_reducible refine scope_r ?_) | (with_reducible refine scope_e ?_) | (with_reducible refine code_seq ?_) | (with_reducible refine code_skip ?_) | (with_reducible refine code_label ?_) | (with_reducible refine code_block ?_) | (with_reducible refine code_scope ?_) | (with_reducible refine code_exit ?_) | (with_reducible refine code_ret ?_) | refine regq_to ?_ | (with_reducible refine run_nil ?_) | ((with_reducible refine run_probe ?_); refine runq_more ?_) | (with_reducible refine draw_nil ?_) | ((with_reducible refine draw_probe ?_); (first | refine drawq_more ?_ | refine drawq_as ?_)) | refine code_then ?_ | refine code_else ?_))
    refine run_op fun K hK => ?_; refine build1 rfl [nat64 i] (by decide) rfl rfl (by simp [Value.cell1]) (fun b3 C3 ho3 => ?_); refine hK _ _ ?_; clear hK K
    refine run_op fun K hK => ?_; refine app1 rfl hX (.inr (by (repeat (first | with_reducible exact Pick.head _ _ | with_reducible apply Pick.tail)))) (ho3.rd (by (repeat (first | with_reducible assumption | with_reducible exact List.mem_cons_self .. | with_reducible apply List.mem_cons_of_mem)))) (by simp [Value.cell1]) (by omega) (by decide) (fun C4 a4 cap4 ho4 => ?_); refine hK _ _ ?_; clear hK K
    have e4 : pre.map nat64 ++ [nat64 i] = (pre ++ [i]).map nat64 := by simp
    have e5 : pre.length + 1 = (pre ++ [i]).length := by simp
    rw [e4, e5] at ho4
    rw [e5]
    (repeat (first | (with_reducible refine then_n ?_) | (with_reducible refine then_r ?_) | (with_reducible refine then_e ?_) | (with_reducible refine block_n ?_) | (with_reducible refine block_r ?_) | (with_reducible refine block_e ?_) | refine block_o ?_ | (with_reducible refine scope_n ?_) | (with_reducible refine scope_r ?_) | (with_reducible refine scope_e ?_) | (with_reducible refine code_seq ?_) | (with_reducible refine code_skip ?_) | (with_reducible refine code_label ?_) | (with_reducible refine code_block ?_) | (with_reducible refine code_scope ?_) | (with_reducible refine code_exit ?_) | (with_reducible refine code_ret ?_) | refine regq_to ?_ | (with_reducible refine run_nil ?_) | ((with_reducible refine run_probe ?_); refine runq_more ?_) | (with_reducible refine draw_nil ?_) | ((with_reducible refine draw_probe ?_); (first | refine drawq_more ?_ | refine drawq_as ?_)) | refine code_then ?_ | refine code_else ?_))
    rw [hnext]
    exact again ⟨pre ++ [i], suf, C4, a4, cap4, by rw [e0]; simp, ho4, rfl, rfl, rfl, rfl⟩ (hm := by simp)

/-- What is told of all entries. -/
def encX (x : List UInt8 × V) : List Value := [.string (str x.1), valV x.2]
abbrev NextX (es pre : List (List UInt8 × V)) (x : List UInt8 × V) : Prop := ∃ suf, es = pre ++ x :: suf

set_option maxHeartbeats 1000000 in
theorem all_iter (c : Nat) (b room : Nat) (es : List (List UInt8 × V)) :
    IMeetsG Try.prog 58 [] [.pointer (some ⟨c, 0, none⟩)] encX [bx c (.pointer (some ⟨b, 0, none⟩)) 59]
      (fun T => IsTab T b room es) noH noH noH (NextX es) (fun pre => pre = es)
      (fun _ A => A = [bx c (.pointer (some ⟨b, 0, none⟩)) 59]) (fun _ A => A = [bx c (.pointer (some ⟨b, 0, none⟩)) 59]) false := by
  refine iter_introG (by kernel_rfl) fun l0 J Jx hN hT hY C hC => ?_
  obtain ⟨T, R, ⟨la, lc, l, fa, fc, free, r, m, pl, Cl, Cf, Cm, h, hTC⟩, hperm⟩ := hT C hC
  have hs := encE_len
  have hol := h.ol
  have hbig := h.big
  have hpl := h.rep.pl_len
  have hfit := h.fits
  obtain ⟨ents, en1, en2, en3⟩ := ents_of pl es h.rep.row
  refine spec_intro Try.func58 rfl (by kernel_rfl) (by rw [Try.ntmps58]; simp) fun F => ?_; rw [Try.ntmps58, Try.results58]
  have hp0 : [F, C, bx c (.pointer (some ⟨b, 0, none⟩)) 59].flatten.Perm [F, tabB b room la l lc fa free fc r pl, Cl, Cf, Cm, R, bx c (.pointer (some ⟨b, 0, none⟩)) 59].flatten := by
    simp only [List.flatten_cons, List.flatten_nil, List.append_nil]
    refine List.Perm.append_left F ?_
    have h2 := (hTC ▸ hperm).append_right (bx c (.pointer (some ⟨b, 0, none⟩)) 59)
    simpa only [List.append_assoc] using h2
  refine code_perm hp0 ?_
  (repeat (first | (with_reducible refine then_n ?_) | (with_reducible refine then_r ?_) | (with_reducible refine then_e ?_) | (with_reducible refine block_n ?_) | (with_reducible refine block_r ?_) | (with_reducible refine block_e ?_) | refine block_o ?_ | (with_reducible refine scope_n ?_) | (with_reducible refine scope_r ?_) | (with_reducible refine scope_e ?_) | (with_reducible refine code_seq ?_) | (with_reducible refine code_skip ?_) | (with_reducible refine code_label ?_) | (with_reducible refine code_block ?_) | (with_reducible refine code_scope ?_) | (with_reducible refine code_exit ?_) | (with_reducible refine code_ret ?_) | refine regq_to ?_ | (with_reducible refine run_nil ?_) | ((with_reducible refine run_probe ?_); refine runq_more ?_) | (with_reducible refine draw_nil ?_) | ((with_reducible refine draw_probe ?_); (first | refine drawq_more ?_ | refine drawq_as ?_)) | refine code_then ?_ | refine code_else ?_))
  refine run_op fun K hK => ?_; refine calls_to (trow_spec h) ?_; rintro v A ⟨D1, a1, c1, rfl, ho1, rfl⟩; (try simp only [List.nil_append, List.cons_append]); refine hK _ _ ?_; clear hK K; (repeat (first | (with_reducible refine then_n ?_) | (with_reducible refine then_r ?_) | (with_reducible refine then_e ?_) | (with_reducible refine block_n ?_) | (with_reducible refine block_r ?_) | (with_reducible refine block_e ?_) | refine block_o ?_ | (with_reducible refine scope_n ?_) | (with_reducible refine scope_r ?_) | (with_reducible refine scope_e ?_) | (with_reducible refine code_seq ?_) | (with_reducible refine code_skip ?_) | (with_reducible refine code_label ?_) | (with_reducible refine code_block ?_) | (with_reducible refine code_scope ?_) | (with_reducible refine code_exit ?_) | (with_reducible refine code_ret ?_) | refine regq_to ?_ | (with_reducible refine run_nil ?_) | ((with_reducible refine run_probe ?_); refine runq_more ?_) | (with_reducible refine draw_nil ?_) | ((with_reducible refine draw_probe ?_); (first | refine drawq_more ?_ | refine drawq_as ?_)) | refine code_then ?_ | refine code_else ?_))
  refine code_nil ?_
  refine loop_i (fun q D L S => ∃ (j : Nat) (X : Chunk) (xa : Option Addr) (xc : Nat), j ≤ pl.length ∧ Ost.Own 7 97 X xa j xc ((ents.take j).flatMap encE) ∧ q = pl.length - j ∧ D = [] ∧
    L = [(11, .int .i64 j), (10, .int .i64 pl.length), (9, .slice a1 pl.length c1), (3, .slice xa j xc), (0, .func (.yield l0) #[] #[]), (1, .pointer (some ⟨c, 0, none⟩))] ∧
    S = [X, D1, F, tabB b room la l lc fa free fc r pl, Cl, Cf, Cm, R, bx c (.pointer (some ⟨b, 0, none⟩)) 59])
    ⟨0, [], none, 0, by omega, own_nil, rfl, rfl, rfl, rfl⟩ ?_
  rintro q D L S ⟨j, X, xa, xc, hj, hX, rfl, rfl, rfl, rfl⟩
  (repeat (first | (with_reducible refine then_n ?_) | (with_reducible refine then_r ?_) | (with_reducible refine then_e ?_) | (with_reducible refine block_n ?_) | (with_reducible refine block_r ?_) | (with_reducible refine block_e ?_) | refine block_o ?_ | (with_reducible refine scope_n ?_) | (with_reducible refine scope_r ?_) | (with_reducible refine scope_e ?_) | (with_reducible refine code_seq ?_) | (with_reducible refine code_skip ?_) | (with_reducible refine code_label ?_) | (with_reducible refine code_block ?_) | (with_reducible refine code_scope ?_) | (with_reducible refine code_exit ?_) | (with_reducible refine code_ret ?_) | refine regq_to ?_ | (with_reducible refine run_nil ?_) | ((with_reducible refine run_probe ?_); refine runq_more ?_) | (with_reducible refine draw_nil ?_) | ((with_reducible refine draw_probe ?_); (first | refine drawq_more ?_ | refine drawq_as ?_)) | refine code_then ?_ | refine code_else ?_))
  refine if_d (fun hc => ?_) (fun hc => ?_)
  · have hjp : j < pl.length := by omega
    have hpj : pl[j]? = some pl[j] := List.getElem?_eq_getElem hjp
    have hus : (pl.map nat64)[j]? = some (nat64 pl[j]) := by rw [List.getElem?_map, hpj]; rfl
    have hx := en2 j _ hpj
    have hej : ents[j]? = some ents[j] := List.getElem?_eq_getElem (by omega)
    rw [hej] at hx
    have hi : pl[j] < l.length := (List.getElem?_eq_some_iff.1 hx).1
    generalize pl[j] = i at *
    (repeat (first | (with_reducible refine then_n ?_) | (with_reducible refine then_r ?_) | (with_reducible refine then_e ?_) | (with_reducible refine block_n ?_) | (with_reducible refine block_r ?_) | (with_reducible refine block_e ?_) | refine block_o ?_ | (with_reducible refine scope_n ?_) | (with_reducible refine scope_r ?_) | (with_reducible refine scope_e ?_) | (with_reducible refine code_seq ?_) | (with_reducible refine code_skip ?_) | (with_reducible refine code_label ?_) | (with_reducible refine code_block ?_) | (with_reducible refine code_scope ?_) | (with_reducible refine code_exit ?_) | (with_reducible refine code_ret ?_) | refine regq_to ?_ | (with_reducible refine run_nil ?_) | ((with_reducible refine run_probe ?_); refine runq_more ?_) | (with_reducible refine draw_nil ?_) | ((with_reducible refine draw_probe ?_); (first | refine drawq_more ?_ | refine drawq_as ?_)) | refine code_then ?_ | refine code_else ?_))
    refine run_op fun K hK => ?_; refine load_el_agg hol hs hx (by decide) (by (repeat (first | with_reducible assumption | with_reducible exact List.mem_cons_self .. | with_reducible apply List.mem_cons_of_mem))) ?_; refine hK _ _ ?_; clear hK K
    refine run_op fun K hK => ?_; refine build_el1 (e := 97) (s := 7) (hs := inferInstance) (vs := encE ents[j]) (by rfl) (by decide) (by decide) rfl (fun b2 C2 ho2 => ?_); refine hK _ _ ?_; clear hK K
    refine run_op fun K hK => ?_; refine append_own (e := 97) (s := 7) (hs := inferInstance) (by rfl) (by decide) hX (.inr (by (repeat (first | with_reducible exact Pick.head _ _ | with_reducible apply Pick.tail)))) (ho2.rd (by (repeat (first | with_reducible assumption | with_reducible exact List.mem_cons_self .. | with_reducible apply List.mem_cons_of_mem)))) (cell_E _) (by simp only [maxLen]; omega) (by omega) (fun C3 a3 cap3 ho3 => ?_); refine hK _ _ ?_; clear hK K
    have e3 : (ents.take j).flatMap encE ++ encE ents[j] = (ents.take (j + 1)).flatMap encE := by
      rw [List.take_succ_eq_append_getElem (by omega), List.flatMap_append]; simp
    rw [e3] at ho3
    (repeat (first | (with_reducible refine then_n ?_) | (with_reducible refine then_r ?_) | (with_reducible refine then_e ?_) | (with_reducible refine block_n ?_) | (with_reducible refine block_r ?_) | (with_reducible refine block_e ?_) | refine block_o ?_ | (with_reducible refine scope_n ?_) | (with_reducible refine scope_r ?_) | (with_reducible refine scope_e ?_) | (with_reducible refine code_seq ?_) | (with_reducible refine code_skip ?_) | (with_reducible refine code_label ?_) | (with_reducible refine code_block ?_) | (with_reducible refine code_scope ?_) | (with_reducible refine code_exit ?_) | (with_reducible refine code_ret ?_) | refine regq_to ?_ | (with_reducible refine run_nil ?_) | ((with_reducible refine run_probe ?_); refine runq_more ?_) | (with_reducible refine draw_nil ?_) | ((with_reducible refine draw_probe ?_); (first | refine drawq_more ?_ | refine drawq_as ?_)) | refine code_then ?_ | refine code_else ?_))
    exact again ⟨j + 1, C3, a3, cap3, by omega, ho3, rfl, rfl, rfl, rfl⟩
  · obtain rfl : j = pl.length := by omega
    rw [List.take_of_length_le (by omega)] at hX
    have hX2 : OwnE X xa xc ents := by unfold OwnE; rw [en1]; exact hX
    rw [← en1]
    (repeat (first | (with_reducible refine then_n ?_) | (with_reducible refine then_r ?_) | (with_reducible refine then_e ?_) | (with_reducible refine block_n ?_) | (with_reducible refine block_r ?_) | (with_reducible refine block_e ?_) | refine block_o ?_ | (with_reducible refine scope_n ?_) | (with_reducible refine scope_r ?_) | (with_reducible refine scope_e ?_) | (with_reducible refine code_seq ?_) | (with_reducible refine code_skip ?_) | (with_reducible refine code_label ?_) | (with_reducible refine code_block ?_) | (with_reducible refine code_scope ?_) | (with_reducible refine code_exit ?_) | (with_reducible refine code_ret ?_) | refine regq_to ?_ | (with_reducible refine run_nil ?_) | ((with_reducible refine run_probe ?_); refine runq_more ?_) | (with_reducible refine draw_nil ?_) | ((with_reducible refine draw_probe ?_); (first | refine drawq_more ?_ | refine drawq_as ?_)) | refine code_then ?_ | refine code_else ?_))
    refine code_perm (S' := [X, C, F, bx c (.pointer (some ⟨b, 0, none⟩)) 59, D1]) ?_ ?_
    · simp only [List.flatten_cons, List.flatten_nil, List.append_nil] at hp0 ⊢
      have h2 : (D1 ++ (F ++ (tabB b room la l lc fa free fc r pl ++ (Cl ++ (Cf ++ (Cm ++ (R ++ bx c (.pointer (some ⟨b, 0, none⟩)) 59))))))).Perm (C ++ (F ++ (bx c (.pointer (some ⟨b, 0, none⟩)) 59 ++ D1))) := by
        refine (List.Perm.append_left D1 hp0.symm).trans ?_
        refine List.perm_append_comm.trans ?_
        rw [← List.append_assoc C, ← List.append_assoc, ← List.append_assoc]
        refine List.Perm.append_right _ ?_
        rw [List.append_assoc, List.append_assoc]
        have : (F ++ (C ++ bx c (.pointer (some ⟨b, 0, none⟩)) 59)).Perm (C ++ (F ++ bx c (.pointer (some ⟨b, 0, none⟩)) 59)) := by
          rw [← List.append_assoc, ← List.append_assoc]; exact List.Perm.append_right _ List.perm_append_comm
        simpa only [List.append_assoc] using this
      exact List.Perm.append_left X h2
    refine loop_i (fun q D L S => ∃ (j : Nat) (C : Chunk), j ≤ ents.length ∧ J (es.take j) C ∧ q = ents.length - j ∧ D = [] ∧
      L = [(28, .int .i64 j), (27, .int .i64 ents.length), (26, .slice xa ents.length xc), (0, .func (.yield l0) #[] #[]), (1, .pointer (some ⟨c, 0, none⟩))] ∧
      S = [X, C, F, bx c (.pointer (some ⟨b, 0, none⟩)) 59])
      ⟨0, C, by omega, hC, rfl, rfl, rfl, rfl⟩ ?_
    rintro q D L S ⟨j, C', hj, hJ, rfl, rfl, rfl, rfl⟩
    (repeat (first | (with_reducible refine then_n ?_) | (with_reducible refine then_r ?_) | (with_reducible refine then_e ?_) | (with_reducible refine block_n ?_) | (with_reducible refine block_r ?_) | (with_reducible refine block_e ?_) | refine block_o ?_ | (with_reducible refine scope_n ?_) | (with_reducible refine scope_r ?_) | (with_reducible refine scope_e ?_) | (with_reducible refine code_seq ?_) | (with_reducible refine code_skip ?_) | (with_reducible refine code_label ?_) | (with_reducible refine code_block ?_) | (with_reducible refine code_scope ?_) | (with_reducible refine code_exit ?_) | (with_reducible refine code_ret ?_) | refine regq_to ?_ | (with_reducible refine run_nil ?_) | ((with_reducible refine run_probe ?_); refine runq_more ?_) | (with_reducible refine draw_nil ?_) | ((with_reducible refine draw_probe ?_); (first | refine drawq_more ?_ | refine drawq_as ?_)) | refine code_then ?_ | refine code_else ?_))
    refine if_d (fun hc => ?_) (fun hc => ?_)
    · have hje : j < ents.length := by omega
      have hx : ents[j]? = some ents[j] := List.getElem?_eq_getElem hje
      have hjs : j < es.length := by omega
      have hee : es[j] = (ents[j].key, ents[j].v) := by
        have := ents_el en3 hx
        rw [List.getElem?_eq_getElem hjs] at this
        exact Option.some.inj this
      have hnx : NextX es (es.take j) (ents[j].key, ents[j].v) := ⟨es.drop (j + 1), by rw [← hee, ← List.drop_eq_getElem_cons, List.take_append_drop]⟩
      have htk : es.take j ++ [(ents[j].key, ents[j].v)] = es.take (j + 1) := by rw [List.take_succ_eq_append_getElem hjs, hee]
      have hY' := hY _ _ hnx
      rw [htk] at hY'
      (repeat (first | (with_reducible refine then_n ?_) | (with_reducible refine then_r ?_) | (with_reducible refine then_e ?_) | (with_reducible refine block_n ?_) | (with_reducible refine block_r ?_) | (with_reducible refine block_e ?_) | refine block_o ?_ | (with_reducible refine scope_n ?_) | (with_reducible refine scope_r ?_) | (with_reducible refine scope_e ?_) | (with_reducible refine code_seq ?_) | (with_reducible refine code_skip ?_) | (with_reducible refine code_label ?_) | (with_reducible refine code_block ?_) | (with_reducible refine code_scope ?_) | (with_reducible refine code_exit ?_) | (with_reducible refine code_ret ?_) | refine regq_to ?_ | (with_reducible refine run_nil ?_) | ((with_reducible refine run_probe ?_); refine runq_more ?_) | (with_reducible refine draw_nil ?_) | ((with_reducible refine draw_probe ?_); (first | refine drawq_more ?_ | refine drawq_as ?_)) | refine code_then ?_ | refine code_else ?_))
      refine run_op fun K hK => ?_; refine load_el_agg hX2 hs hx (by decide) (by (repeat (first | with_reducible assumption | with_reducible exact List.mem_cons_self .. | with_reducible apply List.mem_cons_of_mem))) ?_; refine hK _ _ ?_; clear hK K
      refine run_op fun K hK => ?_; refine alloc_new fun b7 => ?_; (try simp only [Value.cells]); refine hK _ _ ?_; clear hK K
      refine run_op fun K hK => ?_; refine store_all rfl (cell_E _) (by (repeat (first | with_reducible exact Upd.one | with_reducible apply Upd.next))) (by rfl) ?_; refine hK _ _ ?_; clear hK K
      (repeat (first | (with_reducible refine then_n ?_) | (with_reducible refine then_r ?_) | (with_reducible refine then_e ?_) | (with_reducible refine block_n ?_) | (with_reducible refine block_r ?_) | (with_reducible refine block_e ?_) | refine block_o ?_ | (with_reducible refine scope_n ?_) | (with_reducible refine scope_r ?_) | (with_reducible refine scope_e ?_) | (with_reducible refine code_seq ?_) | (with_reducible refine code_skip ?_) | (with_reducible refine code_label ?_) | (with_reducible refine code_block ?_) | (with_reducible refine code_scope ?_) | (with_reducible refine code_exit ?_) | (with_reducible refine code_ret ?_) | refine regq_to ?_ | (with_reducible refine run_nil ?_) | ((with_reducible refine run_probe ?_); refine runq_more ?_) | (with_reducible refine draw_nil ?_) | ((with_reducible refine draw_probe ?_); (first | refine drawq_more ?_ | refine drawq_as ?_)) | refine code_then ?_ | refine code_else ?_))
      refine run_op fun K hK => ?_; refine load_sub (vs := encE ents[j]) (ws := encV ents[j].v) (by (repeat (first | with_reducible exact Lies.one | with_reducible apply Lies.next))) (by simp [encE, encV]) rfl ?_; refine hK _ _ ?_; clear hK K
      (repeat (first | (with_reducible refine then_n ?_) | (with_reducible refine then_r ?_) | (with_reducible refine then_e ?_) | (with_reducible refine block_n ?_) | (with_reducible refine block_r ?_) | (with_reducible refine block_e ?_) | refine block_o ?_ | (with_reducible refine scope_n ?_) | (with_reducible refine scope_r ?_) | (with_reducible refine scope_e ?_) | (with_reducible refine code_seq ?_) | (with_reducible refine code_skip ?_) | (with_reducible refine code_label ?_) | (with_reducible refine code_block ?_) | (with_reducible refine code_scope ?_) | (with_reducible refine code_exit ?_) | (with_reducible refine code_ret ?_) | refine regq_to ?_ | (with_reducible refine run_nil ?_) | ((with_reducible refine run_probe ?_); refine runq_more ?_) | (with_reducible refine draw_nil ?_) | ((with_reducible refine draw_probe ?_); (first | refine drawq_more ?_ | refine drawq_as ?_)) | refine code_then ?_ | refine code_else ?_))
      refine run_op fun K hK => ?_
      refine yield_meetsG hY' hJ rfl (by (repeat (first | with_reducible exact Take.nil _ | with_reducible exact Pick.head _ _ | with_reducible apply Pick.tail | with_reducible apply Take.cons))) (fun C4 H4 hJ4 hH4 => ?_) (fun C4 H4 hJ4 hH4 => ?_)
      · subst hH4
        (try simp only [List.nil_append])
        refine hK _ _ ?_; clear hK K
        (repeat (first | (with_reducible refine then_n ?_) | (with_reducible refine then_r ?_) | (with_reducible refine then_e ?_) | (with_reducible refine block_n ?_) | (with_reducible refine block_r ?_) | (with_reducible refine block_e ?_) | refine block_o ?_ | (with_reducible refine scope_n ?_) | (with_reducible refine scope_r ?_) | (with_reducible refine scope_e ?_) | (with_reducible refine code_seq ?_) | (with_reducible refine code_skip ?_) | (with_reducible refine code_label ?_) | (with_reducible refine code_block ?_) | (with_reducible refine code_scope ?_) | (with_reducible refine code_exit ?_) | (with_reducible refine code_ret ?_) | refine regq_to ?_ | (with_reducible refine run_nil ?_) | ((with_reducible refine run_probe ?_); refine runq_more ?_) | (with_reducible refine draw_nil ?_) | ((with_reducible refine draw_probe ?_); (first | refine drawq_more ?_ | refine drawq_as ?_)) | refine code_then ?_ | refine code_else ?_))
        exact again ⟨j + 1, C4, by omega, hJ4, rfl, rfl, rfl, rfl⟩
      · subst hH4
        (try simp only [List.nil_append])
        refine hK _ _ ?_; clear hK K
        (repeat (first | (with_reducible refine then_n ?_) | (with_reducible refine then_r ?_) | (with_reducible refine then_e ?_) | (with_reducible refine block_n ?_) | (with_reducible refine block_r ?_) | (with_reducible refine block_e ?_) | refine block_o ?_ | (with_reducible refine scope_n ?_) | (with_reducible refine scope_r ?_) | (with_reducible refine scope_e ?_) | (with_reducible refine code_seq ?_) | (with_reducible refine code_skip ?_) | (with_reducible refine code_label ?_) | (with_reducible refine code_block ?_) | (with_reducible refine code_scope ?_) | (with_reducible refine code_exit ?_) | (with_reducible refine code_ret ?_) | refine regq_to ?_ | (with_reducible refine run_nil ?_) | ((with_reducible refine run_probe ?_); refine runq_more ?_) | (with_reducible refine draw_nil ?_) | ((with_reducible refine draw_probe ?_); (first | refine drawq_more ?_ | refine drawq_as ?_)) | refine code_then ?_ | refine code_else ?_))
        exact back_none [C4, bx c (.pointer (some ⟨b, 0, none⟩)) 59] ⟨C4, [bx c (.pointer (some ⟨b, 0, none⟩)) 59], rfl, .inr ⟨_, _, hnx, by rw [htk]; exact hJ4, rfl⟩⟩
    · obtain rfl : j = ents.length := by omega
      rw [List.take_of_length_le (by omega)] at hJ
      (repeat (first | (with_reducible refine then_n ?_) | (with_reducible refine then_r ?_) | (with_reducible refine then_e ?_) | (with_reducible refine block_n ?_) | (with_reducible refine block_r ?_) | (with_reducible refine block_e ?_) | refine block_o ?_ | (with_reducible refine scope_n ?_) | (with_reducible refine scope_r ?_) | (with_reducible refine scope_e ?_) | (with_reducible refine code_seq ?_) | (with_reducible refine code_skip ?_) | (with_reducible refine code_label ?_) | (with_reducible refine code_block ?_) | (with_reducible refine code_scope ?_) | (with_reducible refine code_exit ?_) | (with_reducible refine code_ret ?_) | refine regq_to ?_ | (with_reducible refine run_nil ?_) | ((with_reducible refine run_probe ?_); refine runq_more ?_) | (with_reducible refine draw_nil ?_) | ((with_reducible refine draw_probe ?_); (first | refine drawq_more ?_ | refine drawq_as ?_)) | refine code_then ?_ | refine code_else ?_))
      exact back_none_n [C', bx c (.pointer (some ⟨b, 0, none⟩)) 59] ⟨C', [bx c (.pointer (some ⟨b, 0, none⟩)) 59], rfl, .inl ⟨es, rfl, hJ, rfl⟩⟩

theorem all_iter_nil (c : Nat) :
    IMeetsG Try.prog 58 [] [.pointer (some ⟨c, 0, none⟩)] encX [bx c (.pointer none) 59]
      (fun T => T = []) noH noH noH (fun _ _ => False) (fun pre => pre = [])
      (fun _ A => A = [bx c (.pointer none) 59]) (fun _ A => A = [bx c (.pointer none) 59]) false := by
  refine iter_introG (by kernel_rfl) fun l0 J Jx hN hT hY C hC => ?_
  refine spec_intro Try.func58 rfl (by kernel_rfl) (by rw [Try.ntmps58]; simp) fun F => ?_; rw [Try.ntmps58, Try.results58]
  (repeat (first | (with_reducible refine then_n ?_) | (with_reducible refine then_r ?_) | (with_reducible refine then_e ?_) | (with_reducible refine block_n ?_) | (with_reducible refine block_r ?_) | (with_reducible refine block_e ?_) | refine block_o ?_ | (with_reducible refine scope_n ?_) | (with_reducible refine scope_r ?_) | (with_reducible refine scope_e ?_) | (with_reducible refine code_seq ?_) | (with_reducible refine code_skip ?_) | (with_reducible refine code_label ?_) | (with_reducible refine code_block ?_) | (with_reducible refine code_scope ?_) | (with_reducible refine code_exit ?_) | (with_reducible refine code_ret ?_) | refine regq_to ?_ | (with_reducible refine run_nil ?_) | ((with_reducible refine run_probe ?_); refine runq_more ?_) | (with_reducible refine draw_nil ?_) | ((with_reducible refine draw_probe ?_); (first | refine drawq_more ?_ | refine drawq_as ?_)) | refine code_then ?_ | refine code_else ?_))
  refine run_op fun K hK => ?_; refine calls_to (trow_nil) ?_; rintro v A ⟨rfl, rfl⟩; (try simp only [List.nil_append, List.cons_append]); refine hK _ _ ?_; clear hK K; (repeat (first | (with_reducible refine then_n ?_) | (with_reducible refine then_r ?_) | (with_reducible refine then_e ?_) | (with_reducible refine block_n ?_) | (with_reducible refine block_r ?_) | (with_reducible refine block_e ?_) | refine block_o ?_ | (with_reducible refine scope_n ?_) | (with_reducible refine scope_r ?_) | (with_reducible refine scope_e ?_) | (with_reducible refine code_seq ?_) | (with_reducible refine code_skip ?_) | (with_reducible refine code_label ?_) | (with_reducible refine code_block ?_) | (with_reducible refine code_scope ?_) | (with_reducible refine code_exit ?_) | (with_reducible refine code_ret ?_) | refine regq_to ?_ | (with_reducible refine run_nil ?_) | ((with_reducible refine run_probe ?_); refine runq_more ?_) | (with_reducible refine draw_nil ?_) | ((with_reducible refine draw_probe ?_); (first | refine drawq_more ?_ | refine drawq_as ?_)) | refine code_then ?_ | refine code_else ?_))
  refine loop_i (fun q D L S => q = 0 ∧ D = [] ∧ L = [(11, .int .i64 0), (10, .int .i64 0), (3, .slice none 0 0)] ∧ S = [C, F, bx c (.pointer none) 59]) ⟨rfl, rfl, rfl, rfl⟩ ?_
  rintro q D L S ⟨rfl, rfl, rfl, rfl⟩
  (repeat (first | (with_reducible refine then_n ?_) | (with_reducible refine then_r ?_) | (with_reducible refine then_e ?_) | (with_reducible refine block_n ?_) | (with_reducible refine block_r ?_) | (with_reducible refine block_e ?_) | refine block_o ?_ | (with_reducible refine scope_n ?_) | (with_reducible refine scope_r ?_) | (with_reducible refine scope_e ?_) | (with_reducible refine code_seq ?_) | (with_reducible refine code_skip ?_) | (with_reducible refine code_label ?_) | (with_reducible refine code_block ?_) | (with_reducible refine code_scope ?_) | (with_reducible refine code_exit ?_) | (with_reducible refine code_ret ?_) | refine regq_to ?_ | (with_reducible refine run_nil ?_) | ((with_reducible refine run_probe ?_); refine runq_more ?_) | (with_reducible refine draw_nil ?_) | ((with_reducible refine draw_probe ?_); (first | refine drawq_more ?_ | refine drawq_as ?_)) | refine code_then ?_ | refine code_else ?_))
  refine loop_i (fun q D L S => q = 0 ∧ D = [] ∧ L = [(28, .int .i64 0), (27, .int .i64 0)] ∧ S = [C, F, bx c (.pointer none) 59]) ⟨rfl, rfl, rfl, rfl⟩ ?_
  rintro q D L S ⟨rfl, rfl, rfl, rfl⟩
  (repeat (first | (with_reducible refine then_n ?_) | (with_reducible refine then_r ?_) | (with_reducible refine then_e ?_) | (with_reducible refine block_n ?_) | (with_reducible refine block_r ?_) | (with_reducible refine block_e ?_) | refine block_o ?_ | (with_reducible refine scope_n ?_) | (with_reducible refine scope_r ?_) | (with_reducible refine scope_e ?_) | (with_reducible refine code_seq ?_) | (with_reducible refine code_skip ?_) | (with_reducible refine code_label ?_) | (with_reducible refine code_block ?_) | (with_reducible refine code_scope ?_) | (with_reducible refine code_exit ?_) | (with_reducible refine code_ret ?_) | refine regq_to ?_ | (with_reducible refine run_nil ?_) | ((with_reducible refine run_probe ?_); refine runq_more ?_) | (with_reducible refine draw_nil ?_) | ((with_reducible refine draw_probe ?_); (first | refine drawq_more ?_ | refine drawq_as ?_)) | refine code_then ?_ | refine code_else ?_))
  exact back_none_n [C, bx c (.pointer none) 59] ⟨C, [bx c (.pointer none) 59], rfl, .inl ⟨[], rfl, hC, rfl⟩⟩

theorem all_spec (p : Option Addr) : Meets Try.prog 56 [.pointer p] []
    fun u A => ∃ c, u = .func (.func 58) #[] #[.pointer (some ⟨c, 0, none⟩)] ∧ A = [bx c (.pointer p) 59] := by
  refine spec_intro Try.func56 rfl (by kernel_rfl) (by rw [Try.ntmps56]; simp) fun F => ?_; rw [Try.ntmps56, Try.results56]
  (repeat (first | (with_reducible refine then_n ?_) | (with_reducible refine then_r ?_) | (with_reducible refine then_e ?_) | (with_reducible refine block_n ?_) | (with_reducible refine block_r ?_) | (with_reducible refine block_e ?_) | refine block_o ?_ | (with_reducible refine scope_n ?_) | (with_reducible refine scope_r ?_) | (with_reducible refine scope_e ?_) | (with_reducible refine code_seq ?_) | (with_reducible refine code_skip ?_) | (with_reducible refine code_label ?_) | (with_reducible refine code_block ?_) | (with_reducible refine code_scope ?_) | (with_reducible refine code_exit ?_) | (with_reducible refine code_ret ?_) | refine regq_to ?_ | (with_reducible refine run_nil ?_) | ((with_reducible refine run_probe ?_); refine runq_more ?_) | (with_reducible refine draw_nil ?_) | ((with_reducible refine draw_probe ?_); (first | refine drawq_more ?_ | refine drawq_as ?_)) | refine code_then ?_ | refine code_else ?_))
  refine run_op fun K hK => ?_; refine box_new fun p1 => ?_; (try simp only [Value.cells]); refine hK _ _ ?_; clear hK K
  (repeat (first | (with_reducible refine then_n ?_) | (with_reducible refine then_r ?_) | (with_reducible refine then_e ?_) | (with_reducible refine block_n ?_) | (with_reducible refine block_r ?_) | (with_reducible refine block_e ?_) | refine block_o ?_ | (with_reducible refine scope_n ?_) | (with_reducible refine scope_r ?_) | (with_reducible refine scope_e ?_) | (with_reducible refine code_seq ?_) | (with_reducible refine code_skip ?_) | (with_reducible refine code_label ?_) | (with_reducible refine code_block ?_) | (with_reducible refine code_scope ?_) | (with_reducible refine code_exit ?_) | (with_reducible refine code_ret ?_) | refine regq_to ?_ | (with_reducible refine run_nil ?_) | ((with_reducible refine run_probe ?_); refine runq_more ?_) | (with_reducible refine draw_nil ?_) | ((with_reducible refine draw_probe ?_); (first | refine drawq_more ?_ | refine drawq_as ?_)) | refine code_then ?_ | refine code_else ?_))
  refine back_tmp [bx p1 (.pointer p) 59] ⟨p1, rfl, rfl⟩

end all
end Go.Proofs.Ytjagaagemgppcaa

/- A table: a new one, calls on one chunk, those that go. Conditions: as each says. -/
set_option linter.unusedSimpArgs false
set_option linter.unusedVariables false
namespace Go.Proofs.Ytjagaagemgppcaa
open Go Go.Ost Go.Tab

instance : TPlaces Try.prog 88 [(0, 1), (1, 1), (2, 1), (3, 1), (4, 1), (5, 1)] := ⟨by kernel_rfl⟩

theorem new_no (room : Int) (h : ¬ (1 ≤ room ∧ room ≤ 4096)) : Meets Try.prog 24 [.int .i64 room] [] fun v A => v = .tuple #[.pointer none, .int .i64 1] ∧ A = [] := by
  refine spec_intro Try.func24 rfl (by kernel_rfl) (by rw [Try.ntmps24]; simp) fun F => ?_; rw [Try.ntmps24, Try.results24]
  (repeat (first | (with_reducible refine then_n ?_) | (with_reducible refine then_r ?_) | (with_reducible refine then_e ?_) | (with_reducible refine block_n ?_) | (with_reducible refine block_r ?_) | (with_reducible refine block_e ?_) | refine block_o ?_ | (with_reducible refine scope_n ?_) | (with_reducible refine scope_r ?_) | (with_reducible refine scope_e ?_) | (with_reducible refine code_seq ?_) | (with_reducible refine code_skip ?_) | (with_reducible refine code_label ?_) | (with_reducible refine code_block ?_) | (with_reducible refine code_scope ?_) | (with_reducible refine code_exit ?_) | (with_reducible refine code_ret ?_) | refine regq_to ?_ | (with_reducible refine run_nil ?_) | ((with_reducible refine run_probe ?_); refine runq_more ?_) | (with_reducible refine draw_nil ?_) | ((with_reducible refine draw_probe ?_); (first | refine drawq_more ?_ | refine drawq_as ?_)) | refine code_then ?_ | refine code_else ?_))
  by_cases h1 : room < 1
  · rw [decide_eq_true h1]
    (repeat (first | (with_reducible refine then_n ?_) | (with_reducible refine then_r ?_) | (with_reducible refine then_e ?_) | (with_reducible refine block_n ?_) | (with_reducible refine block_r ?_) | (with_reducible refine block_e ?_) | refine block_o ?_ | (with_reducible refine scope_n ?_) | (with_reducible refine scope_r ?_) | (with_reducible refine scope_e ?_) | (with_reducible refine code_seq ?_) | (with_reducible refine code_skip ?_) | (with_reducible refine code_label ?_) | (with_reducible refine code_block ?_) | (with_reducible refine code_scope ?_) | (with_reducible refine code_exit ?_) | (with_reducible refine code_ret ?_) | refine regq_to ?_ | (with_reducible refine run_nil ?_) | ((with_reducible refine run_probe ?_); refine runq_more ?_) | (with_reducible refine draw_nil ?_) | ((with_reducible refine draw_probe ?_); (first | refine drawq_more ?_ | refine drawq_as ?_)) | refine code_then ?_ | refine code_else ?_))
    refine back_cells [] ?_; exact ⟨rfl, rfl⟩
  · rw [decide_eq_false h1]
    (repeat (first | (with_reducible refine then_n ?_) | (with_reducible refine then_r ?_) | (with_reducible refine then_e ?_) | (with_reducible refine block_n ?_) | (with_reducible refine block_r ?_) | (with_reducible refine block_e ?_) | refine block_o ?_ | (with_reducible refine scope_n ?_) | (with_reducible refine scope_r ?_) | (with_reducible refine scope_e ?_) | (with_reducible refine code_seq ?_) | (with_reducible refine code_skip ?_) | (with_reducible refine code_label ?_) | (with_reducible refine code_block ?_) | (with_reducible refine code_scope ?_) | (with_reducible refine code_exit ?_) | (with_reducible refine code_ret ?_) | refine regq_to ?_ | (with_reducible refine run_nil ?_) | ((with_reducible refine run_probe ?_); refine runq_more ?_) | (with_reducible refine draw_nil ?_) | ((with_reducible refine draw_probe ?_); (first | refine drawq_more ?_ | refine drawq_as ?_)) | refine code_then ?_ | refine code_else ?_))
    rw [decide_eq_true (show 4096 < room by omega)]
    (repeat (first | (with_reducible refine then_n ?_) | (with_reducible refine then_r ?_) | (with_reducible refine then_e ?_) | (with_reducible refine block_n ?_) | (with_reducible refine block_r ?_) | (with_reducible refine block_e ?_) | refine block_o ?_ | (with_reducible refine scope_n ?_) | (with_reducible refine scope_r ?_) | (with_reducible refine scope_e ?_) | (with_reducible refine code_seq ?_) | (with_reducible refine code_skip ?_) | (with_reducible refine code_label ?_) | (with_reducible refine code_block ?_) | (with_reducible refine code_scope ?_) | (with_reducible refine code_exit ?_) | (with_reducible refine code_ret ?_) | refine regq_to ?_ | (with_reducible refine run_nil ?_) | ((with_reducible refine run_probe ?_); refine runq_more ?_) | (with_reducible refine draw_nil ?_) | ((with_reducible refine draw_probe ?_); (first | refine drawq_more ?_ | refine drawq_as ?_)) | refine code_then ?_ | refine code_else ?_))
    refine back_cells [] ?_; exact ⟨rfl, rfl⟩
theorem new_core (room : Nat) (h1 : 1 ≤ room) (h2 : room ≤ 4096) : Meets Try.prog 24 [.int .i64 room] [] fun v A => ∃ b r Cm, v = .tuple #[.pointer (some ⟨b, 0, none⟩), .int .i64 0] ∧ IsMap Cm r [] ∧ A = [[(b, tabO room none 0 0 none 0 0 r (-1) (-1))], Cm] := by
  refine spec_intro Try.func24 rfl (by kernel_rfl) (by rw [Try.ntmps24]; simp) fun F => ?_; rw [Try.ntmps24, Try.results24]
  (repeat (first | (with_reducible refine then_n ?_) | (with_reducible refine then_r ?_) | (with_reducible refine then_e ?_) | (with_reducible refine block_n ?_) | (with_reducible refine block_r ?_) | (with_reducible refine block_e ?_) | refine block_o ?_ | (with_reducible refine scope_n ?_) | (with_reducible refine scope_r ?_) | (with_reducible refine scope_e ?_) | (with_reducible refine code_seq ?_) | (with_reducible refine code_skip ?_) | (with_reducible refine code_label ?_) | (with_reducible refine code_block ?_) | (with_reducible refine code_scope ?_) | (with_reducible refine code_exit ?_) | (with_reducible refine code_ret ?_) | refine regq_to ?_ | (with_reducible refine run_nil ?_) | ((with_reducible refine run_probe ?_); refine runq_more ?_) | (with_reducible refine draw_nil ?_) | ((with_reducible refine draw_probe ?_); (first | refine drawq_more ?_ | refine drawq_as ?_)) | refine code_then ?_ | refine code_else ?_))
  rw [decide_eq_false (show ¬ (room : Int) < 1 by omega)]
  (repeat (first | (with_reducible refine then_n ?_) | (with_reducible refine then_r ?_) | (with_reducible refine then_e ?_) | (with_reducible refine block_n ?_) | (with_reducible refine block_r ?_) | (with_reducible refine block_e ?_) | refine block_o ?_ | (with_reducible refine scope_n ?_) | (with_reducible refine scope_r ?_) | (with_reducible refine scope_e ?_) | (with_reducible refine code_seq ?_) | (with_reducible refine code_skip ?_) | (with_reducible refine code_label ?_) | (with_reducible refine code_block ?_) | (with_reducible refine code_scope ?_) | (with_reducible refine code_exit ?_) | (with_reducible refine code_ret ?_) | refine regq_to ?_ | (with_reducible refine run_nil ?_) | ((with_reducible refine run_probe ?_); refine runq_more ?_) | (with_reducible refine draw_nil ?_) | ((with_reducible refine draw_probe ?_); (first | refine drawq_more ?_ | refine drawq_as ?_)) | refine code_then ?_ | refine code_else ?_))
  rw [decide_eq_false (show ¬ 4096 < (room : Int) by omega)]
  (repeat (first | (with_reducible refine then_n ?_) | (with_reducible refine then_r ?_) | (with_reducible refine then_e ?_) | (with_reducible refine block_n ?_) | (with_reducible refine block_r ?_) | (with_reducible refine block_e ?_) | refine block_o ?_ | (with_reducible refine scope_n ?_) | (with_reducible refine scope_r ?_) | (with_reducible refine scope_e ?_) | (with_reducible refine code_seq ?_) | (with_reducible refine code_skip ?_) | (with_reducible refine code_label ?_) | (with_reducible refine code_block ?_) | (with_reducible refine code_scope ?_) | (with_reducible refine code_exit ?_) | (with_reducible refine code_ret ?_) | refine regq_to ?_ | (with_reducible refine run_nil ?_) | ((with_reducible refine run_probe ?_); refine runq_more ?_) | (with_reducible refine draw_nil ?_) | ((with_reducible refine draw_probe ?_); (first | refine drawq_more ?_ | refine drawq_as ?_)) | refine code_then ?_ | refine code_else ?_))
  refine run_op fun K hK => ?_; refine map_new fun r Cm hm => ?_; refine hK _ _ ?_; clear hK K
  (repeat (first | (with_reducible refine then_n ?_) | (with_reducible refine then_r ?_) | (with_reducible refine then_e ?_) | (with_reducible refine block_n ?_) | (with_reducible refine block_r ?_) | (with_reducible refine block_e ?_) | refine block_o ?_ | (with_reducible refine scope_n ?_) | (with_reducible refine scope_r ?_) | (with_reducible refine scope_e ?_) | (with_reducible refine code_seq ?_) | (with_reducible refine code_skip ?_) | (with_reducible refine code_label ?_) | (with_reducible refine code_block ?_) | (with_reducible refine code_scope ?_) | (with_reducible refine code_exit ?_) | (with_reducible refine code_ret ?_) | refine regq_to ?_ | (with_reducible refine run_nil ?_) | ((with_reducible refine run_probe ?_); refine runq_more ?_) | (with_reducible refine draw_nil ?_) | ((with_reducible refine draw_probe ?_); (first | refine drawq_more ?_ | refine drawq_as ?_)) | refine code_then ?_ | refine code_else ?_))
  refine run_op fun K hK => ?_; rw [build_struct (ps := [(0, .int .i64 room), (3, .map (some r)), (4, .int .i64 (-1)), (5, .int .i64 (-1))]) (cs := #[.int .i64 room, .slice none 0 0, .slice none 0 0, .map (some r), .int .i64 (-1), .int .i64 (-1)]) rfl]; refine hK _ _ ?_; clear hK K
  (repeat (first | (with_reducible refine then_n ?_) | (with_reducible refine then_r ?_) | (with_reducible refine then_e ?_) | (with_reducible refine block_n ?_) | (with_reducible refine block_r ?_) | (with_reducible refine block_e ?_) | refine block_o ?_ | (with_reducible refine scope_n ?_) | (with_reducible refine scope_r ?_) | (with_reducible refine scope_e ?_) | (with_reducible refine code_seq ?_) | (with_reducible refine code_skip ?_) | (with_reducible refine code_label ?_) | (with_reducible refine code_block ?_) | (with_reducible refine code_scope ?_) | (with_reducible refine code_exit ?_) | (with_reducible refine code_ret ?_) | refine regq_to ?_ | (with_reducible refine run_nil ?_) | ((with_reducible refine run_probe ?_); refine runq_more ?_) | (with_reducible refine draw_nil ?_) | ((with_reducible refine draw_probe ?_); (first | refine drawq_more ?_ | refine drawq_as ?_)) | refine code_then ?_ | refine code_else ?_))
  refine run_op fun K hK => ?_; refine box_new fun b => ?_; (try simp only [Value.cells]); refine hK _ _ ?_; clear hK K
  (repeat (first | (with_reducible refine then_n ?_) | (with_reducible refine then_r ?_) | (with_reducible refine then_e ?_) | (with_reducible refine block_n ?_) | (with_reducible refine block_r ?_) | (with_reducible refine block_e ?_) | refine block_o ?_ | (with_reducible refine scope_n ?_) | (with_reducible refine scope_r ?_) | (with_reducible refine scope_e ?_) | (with_reducible refine code_seq ?_) | (with_reducible refine code_skip ?_) | (with_reducible refine code_label ?_) | (with_reducible refine code_block ?_) | (with_reducible refine code_scope ?_) | (with_reducible refine code_exit ?_) | (with_reducible refine code_ret ?_) | refine regq_to ?_ | (with_reducible refine run_nil ?_) | ((with_reducible refine run_probe ?_); refine runq_more ?_) | (with_reducible refine draw_nil ?_) | ((with_reducible refine draw_probe ?_); (first | refine drawq_more ?_ | refine drawq_as ?_)) | refine code_then ?_ | refine code_else ?_))
  refine back_cells [[(b, tabO room none 0 0 none 0 0 r (-1) (-1))], Cm] ⟨b, r, Cm, rfl, hm, rfl⟩
theorem new_yes (room : Nat) (h1 : 1 ≤ room) (h2 : room ≤ 4096) : Meets Try.prog 24 [.int .i64 room] [] fun v A => ∃ b T, v = .tuple #[.pointer (some ⟨b, 0, none⟩), .int .i64 0] ∧ IsTab T b room [] ∧ A = [T] := by
  refine Meets.conv [] (new_core room h1 h2) rfl (.nil _) ?_
  rintro v A ⟨b, r, Cm, rfl, hm, rfl⟩
  exact ⟨[[(b, tabO room none 0 0 none 0 0 r (-1) (-1))] ++ Cm], [[(b, tabO room none 0 0 none 0 0 r (-1) (-1))], Cm], by simp, Among.refl _, b, _, rfl, ⟨none, 0, [], none, 0, [], r, [], [], [], [], Cm, ⟨own_nil, own_nil, hm, Rep.new, h2, by simp, rfl, by simp⟩, rfl⟩, rfl⟩

/-- Calls on a row: the error, and the row behind it. -/
def putE (room : Nat) (es : List (List UInt8 × V)) (k : List UInt8) (v : V) : Int × List (List UInt8 × V) := if mget es k ≠ none then (7, es) else if room ≤ es.length then (8, es) else (0, es ++ [(k, v)])
def setE (es : List (List UInt8 × V)) (k : List UInt8) (v : V) : Int × List (List UInt8 × V) := match mget es k with | none => (6, es) | some _ => (0, mput es k v)
def dropE (es : List (List UInt8 × V)) (k : List UInt8) : Int × List (List UInt8 × V) := match mget es k with | none => (6, es) | some _ => (0, mdel es k)

section one
variable {T : Chunk} {b room : Nat} {es : List (List UInt8 × V)}

theorem tput (h : IsTab T b room es) (k : List UInt8) (v : V) : Meets Try.prog 28 [.pointer (some ⟨b, 0, none⟩), .string (str k), valV v] [T]
    fun r A => r = .int .i64 (putE room es k v).1 ∧ ∃ T', IsTab T' b room (putE room es k v).2 ∧ A = [T'] := by
  have h0 := h
  obtain ⟨la, lc, l, fa, fc, free, r, m, pl, Cl, Cf, Cm, h, rfl⟩ := h
  cases hm : mget es k with
  | some u =>
    have e : putE room es k v = (7, es) := by unfold putE; rw [hm]; rfl
    rw [e]
    refine Meets.conv [tabB b room la l lc fa free fc r pl, Cl, Cf, Cm] (put_exists h k v (by rw [hm]; simp)) (by simp only [List.flatten_cons, List.flatten_nil, List.append_assoc, List.append_nil]) (by (repeat (first | with_reducible exact Take.nil _ | with_reducible exact Pick.head _ _ | with_reducible apply Pick.tail | with_reducible apply Take.cons))) ?_; rintro v A ⟨rfl, rfl⟩
    exact ⟨[tabB b room la l lc fa free fc r pl ++ (Cl ++ (Cf ++ Cm))], [tabB b room la l lc fa free fc r pl, Cl, Cf, Cm], by simp only [List.flatten_cons, List.flatten_nil, List.append_assoc, List.append_nil], by first | ((repeat (first | with_reducible exact Among.nil _ | with_reducible exact Pick.head _ _ | with_reducible apply Pick.tail | with_reducible apply Among.cons)); done) | ((repeat (first | exact Among.nil _ | exact Pick.head _ _ | apply Pick.tail | apply Among.cons)); done), rfl, _, h0, rfl⟩
  | none =>
    by_cases hf : room ≤ es.length
    · have e : putE room es k v = (8, es) := by unfold putE; rw [hm, if_neg (by simp), if_pos hf]
      have hfit := h.fits
      rw [e]
      refine Meets.conv [tabB b room la l lc fa free fc r pl, Cl, Cf, Cm] (put_full h k v hm (by omega)) (by simp only [List.flatten_cons, List.flatten_nil, List.append_assoc, List.append_nil]) (by (repeat (first | with_reducible exact Take.nil _ | with_reducible exact Pick.head _ _ | with_reducible apply Pick.tail | with_reducible apply Take.cons))) ?_; rintro v A ⟨rfl, rfl⟩
      exact ⟨[tabB b room la l lc fa free fc r pl ++ (Cl ++ (Cf ++ Cm))], [tabB b room la l lc fa free fc r pl, Cl, Cf, Cm], by simp only [List.flatten_cons, List.flatten_nil, List.append_assoc, List.append_nil], by first | ((repeat (first | with_reducible exact Among.nil _ | with_reducible exact Pick.head _ _ | with_reducible apply Pick.tail | with_reducible apply Among.cons)); done) | ((repeat (first | exact Among.nil _ | exact Pick.head _ _ | apply Pick.tail | apply Among.cons)); done), rfl, _, h0, rfl⟩
    · have e : putE room es k v = (0, es ++ [(k, v)]) := by unfold putE; rw [hm, if_neg (by simp), if_neg hf]
      rw [e]
      refine Meets.conv [tabB b room la l lc fa free fc r pl, Cl, Cf, Cm] (put_ok h k v hm (by omega)) (by simp only [List.flatten_cons, List.flatten_nil, List.append_assoc, List.append_nil]) (by (repeat (first | with_reducible exact Take.nil _ | with_reducible exact Pick.head _ _ | with_reducible apply Pick.tail | with_reducible apply Take.cons))) ?_; rintro v A ⟨rfl, la', lc', l', fa', fc', free', m', pl', Cl', Cf', Cm', h', rfl⟩
      exact ⟨[tabB b room la' l' lc' fa' free' fc' r pl' ++ (Cl' ++ (Cf' ++ Cm'))], [tabB b room la' l' lc' fa' free' fc' r pl', Cl', Cf', Cm'], by simp only [List.flatten_cons, List.flatten_nil, List.append_assoc, List.append_nil], by first | ((repeat (first | with_reducible exact Among.nil _ | with_reducible exact Pick.head _ _ | with_reducible apply Pick.tail | with_reducible apply Among.cons)); done) | ((repeat (first | exact Among.nil _ | exact Pick.head _ _ | apply Pick.tail | apply Among.cons)); done), rfl, _, ⟨la', lc', l', fa', fc', free', r, m', pl', Cl', Cf', Cm', h', rfl⟩, rfl⟩

theorem tset (h : IsTab T b room es) (k : List UInt8) (v : V) : Meets Try.prog 31 [.pointer (some ⟨b, 0, none⟩), .string (str k), valV v] [T]
    fun r A => r = .int .i64 (setE es k v).1 ∧ ∃ T', IsTab T' b room (setE es k v).2 ∧ A = [T'] := by
  have h0 := h
  obtain ⟨la, lc, l, fa, fc, free, r, m, pl, Cl, Cf, Cm, h, rfl⟩ := h
  cases hm : mget es k with
  | none =>
    have e : setE es k v = (6, es) := by unfold setE; rw [hm]
    rw [e]
    refine Meets.conv [tabB b room la l lc fa free fc r pl, Cl, Cf, Cm] (set_miss h k v hm) (by simp only [List.flatten_cons, List.flatten_nil, List.append_assoc, List.append_nil]) (by (repeat (first | with_reducible exact Take.nil _ | with_reducible exact Pick.head _ _ | with_reducible apply Pick.tail | with_reducible apply Take.cons))) ?_; rintro v A ⟨rfl, rfl⟩
    exact ⟨[tabB b room la l lc fa free fc r pl ++ (Cl ++ (Cf ++ Cm))], [tabB b room la l lc fa free fc r pl, Cl, Cf, Cm], by simp only [List.flatten_cons, List.flatten_nil, List.append_assoc, List.append_nil], by first | ((repeat (first | with_reducible exact Among.nil _ | with_reducible exact Pick.head _ _ | with_reducible apply Pick.tail | with_reducible apply Among.cons)); done) | ((repeat (first | exact Among.nil _ | exact Pick.head _ _ | apply Pick.tail | apply Among.cons)); done), rfl, _, h0, rfl⟩
  | some u =>
    have e : setE es k v = (0, mput es k v) := by unfold setE; rw [hm]
    rw [e]
    refine Meets.conv [tabB b room la l lc fa free fc r pl, Cl, Cf, Cm] (set_ok h k v u hm) (by simp only [List.flatten_cons, List.flatten_nil, List.append_assoc, List.append_nil]) (by (repeat (first | with_reducible exact Take.nil _ | with_reducible exact Pick.head _ _ | with_reducible apply Pick.tail | with_reducible apply Take.cons))) ?_; rintro v A ⟨rfl, l', Cl', h', rfl⟩
    exact ⟨[tabB b room la l' lc fa free fc r pl ++ (Cl' ++ (Cf ++ Cm))], [tabB b room la l' lc fa free fc r pl, Cl', Cf, Cm], by simp only [List.flatten_cons, List.flatten_nil, List.append_assoc, List.append_nil], by first | ((repeat (first | with_reducible exact Among.nil _ | with_reducible exact Pick.head _ _ | with_reducible apply Pick.tail | with_reducible apply Among.cons)); done) | ((repeat (first | exact Among.nil _ | exact Pick.head _ _ | apply Pick.tail | apply Among.cons)); done), rfl, _, ⟨la, lc, l', fa, fc, free, r, m, pl, Cl', Cf, Cm, h', rfl⟩, rfl⟩

theorem tdrop (h : IsTab T b room es) (k : List UInt8) : Meets Try.prog 52 [.pointer (some ⟨b, 0, none⟩), .string (str k)] [T]
    fun r A => r = .int .i64 (dropE es k).1 ∧ ∃ T', IsTab T' b room (dropE es k).2 ∧ A = [T'] := by
  have h0 := h
  obtain ⟨la, lc, l, fa, fc, free, r, m, pl, Cl, Cf, Cm, h, rfl⟩ := h
  cases hm : mget es k with
  | none =>
    have e : dropE es k = (6, es) := by unfold dropE; rw [hm]
    rw [e]
    refine Meets.conv [tabB b room la l lc fa free fc r pl, Cl, Cf, Cm] (drop_miss h k hm) (by simp only [List.flatten_cons, List.flatten_nil, List.append_assoc, List.append_nil]) (by (repeat (first | with_reducible exact Take.nil _ | with_reducible exact Pick.head _ _ | with_reducible apply Pick.tail | with_reducible apply Take.cons))) ?_; rintro v A ⟨rfl, rfl⟩
    exact ⟨[tabB b room la l lc fa free fc r pl ++ (Cl ++ (Cf ++ Cm))], [tabB b room la l lc fa free fc r pl, Cl, Cf, Cm], by simp only [List.flatten_cons, List.flatten_nil, List.append_assoc, List.append_nil], by first | ((repeat (first | with_reducible exact Among.nil _ | with_reducible exact Pick.head _ _ | with_reducible apply Pick.tail | with_reducible apply Among.cons)); done) | ((repeat (first | exact Among.nil _ | exact Pick.head _ _ | apply Pick.tail | apply Among.cons)); done), rfl, _, h0, rfl⟩
  | some u =>
    have e : dropE es k = (0, mdel es k) := by unfold dropE; rw [hm]
    rw [e]
    refine Meets.conv [tabB b room la l lc fa free fc r pl, Cl, Cf, Cm] (drop_ok h k u hm) (by simp only [List.flatten_cons, List.flatten_nil, List.append_assoc, List.append_nil]) (by (repeat (first | with_reducible exact Take.nil _ | with_reducible exact Pick.head _ _ | with_reducible apply Pick.tail | with_reducible apply Take.cons))) ?_; rintro v A ⟨rfl, la', lc', l', fa', fc', free', m', pl', Cl', Cf', Cm', h', rfl⟩
    exact ⟨[tabB b room la' l' lc' fa' free' fc' r pl' ++ (Cl' ++ (Cf' ++ Cm'))], [tabB b room la' l' lc' fa' free' fc' r pl', Cl', Cf', Cm'], by simp only [List.flatten_cons, List.flatten_nil, List.append_assoc, List.append_nil], by first | ((repeat (first | with_reducible exact Among.nil _ | with_reducible exact Pick.head _ _ | with_reducible apply Pick.tail | with_reducible apply Among.cons)); done) | ((repeat (first | exact Among.nil _ | exact Pick.head _ _ | apply Pick.tail | apply Among.cons)); done), rfl, _, ⟨la', lc', l', fa', fc', free', r, m', pl', Cl', Cf', Cm', h', rfl⟩, rfl⟩

theorem tget (h : IsTab T b room es) (k : List UInt8) : Meets Try.prog 44 [.pointer (some ⟨b, 0, none⟩), .string (str k)] [T]
    fun r A => r = (match mget es k with | none => .tuple #[valV v0, .bool false] | some u => .tuple #[valV u, .bool true]) ∧ A = [T] := by
  obtain ⟨la, lc, l, fa, fc, free, r, m, pl, Cl, Cf, Cm, h, rfl⟩ := h
  cases hm : mget es k with
  | none =>
    refine Meets.conv [tabB b room la l lc fa free fc r pl, Cl, Cf, Cm] (get_miss h k hm) (by simp only [List.flatten_cons, List.flatten_nil, List.append_assoc, List.append_nil]) (by (repeat (first | with_reducible exact Take.nil _ | with_reducible exact Pick.head _ _ | with_reducible apply Pick.tail | with_reducible apply Take.cons))) ?_; rintro v A ⟨rfl, rfl⟩
    exact ⟨[tabB b room la l lc fa free fc r pl ++ (Cl ++ (Cf ++ Cm))], [tabB b room la l lc fa free fc r pl, Cl, Cf, Cm], by simp only [List.flatten_cons, List.flatten_nil, List.append_assoc, List.append_nil], by first | ((repeat (first | with_reducible exact Among.nil _ | with_reducible exact Pick.head _ _ | with_reducible apply Pick.tail | with_reducible apply Among.cons)); done) | ((repeat (first | exact Among.nil _ | exact Pick.head _ _ | apply Pick.tail | apply Among.cons)); done), rfl, rfl⟩
  | some u =>
    refine Meets.conv [tabB b room la l lc fa free fc r pl, Cl, Cf, Cm] (get_ok h k u hm) (by simp only [List.flatten_cons, List.flatten_nil, List.append_assoc, List.append_nil]) (by (repeat (first | with_reducible exact Take.nil _ | with_reducible exact Pick.head _ _ | with_reducible apply Pick.tail | with_reducible apply Take.cons))) ?_; rintro v A ⟨rfl, rfl⟩
    exact ⟨[tabB b room la l lc fa free fc r pl ++ (Cl ++ (Cf ++ Cm))], [tabB b room la l lc fa free fc r pl, Cl, Cf, Cm], by simp only [List.flatten_cons, List.flatten_nil, List.append_assoc, List.append_nil], by first | ((repeat (first | with_reducible exact Among.nil _ | with_reducible exact Pick.head _ _ | with_reducible apply Pick.tail | with_reducible apply Among.cons)); done) | ((repeat (first | exact Among.nil _ | exact Pick.head _ _ | apply Pick.tail | apply Among.cons)); done), rfl, rfl⟩

theorem tlen (h : IsTab T b room es) : Meets Try.prog 33 [.pointer (some ⟨b, 0, none⟩)] [T] fun v A => v = .int .i64 es.length ∧ A = [T] := by
  obtain ⟨la, lc, l, fa, fc, free, r, m, pl, Cl, Cf, Cm, h, rfl⟩ := h
  have hml := h.rep.mlen
  refine Meets.conv [tabB b room la l lc fa free fc r pl, Cl, Cf, Cm] (len_core b room la l.length lc fa free.length fc r _ _ Cm m h.im) (by simp only [List.flatten_cons, List.flatten_nil, List.append_assoc, List.append_nil]) (by (repeat (first | with_reducible exact Take.nil _ | with_reducible exact Pick.head _ _ | with_reducible apply Pick.tail | with_reducible apply Take.cons))) ?_; rintro v A ⟨rfl, rfl⟩
  rw [hml]
  exact ⟨[tabB b room la l lc fa free fc r pl ++ (Cl ++ (Cf ++ Cm))], [tabB b room la l lc fa free fc r pl, Cl, Cf, Cm], by simp only [List.flatten_cons, List.flatten_nil, List.append_assoc, List.append_nil], by first | ((repeat (first | with_reducible exact Among.nil _ | with_reducible exact Pick.head _ _ | with_reducible apply Pick.tail | with_reducible apply Among.cons)); done) | ((repeat (first | exact Among.nil _ | exact Pick.head _ _ | apply Pick.tail | apply Among.cons)); done), rfl, rfl⟩
theorem troom (h : IsTab T b room es) : Meets Try.prog 45 [.pointer (some ⟨b, 0, none⟩)] [T] fun v A => v = .int .i64 (room - es.length : Nat) ∧ A = [T] := by
  obtain ⟨la, lc, l, fa, fc, free, r, m, pl, Cl, Cf, Cm, h, rfl⟩ := h
  have hml := h.rep.mlen
  have hfit := h.fits
  refine Meets.conv [tabB b room la l lc fa free fc r pl, Cl, Cf, Cm] (room_core b room h.big la l.length lc fa free.length fc r _ _ Cm m h.im (by omega)) (by simp only [List.flatten_cons, List.flatten_nil, List.append_assoc, List.append_nil]) (by (repeat (first | with_reducible exact Take.nil _ | with_reducible exact Pick.head _ _ | with_reducible apply Pick.tail | with_reducible apply Take.cons))) ?_; rintro v A ⟨rfl, rfl⟩
  rw [hml]
  exact ⟨[tabB b room la l lc fa free fc r pl ++ (Cl ++ (Cf ++ Cm))], [tabB b room la l lc fa free fc r pl, Cl, Cf, Cm], by simp only [List.flatten_cons, List.flatten_nil, List.append_assoc, List.append_nil], by first | ((repeat (first | with_reducible exact Among.nil _ | with_reducible exact Pick.head _ _ | with_reducible apply Pick.tail | with_reducible apply Among.cons)); done) | ((repeat (first | exact Among.nil _ | exact Pick.head _ _ | apply Pick.tail | apply Among.cons)); done), rfl, rfl⟩
theorem tfull (h : IsTab T b room es) : Meets Try.prog 26 [.pointer (some ⟨b, 0, none⟩)] [T] fun v A => v = .bool (decide (es.length = room)) ∧ A = [T] := by
  obtain ⟨la, lc, l, fa, fc, free, r, m, pl, Cl, Cf, Cm, h, rfl⟩ := h
  have hml := h.rep.mlen
  have hfit := h.fits
  refine Meets.conv [tabB b room la l lc fa free fc r pl, Cl, Cf, Cm] (full_core b room h.big la l.length lc fa free.length fc r _ _ Cm m h.im (by omega)) (by simp only [List.flatten_cons, List.flatten_nil, List.append_assoc, List.append_nil]) (by (repeat (first | with_reducible exact Take.nil _ | with_reducible exact Pick.head _ _ | with_reducible apply Pick.tail | with_reducible apply Take.cons))) ?_; rintro v A ⟨rfl, rfl⟩
  rw [hml]
  exact ⟨[tabB b room la l lc fa free fc r pl ++ (Cl ++ (Cf ++ Cm))], [tabB b room la l lc fa free fc r pl, Cl, Cf, Cm], by simp only [List.flatten_cons, List.flatten_nil, List.append_assoc, List.append_nil], by first | ((repeat (first | with_reducible exact Among.nil _ | with_reducible exact Pick.head _ _ | with_reducible apply Pick.tail | with_reducible apply Among.cons)); done) | ((repeat (first | exact Among.nil _ | exact Pick.head _ _ | apply Pick.tail | apply Among.cons)); done), rfl, rfl⟩
end one

theorem mdel_mid {α : Type} {k : List UInt8} {v : α} : ∀ (a b : List (List UInt8 × α)), ((a ++ (k, v) :: b).map (·.1)).Nodup → mdel (a ++ (k, v) :: b) k = a ++ b ∧ mget (a ++ (k, v) :: b) k = some v
  | [], b, _ => by simp [mdel, mget]
  | (k', u) :: a, b, h => by
    simp only [List.cons_append, List.map_cons, List.nodup_cons] at h
    obtain ⟨h1, h2⟩ := mdel_mid a b h.2
    have hne : k ≠ k' := by
      rintro rfl
      exact h.1 (by simp)
    simp only [List.cons_append, mdel, mget]
    rw [if_neg hne, if_neg hne, h1]
    exact ⟨rfl, h2⟩

def pruneE (p : List UInt8 × V → Bool) (es : List (List UInt8 × V)) : Int × List (List UInt8 × V) := ((es.filter p).length, es.filter fun x => !p x)

theorem prune_nil (g : Value) (hg : g.cells = #[g]) : Meets Try.prog 46 [.pointer none, g] [] fun v A => v = .int .i64 0 ∧ A = [] := by
  refine spec_intro Try.func46 rfl (by kernel_rfl) (by rw [Try.ntmps46]; simp) fun F => ?_; rw [Try.ntmps46, Try.results46]
  (repeat (first | (with_reducible refine then_n ?_) | (with_reducible refine then_r ?_) | (with_reducible refine then_e ?_) | (with_reducible refine block_n ?_) | (with_reducible refine block_r ?_) | (with_reducible refine block_e ?_) | refine block_o ?_ | (with_reducible refine scope_n ?_) | (with_reducible refine scope_r ?_) | (with_reducible refine scope_e ?_) | (with_reducible refine code_seq ?_) | (with_reducible refine code_skip ?_) | (with_reducible refine code_label ?_) | (with_reducible refine code_block ?_) | (with_reducible refine code_scope ?_) | (with_reducible refine code_exit ?_) | (with_reducible refine code_ret ?_) | refine regq_to ?_ | (with_reducible refine run_nil ?_) | ((with_reducible refine run_probe ?_); refine runq_more ?_) | (with_reducible refine draw_nil ?_) | ((with_reducible refine draw_probe ?_); (first | refine drawq_more ?_ | refine drawq_as ?_)) | refine code_then ?_ | refine code_else ?_))
  refine run_op fun K hK => ?_; refine box_new fun b2 => ?_; (try simp only [Value.cells]); refine hK _ _ ?_; clear hK K
  (repeat (first | (with_reducible refine then_n ?_) | (with_reducible refine then_r ?_) | (with_reducible refine then_e ?_) | (with_reducible refine block_n ?_) | (with_reducible refine block_r ?_) | (with_reducible refine block_e ?_) | refine block_o ?_ | (with_reducible refine scope_n ?_) | (with_reducible refine scope_r ?_) | (with_reducible refine scope_e ?_) | (with_reducible refine code_seq ?_) | (with_reducible refine code_skip ?_) | (with_reducible refine code_label ?_) | (with_reducible refine code_block ?_) | (with_reducible refine code_scope ?_) | (with_reducible refine code_exit ?_) | (with_reducible refine code_ret ?_) | refine regq_to ?_ | (with_reducible refine run_nil ?_) | ((with_reducible refine run_probe ?_); refine runq_more ?_) | (with_reducible refine draw_nil ?_) | ((with_reducible refine draw_probe ?_); (first | refine drawq_more ?_ | refine drawq_as ?_)) | refine code_then ?_ | refine code_else ?_))
  refine run_op fun K hK => ?_; refine box_new fun b3 => ?_; rw [hg]; refine hK _ _ ?_; clear hK K
  (repeat (first | (with_reducible refine then_n ?_) | (with_reducible refine then_r ?_) | (with_reducible refine then_e ?_) | (with_reducible refine block_n ?_) | (with_reducible refine block_r ?_) | (with_reducible refine block_e ?_) | refine block_o ?_ | (with_reducible refine scope_n ?_) | (with_reducible refine scope_r ?_) | (with_reducible refine scope_e ?_) | (with_reducible refine code_seq ?_) | (with_reducible refine code_skip ?_) | (with_reducible refine code_label ?_) | (with_reducible refine code_block ?_) | (with_reducible refine code_scope ?_) | (with_reducible refine code_exit ?_) | (with_reducible refine code_ret ?_) | refine regq_to ?_ | (with_reducible refine run_nil ?_) | ((with_reducible refine run_probe ?_); refine runq_more ?_) | (with_reducible refine draw_nil ?_) | ((with_reducible refine draw_probe ?_); (first | refine drawq_more ?_ | refine drawq_as ?_)) | refine code_then ?_ | refine code_else ?_))
  refine run_op fun K hK => ?_; refine alloc_new fun b5 => ?_; (try simp only [Value.cells]); refine hK _ _ ?_; clear hK K
  (repeat (first | (with_reducible refine then_n ?_) | (with_reducible refine then_r ?_) | (with_reducible refine then_e ?_) | (with_reducible refine block_n ?_) | (with_reducible refine block_r ?_) | (with_reducible refine block_e ?_) | refine block_o ?_ | (with_reducible refine scope_n ?_) | (with_reducible refine scope_r ?_) | (with_reducible refine scope_e ?_) | (with_reducible refine code_seq ?_) | (with_reducible refine code_skip ?_) | (with_reducible refine code_label ?_) | (with_reducible refine code_block ?_) | (with_reducible refine code_scope ?_) | (with_reducible refine code_exit ?_) | (with_reducible refine code_ret ?_) | refine regq_to ?_ | (with_reducible refine run_nil ?_) | ((with_reducible refine run_probe ?_); refine runq_more ?_) | (with_reducible refine draw_nil ?_) | ((with_reducible refine draw_probe ?_); (first | refine drawq_more ?_ | refine drawq_as ?_)) | refine code_then ?_ | refine code_else ?_))
  refine run_op fun K hK => ?_; refine calls_to (all_spec none) ?_; rintro v A ⟨c, rfl, rfl⟩; (try simp only [List.nil_append, List.cons_append]); refine hK _ _ ?_; clear hK K; (repeat (first | (with_reducible refine then_n ?_) | (with_reducible refine then_r ?_) | (with_reducible refine then_e ?_) | (with_reducible refine block_n ?_) | (with_reducible refine block_r ?_) | (with_reducible refine block_e ?_) | refine block_o ?_ | (with_reducible refine scope_n ?_) | (with_reducible refine scope_r ?_) | (with_reducible refine scope_e ?_) | (with_reducible refine code_seq ?_) | (with_reducible refine code_skip ?_) | (with_reducible refine code_label ?_) | (with_reducible refine code_block ?_) | (with_reducible refine code_scope ?_) | (with_reducible refine code_exit ?_) | (with_reducible refine code_ret ?_) | refine regq_to ?_ | (with_reducible refine run_nil ?_) | ((with_reducible refine run_probe ?_); refine runq_more ?_) | (with_reducible refine draw_nil ?_) | ((with_reducible refine draw_probe ?_); (first | refine drawq_more ?_ | refine drawq_as ?_)) | refine code_then ?_ | refine code_else ?_))
  refine code_rangeG (by (try simp only [evT, lookT_hit, lookT_miss, Nat.reduceBEq]); (first | done | exact rfl)) (all_iter_nil c) (by (repeat (first | exact Take.nil _ | with_reducible exact Pick.head _ _ | with_reducible apply Pick.tail | with_reducible apply Take.cons))) (fun pre C => C = [bx b5 (.int .i64 0) 3, bx b3 g 94, bx b2 (.pointer none) 59, F]) (fun c pre C => False) (fun h => by cases h) (fun C hC => ⟨[], C.flatten, rfl, by simp⟩) (fun _ => rfl) rfl ?_ ?_ ?_
  · rintro l F1 C H r pre x hx
    exact hx.elim
  · rintro d pre C A hd rfl rfl
    (try simp only [List.nil_append, List.cons_append])
    (repeat (first | (with_reducible refine then_n ?_) | (with_reducible refine then_r ?_) | (with_reducible refine then_e ?_) | (with_reducible refine block_n ?_) | (with_reducible refine block_r ?_) | (with_reducible refine block_e ?_) | refine block_o ?_ | (with_reducible refine scope_n ?_) | (with_reducible refine scope_r ?_) | (with_reducible refine scope_e ?_) | (with_reducible refine code_seq ?_) | (with_reducible refine code_skip ?_) | (with_reducible refine code_label ?_) | (with_reducible refine code_block ?_) | (with_reducible refine code_scope ?_) | (with_reducible refine code_exit ?_) | (with_reducible refine code_ret ?_) | refine regq_to ?_ | (with_reducible refine run_nil ?_) | ((with_reducible refine run_probe ?_); refine runq_more ?_) | (with_reducible refine draw_nil ?_) | ((with_reducible refine draw_probe ?_); (first | refine drawq_more ?_ | refine drawq_as ?_)) | refine code_then ?_ | refine code_else ?_))
    refine back_cells [] ?_; exact ⟨rfl, rfl⟩
  · rintro d c pre x C A hx
    exact hx.elim

set_option maxHeartbeats 1000000 in
theorem prune_spec {T : Chunk} {b room : Nat} {es : List (List UInt8 × V)} (h : IsTab T b room es) {f : FuncId} {captured : Array Value} {G : Chunk} (p : List UInt8 × V → Bool)
    (hg : ∀ x ∈ es, Meets Try.prog f (.string (str x.1) :: valV x.2 :: captured.toList) [G] fun v A => v = .bool (p x) ∧ A = [G]) :
    Meets Try.prog 46 [.pointer (some ⟨b, 0, none⟩), .func (.func f) #[] captured] [T, G]
      fun v A => v = .int .i64 (pruneE p es).1 ∧ ∃ T', IsTab T' b room (pruneE p es).2 ∧ A = [T', G] := by
  have hlen := h.fits
  have hbig : room ≤ 4096 := by obtain ⟨_, _, _, _, _, _, _, _, _, _, _, _, h, _⟩ := h; exact h.big
  refine spec_intro Try.func46 rfl (by kernel_rfl) (by rw [Try.ntmps46]; simp) fun F => ?_; rw [Try.ntmps46, Try.results46]
  (repeat (first | (with_reducible refine then_n ?_) | (with_reducible refine then_r ?_) | (with_reducible refine then_e ?_) | (with_reducible refine block_n ?_) | (with_reducible refine block_r ?_) | (with_reducible refine block_e ?_) | refine block_o ?_ | (with_reducible refine scope_n ?_) | (with_reducible refine scope_r ?_) | (with_reducible refine scope_e ?_) | (with_reducible refine code_seq ?_) | (with_reducible refine code_skip ?_) | (with_reducible refine code_label ?_) | (with_reducible refine code_block ?_) | (with_reducible refine code_scope ?_) | (with_reducible refine code_exit ?_) | (with_reducible refine code_ret ?_) | refine regq_to ?_ | (with_reducible refine run_nil ?_) | ((with_reducible refine run_probe ?_); refine runq_more ?_) | (with_reducible refine draw_nil ?_) | ((with_reducible refine draw_probe ?_); (first | refine drawq_more ?_ | refine drawq_as ?_)) | refine code_then ?_ | refine code_else ?_))
  refine run_op fun K hK => ?_; refine box_new fun b2 => ?_; (try simp only [Value.cells]); refine hK _ _ ?_; clear hK K
  (repeat (first | (with_reducible refine then_n ?_) | (with_reducible refine then_r ?_) | (with_reducible refine then_e ?_) | (with_reducible refine block_n ?_) | (with_reducible refine block_r ?_) | (with_reducible refine block_e ?_) | refine block_o ?_ | (with_reducible refine scope_n ?_) | (with_reducible refine scope_r ?_) | (with_reducible refine scope_e ?_) | (with_reducible refine code_seq ?_) | (with_reducible refine code_skip ?_) | (with_reducible refine code_label ?_) | (with_reducible refine code_block ?_) | (with_reducible refine code_scope ?_) | (with_reducible refine code_exit ?_) | (with_reducible refine code_ret ?_) | refine regq_to ?_ | (with_reducible refine run_nil ?_) | ((with_reducible refine run_probe ?_); refine runq_more ?_) | (with_reducible refine draw_nil ?_) | ((with_reducible refine draw_probe ?_); (first | refine drawq_more ?_ | refine drawq_as ?_)) | refine code_then ?_ | refine code_else ?_))
  refine run_op fun K hK => ?_; refine box_new fun b3 => ?_; (try simp only [Value.cells]); refine hK _ _ ?_; clear hK K
  (repeat (first | (with_reducible refine then_n ?_) | (with_reducible refine then_r ?_) | (with_reducible refine then_e ?_) | (with_reducible refine block_n ?_) | (with_reducible refine block_r ?_) | (with_reducible refine block_e ?_) | refine block_o ?_ | (with_reducible refine scope_n ?_) | (with_reducible refine scope_r ?_) | (with_reducible refine scope_e ?_) | (with_reducible refine code_seq ?_) | (with_reducible refine code_skip ?_) | (with_reducible refine code_label ?_) | (with_reducible refine code_block ?_) | (with_reducible refine code_scope ?_) | (with_reducible refine code_exit ?_) | (with_reducible refine code_ret ?_) | refine regq_to ?_ | (with_reducible refine run_nil ?_) | ((with_reducible refine run_probe ?_); refine runq_more ?_) | (with_reducible refine draw_nil ?_) | ((with_reducible refine draw_probe ?_); (first | refine drawq_more ?_ | refine drawq_as ?_)) | refine code_then ?_ | refine code_else ?_))
  refine run_op fun K hK => ?_; refine alloc_new fun b5 => ?_; (try simp only [Value.cells]); refine hK _ _ ?_; clear hK K
  (repeat (first | (with_reducible refine then_n ?_) | (with_reducible refine then_r ?_) | (with_reducible refine then_e ?_) | (with_reducible refine block_n ?_) | (with_reducible refine block_r ?_) | (with_reducible refine block_e ?_) | refine block_o ?_ | (with_reducible refine scope_n ?_) | (with_reducible refine scope_r ?_) | (with_reducible refine scope_e ?_) | (with_reducible refine code_seq ?_) | (with_reducible refine code_skip ?_) | (with_reducible refine code_label ?_) | (with_reducible refine code_block ?_) | (with_reducible refine code_scope ?_) | (with_reducible refine code_exit ?_) | (with_reducible refine code_ret ?_) | refine regq_to ?_ | (with_reducible refine run_nil ?_) | ((with_reducible refine run_probe ?_); refine runq_more ?_) | (with_reducible refine draw_nil ?_) | ((with_reducible refine draw_probe ?_); (first | refine drawq_more ?_ | refine drawq_as ?_)) | refine code_then ?_ | refine code_else ?_))
  refine run_op fun K hK => ?_; refine calls_to (all_spec _) ?_; rintro v A ⟨c, rfl, rfl⟩; (try simp only [List.nil_append, List.cons_append]); refine hK _ _ ?_; clear hK K; (repeat (first | (with_reducible refine then_n ?_) | (with_reducible refine then_r ?_) | (with_reducible refine then_e ?_) | (with_reducible refine block_n ?_) | (with_reducible refine block_r ?_) | (with_reducible refine block_e ?_) | refine block_o ?_ | (with_reducible refine scope_n ?_) | (with_reducible refine scope_r ?_) | (with_reducible refine scope_e ?_) | (with_reducible refine code_seq ?_) | (with_reducible refine code_skip ?_) | (with_reducible refine code_label ?_) | (with_reducible refine code_block ?_) | (with_reducible refine code_scope ?_) | (with_reducible refine code_exit ?_) | (with_reducible refine code_ret ?_) | refine regq_to ?_ | (with_reducible refine run_nil ?_) | ((with_reducible refine run_probe ?_); refine runq_more ?_) | (with_reducible refine draw_nil ?_) | ((with_reducible refine draw_probe ?_); (first | refine drawq_more ?_ | refine drawq_as ?_)) | refine code_then ?_ | refine code_else ?_))
  refine code_rangeG (by (try simp only [evT, lookT_hit, lookT_miss, Nat.reduceBEq]); (first | done | exact rfl)) (all_iter c b room es) (by (repeat (first | exact Take.nil _ | with_reducible exact Pick.head _ _ | with_reducible apply Pick.tail | with_reducible apply Take.cons))) (fun pre C => ∃ suf T', es = pre ++ suf ∧ IsTab T' b room (pre.filter (fun x => !p x) ++ suf) ∧
      C = [bx b5 (.int .i64 ((pre.filter p).length : Nat)) 3, bx b3 (.func (.func f) #[] captured) 94, bx b2 (.pointer (some ⟨b, 0, none⟩)) 59, F, T', G])
    (fun c pre C => False) (fun h => by cases h) (fun C hC => ?_) (fun _ => rfl) ⟨es, T, rfl, h, rfl⟩ ?_ ?_ ?_
  · obtain ⟨suf, T', e, hT', rfl⟩ := hC
    rw [List.nil_append] at e
    subst e
    exact T0_pick hT' (by (repeat (first | with_reducible exact Pick.head _ _ | with_reducible apply Pick.tail)))
  · rintro l F1 C H r pre x ⟨suf1, hx⟩ ⟨suf, T', e, hT', rfl⟩ rfl
    obtain rfl : suf = x :: suf1 := by
      rw [e] at hx; exact List.append_cancel_left hx
    obtain ⟨k, v⟩ := x
    have hnd := hT'.keys
    have hplen : (pre.filter p).length ≤ pre.length := List.length_filter_le _ _
    have hprl : pre.length ≤ es.length := by rw [e]; simp
    (try simp only [List.nil_append, List.cons_append, List.append_nil, encX])
    (try simp only [putAll, putT, Nat.reduceLT, if_true, reduceIte, Array.toList, List.toList_toArray])
    (repeat (first | (with_reducible refine then_n ?_) | (with_reducible refine then_r ?_) | (with_reducible refine then_e ?_) | (with_reducible refine block_n ?_) | (with_reducible refine block_r ?_) | (with_reducible refine block_e ?_) | refine block_o ?_ | (with_reducible refine scope_n ?_) | (with_reducible refine scope_r ?_) | (with_reducible refine scope_e ?_) | (with_reducible refine code_seq ?_) | (with_reducible refine code_skip ?_) | (with_reducible refine code_label ?_) | (with_reducible refine code_block ?_) | (with_reducible refine code_scope ?_) | (with_reducible refine code_exit ?_) | (with_reducible refine code_ret ?_) | refine regq_to ?_ | (with_reducible refine run_nil ?_) | ((with_reducible refine run_probe ?_); refine runq_more ?_) | (with_reducible refine draw_nil ?_) | ((with_reducible refine draw_probe ?_); (first | refine drawq_more ?_ | refine drawq_as ?_)) | refine code_then ?_ | refine code_else ?_))
    refine run_op fun K hK => ?_; refine alloc_new fun b7 => ?_; (try simp only [Value.cells]); refine hK _ _ ?_; clear hK K
    refine run_op fun K hK => ?_; refine store_all (vs := encV v) rfl (cell_V v) (by (repeat (first | with_reducible exact Upd.one | with_reducible apply Upd.next))) (by rfl) ?_; refine hK _ _ ?_; clear hK K
    (repeat (first | (with_reducible refine then_n ?_) | (with_reducible refine then_r ?_) | (with_reducible refine then_e ?_) | (with_reducible refine block_n ?_) | (with_reducible refine block_r ?_) | (with_reducible refine block_e ?_) | refine block_o ?_ | (with_reducible refine scope_n ?_) | (with_reducible refine scope_r ?_) | (with_reducible refine scope_e ?_) | (with_reducible refine code_seq ?_) | (with_reducible refine code_skip ?_) | (with_reducible refine code_label ?_) | (with_reducible refine code_block ?_) | (with_reducible refine code_scope ?_) | (with_reducible refine code_exit ?_) | (with_reducible refine code_ret ?_) | refine regq_to ?_ | (with_reducible refine run_nil ?_) | ((with_reducible refine run_probe ?_); refine runq_more ?_) | (with_reducible refine draw_nil ?_) | ((with_reducible refine draw_probe ?_); (first | refine drawq_more ?_ | refine drawq_as ?_)) | refine code_then ?_ | refine code_else ?_))
    refine ⟨_, .cons (.tail _ (.head _ _)) (Among.refl _), fun r' _ => ?_⟩
    (repeat (first | (with_reducible refine then_n ?_) | (with_reducible refine then_r ?_) | (with_reducible refine then_e ?_) | (with_reducible refine block_n ?_) | (with_reducible refine block_r ?_) | (with_reducible refine block_e ?_) | refine block_o ?_ | (with_reducible refine scope_n ?_) | (with_reducible refine scope_r ?_) | (with_reducible refine scope_e ?_) | (with_reducible refine code_seq ?_) | (with_reducible refine code_skip ?_) | (with_reducible refine code_label ?_) | (with_reducible refine code_block ?_) | (with_reducible refine code_scope ?_) | (with_reducible refine code_exit ?_) | (with_reducible refine code_ret ?_) | refine regq_to ?_ | (with_reducible refine run_nil ?_) | ((with_reducible refine run_probe ?_); refine runq_more ?_) | (with_reducible refine draw_nil ?_) | ((with_reducible refine draw_probe ?_); (first | refine drawq_more ?_ | refine drawq_as ?_)) | refine code_then ?_ | refine code_else ?_))
    refine run_op fun K hK => ?_; refine load_all (vs := encV v) (by (repeat (first | with_reducible exact Lies.one | with_reducible apply Lies.next))) rfl ?_; refine hK _ _ ?_; clear hK K
    refine run_op fun K hK => ?_; refine calls_to (hg (k, v) (by rw [hx]; simp)) ?_; rintro v A ⟨rfl, rfl⟩; (try simp only [List.nil_append, List.cons_append]); refine hK _ _ ?_; clear hK K; (repeat (first | (with_reducible refine then_n ?_) | (with_reducible refine then_r ?_) | (with_reducible refine then_e ?_) | (with_reducible refine block_n ?_) | (with_reducible refine block_r ?_) | (with_reducible refine block_e ?_) | refine block_o ?_ | (with_reducible refine scope_n ?_) | (with_reducible refine scope_r ?_) | (with_reducible refine scope_e ?_) | (with_reducible refine code_seq ?_) | (with_reducible refine code_skip ?_) | (with_reducible refine code_label ?_) | (with_reducible refine code_block ?_) | (with_reducible refine code_scope ?_) | (with_reducible refine code_exit ?_) | (with_reducible refine code_ret ?_) | refine regq_to ?_ | (with_reducible refine run_nil ?_) | ((with_reducible refine run_probe ?_); refine runq_more ?_) | (with_reducible refine draw_nil ?_) | ((with_reducible refine draw_probe ?_); (first | refine drawq_more ?_ | refine drawq_as ?_)) | refine code_then ?_ | refine code_else ?_))
    cases hp : p (k, v) with
    | false =>
      (repeat (first | (with_reducible refine then_n ?_) | (with_reducible refine then_r ?_) | (with_reducible refine then_e ?_) | (with_reducible refine block_n ?_) | (with_reducible refine block_r ?_) | (with_reducible refine block_e ?_) | refine block_o ?_ | (with_reducible refine scope_n ?_) | (with_reducible refine scope_r ?_) | (with_reducible refine scope_e ?_) | (with_reducible refine code_seq ?_) | (with_reducible refine code_skip ?_) | (with_reducible refine code_label ?_) | (with_reducible refine code_block ?_) | (with_reducible refine code_scope ?_) | (with_reducible refine code_exit ?_) | (with_reducible refine code_ret ?_) | refine regq_to ?_ | (with_reducible refine run_nil ?_) | ((with_reducible refine run_probe ?_); refine runq_more ?_) | (with_reducible refine draw_nil ?_) | ((with_reducible refine draw_probe ?_); (first | refine drawq_more ?_ | refine drawq_as ?_)) | refine code_then ?_ | refine code_else ?_))
      have e1 : (pre ++ [(k, v)]).filter p = pre.filter p := by simp [hp]
      have e2 : (pre ++ [(k, v)]).filter (fun x => !p x) ++ suf1 = pre.filter (fun x => !p x) ++ (k, v) :: suf1 := by simp [hp]
      refine ⟨_, ⟨_, [], rfl, ⟨suf1, T', by simp [e], by rw [e2]; exact hT', rfl⟩, rfl⟩, ?_⟩
      rw [e1]
      (try simp only [List.append_nil])
      first | ((repeat (first | with_reducible exact Among.nil _ | with_reducible exact Pick.head _ _ | with_reducible apply Pick.tail | with_reducible apply Among.cons)); done) | ((repeat (first | exact Among.nil _ | exact Pick.head _ _ | apply Pick.tail | apply Among.cons)); done)
    | true =>
      obtain ⟨d1, d2⟩ := mdel_mid _ _ hnd
      have e0 : dropE (pre.filter (fun x => !p x) ++ (k, v) :: suf1) k = (0, pre.filter (fun x => !p x) ++ suf1) := by unfold dropE; rw [d2]; simp only [d1]
      have hdr := tdrop hT' k
      rw [e0] at hdr
      (repeat (first | (with_reducible refine then_n ?_) | (with_reducible refine then_r ?_) | (with_reducible refine then_e ?_) | (with_reducible refine block_n ?_) | (with_reducible refine block_r ?_) | (with_reducible refine block_e ?_) | refine block_o ?_ | (with_reducible refine scope_n ?_) | (with_reducible refine scope_r ?_) | (with_reducible refine scope_e ?_) | (with_reducible refine code_seq ?_) | (with_reducible refine code_skip ?_) | (with_reducible refine code_label ?_) | (with_reducible refine code_block ?_) | (with_reducible refine code_scope ?_) | (with_reducible refine code_exit ?_) | (with_reducible refine code_ret ?_) | refine regq_to ?_ | (with_reducible refine run_nil ?_) | ((with_reducible refine run_probe ?_); refine runq_more ?_) | (with_reducible refine draw_nil ?_) | ((with_reducible refine draw_probe ?_); (first | refine drawq_more ?_ | refine drawq_as ?_)) | refine code_then ?_ | refine code_else ?_))
      refine run_op fun K hK => ?_; refine calls_to (hdr) ?_; rintro v A ⟨rfl, T2, hT2, rfl⟩; (try simp only [List.nil_append, List.cons_append]); refine hK _ _ ?_; clear hK K; (repeat (first | (with_reducible refine then_n ?_) | (with_reducible refine then_r ?_) | (with_reducible refine then_e ?_) | (with_reducible refine block_n ?_) | (with_reducible refine block_r ?_) | (with_reducible refine block_e ?_) | refine block_o ?_ | (with_reducible refine scope_n ?_) | (with_reducible refine scope_r ?_) | (with_reducible refine scope_e ?_) | (with_reducible refine code_seq ?_) | (with_reducible refine code_skip ?_) | (with_reducible refine code_label ?_) | (with_reducible refine code_block ?_) | (with_reducible refine code_scope ?_) | (with_reducible refine code_exit ?_) | (with_reducible refine code_ret ?_) | refine regq_to ?_ | (with_reducible refine run_nil ?_) | ((with_reducible refine run_probe ?_); refine runq_more ?_) | (with_reducible refine draw_nil ?_) | ((with_reducible refine draw_probe ?_); (first | refine drawq_more ?_ | refine drawq_as ?_)) | refine code_then ?_ | refine code_else ?_))
      have e1 : ((pre ++ [(k, v)]).filter p).length = (pre.filter p).length + 1 := by simp [hp]
      have e2 : (pre ++ [(k, v)]).filter (fun x => !p x) ++ suf1 = pre.filter (fun x => !p x) ++ suf1 := by simp [hp]
      refine ⟨_, ⟨_, [], rfl, ⟨suf1, T2, by simp [e], by rw [e2]; exact hT2, rfl⟩, rfl⟩, ?_⟩
      rw [e1]
      (try simp only [List.append_nil, Int.natCast_add, Int.cast_ofNat_Int])
      first | ((repeat (first | with_reducible exact Among.nil _ | with_reducible exact Pick.head _ _ | with_reducible apply Pick.tail | with_reducible apply Among.cons)); done) | ((repeat (first | exact Among.nil _ | exact Pick.head _ _ | apply Pick.tail | apply Among.cons)); done)
  · rintro d pre C A rfl ⟨suf, T', e, hT', rfl⟩ rfl
    obtain rfl : suf = [] := by
      have := congrArg List.length e
      rw [List.length_append] at this
      exact List.length_eq_zero_iff.1 (by omega)
    rw [List.append_nil] at hT'
    (try simp only [List.nil_append, List.cons_append])
    (repeat (first | (with_reducible refine then_n ?_) | (with_reducible refine then_r ?_) | (with_reducible refine then_e ?_) | (with_reducible refine block_n ?_) | (with_reducible refine block_r ?_) | (with_reducible refine block_e ?_) | refine block_o ?_ | (with_reducible refine scope_n ?_) | (with_reducible refine scope_r ?_) | (with_reducible refine scope_e ?_) | (with_reducible refine code_seq ?_) | (with_reducible refine code_skip ?_) | (with_reducible refine code_label ?_) | (with_reducible refine code_block ?_) | (with_reducible refine code_scope ?_) | (with_reducible refine code_exit ?_) | (with_reducible refine code_ret ?_) | refine regq_to ?_ | (with_reducible refine run_nil ?_) | ((with_reducible refine run_probe ?_); refine runq_more ?_) | (with_reducible refine draw_nil ?_) | ((with_reducible refine draw_probe ?_); (first | refine drawq_more ?_ | refine drawq_as ?_)) | refine code_then ?_ | refine code_else ?_))
    refine back_cells [T', G] ⟨rfl, T', hT', rfl⟩
  · rintro d c pre x C A hx hI
    exact hI.elim

end Go.Proofs.Ytjagaagemgppcaa
