/- Chunks of a pipe: all; the first ones. Conditions: as each says. -/
import Derived.Test.YtlcbaijjjphmjaaDoorMfb529012
import Derived.Test.YtlcbaijjjphmjaaDoorM2d272a24
import Derived.Test.YtlcbaijjjphmjaaDoorMfb942b17
set_option linter.unusedSimpArgs false
set_option linter.unusedVariables false
namespace Go.Proofs.YtlcbaijjjphmjaaDoor
open Go Go.Ost Go.Pip

/-- A chunk, and where it lies. -/
structure Ck where
  a : Option Addr
  c : Nat
  bs : List UInt8
def encK (x : Ck) : List Value := [.slice x.a x.bs.length x.c]
/-- A way behind so many chunks. -/
def ckst (w : Wy) (size : Int) : Nat → Wy
  | 0 => w
  | n + 1 => wtake (ckst w size n) size
theorem ckst_ok {w : Wy} {room : Nat} (h : w.ok room) (size : Int) : ∀ n, (ckst w size n).ok room
  | 0 => h
  | n + 1 => ok_take (ckst_ok h size n) size
theorem ckst_all (w : Wy) (size : Int) : ∀ n, (ckst w size n).all = w.all
  | 0 => rfl
  | n + 1 => by rw [ckst, all_take, ckst_all w size n]
def isCk (w : Wy) (size : Int) (pre : List Ck) (x : Ck) : Prop := 0 < size ∧ (ckst w size pre.length).q ≠ [] ∧ x.bs = (ckst w size pre.length).q.take size.toNat
def noCk (w : Wy) (size : Int) (pre : List Ck) : Prop := ¬ (0 < size ∧ (ckst w size pre.length).q ≠ [])
/-- What goes along with a chunk: its bytes. -/
def ckH (_ : List Ck) (x : Ck) (H : State) : Prop := ∃ O, H = [O] ∧ Own8 5 O x.a x.bs.length x.c x.bs
abbrev b1 (c : Nat) (v : Value) : Chunk := bx c v 25
abbrev b2 (c : Nat) (v : Int) : Chunk := bx c (.int .i64 v) 3

theorem pchunks_spec (pv : Value) (hpv : ∃ p, pv = .pointer p) (i size : Int) : Meets Tryd.prog 41 [pv, .int .i64 i, .int .i64 size] []
    fun u A => ∃ c1 c2 c3, u = .func (.func 47) #[] #[.pointer (some ⟨c1, 0, none⟩), .pointer (some ⟨c2, 0, none⟩), .pointer (some ⟨c3, 0, none⟩)] ∧ A = [b1 c1 pv, b2 c2 i, b2 c3 size] := by
  obtain ⟨p, rfl⟩ := hpv
  refine spec_intro Tryd.func41 rfl (by kernel_rfl) (by rw [Tryd.ntmps41]; simp) fun F => ?_; rw [Tryd.ntmps41, Tryd.results41]
  (repeat (first | (with_reducible refine then_n ?_) | (with_reducible refine then_r ?_) | (with_reducible refine then_e ?_) | (with_reducible refine block_n ?_) | (with_reducible refine block_r ?_) | (with_reducible refine block_e ?_) | refine block_o ?_ | (with_reducible refine scope_n ?_) | (with_reducible refine scope_r ?_) | (with_reducible refine scope_e ?_) | (with_reducible refine code_seq ?_) | (with_reducible refine code_skip ?_) | (with_reducible refine code_label ?_) | (with_reducible refine code_block ?_) | (with_reducible refine code_scope ?_) | (with_reducible refine code_exit ?_) | (with_reducible refine code_ret ?_) | refine regq_to ?_ | (with_reducible refine run_nil ?_) | ((with_reducible refine run_probe ?_); refine runq_more ?_) | (with_reducible refine draw_nil ?_) | ((with_reducible refine draw_probe ?_); (first | refine drawq_more ?_ | refine drawq_as ?_)) | refine code_then ?_ | refine code_else ?_))
  refine run_op fun K hK => ?_; refine box_new fun c1 => ?_; (try simp only [Value.cells]); refine hK _ _ ?_; clear hK K
  (repeat (first | (with_reducible refine then_n ?_) | (with_reducible refine then_r ?_) | (with_reducible refine then_e ?_) | (with_reducible refine block_n ?_) | (with_reducible refine block_r ?_) | (with_reducible refine block_e ?_) | refine block_o ?_ | (with_reducible refine scope_n ?_) | (with_reducible refine scope_r ?_) | (with_reducible refine scope_e ?_) | (with_reducible refine code_seq ?_) | (with_reducible refine code_skip ?_) | (with_reducible refine code_label ?_) | (with_reducible refine code_block ?_) | (with_reducible refine code_scope ?_) | (with_reducible refine code_exit ?_) | (with_reducible refine code_ret ?_) | refine regq_to ?_ | (with_reducible refine run_nil ?_) | ((with_reducible refine run_probe ?_); refine runq_more ?_) | (with_reducible refine draw_nil ?_) | ((with_reducible refine draw_probe ?_); (first | refine drawq_more ?_ | refine drawq_as ?_)) | refine code_then ?_ | refine code_else ?_))
  refine run_op fun K hK => ?_; refine box_new fun c2 => ?_; (try simp only [Value.cells]); refine hK _ _ ?_; clear hK K
  (repeat (first | (with_reducible refine then_n ?_) | (with_reducible refine then_r ?_) | (with_reducible refine then_e ?_) | (with_reducible refine block_n ?_) | (with_reducible refine block_r ?_) | (with_reducible refine block_e ?_) | refine block_o ?_ | (with_reducible refine scope_n ?_) | (with_reducible refine scope_r ?_) | (with_reducible refine scope_e ?_) | (with_reducible refine code_seq ?_) | (with_reducible refine code_skip ?_) | (with_reducible refine code_label ?_) | (with_reducible refine code_block ?_) | (with_reducible refine code_scope ?_) | (with_reducible refine code_exit ?_) | (with_reducible refine code_ret ?_) | refine regq_to ?_ | (with_reducible refine run_nil ?_) | ((with_reducible refine run_probe ?_); refine runq_more ?_) | (with_reducible refine draw_nil ?_) | ((with_reducible refine draw_probe ?_); (first | refine drawq_more ?_ | refine drawq_as ?_)) | refine code_then ?_ | refine code_else ?_))
  refine run_op fun K hK => ?_; refine box_new fun c3 => ?_; (try simp only [Value.cells]); refine hK _ _ ?_; clear hK K
  (repeat (first | (with_reducible refine then_n ?_) | (with_reducible refine then_r ?_) | (with_reducible refine then_e ?_) | (with_reducible refine block_n ?_) | (with_reducible refine block_r ?_) | (with_reducible refine block_e ?_) | refine block_o ?_ | (with_reducible refine scope_n ?_) | (with_reducible refine scope_r ?_) | (with_reducible refine scope_e ?_) | (with_reducible refine code_seq ?_) | (with_reducible refine code_skip ?_) | (with_reducible refine code_label ?_) | (with_reducible refine code_block ?_) | (with_reducible refine code_scope ?_) | (with_reducible refine code_exit ?_) | (with_reducible refine code_ret ?_) | refine regq_to ?_ | (with_reducible refine run_nil ?_) | ((with_reducible refine run_probe ?_); refine runq_more ?_) | (with_reducible refine draw_nil ?_) | ((with_reducible refine draw_probe ?_); (first | refine drawq_more ?_ | refine drawq_as ?_)) | refine code_then ?_ | refine code_else ?_))
  refine back_tmp [b1 c1 (.pointer p), b2 c2 i, b2 c3 size] ⟨c1, c2, c3, rfl, rfl⟩


set_option maxHeartbeats 2000000 in
theorem ck_core_0 {t1 : TypeId} (G : Chunk) (m1 : Nat × Nat) (hG1 : (1, Obj.cells (rowW Go.Sha.odd) t1 m1) ∈ G) (b room : Nat) (w v : Wy) (d e : Wd) (hr2 : room ≤ 4096) (hd : d.is room w) (hall : w.all.length ≤ 1000000) (c1 c2 c3 : Nat) (size : Int)
    (l0 : Nat) (J Jx : List Ck → Chunk → Prop) (hY : ∀ pre x, isCk w size pre x → YMeets Tryd.prog l0 (encK x) (Gv (ckH pre x) (J pre)) (Gv (noH pre x) (J (pre ++ [x]))) (Gv (noH pre x) (Jx (pre ++ [x])))) (C : Chunk) (hC : J [] C) :
    Meets Tryd.prog 47 [.func (.yield l0) #[] #[], .pointer (some ⟨c1, 0, none⟩), .pointer (some ⟨c2, 0, none⟩), .pointer (some ⟨c3, 0, none⟩)]
      [C, b1 c1 (.pointer (some ⟨b, 0, none⟩)), b2 c2 0, b2 c3 size, G, pD b room d w e v, d.Cp, hashA d.h w.r d.ar d.cr, d.Cr]
      fun _ S => ∃ (C' : Chunk) (d' : Wd) (n : Nat), d'.is room (ckst w size n) ∧ S = [C', b1 c1 (.pointer (some ⟨b, 0, none⟩)), b2 c2 0, b2 c3 size, G, pD b room d' (ckst w size n) e v, d'.Cp, hashA d'.h (ckst w size n).r d'.ar d'.cr, d'.Cr] ∧
        ((∃ pre : List Ck, pre.length = n ∧ noCk w size pre ∧ J pre C') ∨ (∃ (pre : List Ck) (x : Ck), pre.length + 1 = n ∧ isCk w size pre x ∧ Jx (pre ++ [x]) C')) := by
  refine spec_intro Tryd.func47 rfl (by kernel_rfl) (by rw [Tryd.ntmps47]; simp) fun F => ?_; rw [Tryd.ntmps47, Tryd.results47]
  (repeat (first | (with_reducible refine then_n ?_) | (with_reducible refine then_r ?_) | (with_reducible refine then_e ?_) | (with_reducible refine block_n ?_) | (with_reducible refine block_r ?_) | (with_reducible refine block_e ?_) | refine block_o ?_ | (with_reducible refine scope_n ?_) | (with_reducible refine scope_r ?_) | (with_reducible refine scope_e ?_) | (with_reducible refine code_seq ?_) | (with_reducible refine code_skip ?_) | (with_reducible refine code_label ?_) | (with_reducible refine code_block ?_) | (with_reducible refine code_scope ?_) | (with_reducible refine code_exit ?_) | (with_reducible refine code_ret ?_) | refine regq_to ?_ | (with_reducible refine run_nil ?_) | ((with_reducible refine run_probe ?_); refine runq_more ?_) | (with_reducible refine draw_nil ?_) | ((with_reducible refine draw_probe ?_); (first | refine drawq_more ?_ | refine drawq_as ?_)) | refine code_then ?_ | refine code_else ?_))
  refine run_op fun K hK => ?_; refine calls_to (way_0 b) ?_; rintro v A ⟨rfl, rfl⟩; (try simp only [List.nil_append, List.cons_append]); refine hK _ _ ?_; clear hK K; (repeat (first | (with_reducible refine then_n ?_) | (with_reducible refine then_r ?_) | (with_reducible refine then_e ?_) | (with_reducible refine block_n ?_) | (with_reducible refine block_r ?_) | (with_reducible refine block_e ?_) | refine block_o ?_ | (with_reducible refine scope_n ?_) | (with_reducible refine scope_r ?_) | (with_reducible refine scope_e ?_) | (with_reducible refine code_seq ?_) | (with_reducible refine code_skip ?_) | (with_reducible refine code_label ?_) | (with_reducible refine code_block ?_) | (with_reducible refine code_scope ?_) | (with_reducible refine code_exit ?_) | (with_reducible refine code_ret ?_) | refine regq_to ?_ | (with_reducible refine run_nil ?_) | ((with_reducible refine run_probe ?_); refine runq_more ?_) | (with_reducible refine draw_nil ?_) | ((with_reducible refine draw_probe ?_); (first | refine drawq_more ?_ | refine drawq_as ?_)) | refine code_then ?_ | refine code_else ?_))
  refine loop_i (fun q D L S => ∃ (pre : List Ck) (C' : Chunk) (d' : Wd), J pre C' ∧ d'.is room (ckst w size pre.length) ∧ q = (ckst w size pre.length).q.length ∧ D = [] ∧
    L = [(5, .pointer (some ⟨b, 0, none⟩)), (6, .int .i64 0), (0, .func (.yield l0) #[] #[]), (1, .pointer (some ⟨c1, 0, none⟩)), (2, .pointer (some ⟨c2, 0, none⟩)), (3, .pointer (some ⟨c3, 0, none⟩))] ∧
    S = [C', F, b1 c1 (.pointer (some ⟨b, 0, none⟩)), b2 c2 0, b2 c3 size, G, pD b room d' (ckst w size pre.length) e v, d'.Cp, hashA d'.h (ckst w size pre.length).r d'.ar d'.cr, d'.Cr])
    ⟨[], C, d, hC, hd, rfl, rfl, rfl, rfl⟩ ?_
  rintro q D L S ⟨pre, C', d', hJ, hd', rfl, rfl, rfl, rfl⟩
  obtain ⟨u, hu⟩ : ∃ u, ckst w size pre.length = u := ⟨_, rfl⟩
  have hual : u.all.length ≤ 1000000 := by rw [← hu, ckst_all]; exact hall
  have hurl : u.r.length ≤ 1000000 := by rw [all_len] at hual; omega
  have hql : u.q.length ≤ 1000000 := by rw [all_len] at hual; omega
  rw [hu] at hd' ⊢
  (repeat (first | (with_reducible refine then_n ?_) | (with_reducible refine then_r ?_) | (with_reducible refine then_e ?_) | (with_reducible refine block_n ?_) | (with_reducible refine block_r ?_) | (with_reducible refine block_e ?_) | refine block_o ?_ | (with_reducible refine scope_n ?_) | (with_reducible refine scope_r ?_) | (with_reducible refine scope_e ?_) | (with_reducible refine code_seq ?_) | (with_reducible refine code_skip ?_) | (with_reducible refine code_label ?_) | (with_reducible refine code_block ?_) | (with_reducible refine code_scope ?_) | (with_reducible refine code_exit ?_) | (with_reducible refine code_ret ?_) | refine regq_to ?_ | (with_reducible refine run_nil ?_) | ((with_reducible refine run_probe ?_); refine runq_more ?_) | (with_reducible refine draw_nil ?_) | ((with_reducible refine draw_probe ?_); (first | refine drawq_more ?_ | refine drawq_as ?_)) | refine code_then ?_ | refine code_else ?_))
  by_cases hsz : 0 < size
  · rw [decide_eq_true hsz]
    (repeat (first | (with_reducible refine then_n ?_) | (with_reducible refine then_r ?_) | (with_reducible refine then_e ?_) | (with_reducible refine block_n ?_) | (with_reducible refine block_r ?_) | (with_reducible refine block_e ?_) | refine block_o ?_ | (with_reducible refine scope_n ?_) | (with_reducible refine scope_r ?_) | (with_reducible refine scope_e ?_) | (with_reducible refine code_seq ?_) | (with_reducible refine code_skip ?_) | (with_reducible refine code_label ?_) | (with_reducible refine code_block ?_) | (with_reducible refine code_scope ?_) | (with_reducible refine code_exit ?_) | (with_reducible refine code_ret ?_) | refine regq_to ?_ | (with_reducible refine run_nil ?_) | ((with_reducible refine run_probe ?_); refine runq_more ?_) | (with_reducible refine draw_nil ?_) | ((with_reducible refine draw_probe ?_); (first | refine drawq_more ?_ | refine drawq_as ?_)) | refine code_then ?_ | refine code_else ?_))
    by_cases hq : u.q = []
    · rw [decide_eq_false (show ¬ (0 : Int) < u.q.length by rw [hq]; simp)]
      (repeat (first | (with_reducible refine then_n ?_) | (with_reducible refine then_r ?_) | (with_reducible refine then_e ?_) | (with_reducible refine block_n ?_) | (with_reducible refine block_r ?_) | (with_reducible refine block_e ?_) | refine block_o ?_ | (with_reducible refine scope_n ?_) | (with_reducible refine scope_r ?_) | (with_reducible refine scope_e ?_) | (with_reducible refine code_seq ?_) | (with_reducible refine code_skip ?_) | (with_reducible refine code_label ?_) | (with_reducible refine code_block ?_) | (with_reducible refine code_scope ?_) | (with_reducible refine code_exit ?_) | (with_reducible refine code_ret ?_) | refine regq_to ?_ | (with_reducible refine run_nil ?_) | ((with_reducible refine run_probe ?_); refine runq_more ?_) | (with_reducible refine draw_nil ?_) | ((with_reducible refine draw_probe ?_); (first | refine drawq_more ?_ | refine drawq_as ?_)) | refine code_then ?_ | refine code_else ?_))
      refine back_none_n [C', b1 c1 (.pointer (some ⟨b, 0, none⟩)), b2 c2 0, b2 c3 size, G, pD b room d' u e v, d'.Cp, hashA d'.h u.r d'.ar d'.cr, d'.Cr] ⟨C', d', pre.length, ?_, ?_, .inl ⟨pre, rfl, fun h => h.2 (by rw [hu]; exact hq), hJ⟩⟩
      · rw [hu]; exact hd'
      · rw [hu]
    · have hqp : 0 < u.q.length := List.length_pos_iff.2 hq
      rw [decide_eq_true (show (0 : Int) < u.q.length by omega)]
      (repeat (first | (with_reducible refine then_n ?_) | (with_reducible refine then_r ?_) | (with_reducible refine then_e ?_) | (with_reducible refine block_n ?_) | (with_reducible refine block_r ?_) | (with_reducible refine block_e ?_) | refine block_o ?_ | (with_reducible refine scope_n ?_) | (with_reducible refine scope_r ?_) | (with_reducible refine scope_e ?_) | (with_reducible refine code_seq ?_) | (with_reducible refine code_skip ?_) | (with_reducible refine code_label ?_) | (with_reducible refine code_block ?_) | (with_reducible refine code_scope ?_) | (with_reducible refine code_exit ?_) | (with_reducible refine code_ret ?_) | refine regq_to ?_ | (with_reducible refine run_nil ?_) | ((with_reducible refine run_probe ?_); refine runq_more ?_) | (with_reducible refine draw_nil ?_) | ((with_reducible refine draw_probe ?_); (first | refine drawq_more ?_ | refine drawq_as ?_)) | refine code_then ?_ | refine code_else ?_))
      obtain ⟨hp0, hR0, hc0⟩ := hd'
      have hw := take_0 G m1 hG1 b d'.pa room d'.a u.q d'.ps u.f u.all.length d'.h (.slice e.pa room room) e.a v.q.length v.f v.all.length e.h d'.Cp d'.Cr u.r d'.ar d'.cr size (min size.toNat u.q.length) rfl (by omega) hurl hR0 hp0 hc0
      rw [show u.q.take (min size.toNat u.q.length) = u.q.take size.toNat from take_cap _ _, show u.q.drop (min size.toNat u.q.length) = u.q.drop size.toNat from drop_cap _ _, show u.q.length - min size.toNat u.q.length = (u.q.drop size.toNat).length from by rw [List.length_drop]; omega, show min size.toNat u.q.length = (u.q.take size.toNat).length from by rw [List.length_take]] at hw
      refine run_op fun K hK => ?_; refine calls_to hw ?_; rintro vv A ⟨O, oa, oc, a', Cr', ar', cr', rfl, hO, hR', hCr', rfl⟩; (try simp only [List.nil_append, List.cons_append]); refine hK _ _ ?_; clear hK K
      (repeat (first | (with_reducible refine then_n ?_) | (with_reducible refine then_r ?_) | (with_reducible refine then_e ?_) | (with_reducible refine block_n ?_) | (with_reducible refine block_r ?_) | (with_reducible refine block_e ?_) | refine block_o ?_ | (with_reducible refine scope_n ?_) | (with_reducible refine scope_r ?_) | (with_reducible refine scope_e ?_) | (with_reducible refine code_seq ?_) | (with_reducible refine code_skip ?_) | (with_reducible refine code_label ?_) | (with_reducible refine code_block ?_) | (with_reducible refine code_scope ?_) | (with_reducible refine code_exit ?_) | (with_reducible refine code_ret ?_) | refine regq_to ?_ | (with_reducible refine run_nil ?_) | ((with_reducible refine run_probe ?_); refine runq_more ?_) | (with_reducible refine draw_nil ?_) | ((with_reducible refine draw_probe ?_); (first | refine drawq_more ?_ | refine drawq_as ?_)) | refine code_then ?_ | refine code_else ?_))
      have hnx : isCk w size pre ⟨oa, oc, u.q.take size.toNat⟩ := ⟨hsz, by rw [hu]; exact hq, by rw [hu]⟩
      have hst : ckst w size (pre ++ [(⟨oa, oc, u.q.take size.toNat⟩ : Ck)]).length = wtake u size := by rw [List.length_append, List.length_singleton, ckst, hu]
      have hst1 : ckst w size (pre.length + 1) = wtake u size := by rw [ckst, hu]
      refine run_op fun K hK => ?_
      refine yield_meetsG (hY pre ⟨oa, oc, u.q.take size.toNat⟩ hnx) hJ ⟨O, rfl, hO⟩ (by (repeat (first | with_reducible exact Take.nil _ | with_reducible exact Pick.head _ _ | with_reducible apply Pick.tail | with_reducible apply Take.cons))) (fun C4 H4 hJ4 hH4 => ?_) (fun C4 H4 hJ4 hH4 => ?_)
      · subst hH4
        (try simp only [List.nil_append])
        refine hK _ _ ?_; clear hK K
        (repeat (first | (with_reducible refine then_n ?_) | (with_reducible refine then_r ?_) | (with_reducible refine then_e ?_) | (with_reducible refine block_n ?_) | (with_reducible refine block_r ?_) | (with_reducible refine block_e ?_) | refine block_o ?_ | (with_reducible refine scope_n ?_) | (with_reducible refine scope_r ?_) | (with_reducible refine scope_e ?_) | (with_reducible refine code_seq ?_) | (with_reducible refine code_skip ?_) | (with_reducible refine code_label ?_) | (with_reducible refine code_block ?_) | (with_reducible refine code_scope ?_) | (with_reducible refine code_exit ?_) | (with_reducible refine code_ret ?_) | refine regq_to ?_ | (with_reducible refine run_nil ?_) | ((with_reducible refine run_probe ?_); refine runq_more ?_) | (with_reducible refine draw_nil ?_) | ((with_reducible refine draw_probe ?_); (first | refine drawq_more ?_ | refine drawq_as ?_)) | refine code_then ?_ | refine code_else ?_))
        refine again ⟨pre ++ [⟨oa, oc, u.q.take size.toNat⟩], C4, ⟨d'.pa, a', d'.ps, d'.h, ar', cr', d'.Cp, Cr'⟩, hJ4, ?_, rfl, rfl, rfl, rfl⟩ ?_ ?_ ?_
        · rw [hst]; exact ⟨hp0, hR', hCr'⟩
        · rw [hst]; show (u.q.drop size.toNat).length < u.q.length; rw [List.length_drop]; omega
        · (repeat (first | exact True.intro | (refine And.intro ?_ ?_; (· (try simp only [evT, lookT_hit, lookT_miss, Nat.reduceBEq]); (first | done | exact rfl)))))
        · rw [hst, show pD b room ⟨d'.pa, a', d'.ps, d'.h, ar', cr', d'.Cp, Cr'⟩ (wtake u size) e v = pD b room ⟨d'.pa, a', d'.ps, d'.h, ar', cr', d'.Cp, Cr'⟩ ⟨u.q.drop size.toNat, u.r ++ u.q.take size.toNat, u.l, u.f⟩ e v from rfl]
          unfold pD
          rw [show (⟨u.q.drop size.toNat, u.r ++ u.q.take size.toNat, u.l, u.f⟩ : Wy).all = u.all from all_take u size]
          first | ((repeat (first | with_reducible exact Among.nil _ | with_reducible exact Pick.head _ _ | with_reducible apply Pick.tail | with_reducible apply Among.cons)); done) | ((repeat (first | exact Among.nil _ | exact Pick.head _ _ | apply Pick.tail | apply Among.cons)); done)
      · subst hH4
        (try simp only [List.nil_append])
        refine hK _ _ ?_; clear hK K
        (repeat (first | (with_reducible refine then_n ?_) | (with_reducible refine then_r ?_) | (with_reducible refine then_e ?_) | (with_reducible refine block_n ?_) | (with_reducible refine block_r ?_) | (with_reducible refine block_e ?_) | refine block_o ?_ | (with_reducible refine scope_n ?_) | (with_reducible refine scope_r ?_) | (with_reducible refine scope_e ?_) | (with_reducible refine code_seq ?_) | (with_reducible refine code_skip ?_) | (with_reducible refine code_label ?_) | (with_reducible refine code_block ?_) | (with_reducible refine code_scope ?_) | (with_reducible refine code_exit ?_) | (with_reducible refine code_ret ?_) | refine regq_to ?_ | (with_reducible refine run_nil ?_) | ((with_reducible refine run_probe ?_); refine runq_more ?_) | (with_reducible refine draw_nil ?_) | ((with_reducible refine draw_probe ?_); (first | refine drawq_more ?_ | refine drawq_as ?_)) | refine code_then ?_ | refine code_else ?_))
        refine back_none [C4, b1 c1 (.pointer (some ⟨b, 0, none⟩)), b2 c2 0, b2 c3 size, G, pD b room ⟨d'.pa, a', d'.ps, d'.h, ar', cr', d'.Cp, Cr'⟩ (wtake u size) e v, d'.Cp, hashA d'.h (wtake u size).r ar' cr', Cr'] ⟨C4, ⟨d'.pa, a', d'.ps, d'.h, ar', cr', d'.Cp, Cr'⟩, pre.length + 1, ?_, ?_, .inr ⟨pre, _, rfl, hnx, hJ4⟩⟩ ?_
        · rw [hst1]; exact ⟨hp0, hR', hCr'⟩
        · rw [hst1]
        · unfold pD
          rw [all_take]
          first | ((repeat (first | with_reducible exact Among.nil _ | with_reducible exact Pick.head _ _ | with_reducible apply Pick.tail | with_reducible apply Among.cons)); done) | ((repeat (first | exact Among.nil _ | exact Pick.head _ _ | apply Pick.tail | apply Among.cons)); done)
  · rw [decide_eq_false hsz]
    (repeat (first | (with_reducible refine then_n ?_) | (with_reducible refine then_r ?_) | (with_reducible refine then_e ?_) | (with_reducible refine block_n ?_) | (with_reducible refine block_r ?_) | (with_reducible refine block_e ?_) | refine block_o ?_ | (with_reducible refine scope_n ?_) | (with_reducible refine scope_r ?_) | (with_reducible refine scope_e ?_) | (with_reducible refine code_seq ?_) | (with_reducible refine code_skip ?_) | (with_reducible refine code_label ?_) | (with_reducible refine code_block ?_) | (with_reducible refine code_scope ?_) | (with_reducible refine code_exit ?_) | (with_reducible refine code_ret ?_) | refine regq_to ?_ | (with_reducible refine run_nil ?_) | ((with_reducible refine run_probe ?_); refine runq_more ?_) | (with_reducible refine draw_nil ?_) | ((with_reducible refine draw_probe ?_); (first | refine drawq_more ?_ | refine drawq_as ?_)) | refine code_then ?_ | refine code_else ?_))
    refine back_none_n [C', b1 c1 (.pointer (some ⟨b, 0, none⟩)), b2 c2 0, b2 c3 size, G, pD b room d' u e v, d'.Cp, hashA d'.h u.r d'.ar d'.cr, d'.Cr] ⟨C', d', pre.length, ?_, ?_, .inl ⟨pre, rfl, fun h => hsz h.1, hJ⟩⟩
    · rw [hu]; exact hd'
    · rw [hu]


theorem ck_iter_0 {t1 : TypeId} (G : Chunk) (m1 : Nat × Nat) (hG1 : (1, Obj.cells (rowW Go.Sha.odd) t1 m1) ∈ G) {T : Chunk} {b room : Nat} {w0 w1 : Wy} (h : IsPipe T b room w0 w1) (hall : w0.all.length ≤ 1000000) (c1 c2 c3 : Nat) (size : Int) :
    IMeetsG Tryd.prog 47 [] [.pointer (some ⟨c1, 0, none⟩), .pointer (some ⟨c2, 0, none⟩), .pointer (some ⟨c3, 0, none⟩)] encK [b1 c1 (.pointer (some ⟨b, 0, none⟩)), b2 c2 0, b2 c3 size, G, T]
      (fun T => T = []) ckH noH noH (isCk w0 size) (noCk w0 size)
      (fun pre A => ∃ T', IsPipe T' b room (ckst w0 size pre.length) w1 ∧ A = [b1 c1 (.pointer (some ⟨b, 0, none⟩)), b2 c2 0, b2 c3 size, G, T'])
      (fun pre A => ∃ T', IsPipe T' b room (ckst w0 size pre.length) w1 ∧ A = [b1 c1 (.pointer (some ⟨b, 0, none⟩)), b2 c2 0, b2 c3 size, G, T']) false := by
  obtain ⟨hr1, hr2, ok0, ok1, d0, d1, hd0, hd1, rfl⟩ := h
  refine iter_introG (by kernel_rfl) fun l0 J Jx hN hT hY C hC => ?_
  have hcore := ck_core_0 G m1 hG1 b room w0 w1 d0 d1 hr2 hd0 hall c1 c2 c3 size l0 J Jx hY C hC
  refine Meets.conv [C, b1 c1 (.pointer (some ⟨b, 0, none⟩)), b2 c2 0, b2 c3 size, G, pD b room d0 w0 d1 w1, d0.Cp, hashA d0.h w0.r d0.ar d0.cr, d0.Cr, d1.Cp, hashA d1.h w1.r d1.ar d1.cr, d1.Cr] hcore (by simp only [List.flatten_cons, List.flatten_nil, List.append_assoc, List.append_nil]) (by (repeat (first | with_reducible exact Take.nil _ | with_reducible exact Pick.head _ _ | with_reducible apply Pick.tail | with_reducible apply Take.cons))) ?_
  rintro v A ⟨C', d', n, hd', rfl, hor⟩
  refine ⟨[C', b1 c1 (.pointer (some ⟨b, 0, none⟩)), b2 c2 0, b2 c3 size, G, pT b room d' (ckst w0 size n) d1 w1], [C', b1 c1 (.pointer (some ⟨b, 0, none⟩)), b2 c2 0, b2 c3 size, G, pD b room d' (ckst w0 size n) d1 w1, d'.Cp, hashA d'.h (ckst w0 size n).r d'.ar d'.cr, d'.Cr, d1.Cp, hashA d1.h w1.r d1.ar d1.cr, d1.Cr], by simp only [List.flatten_cons, List.flatten_nil, List.append_assoc, List.append_nil], by first | ((repeat (first | with_reducible exact Among.nil _ | with_reducible exact Pick.head _ _ | with_reducible apply Pick.tail | with_reducible apply Among.cons)); done) | ((repeat (first | exact Among.nil _ | exact Pick.head _ _ | apply Pick.tail | apply Among.cons)); done), ?_⟩
  have hP : IsPipe (pT b room d' (ckst w0 size n) d1 w1) b room (ckst w0 size n) w1 := ⟨hr1, hr2, ckst_ok ok0 size n, ok1, d', d1, hd', hd1, rfl⟩
  rcases hor with ⟨pre, rfl, hno, hJ⟩ | ⟨pre, x, hn, hnx, hJ⟩
  · exact ⟨C', _, rfl, .inl ⟨pre, hno, hJ, _, hP, rfl⟩⟩
  · refine ⟨C', _, rfl, .inr ⟨pre, x, hnx, hJ, _, ?_, rfl⟩⟩
    rw [List.length_append, List.length_singleton, hn]; exact hP


set_option maxHeartbeats 2000000 in
theorem ck_core_1 {t1 : TypeId} (G : Chunk) (m1 : Nat × Nat) (hG1 : (1, Obj.cells (rowW Go.Sha.odd) t1 m1) ∈ G) (b room : Nat) (w v : Wy) (d e : Wd) (hr2 : room ≤ 4096) (hd : d.is room w) (hall : w.all.length ≤ 1000000) (c1 c2 c3 : Nat) (size : Int)
    (l0 : Nat) (J Jx : List Ck → Chunk → Prop) (hY : ∀ pre x, isCk w size pre x → YMeets Tryd.prog l0 (encK x) (Gv (ckH pre x) (J pre)) (Gv (noH pre x) (J (pre ++ [x]))) (Gv (noH pre x) (Jx (pre ++ [x])))) (C : Chunk) (hC : J [] C) :
    Meets Tryd.prog 47 [.func (.yield l0) #[] #[], .pointer (some ⟨c1, 0, none⟩), .pointer (some ⟨c2, 0, none⟩), .pointer (some ⟨c3, 0, none⟩)]
      [C, b1 c1 (.pointer (some ⟨b, 0, none⟩)), b2 c2 1, b2 c3 size, G, pD b room e v d w, d.Cp, hashA d.h w.r d.ar d.cr, d.Cr]
      fun _ S => ∃ (C' : Chunk) (d' : Wd) (n : Nat), d'.is room (ckst w size n) ∧ S = [C', b1 c1 (.pointer (some ⟨b, 0, none⟩)), b2 c2 1, b2 c3 size, G, pD b room e v d' (ckst w size n), d'.Cp, hashA d'.h (ckst w size n).r d'.ar d'.cr, d'.Cr] ∧
        ((∃ pre : List Ck, pre.length = n ∧ noCk w size pre ∧ J pre C') ∨ (∃ (pre : List Ck) (x : Ck), pre.length + 1 = n ∧ isCk w size pre x ∧ Jx (pre ++ [x]) C')) := by
  refine spec_intro Tryd.func47 rfl (by kernel_rfl) (by rw [Tryd.ntmps47]; simp) fun F => ?_; rw [Tryd.ntmps47, Tryd.results47]
  (repeat (first | (with_reducible refine then_n ?_) | (with_reducible refine then_r ?_) | (with_reducible refine then_e ?_) | (with_reducible refine block_n ?_) | (with_reducible refine block_r ?_) | (with_reducible refine block_e ?_) | refine block_o ?_ | (with_reducible refine scope_n ?_) | (with_reducible refine scope_r ?_) | (with_reducible refine scope_e ?_) | (with_reducible refine code_seq ?_) | (with_reducible refine code_skip ?_) | (with_reducible refine code_label ?_) | (with_reducible refine code_block ?_) | (with_reducible refine code_scope ?_) | (with_reducible refine code_exit ?_) | (with_reducible refine code_ret ?_) | refine regq_to ?_ | (with_reducible refine run_nil ?_) | ((with_reducible refine run_probe ?_); refine runq_more ?_) | (with_reducible refine draw_nil ?_) | ((with_reducible refine draw_probe ?_); (first | refine drawq_more ?_ | refine drawq_as ?_)) | refine code_then ?_ | refine code_else ?_))
  refine run_op fun K hK => ?_; refine calls_to (way_1 b) ?_; rintro v A ⟨rfl, rfl⟩; (try simp only [List.nil_append, List.cons_append]); refine hK _ _ ?_; clear hK K; (repeat (first | (with_reducible refine then_n ?_) | (with_reducible refine then_r ?_) | (with_reducible refine then_e ?_) | (with_reducible refine block_n ?_) | (with_reducible refine block_r ?_) | (with_reducible refine block_e ?_) | refine block_o ?_ | (with_reducible refine scope_n ?_) | (with_reducible refine scope_r ?_) | (with_reducible refine scope_e ?_) | (with_reducible refine code_seq ?_) | (with_reducible refine code_skip ?_) | (with_reducible refine code_label ?_) | (with_reducible refine code_block ?_) | (with_reducible refine code_scope ?_) | (with_reducible refine code_exit ?_) | (with_reducible refine code_ret ?_) | refine regq_to ?_ | (with_reducible refine run_nil ?_) | ((with_reducible refine run_probe ?_); refine runq_more ?_) | (with_reducible refine draw_nil ?_) | ((with_reducible refine draw_probe ?_); (first | refine drawq_more ?_ | refine drawq_as ?_)) | refine code_then ?_ | refine code_else ?_))
  refine loop_i (fun q D L S => ∃ (pre : List Ck) (C' : Chunk) (d' : Wd), J pre C' ∧ d'.is room (ckst w size pre.length) ∧ q = (ckst w size pre.length).q.length ∧ D = [] ∧
    L = [(5, .pointer (some ⟨b, 6, none⟩)), (6, .int .i64 0), (0, .func (.yield l0) #[] #[]), (1, .pointer (some ⟨c1, 0, none⟩)), (2, .pointer (some ⟨c2, 0, none⟩)), (3, .pointer (some ⟨c3, 0, none⟩))] ∧
    S = [C', F, b1 c1 (.pointer (some ⟨b, 0, none⟩)), b2 c2 1, b2 c3 size, G, pD b room e v d' (ckst w size pre.length), d'.Cp, hashA d'.h (ckst w size pre.length).r d'.ar d'.cr, d'.Cr])
    ⟨[], C, d, hC, hd, rfl, rfl, rfl, rfl⟩ ?_
  rintro q D L S ⟨pre, C', d', hJ, hd', rfl, rfl, rfl, rfl⟩
  obtain ⟨u, hu⟩ : ∃ u, ckst w size pre.length = u := ⟨_, rfl⟩
  have hual : u.all.length ≤ 1000000 := by rw [← hu, ckst_all]; exact hall
  have hurl : u.r.length ≤ 1000000 := by rw [all_len] at hual; omega
  have hql : u.q.length ≤ 1000000 := by rw [all_len] at hual; omega
  rw [hu] at hd' ⊢
  (repeat (first | (with_reducible refine then_n ?_) | (with_reducible refine then_r ?_) | (with_reducible refine then_e ?_) | (with_reducible refine block_n ?_) | (with_reducible refine block_r ?_) | (with_reducible refine block_e ?_) | refine block_o ?_ | (with_reducible refine scope_n ?_) | (with_reducible refine scope_r ?_) | (with_reducible refine scope_e ?_) | (with_reducible refine code_seq ?_) | (with_reducible refine code_skip ?_) | (with_reducible refine code_label ?_) | (with_reducible refine code_block ?_) | (with_reducible refine code_scope ?_) | (with_reducible refine code_exit ?_) | (with_reducible refine code_ret ?_) | refine regq_to ?_ | (with_reducible refine run_nil ?_) | ((with_reducible refine run_probe ?_); refine runq_more ?_) | (with_reducible refine draw_nil ?_) | ((with_reducible refine draw_probe ?_); (first | refine drawq_more ?_ | refine drawq_as ?_)) | refine code_then ?_ | refine code_else ?_))
  by_cases hsz : 0 < size
  · rw [decide_eq_true hsz]
    (repeat (first | (with_reducible refine then_n ?_) | (with_reducible refine then_r ?_) | (with_reducible refine then_e ?_) | (with_reducible refine block_n ?_) | (with_reducible refine block_r ?_) | (with_reducible refine block_e ?_) | refine block_o ?_ | (with_reducible refine scope_n ?_) | (with_reducible refine scope_r ?_) | (with_reducible refine scope_e ?_) | (with_reducible refine code_seq ?_) | (with_reducible refine code_skip ?_) | (with_reducible refine code_label ?_) | (with_reducible refine code_block ?_) | (with_reducible refine code_scope ?_) | (with_reducible refine code_exit ?_) | (with_reducible refine code_ret ?_) | refine regq_to ?_ | (with_reducible refine run_nil ?_) | ((with_reducible refine run_probe ?_); refine runq_more ?_) | (with_reducible refine draw_nil ?_) | ((with_reducible refine draw_probe ?_); (first | refine drawq_more ?_ | refine drawq_as ?_)) | refine code_then ?_ | refine code_else ?_))
    by_cases hq : u.q = []
    · rw [decide_eq_false (show ¬ (0 : Int) < u.q.length by rw [hq]; simp)]
      (repeat (first | (with_reducible refine then_n ?_) | (with_reducible refine then_r ?_) | (with_reducible refine then_e ?_) | (with_reducible refine block_n ?_) | (with_reducible refine block_r ?_) | (with_reducible refine block_e ?_) | refine block_o ?_ | (with_reducible refine scope_n ?_) | (with_reducible refine scope_r ?_) | (with_reducible refine scope_e ?_) | (with_reducible refine code_seq ?_) | (with_reducible refine code_skip ?_) | (with_reducible refine code_label ?_) | (with_reducible refine code_block ?_) | (with_reducible refine code_scope ?_) | (with_reducible refine code_exit ?_) | (with_reducible refine code_ret ?_) | refine regq_to ?_ | (with_reducible refine run_nil ?_) | ((with_reducible refine run_probe ?_); refine runq_more ?_) | (with_reducible refine draw_nil ?_) | ((with_reducible refine draw_probe ?_); (first | refine drawq_more ?_ | refine drawq_as ?_)) | refine code_then ?_ | refine code_else ?_))
      refine back_none_n [C', b1 c1 (.pointer (some ⟨b, 0, none⟩)), b2 c2 1, b2 c3 size, G, pD b room e v d' u, d'.Cp, hashA d'.h u.r d'.ar d'.cr, d'.Cr] ⟨C', d', pre.length, ?_, ?_, .inl ⟨pre, rfl, fun h => h.2 (by rw [hu]; exact hq), hJ⟩⟩
      · rw [hu]; exact hd'
      · rw [hu]
    · have hqp : 0 < u.q.length := List.length_pos_iff.2 hq
      rw [decide_eq_true (show (0 : Int) < u.q.length by omega)]
      (repeat (first | (with_reducible refine then_n ?_) | (with_reducible refine then_r ?_) | (with_reducible refine then_e ?_) | (with_reducible refine block_n ?_) | (with_reducible refine block_r ?_) | (with_reducible refine block_e ?_) | refine block_o ?_ | (with_reducible refine scope_n ?_) | (with_reducible refine scope_r ?_) | (with_reducible refine scope_e ?_) | (with_reducible refine code_seq ?_) | (with_reducible refine code_skip ?_) | (with_reducible refine code_label ?_) | (with_reducible refine code_block ?_) | (with_reducible refine code_scope ?_) | (with_reducible refine code_exit ?_) | (with_reducible refine code_ret ?_) | refine regq_to ?_ | (with_reducible refine run_nil ?_) | ((with_reducible refine run_probe ?_); refine runq_more ?_) | (with_reducible refine draw_nil ?_) | ((with_reducible refine draw_probe ?_); (first | refine drawq_more ?_ | refine drawq_as ?_)) | refine code_then ?_ | refine code_else ?_))
      obtain ⟨hp0, hR0, hc0⟩ := hd'
      have hw := take_1 G m1 hG1 b d'.pa room d'.a u.q d'.ps u.f u.all.length d'.h (.slice e.pa room room) e.a v.q.length v.f v.all.length e.h d'.Cp d'.Cr u.r d'.ar d'.cr size (min size.toNat u.q.length) rfl (by omega) hurl hR0 hp0 hc0
      rw [show u.q.take (min size.toNat u.q.length) = u.q.take size.toNat from take_cap _ _, show u.q.drop (min size.toNat u.q.length) = u.q.drop size.toNat from drop_cap _ _, show u.q.length - min size.toNat u.q.length = (u.q.drop size.toNat).length from by rw [List.length_drop]; omega, show min size.toNat u.q.length = (u.q.take size.toNat).length from by rw [List.length_take]] at hw
      refine run_op fun K hK => ?_; refine calls_to hw ?_; rintro vv A ⟨O, oa, oc, a', Cr', ar', cr', rfl, hO, hR', hCr', rfl⟩; (try simp only [List.nil_append, List.cons_append]); refine hK _ _ ?_; clear hK K
      (repeat (first | (with_reducible refine then_n ?_) | (with_reducible refine then_r ?_) | (with_reducible refine then_e ?_) | (with_reducible refine block_n ?_) | (with_reducible refine block_r ?_) | (with_reducible refine block_e ?_) | refine block_o ?_ | (with_reducible refine scope_n ?_) | (with_reducible refine scope_r ?_) | (with_reducible refine scope_e ?_) | (with_reducible refine code_seq ?_) | (with_reducible refine code_skip ?_) | (with_reducible refine code_label ?_) | (with_reducible refine code_block ?_) | (with_reducible refine code_scope ?_) | (with_reducible refine code_exit ?_) | (with_reducible refine code_ret ?_) | refine regq_to ?_ | (with_reducible refine run_nil ?_) | ((with_reducible refine run_probe ?_); refine runq_more ?_) | (with_reducible refine draw_nil ?_) | ((with_reducible refine draw_probe ?_); (first | refine drawq_more ?_ | refine drawq_as ?_)) | refine code_then ?_ | refine code_else ?_))
      have hnx : isCk w size pre ⟨oa, oc, u.q.take size.toNat⟩ := ⟨hsz, by rw [hu]; exact hq, by rw [hu]⟩
      have hst : ckst w size (pre ++ [(⟨oa, oc, u.q.take size.toNat⟩ : Ck)]).length = wtake u size := by rw [List.length_append, List.length_singleton, ckst, hu]
      have hst1 : ckst w size (pre.length + 1) = wtake u size := by rw [ckst, hu]
      refine run_op fun K hK => ?_
      refine yield_meetsG (hY pre ⟨oa, oc, u.q.take size.toNat⟩ hnx) hJ ⟨O, rfl, hO⟩ (by (repeat (first | with_reducible exact Take.nil _ | with_reducible exact Pick.head _ _ | with_reducible apply Pick.tail | with_reducible apply Take.cons))) (fun C4 H4 hJ4 hH4 => ?_) (fun C4 H4 hJ4 hH4 => ?_)
      · subst hH4
        (try simp only [List.nil_append])
        refine hK _ _ ?_; clear hK K
        (repeat (first | (with_reducible refine then_n ?_) | (with_reducible refine then_r ?_) | (with_reducible refine then_e ?_) | (with_reducible refine block_n ?_) | (with_reducible refine block_r ?_) | (with_reducible refine block_e ?_) | refine block_o ?_ | (with_reducible refine scope_n ?_) | (with_reducible refine scope_r ?_) | (with_reducible refine scope_e ?_) | (with_reducible refine code_seq ?_) | (with_reducible refine code_skip ?_) | (with_reducible refine code_label ?_) | (with_reducible refine code_block ?_) | (with_reducible refine code_scope ?_) | (with_reducible refine code_exit ?_) | (with_reducible refine code_ret ?_) | refine regq_to ?_ | (with_reducible refine run_nil ?_) | ((with_reducible refine run_probe ?_); refine runq_more ?_) | (with_reducible refine draw_nil ?_) | ((with_reducible refine draw_probe ?_); (first | refine drawq_more ?_ | refine drawq_as ?_)) | refine code_then ?_ | refine code_else ?_))
        refine again ⟨pre ++ [⟨oa, oc, u.q.take size.toNat⟩], C4, ⟨d'.pa, a', d'.ps, d'.h, ar', cr', d'.Cp, Cr'⟩, hJ4, ?_, rfl, rfl, rfl, rfl⟩ ?_ ?_ ?_
        · rw [hst]; exact ⟨hp0, hR', hCr'⟩
        · rw [hst]; show (u.q.drop size.toNat).length < u.q.length; rw [List.length_drop]; omega
        · (repeat (first | exact True.intro | (refine And.intro ?_ ?_; (· (try simp only [evT, lookT_hit, lookT_miss, Nat.reduceBEq]); (first | done | exact rfl)))))
        · rw [hst, show pD b room e v ⟨d'.pa, a', d'.ps, d'.h, ar', cr', d'.Cp, Cr'⟩ (wtake u size) = pD b room e v ⟨d'.pa, a', d'.ps, d'.h, ar', cr', d'.Cp, Cr'⟩ ⟨u.q.drop size.toNat, u.r ++ u.q.take size.toNat, u.l, u.f⟩ from rfl]
          unfold pD
          rw [show (⟨u.q.drop size.toNat, u.r ++ u.q.take size.toNat, u.l, u.f⟩ : Wy).all = u.all from all_take u size]
          first | ((repeat (first | with_reducible exact Among.nil _ | with_reducible exact Pick.head _ _ | with_reducible apply Pick.tail | with_reducible apply Among.cons)); done) | ((repeat (first | exact Among.nil _ | exact Pick.head _ _ | apply Pick.tail | apply Among.cons)); done)
      · subst hH4
        (try simp only [List.nil_append])
        refine hK _ _ ?_; clear hK K
        (repeat (first | (with_reducible refine then_n ?_) | (with_reducible refine then_r ?_) | (with_reducible refine then_e ?_) | (with_reducible refine block_n ?_) | (with_reducible refine block_r ?_) | (with_reducible refine block_e ?_) | refine block_o ?_ | (with_reducible refine scope_n ?_) | (with_reducible refine scope_r ?_) | (with_reducible refine scope_e ?_) | (with_reducible refine code_seq ?_) | (with_reducible refine code_skip ?_) | (with_reducible refine code_label ?_) | (with_reducible refine code_block ?_) | (with_reducible refine code_scope ?_) | (with_reducible refine code_exit ?_) | (with_reducible refine code_ret ?_) | refine regq_to ?_ | (with_reducible refine run_nil ?_) | ((with_reducible refine run_probe ?_); refine runq_more ?_) | (with_reducible refine draw_nil ?_) | ((with_reducible refine draw_probe ?_); (first | refine drawq_more ?_ | refine drawq_as ?_)) | refine code_then ?_ | refine code_else ?_))
        refine back_none [C4, b1 c1 (.pointer (some ⟨b, 0, none⟩)), b2 c2 1, b2 c3 size, G, pD b room e v ⟨d'.pa, a', d'.ps, d'.h, ar', cr', d'.Cp, Cr'⟩ (wtake u size), d'.Cp, hashA d'.h (wtake u size).r ar' cr', Cr'] ⟨C4, ⟨d'.pa, a', d'.ps, d'.h, ar', cr', d'.Cp, Cr'⟩, pre.length + 1, ?_, ?_, .inr ⟨pre, _, rfl, hnx, hJ4⟩⟩ ?_
        · rw [hst1]; exact ⟨hp0, hR', hCr'⟩
        · rw [hst1]
        · unfold pD
          rw [all_take]
          first | ((repeat (first | with_reducible exact Among.nil _ | with_reducible exact Pick.head _ _ | with_reducible apply Pick.tail | with_reducible apply Among.cons)); done) | ((repeat (first | exact Among.nil _ | exact Pick.head _ _ | apply Pick.tail | apply Among.cons)); done)
  · rw [decide_eq_false hsz]
    (repeat (first | (with_reducible refine then_n ?_) | (with_reducible refine then_r ?_) | (with_reducible refine then_e ?_) | (with_reducible refine block_n ?_) | (with_reducible refine block_r ?_) | (with_reducible refine block_e ?_) | refine block_o ?_ | (with_reducible refine scope_n ?_) | (with_reducible refine scope_r ?_) | (with_reducible refine scope_e ?_) | (with_reducible refine code_seq ?_) | (with_reducible refine code_skip ?_) | (with_reducible refine code_label ?_) | (with_reducible refine code_block ?_) | (with_reducible refine code_scope ?_) | (with_reducible refine code_exit ?_) | (with_reducible refine code_ret ?_) | refine regq_to ?_ | (with_reducible refine run_nil ?_) | ((with_reducible refine run_probe ?_); refine runq_more ?_) | (with_reducible refine draw_nil ?_) | ((with_reducible refine draw_probe ?_); (first | refine drawq_more ?_ | refine drawq_as ?_)) | refine code_then ?_ | refine code_else ?_))
    refine back_none_n [C', b1 c1 (.pointer (some ⟨b, 0, none⟩)), b2 c2 1, b2 c3 size, G, pD b room e v d' u, d'.Cp, hashA d'.h u.r d'.ar d'.cr, d'.Cr] ⟨C', d', pre.length, ?_, ?_, .inl ⟨pre, rfl, fun h => hsz h.1, hJ⟩⟩
    · rw [hu]; exact hd'
    · rw [hu]


theorem ck_iter_1 {t1 : TypeId} (G : Chunk) (m1 : Nat × Nat) (hG1 : (1, Obj.cells (rowW Go.Sha.odd) t1 m1) ∈ G) {T : Chunk} {b room : Nat} {w0 w1 : Wy} (h : IsPipe T b room w0 w1) (hall : w1.all.length ≤ 1000000) (c1 c2 c3 : Nat) (size : Int) :
    IMeetsG Tryd.prog 47 [] [.pointer (some ⟨c1, 0, none⟩), .pointer (some ⟨c2, 0, none⟩), .pointer (some ⟨c3, 0, none⟩)] encK [b1 c1 (.pointer (some ⟨b, 0, none⟩)), b2 c2 1, b2 c3 size, G, T]
      (fun T => T = []) ckH noH noH (isCk w1 size) (noCk w1 size)
      (fun pre A => ∃ T', IsPipe T' b room w0 (ckst w1 size pre.length) ∧ A = [b1 c1 (.pointer (some ⟨b, 0, none⟩)), b2 c2 1, b2 c3 size, G, T'])
      (fun pre A => ∃ T', IsPipe T' b room w0 (ckst w1 size pre.length) ∧ A = [b1 c1 (.pointer (some ⟨b, 0, none⟩)), b2 c2 1, b2 c3 size, G, T']) false := by
  obtain ⟨hr1, hr2, ok0, ok1, d0, d1, hd0, hd1, rfl⟩ := h
  refine iter_introG (by kernel_rfl) fun l0 J Jx hN hT hY C hC => ?_
  have hcore := ck_core_1 G m1 hG1 b room w1 w0 d1 d0 hr2 hd1 hall c1 c2 c3 size l0 J Jx hY C hC
  refine Meets.conv [C, b1 c1 (.pointer (some ⟨b, 0, none⟩)), b2 c2 1, b2 c3 size, G, pD b room d0 w0 d1 w1, d0.Cp, hashA d0.h w0.r d0.ar d0.cr, d0.Cr, d1.Cp, hashA d1.h w1.r d1.ar d1.cr, d1.Cr] hcore (by simp only [List.flatten_cons, List.flatten_nil, List.append_assoc, List.append_nil]) (by (repeat (first | with_reducible exact Take.nil _ | with_reducible exact Pick.head _ _ | with_reducible apply Pick.tail | with_reducible apply Take.cons))) ?_
  rintro v A ⟨C', d', n, hd', rfl, hor⟩
  refine ⟨[C', b1 c1 (.pointer (some ⟨b, 0, none⟩)), b2 c2 1, b2 c3 size, G, pT b room d0 w0 d' (ckst w1 size n)], [C', b1 c1 (.pointer (some ⟨b, 0, none⟩)), b2 c2 1, b2 c3 size, G, pD b room d0 w0 d' (ckst w1 size n), d0.Cp, hashA d0.h w0.r d0.ar d0.cr, d0.Cr, d'.Cp, hashA d'.h (ckst w1 size n).r d'.ar d'.cr, d'.Cr], by simp only [List.flatten_cons, List.flatten_nil, List.append_assoc, List.append_nil], by first | ((repeat (first | with_reducible exact Among.nil _ | with_reducible exact Pick.head _ _ | with_reducible apply Pick.tail | with_reducible apply Among.cons)); done) | ((repeat (first | exact Among.nil _ | exact Pick.head _ _ | apply Pick.tail | apply Among.cons)); done), ?_⟩
  have hP : IsPipe (pT b room d0 w0 d' (ckst w1 size n)) b room w0 (ckst w1 size n) := ⟨hr1, hr2, ok0, ckst_ok ok1 size n, d0, d', hd0, hd', rfl⟩
  rcases hor with ⟨pre, rfl, hno, hJ⟩ | ⟨pre, x, hn, hnx, hJ⟩
  · exact ⟨C', _, rfl, .inl ⟨pre, hno, hJ, _, hP, rfl⟩⟩
  · refine ⟨C', _, rfl, .inr ⟨pre, x, hnx, hJ, _, ?_, rfl⟩⟩
    rw [List.length_append, List.length_singleton, hn]; exact hP


theorem ck_iter_no (c1 c2 c3 : Nat) {pv : Value} {i E : Int} (hpv : ∃ p, pv = .pointer p) (h : NoWay pv i E) (size : Int) (G T : Chunk) :
    IMeetsG Tryd.prog 47 [] [.pointer (some ⟨c1, 0, none⟩), .pointer (some ⟨c2, 0, none⟩), .pointer (some ⟨c3, 0, none⟩)] encK [b1 c1 pv, b2 c2 i, b2 c3 size, G, T]
      (fun T => T = []) ckH noH noH (fun _ _ => False) (fun pre => pre = [])
      (fun _ A => A = [b1 c1 pv, b2 c2 i, b2 c3 size, G, T]) (fun _ A => A = [b1 c1 pv, b2 c2 i, b2 c3 size, G, T]) false := by
  obtain ⟨p, rfl⟩ := hpv
  refine iter_introG (by kernel_rfl) fun l0 J Jx hN hT hY C hC => ?_
  refine spec_intro Tryd.func47 rfl (by kernel_rfl) (by rw [Tryd.ntmps47]; simp) fun F => ?_; rw [Tryd.ntmps47, Tryd.results47]
  (repeat (first | (with_reducible refine then_n ?_) | (with_reducible refine then_r ?_) | (with_reducible refine then_e ?_) | (with_reducible refine block_n ?_) | (with_reducible refine block_r ?_) | (with_reducible refine block_e ?_) | refine block_o ?_ | (with_reducible refine scope_n ?_) | (with_reducible refine scope_r ?_) | (with_reducible refine scope_e ?_) | (with_reducible refine code_seq ?_) | (with_reducible refine code_skip ?_) | (with_reducible refine code_label ?_) | (with_reducible refine code_block ?_) | (with_reducible refine code_scope ?_) | (with_reducible refine code_exit ?_) | (with_reducible refine code_ret ?_) | refine regq_to ?_ | (with_reducible refine run_nil ?_) | ((with_reducible refine run_probe ?_); refine runq_more ?_) | (with_reducible refine draw_nil ?_) | ((with_reducible refine draw_probe ?_); (first | refine drawq_more ?_ | refine drawq_as ?_)) | refine code_then ?_ | refine code_else ?_))
  refine run_op fun K hK => ?_; refine calls_to (h.2) ?_; rintro v A ⟨rfl, rfl⟩; (try simp only [List.nil_append, List.cons_append]); refine hK _ _ ?_; clear hK K; (repeat (first | (with_reducible refine then_n ?_) | (with_reducible refine then_r ?_) | (with_reducible refine then_e ?_) | (with_reducible refine block_n ?_) | (with_reducible refine block_r ?_) | (with_reducible refine block_e ?_) | refine block_o ?_ | (with_reducible refine scope_n ?_) | (with_reducible refine scope_r ?_) | (with_reducible refine scope_e ?_) | (with_reducible refine code_seq ?_) | (with_reducible refine code_skip ?_) | (with_reducible refine code_label ?_) | (with_reducible refine code_block ?_) | (with_reducible refine code_scope ?_) | (with_reducible refine code_exit ?_) | (with_reducible refine code_ret ?_) | refine regq_to ?_ | (with_reducible refine run_nil ?_) | ((with_reducible refine run_probe ?_); refine runq_more ?_) | (with_reducible refine draw_nil ?_) | ((with_reducible refine draw_probe ?_); (first | refine drawq_more ?_ | refine drawq_as ?_)) | refine code_then ?_ | refine code_else ?_))
  have hE : (E == 0) = false := by rcases h.1 with h | h <;> rw [h] <;> rfl
  refine loop_i (fun q D L S => q = 0 ∧ D = [] ∧ L = [(5, .pointer none), (6, .int .i64 E), (0, .func (.yield l0) #[] #[]), (1, .pointer (some ⟨c1, 0, none⟩)), (2, .pointer (some ⟨c2, 0, none⟩)), (3, .pointer (some ⟨c3, 0, none⟩))] ∧
    S = [C, F, b1 c1 (.pointer p), b2 c2 i, b2 c3 size, G, T]) (m := 0) ⟨rfl, rfl, rfl, rfl⟩ ?_
  rintro q D L S ⟨rfl, rfl, rfl, rfl⟩
  (repeat (first | (with_reducible refine then_n ?_) | (with_reducible refine then_r ?_) | (with_reducible refine then_e ?_) | (with_reducible refine block_n ?_) | (with_reducible refine block_r ?_) | (with_reducible refine block_e ?_) | refine block_o ?_ | (with_reducible refine scope_n ?_) | (with_reducible refine scope_r ?_) | (with_reducible refine scope_e ?_) | (with_reducible refine code_seq ?_) | (with_reducible refine code_skip ?_) | (with_reducible refine code_label ?_) | (with_reducible refine code_block ?_) | (with_reducible refine code_scope ?_) | (with_reducible refine code_exit ?_) | (with_reducible refine code_ret ?_) | refine regq_to ?_ | (with_reducible refine run_nil ?_) | ((with_reducible refine run_probe ?_); refine runq_more ?_) | (with_reducible refine draw_nil ?_) | ((with_reducible refine draw_probe ?_); (first | refine drawq_more ?_ | refine drawq_as ?_)) | refine code_then ?_ | refine code_else ?_))
  rw [hE]
  (repeat (first | (with_reducible refine then_n ?_) | (with_reducible refine then_r ?_) | (with_reducible refine then_e ?_) | (with_reducible refine block_n ?_) | (with_reducible refine block_r ?_) | (with_reducible refine block_e ?_) | refine block_o ?_ | (with_reducible refine scope_n ?_) | (with_reducible refine scope_r ?_) | (with_reducible refine scope_e ?_) | (with_reducible refine code_seq ?_) | (with_reducible refine code_skip ?_) | (with_reducible refine code_label ?_) | (with_reducible refine code_block ?_) | (with_reducible refine code_scope ?_) | (with_reducible refine code_exit ?_) | (with_reducible refine code_ret ?_) | refine regq_to ?_ | (with_reducible refine run_nil ?_) | ((with_reducible refine run_probe ?_); refine runq_more ?_) | (with_reducible refine draw_nil ?_) | ((with_reducible refine draw_probe ?_); (first | refine drawq_more ?_ | refine drawq_as ?_)) | refine code_then ?_ | refine code_else ?_))
  exact back_none_n [C, b1 c1 (.pointer p), b2 c2 i, b2 c3 size, G, T] ⟨C, _, rfl, .inl ⟨[], rfl, hC, rfl⟩⟩

/-! ### By one state -/

def sst (s : PS) (i size : Int) : Nat → PS
  | 0 => s
  | n + 1 => (sread (sst s i size n) i size).2
def sbs (s : PS) (i size : Int) (n : Nat) : List UInt8 := (sread (sst s i size n) i size).1.1
def sgo (s : PS) (i size : Int) (n : Nat) : Prop := 0 < size ∧ (sread (sst s i size n) i size).1.2 = 0 ∧ sbs s i size n ≠ []
theorem sst_none (i size : Int) : ∀ n, sst none i size n = none
  | 0 => rfl
  | n + 1 => by rw [sst, sst_none i size n]; rfl
theorem sst_odd {room : Nat} {w0 w1 : Wy} {i : Int} (h0 : i ≠ 0) (h1 : i ≠ 1) (size : Int) : ∀ n, sst (some (room, w0, w1)) i size n = some (room, w0, w1)
  | 0 => rfl
  | n + 1 => by rw [sst, sst_odd h0 h1 size n]; unfold sread; simp only; rw [if_neg h0, if_neg h1]
theorem sst_0 {room : Nat} {w0 w1 : Wy} (size : Int) : ∀ n, sst (some (room, w0, w1)) 0 size n = some (room, ckst w0 size n, w1)
  | 0 => rfl
  | n + 1 => by rw [sst, sst_0 size n]; rfl
theorem sst_1 {room : Nat} {w0 w1 : Wy} (size : Int) : ∀ n, sst (some (room, w0, w1)) 1 size n = some (room, w0, ckst w1 size n)
  | 0 => rfl
  | n + 1 => by rw [sst, sst_1 size n]; rfl
theorem take_ne {q : List UInt8} {size : Int} (h : 0 < size) : q.take size.toNat ≠ [] ↔ q ≠ [] := by
  have : 0 < size.toNat := by omega
  cases q with
  | nil => simp
  | cons c q =>
    obtain ⟨k, hk⟩ : ∃ k, size.toNat = k + 1 := ⟨size.toNat - 1, by omega⟩
    rw [hk]; simp

theorem ck_iter {t1 : TypeId} (G : Chunk) (m1 : Nat × Nat) (hG1 : (1, Obj.cells (rowW Go.Sha.odd) t1 m1) ∈ G) {pv : Value} {T : Chunk} {s : PS} (h : PHalf pv T s) (hs : PSmall 1000000 s) (c1 c2 c3 : Nat) (i size : Int) :
    IMeetsG Tryd.prog 47 [] [.pointer (some ⟨c1, 0, none⟩), .pointer (some ⟨c2, 0, none⟩), .pointer (some ⟨c3, 0, none⟩)] encK [b1 c1 pv, b2 c2 i, b2 c3 size, G, T]
      (fun T => T = []) ckH noH noH (fun pre x => sgo s i size pre.length ∧ x.bs = sbs s i size pre.length) (fun pre => ¬ sgo s i size pre.length)
      (fun pre A => ∃ T', PHalf pv T' (sst s i size pre.length) ∧ A = [b1 c1 pv, b2 c2 i, b2 c3 size, G, T'])
      (fun pre A => ∃ T', PHalf pv T' (sst s i size pre.length) ∧ A = [b1 c1 pv, b2 c2 i, b2 c3 size, G, T']) false := by
  have no : ∀ E, (∃ p, pv = .pointer p) → NoWay pv i E → (∀ n, sst s i size n = s) → (sread s i size).1.2 = E → IMeetsG Tryd.prog 47 [] [.pointer (some ⟨c1, 0, none⟩), .pointer (some ⟨c2, 0, none⟩), .pointer (some ⟨c3, 0, none⟩)] encK [b1 c1 pv, b2 c2 i, b2 c3 size, G, T]
      (fun T => T = []) ckH noH noH (fun pre x => sgo s i size pre.length ∧ x.bs = sbs s i size pre.length) (fun pre => ¬ sgo s i size pre.length)
      (fun pre A => ∃ T', PHalf pv T' (sst s i size pre.length) ∧ A = [b1 c1 pv, b2 c2 i, b2 c3 size, G, T'])
      (fun pre A => ∃ T', PHalf pv T' (sst s i size pre.length) ∧ A = [b1 c1 pv, b2 c2 i, b2 c3 size, G, T']) false := by
    intro E hpv hE hst hr
    have hi := ck_iter_no c1 c2 c3 hpv hE size G T
    refine ⟨hi.able, fun l J Jx hN hT hY C hC F w hw => (hi.out l J Jx hN hT (fun _ _ h => h.elim) C hC F w hw).mono ?_⟩
    rintro e w' ⟨v, S, a, b, c, C', A', hS, hor⟩
    refine ⟨v, S, a, b, c, C', A', hS, ?_⟩
    rcases hor with ⟨pre, rfl, hJ, rfl⟩ | ⟨pre, x, hx, _⟩
    · refine .inl ⟨[], ?_, hJ, T, by rw [hst]; exact h, rfl⟩
      rintro ⟨_, h2, _⟩
      rw [hst, hr] at h2
      rcases hE.1 with e | e <;> rw [e] at h2 <;> cases h2
    · exact hx.elim
  rcases s with _ | ⟨room, w0, w1⟩
  · obtain ⟨rfl, rfl⟩ := h
    exact no 6 ⟨_, rfl⟩ (noway_nil i) (sst_none i size) rfl
  · obtain ⟨b, rfl, hT0⟩ := h
    obtain ⟨h1, h2, h3, h4, h5, h6⟩ := hs
    by_cases i0 : i = 0
    · subst i0
      have hi := ck_iter_0 G m1 hG1 hT0 h5 c1 c2 c3 size
      have hgo : ∀ n, sgo (some (room, w0, w1)) 0 size n ↔ (0 < size ∧ (ckst w0 size n).q ≠ []) := fun n => by
        unfold sgo sbs; rw [sst_0]
        exact ⟨fun ⟨a, _, c⟩ => ⟨a, (take_ne a).1 c⟩, fun ⟨a, c⟩ => ⟨a, rfl, (take_ne a).2 c⟩⟩
      refine ⟨hi.able, fun l J Jx hN hT hY C hC F w hw => (hi.out l J Jx hN hT (fun pre x hx => hY pre x ⟨(hgo _).2 ⟨hx.1, hx.2.1⟩, by unfold sbs; rw [sst_0]; exact hx.2.2⟩) C hC F w hw).mono ?_⟩
      rintro e w' ⟨v, S, a, b', c, C', A', hS, hor⟩
      refine ⟨v, S, a, b', c, C', A', hS, ?_⟩
      rcases hor with ⟨pre, hd, hJ, T', hT', rfl⟩ | ⟨pre, x, hx, hJ, T', hT', rfl⟩
      · exact .inl ⟨pre, fun hg => hd ((hgo _).1 hg), hJ, T', by rw [sst_0]; exact ⟨b, rfl, hT'⟩, rfl⟩
      · exact .inr ⟨pre, x, ⟨(hgo _).2 ⟨hx.1, hx.2.1⟩, by unfold sbs; rw [sst_0]; exact hx.2.2⟩, hJ, T', by rw [sst_0]; exact ⟨b, rfl, hT'⟩, rfl⟩
    · by_cases i1 : i = 1
      · subst i1
        have hi := ck_iter_1 G m1 hG1 hT0 h6 c1 c2 c3 size
        have hgo : ∀ n, sgo (some (room, w0, w1)) 1 size n ↔ (0 < size ∧ (ckst w1 size n).q ≠ []) := fun n => by
          unfold sgo sbs; rw [sst_1]
          exact ⟨fun ⟨a, _, c⟩ => ⟨a, (take_ne a).1 c⟩, fun ⟨a, c⟩ => ⟨a, rfl, (take_ne a).2 c⟩⟩
        refine ⟨hi.able, fun l J Jx hN hT hY C hC F w hw => (hi.out l J Jx hN hT (fun pre x hx => hY pre x ⟨(hgo _).2 ⟨hx.1, hx.2.1⟩, by unfold sbs; rw [sst_1]; exact hx.2.2⟩) C hC F w hw).mono ?_⟩
        rintro e w' ⟨v, S, a, b', c, C', A', hS, hor⟩
        refine ⟨v, S, a, b', c, C', A', hS, ?_⟩
        rcases hor with ⟨pre, hd, hJ, T', hT', rfl⟩ | ⟨pre, x, hx, hJ, T', hT', rfl⟩
        · exact .inl ⟨pre, fun hg => hd ((hgo _).1 hg), hJ, T', by rw [sst_1]; exact ⟨b, rfl, hT'⟩, rfl⟩
        · exact .inr ⟨pre, x, ⟨(hgo _).2 ⟨hx.1, hx.2.1⟩, by unfold sbs; rw [sst_1]; exact hx.2.2⟩, hJ, T', by rw [sst_1]; exact ⟨b, rfl, hT'⟩, rfl⟩
      · exact no 1 ⟨_, rfl⟩ (noway_odd b i i0 i1) (sst_odd i0 i1 size) (by unfold sread; simp only; rw [if_neg i0, if_neg i1])

set_option maxHeartbeats 1000000 in
theorem chunks_spec {t1 : TypeId} (G : Chunk) (m1 : Nat × Nat) (hG1 : (1, Obj.cells (rowW Go.Sha.odd) t1 m1) ∈ G) {pv : Value} {T : Chunk} {s : PS} (h : PHalf pv T s) (hs : PSmall 1000000 s) (i size : Int) (most : Nat) (hm1 : 1 ≤ most) (hm2 : most ≤ 100) :
    Meets Tryd.prog 29 [pv, .int .i64 i, .int .i64 size, .int .i64 most] [G, T]
      fun v A => ∃ (X Z T' : Chunk) (xa : Option Addr) (xc : Nat) (vs : List Value) (ls : List (List UInt8)), v = .slice xa ls.length xc ∧ Ost.Own 1 22 X xa ls.length xc vs ∧ Vals Z vs ls ∧ ls.length ≤ most ∧ (∀ k, k < ls.length → sgo s i size k ∧ ls[k]? = some (sbs s i size k)) ∧
        (ls.length = most ∨ ¬ sgo s i size ls.length) ∧ PHalf pv T' (sst s i size ls.length) ∧ A = [X, Z, G, T'] := by
  have hpv : ∃ p, pv = .pointer p := by
    match s, h with
    | none, ⟨h, _⟩ => exact ⟨_, h⟩
    | some (room, w0, w1), ⟨b, h, _⟩ => exact ⟨_, h⟩
  refine spec_intro Tryd.func29 rfl (by kernel_rfl) (by rw [Tryd.ntmps29]; simp) fun F => ?_; rw [Tryd.ntmps29, Tryd.results29]
  (repeat (first | (with_reducible refine then_n ?_) | (with_reducible refine then_r ?_) | (with_reducible refine then_e ?_) | (with_reducible refine block_n ?_) | (with_reducible refine block_r ?_) | (with_reducible refine block_e ?_) | refine block_o ?_ | (with_reducible refine scope_n ?_) | (with_reducible refine scope_r ?_) | (with_reducible refine scope_e ?_) | (with_reducible refine code_seq ?_) | (with_reducible refine code_skip ?_) | (with_reducible refine code_label ?_) | (with_reducible refine code_block ?_) | (with_reducible refine code_scope ?_) | (with_reducible refine code_exit ?_) | (with_reducible refine code_ret ?_) | refine regq_to ?_ | (with_reducible refine run_nil ?_) | ((with_reducible refine run_probe ?_); refine runq_more ?_) | (with_reducible refine draw_nil ?_) | ((with_reducible refine draw_probe ?_); (first | refine drawq_more ?_ | refine drawq_as ?_)) | refine code_then ?_ | refine code_else ?_))
  refine run_op fun K hK => ?_; refine box_new fun b7 => ?_; (try simp only [Value.cells]); refine hK _ _ ?_; clear hK K
  (repeat (first | (with_reducible refine then_n ?_) | (with_reducible refine then_r ?_) | (with_reducible refine then_e ?_) | (with_reducible refine block_n ?_) | (with_reducible refine block_r ?_) | (with_reducible refine block_e ?_) | refine block_o ?_ | (with_reducible refine scope_n ?_) | (with_reducible refine scope_r ?_) | (with_reducible refine scope_e ?_) | (with_reducible refine code_seq ?_) | (with_reducible refine code_skip ?_) | (with_reducible refine code_label ?_) | (with_reducible refine code_block ?_) | (with_reducible refine code_scope ?_) | (with_reducible refine code_exit ?_) | (with_reducible refine code_ret ?_) | refine regq_to ?_ | (with_reducible refine run_nil ?_) | ((with_reducible refine run_probe ?_); refine runq_more ?_) | (with_reducible refine draw_nil ?_) | ((with_reducible refine draw_probe ?_); (first | refine drawq_more ?_ | refine drawq_as ?_)) | refine code_then ?_ | refine code_else ?_))
  refine run_op fun K hK => ?_; refine alloc_new fun b9 => ?_; (try simp only [Value.cells]); refine hK _ _ ?_; clear hK K
  (repeat (first | (with_reducible refine then_n ?_) | (with_reducible refine then_r ?_) | (with_reducible refine then_e ?_) | (with_reducible refine block_n ?_) | (with_reducible refine block_r ?_) | (with_reducible refine block_e ?_) | refine block_o ?_ | (with_reducible refine scope_n ?_) | (with_reducible refine scope_r ?_) | (with_reducible refine scope_e ?_) | (with_reducible refine code_seq ?_) | (with_reducible refine code_skip ?_) | (with_reducible refine code_label ?_) | (with_reducible refine code_block ?_) | (with_reducible refine code_scope ?_) | (with_reducible refine code_exit ?_) | (with_reducible refine code_ret ?_) | refine regq_to ?_ | (with_reducible refine run_nil ?_) | ((with_reducible refine run_probe ?_); refine runq_more ?_) | (with_reducible refine draw_nil ?_) | ((with_reducible refine draw_probe ?_); (first | refine drawq_more ?_ | refine drawq_as ?_)) | refine code_then ?_ | refine code_else ?_))
  refine run_op fun K hK => ?_; refine calls_to (pchunks_spec pv hpv i size) ?_; rintro v A ⟨c1, c2, c3, rfl, rfl⟩; (try simp only [List.nil_append, List.cons_append]); refine hK _ _ ?_; clear hK K; (repeat (first | (with_reducible refine then_n ?_) | (with_reducible refine then_r ?_) | (with_reducible refine then_e ?_) | (with_reducible refine block_n ?_) | (with_reducible refine block_r ?_) | (with_reducible refine block_e ?_) | refine block_o ?_ | (with_reducible refine scope_n ?_) | (with_reducible refine scope_r ?_) | (with_reducible refine scope_e ?_) | (with_reducible refine code_seq ?_) | (with_reducible refine code_skip ?_) | (with_reducible refine code_label ?_) | (with_reducible refine code_block ?_) | (with_reducible refine code_scope ?_) | (with_reducible refine code_exit ?_) | (with_reducible refine code_ret ?_) | refine regq_to ?_ | (with_reducible refine run_nil ?_) | ((with_reducible refine run_probe ?_); refine runq_more ?_) | (with_reducible refine draw_nil ?_) | ((with_reducible refine draw_probe ?_); (first | refine drawq_more ?_ | refine drawq_as ?_)) | refine code_then ?_ | refine code_else ?_))
  refine code_nil ?_
  refine code_nil ?_
  refine code_rangeG (by (try simp only [evT, lookT_hit, lookT_miss, Nat.reduceBEq]); (first | done | exact rfl)) (ck_iter G m1 hG1 h hs c1 c2 c3 i size) (by (repeat (first | exact Take.nil _ | with_reducible exact Pick.head _ _ | with_reducible apply Pick.tail | with_reducible apply Take.cons))) (fun pre C => pre.length < most ∧ (∀ k, k < pre.length → sgo s i size k ∧ (pre.map Ck.bs)[k]? = some (sbs s i size k)) ∧ ∃ (X Z : Chunk) (xa : Option Addr) (xc : Nat) (vs : List Value), Ost.Own 1 22 X xa pre.length xc vs ∧ Vals Z vs (pre.map Ck.bs) ∧
      C = [X, Z, bx b9 (.slice xa pre.length xc) 74, bx b7 (.int .i64 most) 3, F])
    (fun k pre C => k = .exit 0 ∧ pre.length = most ∧ (∀ k, k < pre.length → sgo s i size k ∧ (pre.map Ck.bs)[k]? = some (sbs s i size k)) ∧ ∃ (X Z : Chunk) (xa : Option Addr) (xc : Nat) (vs : List Value), Ost.Own 1 22 X xa pre.length xc vs ∧ Vals Z vs (pre.map Ck.bs) ∧
      C = [X, Z, bx b9 (.slice xa pre.length xc) 74, bx b7 (.int .i64 most) 3, F]) (fun h => by cases h) (fun C hC => ⟨[], C.flatten, rfl, by simp⟩) (fun _ => rfl) ⟨by simp; omega, fun k hk => by simp at hk, [], [], none, 0, [], own_nil, vals_nil, rfl⟩ ?_ ?_ ?_
  · rintro l F1 C H r pre x ⟨hgo, hbs⟩ ⟨hlt, hall, X, Z, xa, xc, vs, hX, hZ, rfl⟩ ⟨O, rfl, hO⟩
    have hall2 : ∀ k, k < (pre ++ [x]).length → sgo s i size k ∧ ((pre ++ [x]).map Ck.bs)[k]? = some (sbs s i size k) := by
      intro k hk
      rw [List.length_append, List.length_singleton] at hk
      rw [List.map_append]
      by_cases hkp : k < pre.length
      · rw [List.getElem?_append_left (by simpa using hkp)]
        exact hall k hkp
      · obtain rfl : k = pre.length := by omega
        rw [List.getElem?_append_right (by simp)]
        exact ⟨hgo, by simp [hbs]⟩
    have hZ2 : Vals (Z ++ O) (vs ++ [.slice x.a x.bs.length x.c]) ((pre ++ [x]).map Ck.bs) := by
      rw [List.map_append]
      exact (hZ.wide (fun y hy => by simp [hy])).snoc hO.1 ((hO.rd (S := [O]) (by simp)).wide2 Z)
    refine code_perm (S' := [[(l, .loop r)], F1, X, Z ++ O, bx b9 (.slice xa pre.length xc) 74, bx b7 (.int .i64 most) 3, F]) ?_ ?_
    · classical
      rw [List.perm_iff_count]; intro y
      simp only [List.flatten_cons, List.flatten_append, List.flatten_nil, List.count_append, List.append_nil, List.cons_append, List.nil_append, List.count_cons, Ost.bx]; omega
    (try simp only [List.nil_append, List.cons_append, List.append_nil, encK])
    (try simp only [putAll, putT, Nat.reduceLT, if_true, reduceIte, Array.toList, List.toList_toArray])
    (repeat (first | (with_reducible refine then_n ?_) | (with_reducible refine then_r ?_) | (with_reducible refine then_e ?_) | (with_reducible refine block_n ?_) | (with_reducible refine block_r ?_) | (with_reducible refine block_e ?_) | refine block_o ?_ | (with_reducible refine scope_n ?_) | (with_reducible refine scope_r ?_) | (with_reducible refine scope_e ?_) | (with_reducible refine code_seq ?_) | (with_reducible refine code_skip ?_) | (with_reducible refine code_label ?_) | (with_reducible refine code_block ?_) | (with_reducible refine code_scope ?_) | (with_reducible refine code_exit ?_) | (with_reducible refine code_ret ?_) | refine regq_to ?_ | (with_reducible refine run_nil ?_) | ((with_reducible refine run_probe ?_); refine runq_more ?_) | (with_reducible refine draw_nil ?_) | ((with_reducible refine draw_probe ?_); (first | refine drawq_more ?_ | refine drawq_as ?_)) | refine code_then ?_ | refine code_else ?_))
    refine ⟨_, Among.refl _, fun r' _ => ?_⟩
    (repeat (first | (with_reducible refine then_n ?_) | (with_reducible refine then_r ?_) | (with_reducible refine then_e ?_) | (with_reducible refine block_n ?_) | (with_reducible refine block_r ?_) | (with_reducible refine block_e ?_) | refine block_o ?_ | (with_reducible refine scope_n ?_) | (with_reducible refine scope_r ?_) | (with_reducible refine scope_e ?_) | (with_reducible refine code_seq ?_) | (with_reducible refine code_skip ?_) | (with_reducible refine code_label ?_) | (with_reducible refine code_block ?_) | (with_reducible refine code_scope ?_) | (with_reducible refine code_exit ?_) | (with_reducible refine code_ret ?_) | refine regq_to ?_ | (with_reducible refine run_nil ?_) | ((with_reducible refine run_probe ?_); refine runq_more ?_) | (with_reducible refine draw_nil ?_) | ((with_reducible refine draw_probe ?_); (first | refine drawq_more ?_ | refine drawq_as ?_)) | refine code_then ?_ | refine code_else ?_))
    refine run_op fun K hK => ?_; refine build1 rfl [.slice x.a x.bs.length x.c] (by decide) rfl rfl (by simp [Value.cell1]) (fun b1 C1 ho1 => ?_); refine hK _ _ ?_; clear hK K
    refine run_op fun K hK => ?_; refine app1 rfl hX (.inr (by (repeat (first | with_reducible exact Pick.head _ _ | with_reducible apply Pick.tail)))) (ho1.rd (by (repeat (first | with_reducible assumption | with_reducible exact List.mem_cons_self .. | with_reducible apply List.mem_cons_of_mem)))) (by simp [Value.cell1]) (by omega) (by decide) (fun C3 a3 cap3 ho3 => ?_); refine hK _ _ ?_; clear hK K
    rw [show pre.length + 1 = (pre ++ [x]).length from by simp] at ho3 ⊢
    (repeat (first | (with_reducible refine then_n ?_) | (with_reducible refine then_r ?_) | (with_reducible refine then_e ?_) | (with_reducible refine block_n ?_) | (with_reducible refine block_r ?_) | (with_reducible refine block_e ?_) | refine block_o ?_ | (with_reducible refine scope_n ?_) | (with_reducible refine scope_r ?_) | (with_reducible refine scope_e ?_) | (with_reducible refine code_seq ?_) | (with_reducible refine code_skip ?_) | (with_reducible refine code_label ?_) | (with_reducible refine code_block ?_) | (with_reducible refine code_scope ?_) | (with_reducible refine code_exit ?_) | (with_reducible refine code_ret ?_) | refine regq_to ?_ | (with_reducible refine run_nil ?_) | ((with_reducible refine run_probe ?_); refine runq_more ?_) | (with_reducible refine draw_nil ?_) | ((with_reducible refine draw_probe ?_); (first | refine drawq_more ?_ | refine drawq_as ?_)) | refine code_then ?_ | refine code_else ?_))
    refine if_b (fun hc => ?_) (fun hc => ?_)
    · (repeat (first | (with_reducible refine then_n ?_) | (with_reducible refine then_r ?_) | (with_reducible refine then_e ?_) | (with_reducible refine block_n ?_) | (with_reducible refine block_r ?_) | (with_reducible refine block_e ?_) | refine block_o ?_ | (with_reducible refine scope_n ?_) | (with_reducible refine scope_r ?_) | (with_reducible refine scope_e ?_) | (with_reducible refine code_seq ?_) | (with_reducible refine code_skip ?_) | (with_reducible refine code_label ?_) | (with_reducible refine code_block ?_) | (with_reducible refine code_scope ?_) | (with_reducible refine code_exit ?_) | (with_reducible refine code_ret ?_) | refine regq_to ?_ | (with_reducible refine run_nil ?_) | ((with_reducible refine run_probe ?_); refine runq_more ?_) | (with_reducible refine draw_nil ?_) | ((with_reducible refine draw_probe ?_); (first | refine drawq_more ?_ | refine drawq_as ?_)) | refine code_then ?_ | refine code_else ?_))
      exact ⟨_, ⟨_, [], rfl, ⟨rfl, by omega, hall2, C3, Z ++ O, a3, cap3, _, ho3, hZ2, rfl⟩, rfl⟩, by (try simp only [List.append_nil]); first | ((repeat (first | with_reducible exact Among.nil _ | with_reducible exact Pick.head _ _ | with_reducible apply Pick.tail | with_reducible apply Among.cons)); done) | ((repeat (first | exact Among.nil _ | exact Pick.head _ _ | apply Pick.tail | apply Among.cons)); done)⟩
    · have hln : (pre ++ [x]).length = pre.length + 1 := by simp
      (repeat (first | (with_reducible refine then_n ?_) | (with_reducible refine then_r ?_) | (with_reducible refine then_e ?_) | (with_reducible refine block_n ?_) | (with_reducible refine block_r ?_) | (with_reducible refine block_e ?_) | refine block_o ?_ | (with_reducible refine scope_n ?_) | (with_reducible refine scope_r ?_) | (with_reducible refine scope_e ?_) | (with_reducible refine code_seq ?_) | (with_reducible refine code_skip ?_) | (with_reducible refine code_label ?_) | (with_reducible refine code_block ?_) | (with_reducible refine code_scope ?_) | (with_reducible refine code_exit ?_) | (with_reducible refine code_ret ?_) | refine regq_to ?_ | (with_reducible refine run_nil ?_) | ((with_reducible refine run_probe ?_); refine runq_more ?_) | (with_reducible refine draw_nil ?_) | ((with_reducible refine draw_probe ?_); (first | refine drawq_more ?_ | refine drawq_as ?_)) | refine code_then ?_ | refine code_else ?_))
      exact ⟨_, ⟨_, [], rfl, ⟨by omega, hall2, C3, Z ++ O, a3, cap3, _, ho3, hZ2, rfl⟩, rfl⟩, by (try simp only [List.append_nil]); first | ((repeat (first | with_reducible exact Among.nil _ | with_reducible exact Pick.head _ _ | with_reducible apply Pick.tail | with_reducible apply Among.cons)); done) | ((repeat (first | exact Among.nil _ | exact Pick.head _ _ | apply Pick.tail | apply Among.cons)); done)⟩
  · rintro d pre C A hd ⟨hlt, hall, X, Z, xa, xc, vs, hX, hZ, rfl⟩ ⟨T', hT', rfl⟩
    (try simp only [List.nil_append, List.cons_append])
    (repeat (first | (with_reducible refine then_n ?_) | (with_reducible refine then_r ?_) | (with_reducible refine then_e ?_) | (with_reducible refine block_n ?_) | (with_reducible refine block_r ?_) | (with_reducible refine block_e ?_) | refine block_o ?_ | (with_reducible refine scope_n ?_) | (with_reducible refine scope_r ?_) | (with_reducible refine scope_e ?_) | (with_reducible refine code_seq ?_) | (with_reducible refine code_skip ?_) | (with_reducible refine code_label ?_) | (with_reducible refine code_block ?_) | (with_reducible refine code_scope ?_) | (with_reducible refine code_exit ?_) | (with_reducible refine code_ret ?_) | refine regq_to ?_ | (with_reducible refine run_nil ?_) | ((with_reducible refine run_probe ?_); refine runq_more ?_) | (with_reducible refine draw_nil ?_) | ((with_reducible refine draw_probe ?_); (first | refine drawq_more ?_ | refine drawq_as ?_)) | refine code_then ?_ | refine code_else ?_))
    rw [show pre.length = (pre.map Ck.bs).length from by simp] at *
    refine back_cells [X, Z, G, T'] ⟨X, Z, T', xa, xc, vs, _, rfl, hX, hZ, by omega, hall, .inr hd, hT', rfl⟩
  · rintro d k pre x C A hx ⟨rfl, hlen, hall, X, Z, xa, xc, vs, hX, hZ, rfl⟩ ⟨T', hT', rfl⟩
    (try simp only [List.nil_append, List.cons_append])
    rw [show (pre ++ [x]).length = ((pre ++ [x]).map Ck.bs).length from by simp] at *
    (repeat (first | (with_reducible refine then_n ?_) | (with_reducible refine then_r ?_) | (with_reducible refine then_e ?_) | (with_reducible refine block_n ?_) | (with_reducible refine block_r ?_) | (with_reducible refine block_e ?_) | refine block_o ?_ | (with_reducible refine scope_n ?_) | (with_reducible refine scope_r ?_) | (with_reducible refine scope_e ?_) | (with_reducible refine code_seq ?_) | (with_reducible refine code_skip ?_) | (with_reducible refine code_label ?_) | (with_reducible refine code_block ?_) | (with_reducible refine code_scope ?_) | (with_reducible refine code_exit ?_) | (with_reducible refine code_ret ?_) | refine regq_to ?_ | (with_reducible refine run_nil ?_) | ((with_reducible refine run_probe ?_); refine runq_more ?_) | (with_reducible refine draw_nil ?_) | ((with_reducible refine draw_probe ?_); (first | refine drawq_more ?_ | refine drawq_as ?_)) | refine code_then ?_ | refine code_else ?_))
    refine back_cells [X, Z, G, T'] ⟨X, Z, T', xa, xc, vs, _, rfl, hX, hZ, by omega, hall, .inl hlen, hT', rfl⟩

end Go.Proofs.YtlcbaijjjphmjaaDoor
