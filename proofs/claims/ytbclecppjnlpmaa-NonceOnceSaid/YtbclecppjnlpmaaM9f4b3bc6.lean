/- Texts in a row: the walk's rules and contracts, as each says. Conditions: as each says. -/
import Derived.Test.YtbclecppjnlpmaaMfb75d3fe
import Derived.Test.YtbclecppjnlpmaaM9c1313b7
/- What goes before the statement NonceOnce. Conditions: as each says. -/
set_option linter.unusedSimpArgs false
set_option linter.unusedVariables false
namespace Go.Proofs.Ytbclecppjnlpmaa
open Go Go.Ost Go.Tab Go.Sha

theorem mget_put {α : Type} (m : List (List UInt8 × α)) (k : List UInt8) (v : α) (q : List UInt8) : mget (mput m k v) q = if q = k then some v else mget m q := by
  induction m with
  | nil => simp only [mput, mget]
  | cons x m ih =>
    obtain ⟨k', u⟩ := x
    simp only [mput]
    by_cases h : k = k'
    · subst h
      rw [if_pos rfl]
      simp only [mget]
      by_cases hq : q = k
      · rw [if_pos hq, if_pos hq]
      · rw [if_neg hq, if_neg hq, if_neg hq]
    · rw [if_neg h]
      simp only [mget]
      by_cases hq : q = k'
      · subst hq
        rw [if_pos rfl, if_neg (Ne.symm h), if_pos rfl]
      · rw [if_neg hq, if_neg hq, ih]
theorem mput_len {α : Type} {m : List (List UInt8 × α)} {k : List UInt8} {v : α} (h : mget m k = none) : (mput m k v).length = m.length + 1 := by
  induction m with
  | nil => rfl
  | cons x m ih =>
    obtain ⟨k', u⟩ := x
    simp only [mget] at h
    simp only [mput]
    split at h
    · cases h
    · rename_i hne
      rw [if_neg hne]
      simp only [List.length_cons]
      rw [ih h]
abbrev MB := List (List UInt8 × Bool)
abbrev MC := List (List UInt8 × Int)
def cV (z : Int) : Value := .int .u32 z
def gBo (m : MB) (k : List UInt8) : Bool := (mget m k).getD false
def gCo (m : MC) (k : List UInt8) : Int := (mget m k).getD 0
theorem look_b (m : MB) (k : List UInt8) : (mget (mval Value.bool m) k).getD (.bool false) = .bool (gBo m k) := by
  rw [mget_val]; unfold gBo; cases mget m k <;> rfl
theorem look_c (m : MC) (k : List UInt8) : (mget (mval cV m) k).getD (.int .u32 0) = .int .u32 (gCo m k) := by
  rw [mget_val]; unfold gCo; cases mget m k <;> rfl
theorem gB_put (m : MB) (k : List UInt8) (v : Bool) (q : List UInt8) : gBo (mput m k v) q = if q = k then v else gBo m q := by
  unfold gBo; rw [mget_put]; split <;> rfl
theorem gC_put (m : MC) (k : List UInt8) (v : Int) (q : List UInt8) : gCo (mput m k v) q = if q = k then v else gCo m q := by
  unfold gCo; rw [mget_put]; split <;> rfl

structure Once (s : NS) (g sp : MB) (ct : MC) : Prop where
  len : g.length = s.ser
  giv : ∀ k, mget g k ≠ none → ∃ d n, n ≤ s.ser ∧ k = nonN d n
  tru : ∀ k, mget g k ≠ none → gBo g k = true
  ins : ∀ x ∈ s.es, mget g x.1 ≠ none ∧ gBo sp x.1 = x.2.sp ∧ gCo ct x.1 = x.2.cnt
  new : ∀ k, mget g k = none → gBo sp k = false ∧ gCo ct k = 0

theorem once_new (room : Nat) (win : Int) : Once (ns0 room win) [] [] [] := ⟨rfl, fun k h => (h rfl).elim, fun k h => (h rfl).elim, fun x hx => (by cases hx), fun k _ => ⟨rfl, rfl⟩⟩
theorem once_sub {s : NS} {g sp : MB} {ct : MC} (h : Once s g sp ct) {es : Es} (hs : ∀ x ∈ es, x ∈ s.es) : Once { s with es := es } g sp ct :=
  ⟨h.len, h.giv, h.tru, fun x hx => h.ins x (hs x hx), h.new⟩
theorem once_sweep {s : NS} {g sp : MB} {ct : MC} (h : Once s g sp ct) (now : Int) : Once (sweepN s now).2 g sp ct := once_sub h fun x hx => (List.mem_filter.1 hx).1

theorem spend_zero {s : NS} {n : List UInt8} {now : Int} (h : (spendN s n now).1 = 0) : ∃ v, mget s.es n = some v ∧ v.sp = false ∧ ¬ 0 < v.cnt ∧ (spendN s n now).2 = { s with es := mput s.es n { v with sp := true } } := by
  rcases find_cases s n now with ⟨e, _⟩ | ⟨v, hm, ⟨e, _⟩ | ⟨e, _⟩⟩
  · rw [spend_no e (by decide)] at h; cases h
  · rw [spend_no e (by decide)] at h; cases h
  · rw [spend_of e] at h ⊢
    by_cases hc : (v.sp || decide (0 < v.cnt)) = true
    · rw [if_pos hc] at h; cases h
    · rw [if_neg hc]
      simp only [Bool.or_eq_true, decide_eq_true_eq, not_or] at hc
      exact ⟨v, hm, by simpa using hc.1, hc.2, rfl⟩
theorem spend_other {s : NS} {n : List UInt8} {now : Int} (h : (spendN s n now).1 ≠ 0) : (spendN s n now).2 = s := by
  unfold spendN at h ⊢
  split
  · rename_i h0
    rw [if_pos h0] at h
    split
    · rfl
    · rename_i h1; rw [if_neg h1] at h; exact (h rfl).elim
  · rfl
theorem use_zero {s : NS} {n : List UInt8} {c now : Int} (h : (useN s n c now).1 = 0) : ∃ v, mget s.es n = some v ∧ v.sp = false ∧ ¬ c ≤ v.cnt ∧ (useN s n c now).2 = { s with es := mput s.es n { v with cnt := c } } := by
  rcases find_cases s n now with ⟨e, _⟩ | ⟨v, hm, ⟨e, _⟩ | ⟨e, _⟩⟩
  · rw [use_no e (by decide)] at h; cases h
  · rw [use_no e (by decide)] at h; cases h
  · rw [use_of e] at h ⊢
    by_cases h0 : c = 0
    · rw [if_pos h0] at h; cases h
    · rw [if_neg h0] at h ⊢
      by_cases hc : (v.sp || decide (c ≤ v.cnt)) = true
      · rw [if_pos hc] at h; cases h
      · rw [if_neg hc]
        simp only [Bool.or_eq_true, decide_eq_true_eq, not_or] at hc
        exact ⟨v, hm, by simpa using hc.1, hc.2, rfl⟩
theorem use_other {s : NS} {n : List UInt8} {c now : Int} (h : (useN s n c now).1 ≠ 0) : (useN s n c now).2 = s := by
  unfold useN at h ⊢
  split
  · rename_i h0
    rw [if_pos h0] at h
    split
    · rfl
    · rename_i h1
      rw [if_neg h1] at h
      split
      · rfl
      · rename_i h2; rw [if_neg h2] at h; exact (h rfl).elim
  · rfl
theorem issue_zero {s : NS} {d : List UInt8} {now : Int} (h : (issueN s d now).1.2 = 0) : (issueN s d now).1.1 = nonN d (s.ser + 1) ∧ (issueN s d now).2 = addN (roomN s now) d now := by
  unfold issueN at h ⊢
  split
  · rename_i h0; rw [if_pos h0] at h; cases h
  · rename_i h0
    rw [if_neg h0] at h
    split
    · rename_i h1; rw [if_pos h1] at h; cases h
    · rename_i h1
      rw [if_neg h1] at h
      split
      · rename_i h2; rw [if_pos h2] at h; cases h
      · exact ⟨rfl, rfl⟩
theorem issue_other {s : NS} {d : List UInt8} {now : Int} (h : (issueN s d now).1.2 ≠ 0) : (issueN s d now).2 = s := by
  unfold issueN at h ⊢
  split
  · rfl
  · rename_i h0
    rw [if_neg h0] at h
    split
    · rfl
    · rename_i h1
      rw [if_neg h1] at h
      split
      · rfl
      · rename_i h2; rw [if_neg h2] at h; exact (h rfl).elim

theorem split_ne {es : Es} {pre post : Es} {n : List UInt8} {v : V} (e : es = pre ++ (n, v) :: post) (hnd : (es.map (·.1)).Nodup) {x : List UInt8 × V} (hx : x ∈ pre ∨ x ∈ post) : x.1 ≠ n := by
  rw [e] at hnd
  simp only [List.map_append, List.map_cons, List.nodup_append, List.nodup_cons] at hnd
  obtain ⟨_, ⟨h2, _⟩, h3⟩ := hnd
  rcases hx with hx | hx
  · exact h3 x.1 (List.mem_map_of_mem hx) n (List.mem_cons_self ..)
  · rintro rfl
    exact h2 (List.mem_map_of_mem hx)
theorem once_put {s : NS} {g sp sp' : MB} {ct ct' : MC} (h : Once s g sp ct) (hnd : (s.es.map (·.1)).Nodup) {n : List UInt8} {v w : V} (hm : mget s.es n = some v)
    (h1 : ∀ k, k ≠ n → gBo sp' k = gBo sp k) (h2 : ∀ k, k ≠ n → gCo ct' k = gCo ct k) (h3 : gBo sp' n = w.sp) (h4 : gCo ct' n = w.cnt) : Once { s with es := mput s.es n w } g sp' ct' := by
  obtain ⟨pre, post, e1, e2, _, _⟩ := mget_split hm
  have hg := (h.ins _ (mget_mem hm)).1
  refine ⟨h.len, h.giv, h.tru, fun x hx => ?_, fun k hk => ?_⟩
  · have hx' : x ∈ mput s.es n w := hx
    rw [e2] at hx'
    have old : x ∈ pre ∨ x ∈ post → mget g x.1 ≠ none ∧ gBo sp' x.1 = x.2.sp ∧ gCo ct' x.1 = x.2.cnt := fun hp => by
      have hne := split_ne e1 hnd hp
      rw [h1 _ hne, h2 _ hne]
      refine h.ins x ?_
      rw [e1]
      rcases hp with hp | hp <;> simp [hp]
    rcases List.mem_append.1 hx' with hx' | hx'
    · exact old (.inl hx')
    · rcases List.mem_cons.1 hx' with rfl | hx'
      · exact ⟨hg, h3, h4⟩
      · exact old (.inr hx')
  · have hne : k ≠ n := by rintro rfl; exact hg hk
    rw [h1 _ hne, h2 _ hne]
    exact h.new k hk
theorem once_fresh {s : NS} {g sp : MB} {ct : MC} (h : Once s g sp ct) (hser : s.ser ≤ 1000) (d : List UInt8) : mget g (nonN d (s.ser + 1)) = none := by
  cases hm : mget g (nonN d (s.ser + 1)) with
  | none => rfl
  | some b =>
    exfalso
    obtain ⟨d', n, hn, e⟩ := h.giv _ (by rw [hm]; simp)
    have := (non_inj (by omega) (by omega) e).2
    omega
theorem once_issue {s : NS} {g sp : MB} {ct : MC} (h : Once s g sp ct) (hser : s.ser ≤ 1000) (d : List UInt8) (now : Int) : Once (addN (roomN s now) d now) (mput g (nonN d (s.ser + 1)) true) sp ct := by
  have hf := once_fresh h hser d
  have hrs := room_ser s now
  refine ⟨?_, fun k hk => ?_, fun k hk => ?_, fun x hx => ?_, fun k hk => ?_⟩
  · rw [mput_len hf, h.len]; show s.ser + 1 = (roomN s now).ser + 1; rw [hrs]
  · rw [mget_put] at hk
    by_cases hkn : k = nonN d (s.ser + 1)
    · exact ⟨d, s.ser + 1, by show s.ser + 1 ≤ (roomN s now).ser + 1; omega, hkn⟩
    · rw [if_neg hkn] at hk
      obtain ⟨d', n, hn, e⟩ := h.giv k hk
      exact ⟨d', n, by show n ≤ (roomN s now).ser + 1; omega, e⟩
  · rw [gB_put]
    split
    · rfl
    · rename_i hkn
      rw [mget_put, if_neg hkn] at hk
      exact h.tru k hk
  · have hx' : x ∈ (roomN s now).es ++ [(nonN d ((roomN s now).ser + 1), (⟨nonN d ((roomN s now).ser + 1), d, now, false, 0⟩ : V))] := hx
    rw [hrs] at hx'
    rcases List.mem_append.1 hx' with hx' | hx'
    · obtain ⟨k1, k2, k3⟩ := h.ins x (room_sub s now x hx')
      refine ⟨?_, k2, k3⟩
      rw [mget_put]; split
      · simp
      · exact k1
    · rw [List.mem_singleton.1 hx']
      obtain ⟨k2, k3⟩ := h.new _ hf
      exact ⟨by rw [mget_put, if_pos rfl]; simp, k2, k3⟩
  · rw [mget_put] at hk
    split at hk
    · cases hk
    · exact h.new k hk

end Go.Proofs.Ytbclecppjnlpmaa

/- The statement NonceOnce. Conditions: as each says. -/
set_option linter.unusedSimpArgs false
set_option linter.unusedVariables false
namespace Go.Proofs.Ytbclecppjnlpmaa
open Go Go.Ost Go.Tab Go.Sha

set_option maxHeartbeats 4000000 in
theorem NonceOnce_law (C : Chunk) (_ : True) (rr : Int) (hrr : (Lit.int .u8 rr).wf = true) (ww : Int) (hww : (Lit.int .u16 ww).wf = true) (v : Value) (rows : List (List Value)) (hv : RowsK C FKS v rows) :
    Meets Try.prog 4 [.int .u8 rr, .int .u16 ww, v] [C] fun v A => v = .bool true ∧ A = [C] := by
  obtain ⟨ops, ⟨a, cap, rfl, hcap, hmax, hrd⟩, hops⟩ := script12_of hv
  have hr0 := wf_u8 hrr
  have hw0 := wf_u16 hww
  have hs := encO_len
  obtain ⟨k, hk, hk1, hk2⟩ : ∃ k : Nat, 1 + rr % 6 = k ∧ 1 ≤ k ∧ k ≤ 64 := ⟨(1 + rr % 6).toNat, by omega, by omega, by omega⟩
  obtain ⟨win, hwn, hw1, hw2⟩ : ∃ win : Int, 1 + ww % 300 = win ∧ 1 ≤ win ∧ win ≤ 1099511627776 := ⟨_, rfl, by omega, by omega⟩
  refine spec_intro Try.func4 rfl (by kernel_rfl) (by rw [Try.ntmps4]; simp) fun F => ?_; rw [Try.ntmps4, Try.results4]
  refine going ?_
  refine run_op fun K hK => ?_; refine calls_to (awake_spec) ?_; rintro v A ⟨rfl, rfl⟩; (try simp only [List.nil_append, List.cons_append]); refine hK _ _ ?_; clear hK K; refine going ?_
  rw [hk, hwn]
  refine run_op fun K hK => ?_; rw [build_struct (ps := [(0, .int .i64 k), (1, .int .u64 win)]) (cs := #[.int .i64 k, .int .u64 win]) rfl]; refine hK _ _ ?_; clear hK K
  refine run_op fun K hK => ?_; refine calls_to (nnew_one k win hk1 hk2 hw1 hw2) ?_; rintro v A ⟨q, T, rfl, hT, rfl⟩; (try simp only [List.nil_append, List.cons_append]); refine hK _ _ ?_; clear hK K; refine going ?_
  refine run_op fun K hK => ?_; refine map_new fun r1 G1 hm1 => ?_; refine hK _ _ ?_; clear hK K
  refine run_op fun K hK => ?_; refine map_new fun r2 G2 hm2 => ?_; refine hK _ _ ?_; clear hK K
  refine run_op fun K hK => ?_; refine map_new fun r3 G3 hm3 => ?_; refine hK _ _ ?_; clear hK K
  refine going ?_
  refine code_nil ?_
  refine block_mid (fun D L S => ∃ (T G1 : Chunk) (s : NS) (g : MB), g.length = s.ser ∧ s.ser ≤ 60 ∧ NHalf (some ⟨q, 0, none⟩) T (some s) ∧ IsMap G1 r1 (mval Value.bool g) ∧ D = [] ∧ L = [(7, .pointer (some ⟨q, 0, none⟩)), (9, .map (some r1))] ∧ S = [T, G1, F, C]) ?_ ?_
  · refine loop_i (fun q' D L S => ∃ (i : Nat) (all : List (List UInt8)) (aa : Option Addr) (ac : Nat) (CA T G1 G2 G3 : Chunk) (s : NS) (now : Int) (g sp : MB) (ct : MC), i ≤ ops.length ∧ i ≤ 60 ∧ all.length ≤ i ∧ s.ser ≤ i ∧ 0 ≤ now ∧ now ≤ 100 * i ∧ Once s g sp ct ∧ OwnS CA aa ac all ∧ NHalf (some ⟨q, 0, none⟩) T (some s) ∧ IsMap G1 r1 (mval Value.bool g) ∧ IsMap G2 r2 (mval Value.bool sp) ∧ IsMap G3 r3 (mval cV ct) ∧ q' = ops.length - i ∧ D = [] ∧
      L = [(41, .int .i64 i), (40, .int .i64 ops.length), (39, .slice a ops.length cap), (7, .pointer (some ⟨q, 0, none⟩)), (9, .map (some r1)), (10, .map (some r2)), (11, .map (some r3)), (12, .slice aa all.length ac), (13, .int .u64 now)] ∧ S = [T, G1, G2, G3, CA, F, C])
      ⟨0, [], none, 0, [], T, G1, G2, G3, ns0 k win, 0, [], [], [], by omega, by omega, by simp, Nat.le_refl _, by omega, by omega, once_new k win, own_nil, hT, hm1, hm2, hm3, rfl, rfl, rfl, rfl⟩ ?_
    rintro q' D L S ⟨i, all, aa, ac, CA, T, G1, G2, G3, s, now, g, sp, ct, hi, hi60, hal, hser, hn0, hn1, hO, hCA, hT, hm1, hm2, hm3, rfl, rfl, rfl, rfl⟩
    refine going ?_
    refine if_d (fun hc => ?_) (fun hc => ?_)
    · have hil : i < ops.length := by omega
      have hx : ops[i]? = some ops[i] := List.getElem?_eq_getElem hil
      have hok := hops _ (List.getElem_mem hil)
      generalize ops[i] = o at *
      obtain ⟨hd0, hd1, hwh0, hwh1, hc0, hc1, ht0, ht1, hb0, hb1⟩ := hok
      obtain ⟨od, tx, wh, ow, cn, tk, bk⟩ := o
      dsimp only at hd0 hd1 hwh0 hwh1 hc0 hc1 ht0 ht1 hb0 hb1
      refine going ?_
      refine run_op fun K hK => ?_; rw [el_at hrd (by omega) (by omega) (by decide), Int.toNat_natCast]; refine hK _ _ ?_; clear hK K
      refine run_op fun K hK => ?_; refine load_rd_agg hrd hs hx (by decide) (by (repeat (first | with_reducible assumption | with_reducible exact List.mem_cons_self .. | with_reducible apply List.mem_cons_of_mem))) ?_; refine hK _ _ ?_; clear hK K
      refine run_op fun K hK => ?_; refine alloc_new fun b15 => ?_; (try simp only [Value.cells]); refine hK _ _ ?_; clear hK K
      refine going ?_
      refine run_op fun K hK => ?_; refine store_all rfl (cell_O ⟨od, tx, wh, ow, cn, tk, bk⟩) (by (repeat (first | with_reducible exact Upd.one | with_reducible apply Upd.next))) (by rfl) ?_; refine hK _ _ ?_; clear hK K
      simp only [encO]
      refine going ?_
      refine if_d (fun hc => ?_) (fun hc => ?_)
      · refine going ?_
        exact mid ⟨T, G1, s, g, hO.len, by omega, hT, hm1, rfl, rfl, rfl⟩
      · have hlen : (tx.take 50).length ≤ 1000 := by rw [List.length_take]; omega
        refine going ?_
        obtain ⟨nw, hnw, hnw0, hnw1⟩ : ∃ nw : Int, now + tk % 100 = nw ∧ 0 ≤ nw ∧ nw ≤ 100 * (i + 1 : Nat) := ⟨_, rfl, by omega, by omega⟩
        rw [hnw]
        have hn2 : nw < 18446744073709551616 := by omega
        refine run_op fun K hK => ?_; refine calls_to (cuttext_spec tx 50) ?_; rintro v A ⟨rfl, rfl⟩; (try simp only [List.nil_append, List.cons_append]); refine hK _ _ ?_; clear hK K
        (repeat (first | (with_reducible refine then_n ?_) | refine regq_to ?_ | (with_reducible refine run_nil ?_) | ((with_reducible refine run_probe ?_); refine runq_more ?_)))
        (with_reducible refine code_seq ?_); refine then_mid (fun D L S => ∃ n : List UInt8, D = [] ∧ L = [(16, .string (str n)), (15, .pointer (some ⟨b15, 0, none⟩)), (13, .int .u64 nw), (41, .int .i64 i), (40, .int .i64 ops.length), (39, .slice a ops.length cap), (7, .pointer (some ⟨q, 0, none⟩)), (9, .map (some r1)), (10, .map (some r2)), (11, .map (some r3)), (12, .slice aa all.length ac)] ∧ S = [opB b15 ⟨od, tx, wh, ow, cn, tk, bk⟩, T, G1, G2, G3, CA, F, C]) ?_ ?_
        · refine going ?_
          cases ow with
          | false =>
            refine going ?_
            exact mid ⟨tx.take 50, rfl, rfl, rfl⟩
          | true =>
            refine going ?_
            by_cases hz : 0 < all.length
            · rw [decide_eq_true (show (0 : Int) < all.length by omega)]
              obtain ⟨w, hw⟩ : ∃ w : Nat, wh = w := ⟨wh.toNat, by omega⟩
              obtain ⟨j, hj, hjl⟩ : ∃ j : Nat, wh % (all.length : Int) = j ∧ j < all.length := ⟨w % all.length, by rw [hw]; rfl, Nat.mod_lt _ hz⟩
              have hxj : (all.map sV)[j]? = some (sV all[j]) := by rw [List.getElem?_map, List.getElem?_eq_getElem hjl]; rfl
              refine going ?_
              rw [hj]
              refine going ?_
              (try rw [Int.toNat_natCast])
              refine going ?_
              exact mid ⟨all[j], rfl, rfl, rfl⟩
            · rw [decide_eq_false (show ¬ (0 : Int) < all.length by omega)]
              refine going ?_
              exact mid ⟨tx.take 50, rfl, rfl, rfl⟩
        rintro D L S ⟨n, rfl, rfl, rfl⟩
        have hnd := keys_of hT
        refine going ?_
        refine then_mid (fun D L S => ∃ w : Bool, w = decide (od % 10 = 4 ∨ od % 10 = 5) ∧ D = [] ∧ L = [(96, .bool w), (75, .int .u8 (od % 10)), (16, .string (str n)), (15, .pointer (some ⟨b15, 0, none⟩)), (13, .int .u64 nw), (41, .int .i64 i), (40, .int .i64 ops.length), (39, .slice a ops.length cap), (7, .pointer (some ⟨q, 0, none⟩)), (9, .map (some r1)), (10, .map (some r2)), (11, .map (some r3)), (12, .slice aa all.length ac)] ∧ S = [opB b15 ⟨od, tx, wh, ow, cn, tk, bk⟩, T, G1, G2, G3, CA, F, C]) ?_ ?_
        · refine if_b (fun hc => ?_) (fun hc => ?_)
          · refine going ?_
            exact mid ⟨(od % 10 == 4), by rw [Bool.eq_iff_iff]; simp [hc], rfl, rfl, rfl⟩
          · refine going ?_
            exact mid ⟨(od % 10 == 5), by rw [Bool.eq_iff_iff]; simp [hc], rfl, rfl, rfl⟩
        rintro D L S ⟨w, hw, rfl, rfl, rfl⟩
        cases w with
        | true =>
          refine going ?_
          refine run_op fun K hK => ?_; refine calls_to (hSpend hT n nw hn2) ?_; rintro v A ⟨rfl, T', hT', rfl⟩; (try simp only [List.nil_append, List.cons_append]); refine hK _ _ ?_; clear hK K; refine going ?_
          (try simp only [oSpend] at hT' ⊢)
          refine if_b (fun hc => ?_) (fun hc => ?_)
          · obtain ⟨v, hm, hvs, hvc, he⟩ := spend_zero hc
            obtain ⟨i1, i2, i3⟩ := hO.ins _ (mget_mem hm)
            have hc00 := (show 0 ≤ v.cnt from by obtain ⟨_, _, _, hok, _⟩ := hT; exact (hok.en _ (mget_mem hm)).c0)
            simp only at i1 i2 i3
            refine going ?_
            rw [look_b, i2, hvs]
            refine going ?_
            rw [look_c, i3, show v.cnt = 0 from by omega]
            refine going ?_
            rw [look_b, hO.tru _ i1]
            refine going ?_
            refine run_op fun K hK => ?_; refine map_put hm2 (by (repeat (first | with_reducible exact Pick.head _ _ | with_reducible apply Pick.tail))) (fun G2' hm2' => ?_); refine hK _ _ ?_; clear hK K
            rw [mput_val] at hm2'
            have hO' := once_put hO hnd hm (w := { v with sp := true }) (sp' := mput sp n true) (ct' := ct) (fun k hk => by rw [gB_put, if_neg hk]) (fun k _ => rfl) (by rw [gB_put, if_pos rfl]) i3
            rw [← he] at hO'
            have hse := spend_ser s n nw
            refine going ?_
            exact again ⟨i + 1, all, aa, ac, CA, T', G1, G2', G3, (spendN s n nw).2, nw, g, mput sp n true, ct, by omega, by omega, by omega, by rw [hse]; omega, by omega, by omega, hO', hCA, hT', hm1, hm2', hm3, rfl, rfl, rfl, rfl⟩
          · rw [spend_other hc] at hT'
            refine going ?_
            exact again ⟨i + 1, all, aa, ac, CA, T', G1, G2, G3, s, nw, g, sp, ct, by omega, by omega, by omega, by omega, by omega, by omega, hO, hCA, hT', hm1, hm2, hm3, rfl, rfl, rfl, rfl⟩
        | false =>
          refine going ?_
          refine then_mid (fun D L S => ∃ w : Bool, w = decide (od % 10 = 6 ∨ od % 10 = 7) ∧ D = [] ∧ L = [(121, .bool w), (75, .int .u8 (od % 10)), (16, .string (str n)), (15, .pointer (some ⟨b15, 0, none⟩)), (13, .int .u64 nw), (41, .int .i64 i), (40, .int .i64 ops.length), (39, .slice a ops.length cap), (7, .pointer (some ⟨q, 0, none⟩)), (9, .map (some r1)), (10, .map (some r2)), (11, .map (some r3)), (12, .slice aa all.length ac)] ∧ S = [opB b15 ⟨od, tx, wh, ow, cn, tk, bk⟩, T, G1, G2, G3, CA, F, C]) ?_ ?_
          · refine if_b (fun hc => ?_) (fun hc => ?_)
            · refine going ?_
              exact mid ⟨(od % 10 == 6), by rw [Bool.eq_iff_iff]; simp [hc], rfl, rfl, rfl⟩
            · refine going ?_
              exact mid ⟨(od % 10 == 7), by rw [Bool.eq_iff_iff]; simp [hc], rfl, rfl, rfl⟩
          rintro D L S ⟨w, hw, rfl, rfl, rfl⟩
          cases w with
          | true =>
            refine going ?_
            refine run_op fun K hK => ?_; refine calls_to (hUse hT n cn nw hc0 hn2) ?_; rintro v A ⟨rfl, T', hT', rfl⟩; (try simp only [List.nil_append, List.cons_append]); refine hK _ _ ?_; clear hK K; refine going ?_
            (try simp only [oUse] at hT' ⊢)
            refine if_b (fun hc => ?_) (fun hc => ?_)
            · obtain ⟨v, hm, hvs, hvc, he⟩ := use_zero hc
              obtain ⟨i1, i2, i3⟩ := hO.ins _ (mget_mem hm)
              simp only at i1 i2 i3
              refine going ?_
              rw [look_b, i2, hvs]
              refine going ?_
              rw [look_c, i3]
              refine going ?_
              rw [decide_eq_false hvc]
              refine going ?_
              rw [look_b, hO.tru _ i1]
              refine going ?_
              refine run_op fun K hK => ?_; refine map_put hm3 (by (repeat (first | with_reducible exact Pick.head _ _ | with_reducible apply Pick.tail))) (fun G3' hm3' => ?_); refine hK _ _ ?_; clear hK K
              rw [show Value.int .u32 cn = cV cn from rfl, mput_val] at hm3'
              have hO' := once_put hO hnd hm (w := { v with cnt := cn }) (sp' := sp) (ct' := mput ct n cn) (fun k _ => rfl) (fun k hk => by rw [gC_put, if_neg hk]) i2 (by rw [gC_put, if_pos rfl])
              rw [← he] at hO'
              have hse := use_ser s n cn nw
              refine going ?_
              exact again ⟨i + 1, all, aa, ac, CA, T', G1, G2, G3', (useN s n cn nw).2, nw, g, sp, mput ct n cn, by omega, by omega, by omega, by rw [hse]; omega, by omega, by omega, hO', hCA, hT', hm1, hm2, hm3', rfl, rfl, rfl, rfl⟩
            · rw [use_other hc] at hT'
              refine going ?_
              exact again ⟨i + 1, all, aa, ac, CA, T', G1, G2, G3, s, nw, g, sp, ct, by omega, by omega, by omega, by omega, by omega, by omega, hO, hCA, hT', hm1, hm2, hm3, rfl, rfl, rfl, rfl⟩
          | false =>
            refine going ?_
            refine if_b (fun hc => ?_) (fun hc => ?_)
            · refine going ?_
              refine run_op fun K hK => ?_; refine calls_to (hSweep hT nw hn2) ?_; rintro v A ⟨rfl, T', hT', rfl⟩; (try simp only [List.nil_append, List.cons_append]); refine hK _ _ ?_; clear hK K; refine going ?_
              have hO' := once_sweep hO nw
              exact again ⟨i + 1, all, aa, ac, CA, T', G1, G2, G3, (sweepN s nw).2, nw, g, sp, ct, by omega, by omega, by omega, by show s.ser ≤ _; omega, by omega, by omega, hO', hCA, hT', hm1, hm2, hm3, rfl, rfl, rfl, rfl⟩
            · refine going ?_
              refine run_op fun K hK => ?_; refine calls_to (cuttext_spec tx 50) ?_; rintro v A ⟨rfl, rfl⟩; (try simp only [List.nil_append, List.cons_append]); refine hK _ _ ?_; clear hK K; refine going ?_
              generalize tx.take 50 = d at *
              refine run_op fun K hK => ?_; refine calls_to (hIssue hT (show oSer (some s) < 1000 by show s.ser < 1000; omega) d hlen nw hnw0 hn2) ?_; rintro v A ⟨rfl, T', hT', rfl⟩; (try simp only [List.nil_append, List.cons_append]); refine hK _ _ ?_; clear hK K; refine going ?_
              (try simp only [oIssue] at hT' ⊢)
              have hse := issue_ser s d nw
              refine if_b (fun hc => ?_) (fun hc => ?_)
              · obtain ⟨he1, he2⟩ := issue_zero hc
                have hf := once_fresh hO (by omega) d
                have hO' := once_issue hO (by omega) d nw
                rw [← he2] at hO'
                rw [he1]
                refine going ?_
                rw [look_b, show gBo g (nonN d (s.ser + 1)) = false from by unfold gBo; rw [hf]; rfl]
                refine going ?_
                refine run_op fun K hK => ?_; refine map_put hm1 (by (repeat (first | with_reducible exact Pick.head _ _ | with_reducible apply Pick.tail))) (fun G1' hm1' => ?_); refine hK _ _ ?_; clear hK K
                rw [mput_val] at hm1'
                refine going ?_
                refine run_op fun K hK => ?_; refine build1 rfl [.string (str (nonN d (s.ser + 1)))] (by decide) rfl rfl (by simp [Value.cell1]) (fun b8 C8 ho8 => ?_); refine hK _ _ ?_; clear hK K
                refine going ?_
                refine run_op fun K hK => ?_; refine append_own (e := 9) (s := 1) (hs := inferInstance) (by rfl) (by decide) hCA (.inr (by (repeat (first | with_reducible exact Pick.head _ _ | with_reducible apply Pick.tail)))) (ho8.rd (by (repeat (first | with_reducible assumption | with_reducible exact List.mem_cons_self .. | with_reducible apply List.mem_cons_of_mem)))) (by simp [Value.cell1]) (by simp only [maxLen]; omega) (by omega) (fun C3 a3 cap3 ho3 => ?_); refine hK _ _ ?_; clear hK K
                have e1 : all.length + 1 = (all ++ [nonN d (s.ser + 1)]).length := by simp
                have e2 : all.map sV ++ [.string (str (nonN d (s.ser + 1)))] = (all ++ [nonN d (s.ser + 1)]).map sV := by simp
                rw [e1, e2] at ho3
                rw [e1]
                refine going ?_
                exact again ⟨i + 1, (all ++ [nonN d (s.ser + 1)]), a3, cap3, C3, T', G1', G2, G3, (issueN s d nw).2, nw, mput g (nonN d (s.ser + 1)) true, sp, ct, by omega, by omega, by rw [← e1]; omega, by omega, by omega, by omega, hO', ho3, hT', hm1', hm2, hm3, rfl, rfl, rfl, rfl⟩
              · rw [issue_other hc] at hT'
                refine going ?_
                exact again ⟨i + 1, all, aa, ac, CA, T', G1, G2, G3, s, nw, g, sp, ct, by omega, by omega, by omega, by omega, by omega, by omega, hO, hCA, hT', hm1, hm2, hm3, rfl, rfl, rfl, rfl⟩
    · refine going ?_
      exact mid ⟨T, G1, s, g, hO.len, by omega, hT, hm1, rfl, rfl, rfl⟩
  rintro D L S ⟨T, G1, s, g, hlen, hser, hT, hm1, rfl, rfl, rfl⟩
  have hgl : (mval Value.bool g).length = s.ser := by rw [← hlen]; simp [mval]
  refine going ?_
  refine run_op fun K hK => ?_; refine calls_to (hSer hT) ?_; rintro v A ⟨rfl, rfl⟩; (try simp only [List.nil_append, List.cons_append]); refine hK _ _ ?_; clear hK K; refine going ?_
  rw [hgl]
  (try simp only [oSer])
  refine going ?_
  refine back_tmp [C] ?_; exact ⟨by simp, rfl⟩

end Go.Proofs.Ytbclecppjnlpmaa
