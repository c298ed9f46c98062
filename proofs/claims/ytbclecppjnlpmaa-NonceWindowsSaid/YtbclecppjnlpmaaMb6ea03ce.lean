/- Texts in a row: the walk's rules and contracts, as each says. Conditions: as each says. -/
import Derived.Test.YtbclecppjnlpmaaM35b0b5b9
import Derived.Test.YtbclecppjnlpmaaMeb813a39
/- What goes before the statement NonceWindows. Conditions: as each says. -/
set_option linter.unusedSimpArgs false
set_option linter.unusedVariables false
namespace Go.Proofs.Ytbclecppjnlpmaa
open Go Go.Ost Go.Tab Go.Sha

theorem row_ints {C : Chunk} {k : IntKind} {v : Value} {zs : List Int} (h : Ost.Row C k v zs) : (∀ z ∈ zs, (Lit.int k z).wf = true) ∧ ∃ a cap, v = .slice a zs.length cap ∧ zs.length ≤ cap ∧ cap ≤ maxLen ∧ Rd 1 [C] a zs.length (zs.map (Value.int k)) := by
  obtain ⟨hz, a, len, cap, rfl, h1, h2, rfl, h3⟩ := h
  refine ⟨hz, a, cap, rfl, h1, h2, ⟨by simp, fun hne => ?_⟩⟩
  obtain ⟨b, o, cs, e, m, rfl, hm, hc⟩ := h3 (by
    rcases zs with _ | ⟨z, zs⟩
    · simp at hne
    · simp)
  refine ⟨b, o, cs, e, m, rfl, .here hm, fun i hi => ?_⟩
  rw [List.length_map] at hi
  rw [List.getElem?_map, List.getElem?_eq_getElem hi, hc i hi, List.getD, List.getElem?_eq_getElem hi]
  rfl
/-! ### All that were given out -/

def dr (i : Nat) : List UInt8 := [100] ++ hex [UInt8.ofNat i]
theorem dr_ok : ∀ i < 20, drawB (dr i) = true := by decide +kernel
theorem dr_len : ∀ i < 20, (dr i).length = 3 := by decide +kernel
theorem dr_inj : ∀ i < 20, ∀ j < 20, dr i = dr j → i = j := by decide +kernel
def eN (j : Nat) (t : Int) : List UInt8 × V := (nonN (dr j) (j + 1), ⟨nonN (dr j) (j + 1), dr j, t, false, 0⟩)

structure Win (s : NS) (lst : Es) (c : Nat) : Prop where
  es : s.es = lst.drop c
  cl : lst ≠ [] → c < lst.length
  len : lst.length ≤ 20
  ser : s.ser = lst.length
  el : ∀ j x, lst[j]? = some x → x = eN j x.2.at_
  at_ : ∀ x ∈ lst, 0 ≤ x.2.at_ ∧ x.2.at_ ≤ s.last
  srt : lst.Pairwise fun x y => x.2.at_ ≤ y.2.at_

theorem win_new (room : Nat) (win : Int) : Win (ns0 room win) [] 0 := ⟨rfl, fun h => (h rfl).elim, by simp, rfl, fun j x h => by simp at h, fun x hx => (by cases hx), List.Pairwise.nil⟩

theorem filter_drop {p : List UInt8 × V → Bool} (hp : ∀ x y : List UInt8 × V, x.2.at_ ≤ y.2.at_ → p y = true → p x = true) : ∀ l : Es, l.Pairwise (fun x y => x.2.at_ ≤ y.2.at_) → ∃ c, (l.filter fun x => !p x) = l.drop c
  | [], _ => ⟨0, rfl⟩
  | x :: l, h => by
    rw [List.pairwise_cons] at h
    obtain ⟨c, hc⟩ := filter_drop hp l h.2
    cases hx : p x with
    | true => exact ⟨c + 1, by rw [List.filter_cons]; simp [hx, hc]⟩
    | false =>
      refine ⟨0, ?_⟩
      rw [List.drop_zero, List.filter_eq_self]
      intro y hy
      rcases List.mem_cons.1 hy with rfl | hy
      · rw [hx]; rfl
      · cases hpy : p y with
        | false => rfl
        | true => rw [hp x y (h.1 y hy) hpy] at hx; cases hx
theorem old_mono (s : NS) (now : Int) (x y : List UInt8 × V) (h : x.2.at_ ≤ y.2.at_) (hy : oldB s now y = true) : oldB s now x = true := by
  unfold oldB at hy ⊢
  simp only [Bool.or_eq_true, Bool.and_eq_true, decide_eq_true_eq] at hy ⊢
  rcases hy with ⟨h1, h2⟩ | ⟨h1, h2⟩
  · exact .inl ⟨by omega, by omega⟩
  · exact .inr ⟨h1, by omega⟩
theorem room_drop {s : NS} {lst : Es} {c : Nat} (h : Win s lst c) (now : Int) : ∃ c', (roomN s now).es = lst.drop c' := by
  unfold roomN
  split
  · split
    · obtain ⟨c', hc'⟩ := filter_drop (p := oldB s now) (old_mono s now) s.es (by rw [h.es]; exact h.srt.sublist (List.drop_sublist _ _))
      refine ⟨c + c', ?_⟩
      show s.es.filter (fun x => !oldB s now x) = _
      rw [hc', h.es, List.drop_drop]
    · unfold dropN
      split
      · exact ⟨c, h.es⟩
      · rename_i x es he
        refine ⟨c + 1, ?_⟩
        show es = _
        have h1 := h.es
        rw [he] at h1
        rw [← List.drop_drop, ← h1]; rfl
  · exact ⟨c, h.es⟩
theorem win_no {s : NS} {lst : Es} {c : Nat} (h : Win s lst c) (hl : lst.length < 20) : hasD (dr lst.length) s.es = false := by
  unfold hasD
  rw [List.any_eq_false]
  intro x hx
  rw [h.es] at hx
  obtain ⟨j, hj⟩ := List.mem_iff_getElem?.1 (List.mem_of_mem_drop hx)
  have hjl : j < lst.length := by
    rcases Nat.lt_or_ge j lst.length with h1 | h1
    · exact h1
    · rw [List.getElem?_eq_none h1] at hj; cases hj
  have e := h.el j x hj
  rw [e]
  simp only [eN, decide_eq_true_eq]
  intro hd
  have := dr_inj j (by omega) lst.length hl (of_decide_eq_true hd)
  omega
theorem win_issue {s : NS} {lst : Es} {c : Nat} (h : Win s lst c) (hl : lst.length < 20) {now : Int} (hn : s.last ≤ now) (hn0 : 0 ≤ now) :
    (issueN s (dr lst.length) now).1 = (nonN (dr lst.length) (lst.length + 1), 0) ∧ ∃ c', Win (issueN s (dr lst.length) now).2 (lst ++ [eN lst.length now]) c' := by
  have he : issueN s (dr lst.length) now = ((nonN (dr lst.length) (s.ser + 1), 0), addN (roomN s now) (dr lst.length) now) := by
    unfold issueN
    rw [if_neg (by rw [dr_ok _ hl]; simp), if_neg (by omega), win_no h hl, if_neg (by simp)]
  have hrs := room_ser s now
  obtain ⟨c1, hc1⟩ := room_drop h now
  rw [he, h.ser]
  refine ⟨rfl, min c1 lst.length, ⟨?_, fun _ => ?_, ?_, ?_, fun j x hx => ?_, fun x hx => ?_, ?_⟩⟩
  · show (roomN s now).es ++ [(nonN (dr lst.length) ((roomN s now).ser + 1), (⟨nonN (dr lst.length) ((roomN s now).ser + 1), dr lst.length, now, false, 0⟩ : V))] = _
    rw [hrs, h.ser, List.drop_append_of_le_length (by omega), hc1]
    have : lst.drop c1 = lst.drop (min c1 lst.length) := by
      rcases Nat.le_total c1 lst.length with h1 | h1
      · rw [Nat.min_eq_left h1]
      · rw [Nat.min_eq_right h1, List.drop_eq_nil_of_le h1, List.drop_length]
    rw [this]; rfl
  · rw [List.length_append, List.length_singleton]; omega
  · rw [List.length_append, List.length_singleton]; omega
  · show (roomN s now).ser + 1 = _
    rw [hrs, h.ser]; simp
  · rcases Nat.lt_or_ge j lst.length with h1 | h1
    · rw [List.getElem?_append_left h1] at hx
      exact h.el j x hx
    · rw [List.getElem?_append_right h1] at hx
      rcases Nat.eq_or_lt_of_le h1 with h2 | h2
      · rw [h2] at hx
        simp at hx
        rw [← hx]; rfl
      · rw [List.getElem?_eq_none (by simp; omega)] at hx; cases hx
  · show 0 ≤ x.2.at_ ∧ x.2.at_ ≤ now
    rcases List.mem_append.1 hx with hx | hx
    · have := h.at_ x hx; exact ⟨this.1, by omega⟩
    · rw [List.mem_singleton.1 hx]; exact ⟨hn0, Int.le_refl _⟩
  · rw [List.pairwise_append]
    refine ⟨h.srt, List.pairwise_singleton _ _, fun x hx y hy => ?_⟩
    rw [List.mem_singleton.1 hy]
    have := (h.at_ x hx).2
    show x.2.at_ ≤ now
    omega

theorem key_at {s : NS} {lst : Es} {c : Nat} (h : Win s lst c) {i j : Nat} {x y : List UInt8 × V} (hx : lst[i]? = some x) (hy : lst[j]? = some y) (he : x.1 = y.1) : i = j := by
  have hi : i < lst.length := by
    rcases Nat.lt_or_ge i lst.length with h1 | h1
    · exact h1
    · rw [List.getElem?_eq_none h1] at hx; cases hx
  have hj : j < lst.length := by
    rcases Nat.lt_or_ge j lst.length with h1 | h1
    · exact h1
    · rw [List.getElem?_eq_none h1] at hy; cases hy
  have hl := h.len
  rw [h.el i x hx, h.el j y hy] at he
  have := (non_inj (show i + 1 < 65536 by omega) (show j + 1 < 65536 by omega) he).2
  omega
/-- What is found is in its place, and among the last ones. -/
theorem win_found {s : NS} {lst : Es} {c : Nat} (h : Win s lst c) {i : Nat} {x : List UInt8 × V} {v : V} (hx : lst[i]? = some x) (hm : mget s.es x.2.non = some v) : c ≤ i ∧ v = x.2 := by
  have hxe := h.el i x hx
  have hk : x.1 = x.2.non := by rw [hxe]; rfl
  have hmem := mget_mem hm
  rw [h.es] at hmem
  obtain ⟨j, hj⟩ := List.mem_iff_getElem?.1 hmem
  rw [List.getElem?_drop] at hj
  have hji := key_at h hj hx (by rw [hk])
  subst hji
  rw [hx] at hj
  have hv := congrArg Prod.snd (Option.some.inj hj)
  exact ⟨Nat.le_add_right _ _, hv.symm⟩
theorem win_last {s : NS} {lst : Es} {c : Nat} (h : Win s lst c) {i : Nat} {x : List UInt8 × V} (hx : lst[i]? = some x) (hi : i + 1 = lst.length) (hnd : (s.es.map (·.1)).Nodup) : mget s.es x.2.non = some x.2 := by
  have hxe := h.el i x hx
  have hk : x.1 = x.2.non := by rw [hxe]; rfl
  have hne : lst ≠ [] := by intro h0; rw [h0] at hi; simp at hi
  have hc := h.cl hne
  have hmem : x ∈ s.es := by
    rw [h.es]
    refine List.mem_iff_getElem?.2 ⟨i - c, ?_⟩
    rw [List.getElem?_drop, show c + (i - c) = i from by omega]; exact hx
  obtain ⟨pre, post, e⟩ := List.append_of_mem hmem
  rw [← hk]
  rw [e] at hnd ⊢
  obtain ⟨k, v⟩ := x
  exact (mdel_mid pre post hnd).2

/-- What a check of one of them comes to. -/
theorem win_check {s : NS} {lst : Es} {c k : Nat} (h : Win s lst c) (hs : NOk s) (hk : s.room = k) (hnd : (s.es.map (·.1)).Nodup) {now : Int} (hn : s.last ≤ now) {i : Nat} {x : List UInt8 × V} (hx : lst[i]? = some x) :
    x.2.at_ ≤ now ∧ 0 ≤ x.2.at_ ∧ (((findN s x.2.non now).1 = 0 ∧ now - x.2.at_ ≤ s.win ∧ (s.mrk = true → ¬ x.2.at_ ≤ s.mark) ∧ lst.length ≤ i + k) ∨
      (((findN s x.2.non now).1 = 6 ∨ (findN s x.2.non now).1 = 9) ∧ ¬ (i + 1 = lst.length ∧ now - x.2.at_ ≤ s.win ∧ (s.mrk = true → ¬ x.2.at_ ≤ s.mark)))) := by
  have ha := h.at_ x (List.mem_of_getElem? hx)
  have hfit := hs.fit
  rw [h.es, List.length_drop, hk] at hfit
  refine ⟨by omega, ha.1, ?_⟩
  have key : ∀ v : V, lateB s now v = (!decide (v.at_ ≤ now ∧ now - v.at_ ≤ s.win) || (s.mrk && decide (v.at_ ≤ s.mark))) := fun v => rfl
  rcases find_cases s x.2.non now with ⟨e, hm⟩ | ⟨v, hm, ⟨e, hl⟩ | ⟨e, hl⟩⟩
  · refine .inr ⟨.inl (by rw [e]), fun hh => ?_⟩
    rw [win_last h hx hh.1 hnd] at hm; cases hm
  · obtain ⟨_, rfl⟩ := win_found h hx hm
    refine .inr ⟨.inr (by rw [e]), fun hh => ?_⟩
    rw [key, decide_eq_true (show x.2.at_ ≤ now ∧ now - x.2.at_ ≤ s.win from ⟨by omega, hh.2.1⟩)] at hl
    cases hmk : s.mrk with
    | false => rw [hmk] at hl; cases hl
    | true =>
      rw [hmk, decide_eq_false (hh.2.2 hmk)] at hl; cases hl
  · obtain ⟨hc, rfl⟩ := win_found h hx hm
    rw [key, Bool.or_eq_false_iff] at hl
    obtain ⟨h1, h2⟩ := hl
    have h1' : x.2.at_ ≤ now ∧ now - x.2.at_ ≤ s.win := by simpa using h1
    refine .inl ⟨by rw [e], h1'.2, fun hmk => ?_, by omega⟩
    rw [hmk, Bool.true_and] at h2
    exact of_decide_eq_false h2

end Go.Proofs.Ytbclecppjnlpmaa

/- The statement NonceWindows. Conditions: as each says. -/
set_option linter.unusedSimpArgs false
set_option linter.unusedVariables false
namespace Go.Proofs.Ytbclecppjnlpmaa
open Go Go.Ost Go.Tab Go.Sha

def encG (x : List UInt8 × V) : List Value := [.string (str x.2.non), .int .u64 x.2.at_]
theorem encG_len (x : List UInt8 × V) : (encG x).length = 2 := rfl
theorem cell_G (x : List UInt8 × V) : ∀ u ∈ encG x, Value.cell1 u := by simp [encG, Value.cell1]
abbrev OwnG (C : Chunk) (a : Option Addr) (c : Nat) (es : Es) : Prop := Ost.Own 2 37 C a es.length c (es.flatMap encG)
instance : TPlaces Try.prog 37 [(0, 1), (1, 1)] := ⟨by kernel_rfl⟩

set_option maxHeartbeats 4000000 in
theorem NonceWindows_law (C : Chunk) (_ : True) (rr : Int) (hrr : (Lit.int .u8 rr).wf = true) (ww : Int) (hww : (Lit.int .u16 ww).wf = true) (v : Value) (zs : List Int) (hv : Ost.Row C .u8 v zs) (later : Int) (hlater : (Lit.int .u16 later).wf = true) :
    Meets Try.prog 3 [.int .u8 rr, .int .u16 ww, v, .int .u16 later] [C] fun v A => v = .bool true ∧ A = [C] := by
  have hr0 := wf_u8 hrr
  have hw0 := wf_u16 hww
  have hl0 := wf_u16 hlater
  have hg2 := encG_len
  obtain ⟨hz, a, cap, rfl, hcap, hmax, hrd⟩ := row_ints hv
  obtain ⟨k, hk, hk1, hk2⟩ : ∃ k : Nat, 1 + rr % 6 = k ∧ 1 ≤ k ∧ k ≤ 64 := ⟨(1 + rr % 6).toNat, by omega, by omega, by omega⟩
  obtain ⟨win, hwn, hw1, hw2⟩ : ∃ win : Int, 1 + ww % 300 = win ∧ 1 ≤ win ∧ win ≤ 1099511627776 := ⟨_, rfl, by omega, by omega⟩
  refine spec_intro Try.func3 rfl (by kernel_rfl) (by rw [Try.ntmps3]; simp) fun F => ?_; rw [Try.ntmps3, Try.results3]
  refine going ?_
  refine run_op fun K hK => ?_; refine calls_to (awake_spec) ?_; rintro v A ⟨rfl, rfl⟩; (try simp only [List.nil_append, List.cons_append]); refine hK _ _ ?_; clear hK K; refine going ?_
  rw [hk, hwn]
  refine run_op fun K hK => ?_; rw [build_struct (ps := [(0, .int .i64 k), (1, .int .u64 win)]) (cs := #[.int .i64 k, .int .u64 win]) rfl]; refine hK _ _ ?_; clear hK K
  refine run_op fun K hK => ?_; refine calls_to (nnew_one k win hk1 hk2 hw1 hw2) ?_; rintro v A ⟨q, T, rfl, hT, rfl⟩; (try simp only [List.nil_append, List.cons_append]); refine hK _ _ ?_; clear hK K; refine going ?_
  refine code_nil ?_
  refine block_mid (fun D L S => ∃ (T X : Chunk) (xa : Option Addr) (xc : Nat) (s : NS) (lst : Es) (c : Nat) (now : Int), Win s lst c ∧ s.room = k ∧ s.win = win ∧ 0 ≤ now ∧ now ≤ 2000 ∧ s.last ≤ now ∧ NHalf (some ⟨q, 0, none⟩) T (some s) ∧ OwnG X xa xc lst ∧ D = [] ∧
    L = [(13, .slice xa lst.length xc), (14, .int .u64 now), (11, .pointer (some ⟨q, 0, none⟩)), (9, .int .i64 k), (10, .int .u64 win), (3, .int .u16 later)] ∧ S = [T, X, F, C]) ?_ ?_
  · refine loop_i (fun q' D L S => ∃ (i : Nat) (T X : Chunk) (xa : Option Addr) (xc : Nat) (s : NS) (lst : Es) (c : Nat) (now : Int), i ≤ zs.length ∧ i ≤ 20 ∧ lst.length = i ∧ Win s lst c ∧ s.room = k ∧ s.win = win ∧ 0 ≤ now ∧ now ≤ 100 * i ∧ s.last ≤ now ∧ NHalf (some ⟨q, 0, none⟩) T (some s) ∧ OwnG X xa xc lst ∧ q' = zs.length - i ∧ D = [] ∧
      L = [(45, .int .i64 i), (44, .int .i64 zs.length), (43, .slice a zs.length cap), (13, .slice xa lst.length xc), (14, .int .u64 now), (11, .pointer (some ⟨q, 0, none⟩)), (9, .int .i64 k), (10, .int .u64 win), (3, .int .u16 later)] ∧ S = [T, X, F, C])
      ⟨0, T, [], none, 0, ns0 k win, [], 0, 0, by omega, by omega, rfl, win_new k win, rfl, rfl, by omega, by omega, Int.le_refl _, hT, own_nil, rfl, rfl, rfl, rfl⟩ ?_
    rintro q' D L S ⟨i, T, X, xa, xc, s, lst, c, now, hi, hi20, hli, hW, hroom, hwin, hn0, hn1, hlast, hT, hX, rfl, rfl, rfl, rfl⟩
    refine going ?_
    refine if_d (fun hc => ?_) (fun hc => ?_)
    · have hil : i < zs.length := by omega
      have hx : (zs.map (Value.int .u8))[i]? = some (.int .u8 zs[i]) := by rw [List.getElem?_map, List.getElem?_eq_getElem hil]; rfl
      have hz1 := wf_u8 (hz _ (List.getElem_mem hil))
      generalize zs[i] = z at *
      refine going ?_
      refine if_d (fun hc => ?_) (fun hc => ?_)
      · refine going ?_
        exact mid ⟨T, X, xa, xc, s, lst, c, now, hW, hroom, hwin, hn0, by omega, hlast, hT, hX, rfl, rfl, rfl⟩
      · have hi3 : i < 20 := by omega
        obtain ⟨hne, c', hW'⟩ := win_issue hW (now := now + z % 50) (by omega) (by omega) (by omega)
        have hse := issue_room s (dr lst.length) (now + z % 50)
        have hwi : (issueN s (dr lst.length) (now + z % 50)).2.win = s.win := by
          unfold issueN; split
          · rfl
          · split
            · rfl
            · split
              · rfl
              · show (roomN s (now + z % 50)).win = s.win
                unfold roomN; split
                · split
                  · rfl
                  · unfold dropN; split <;> rfl
                · rfl
        have hla : (issueN s (dr lst.length) (now + z % 50)).2.last = now + z % 50 := by
          have h1 : (issueN s (dr lst.length) (now + z % 50)).1.2 = 0 := by rw [hne]
          unfold issueN at h1 ⊢
          split
          · rename_i h; rw [if_pos h] at h1; cases h1
          · rename_i h
            rw [if_neg h] at h1
            split
            · rename_i h; rw [if_pos h] at h1; cases h1
            · rename_i h
              rw [if_neg h] at h1
              split
              · rename_i h; rw [if_pos h] at h1; cases h1
              · rfl
        have his := hIssue hT (show oSer (some s) < 1000 by show s.ser < 1000; have := hW.ser; omega) (dr lst.length) (by rw [dr_len _ (by omega)]; omega) (now + z % 50) (by omega) (by omega)
        simp only [oIssue] at his
        rw [hne] at his
        rw [hli] at his hne hW' hse hwi hla
        have hb8 : Value.int .u8 (i : Int) = b8 (UInt8.ofNat i) := by simp only [b8, UInt8.toNat_ofNat']; congr 1; omega
        refine going ?_
        rw [hb8]
        refine run_op fun K hK => ?_; refine build8 ([UInt8.ofNat i]) (by decide) rfl (rfl) (fun b8 C8 ho8 => ?_); refine hK _ _ ?_; clear hK K
        refine going ?_
        refine run_op fun K hK => ?_; refine calls_to (refhex_spec C8 _ _ [UInt8.ofNat i] (by simp) (ho8.rd (by simp))) ?_; rintro v A ⟨rfl, rfl⟩; (try simp only [List.nil_append, List.cons_append]); refine hK _ _ ?_; clear hK K; refine going ?_
        refine run_op fun K hK => ?_; rw [show Value.string ⟨#[100]⟩ = .string (str [100]) from rfl, str_add (by rw [hex_len]; simp)]; refine hK _ _ ?_; clear hK K
        rw [show [100] ++ hex [UInt8.ofNat i] = dr i from rfl]
        refine going ?_
        refine run_op fun K hK => ?_; refine calls_to (his) ?_; rintro v A ⟨rfl, T', hT', rfl⟩; (try simp only [List.nil_append, List.cons_append]); refine hK _ _ ?_; clear hK K; refine going ?_
        generalize (issueN s (dr i) (now + z % 50)).2 = s' at *
        refine run_op fun K hK => ?_; rw [build_struct (ps := [(0, .string (str (nonN (dr i) (i + 1)))), (1, .int .u64 (now + z % 50))]) (cs := (encG (eN i (now + z % 50))).toArray) rfl]; refine hK _ _ ?_; clear hK K
        refine going ?_
        refine run_op fun K hK => ?_; refine build_el1 (e := 37) (s := 2) (hs := inferInstance) (vs := encG (eN i (now + z % 50))) (by rfl) (by decide) (by decide) rfl (fun b9 C9 ho9 => ?_); refine hK _ _ ?_; clear hK K
        refine going ?_
        refine run_op fun K hK => ?_; refine append_own (e := 37) (s := 2) (hs := inferInstance) (by rfl) (by decide) hX (.inr (by (repeat (first | with_reducible exact Pick.head _ _ | with_reducible apply Pick.tail)))) (ho9.rd (by (repeat (first | with_reducible assumption | with_reducible exact List.mem_cons_self .. | with_reducible apply List.mem_cons_of_mem)))) (cell_G _) (by simp only [maxLen]; omega) (by omega) (fun C3 a3 cap3 ho3 => ?_); refine hK _ _ ?_; clear hK K
        have e1 : lst.length + 1 = (lst ++ [eN i (now + z % 50)]).length := by simp
        have e2 : lst.flatMap encG ++ encG (eN i (now + z % 50)) = (lst ++ [eN i (now + z % 50)]).flatMap encG := by simp
        rw [e1, e2] at ho3
        rw [e1]
        refine going ?_
        exact again ⟨i + 1, T', C3, a3, cap3, s', lst ++ [eN i (now + z % 50)], c', now + z % 50, by omega, by omega, by rw [← e1]; omega, hW', by omega, by omega, by omega, by omega, by omega, hT', ho3, rfl, rfl, rfl, rfl⟩
    · refine going ?_
      exact mid ⟨T, X, xa, xc, s, lst, c, now, hW, hroom, hwin, hn0, by omega, hlast, hT, hX, rfl, rfl, rfl⟩
  rintro D L S ⟨T, X, xa, xc, s, lst, c, now, hW, hroom, hwin, hn0, hn1, hlast, hT, hX, rfl, rfl, rfl⟩
  have hsok : NOk s := by obtain ⟨_, _, _, hok, _⟩ := hT; exact hok
  have hnd := keys_of hT
  have hl20 := hW.len
  obtain ⟨nw, hnw, hnw0, hnw1, hnw2⟩ : ∃ nw : Int, now + later % 400 = nw ∧ 0 ≤ nw ∧ nw ≤ 10000 ∧ s.last ≤ nw := ⟨_, rfl, by omega, by omega, by omega⟩
  have hmk := hMark hT
  simp only [oMark] at hmk
  have hmark0 := hsok.mark0
  have hfit := hsok.fit
  rw [show s.room = k from hroom] at hfit
  clear hz hcap hmax hrd hr0 hw0 hk hn0 hn1 hlast
  refine going ?_
  rw [hnw]
  clear hnw hl0 hww hrr hlater hwn
  refine going ?_
  refine run_op fun K hK => ?_; refine calls_to (hmk) ?_; rintro v A ⟨rfl, rfl⟩; (try simp only [List.nil_append, List.cons_append]); refine hK _ _ ?_; clear hK K; refine going ?_
  refine loop_i (fun q' D L S => ∃ i : Nat, i ≤ lst.length ∧ q' = lst.length - i ∧ D = [] ∧
    L = [(89, .int .i64 i), (88, .int .i64 lst.length), (87, .slice xa lst.length xc), (13, .slice xa lst.length xc), (14, .int .u64 nw), (11, .pointer (some ⟨q, 0, none⟩)), (9, .int .i64 k), (10, .int .u64 win), (19, .int .u64 s.mark), (20, .bool s.mrk)] ∧ S = [T, X, F, C])
    ⟨0, by omega, rfl, rfl, rfl, rfl⟩ ?_
  rintro q' D L S ⟨i, hi, rfl, rfl, rfl, rfl⟩
  refine going ?_
  refine if_d (fun hc => ?_) (fun hc => ?_)
  · have hil : i < lst.length := by omega
    have hx : lst[i]? = some lst[i] := List.getElem?_eq_getElem hil
    generalize lst[i] = x at *
    obtain ⟨hat, hat0, hcase⟩ := win_check hW hsok hroom hnd hnw2 hx
    have hck := hCheck hT x.2.non nw (by omega)
    rw [show oFind (some s) x.2.non nw = (findN s x.2.non nw).1 from rfl] at hck
    generalize (findN s x.2.non nw).1 = fv at *
    rw [hwin] at hcase
    refine going ?_
    refine run_op fun K hK => ?_; refine load_el_agg hX hg2 hx (by decide) (by (repeat (first | with_reducible assumption | with_reducible exact List.mem_cons_self .. | with_reducible apply List.mem_cons_of_mem))) ?_; refine hK _ _ ?_; clear hK K
    refine run_op fun K hK => ?_; refine alloc_new fun b22 => ?_; (try simp only [Value.cells]); refine hK _ _ ?_; clear hK K
    refine going ?_
    refine run_op fun K hK => ?_; refine store_all (vs := [.string (str x.2.non), .int .u64 x.2.at_]) rfl (cell_G x) (by (repeat (first | with_reducible exact Upd.one | with_reducible apply Upd.next))) (by rfl) ?_; refine hK _ _ ?_; clear hK K
    refine going ?_
    refine run_op fun K hK => ?_; refine calls_to (hck) ?_; rintro v A ⟨rfl, rfl⟩; (try simp only [List.nil_append, List.cons_append]); refine hK _ _ ?_; clear hK K
    (repeat (first | (with_reducible refine run_nil ?_) | ((with_reducible refine run_probe ?_); refine runq_more ?_)))
    (with_reducible refine then_n ?_)
    (with_reducible refine code_seq ?_); refine then_mid (fun D L S => D = [] ∧ L = [(23, .int .i64 fv), (21, .int .i64 i), (22, .pointer (some ⟨b22, 0, none⟩)), (14, .int .u64 nw), (10, .int .u64 win), (9, .int .i64 k), (13, .slice xa lst.length xc), (19, .int .u64 s.mark), (20, .bool s.mrk), (89, .int .i64 i), (88, .int .i64 lst.length), (87, .slice xa lst.length xc), (11, .pointer (some ⟨q, 0, none⟩))] ∧
      S = [[(b22, .cells (#[.string (str x.2.non), .int .u64 x.2.at_]) 37 (0, 0))], T, X, F, C]) ?_ ?_
    · refine going ?_
      rcases hcase with ⟨rfl, h1, h2, h3⟩ | ⟨h0, h1⟩
      · refine going ?_
        rw [decide_eq_false (show ¬ win < nw - x.2.at_ by omega)]
        refine going ?_
        have hkk : ¬ (i : Int) < lst.length - k := by omega
        cases hmb : s.mrk with
        | false =>
          refine going ?_
          rw [decide_eq_false hkk]
          refine going ?_
          exact mid ⟨rfl, rfl, rfl⟩
        | true =>
          refine going ?_
          rw [decide_eq_false (h2 hmb)]
          refine going ?_
          rw [decide_eq_false hkk]
          refine going ?_
          exact mid ⟨rfl, rfl, rfl⟩
      · have f1 : (fv == 0) = false := by rcases h0 with rfl | rfl <;> rfl
        (try rw [f1])
        refine going ?_
        exact mid ⟨rfl, rfl, rfl⟩
    rintro D L S ⟨rfl, rfl, rfl⟩
    have hfv3 : fv = 0 ∨ fv = 6 ∨ fv = 9 := by
      rcases hcase with ⟨h, _⟩ | ⟨h, _⟩
      · exact .inl h
      · exact .inr h
    (with_reducible refine code_seq ?_); refine then_mid (fun D L S => D = [] ∧ L = [(23, .int .i64 fv), (21, .int .i64 i), (22, .pointer (some ⟨b22, 0, none⟩)), (14, .int .u64 nw), (10, .int .u64 win), (9, .int .i64 k), (13, .slice xa lst.length xc), (19, .int .u64 s.mark), (20, .bool s.mrk), (89, .int .i64 i), (88, .int .i64 lst.length), (87, .slice xa lst.length xc), (11, .pointer (some ⟨q, 0, none⟩))] ∧
      S = [[(b22, .cells (#[.string (str x.2.non), .int .u64 x.2.at_]) 37 (0, 0))], T, X, F, C]) ?_ ?_
    · clear hcase
      refine going ?_
      rcases hfv3 with rfl | rfl | rfl
      · refine going ?_
        exact mid ⟨rfl, rfl, rfl⟩
      · refine going ?_
        exact mid ⟨rfl, rfl, rfl⟩
      · refine going ?_
        exact mid ⟨rfl, rfl, rfl⟩
    rintro D L S ⟨rfl, rfl, rfl⟩
    have hz : (i : Int) = lst.length - 1 → nw - x.2.at_ ≤ win → (s.mrk = true → ¬ x.2.at_ ≤ s.mark) → fv = 0 := by
      intro q1 q2 q3
      rcases hcase with ⟨h, _⟩ | ⟨_, h⟩
      · exact h
      · exact (h ⟨by clear h; omega, q2, q3⟩).elim
    clear hcase hfv3
    refine going ?_
    by_cases hq : (i : Int) = lst.length - 1
    · rw [beq_iff_eq.2 hq]
      refine going ?_
      by_cases hw : nw - x.2.at_ ≤ win
      · rw [decide_eq_true hw]
        refine going ?_
        cases hmb : s.mrk with
        | false =>
          obtain rfl := hz hq hw (fun h => by rw [hmb] at h; cases h)
          refine going ?_
          exact again ⟨i + 1, by omega, rfl, rfl, rfl, rfl⟩
        | true =>
          refine going ?_
          by_cases hm : x.2.at_ ≤ s.mark
          · rw [decide_eq_true hm]
            refine going ?_
            exact again ⟨i + 1, by omega, rfl, rfl, rfl, rfl⟩
          · obtain rfl := hz hq hw (fun _ => hm)
            rw [decide_eq_false hm]
            refine going ?_
            exact again ⟨i + 1, by omega, rfl, rfl, rfl, rfl⟩
      · rw [decide_eq_false hw]
        refine going ?_
        exact again ⟨i + 1, by omega, rfl, rfl, rfl, rfl⟩
    · rw [beq_eq_false_iff_ne.2 hq]
      refine going ?_
      exact again ⟨i + 1, by omega, rfl, rfl, rfl, rfl⟩
  · refine going ?_
    refine run_op fun K hK => ?_; refine calls_to (hLen hT) ?_; rintro v A ⟨rfl, rfl⟩; (try simp only [List.nil_append, List.cons_append]); refine hK _ _ ?_; clear hK K; refine going ?_
    rw [decide_eq_true (show ((oEs (some s)).length : Int) ≤ k by show ((s.es.length : Nat) : Int) ≤ k; omega)]
    refine going ?_
    refine back_tmp [C] ?_; exact ⟨rfl, rfl⟩

end Go.Proofs.Ytbclecppjnlpmaa
