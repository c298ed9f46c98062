/- Texts in a row: the walk's rules and contracts, as each says. Conditions: as each says. -/
import Derived.Test.YtjagaagemgppcaaMffd81879
/- The statement GuardFull. Conditions: as each says. -/
set_option linter.unusedSimpArgs false
set_option linter.unusedVariables false
namespace Go.Proofs.Ytjagaagemgppcaa
open Go Go.Ost Go.Tab Go.Span

def nm (j : Nat) : List UInt8 := [UInt8.ofNat (97 + j)]
def nmV : List Value := [.string (str [97]), .string (str [98]), .string (str [99]), .string (str [100]), .string (str [101])]
theorem nm_at (j : Nat) (h : j < 5) : nmV[j]? = some (.string (str (nm j))) := by
  match j, h with
  | 0, _ => rfl
  | 1, _ => rfl
  | 2, _ => rfl
  | 3, _ => rfl
  | 4, _ => rfl
  | j + 5, h => omega
def zz : List UInt8 := [122]
/-- Those that tried at ten, and failed (or did not). -/
def ent (fl : Bool) (j : Nat) : List UInt8 × V := (nm j, if fl then ⟨nm j, 1, 10, 12⟩ else ⟨nm j, 0, 10, 10⟩)
def ents (fl : Bool) (j : Nat) : Es := (List.range j).map (ent fl)
theorem ents_len (fl : Bool) (j : Nat) : (ents fl j).length = j := by simp [ents]
theorem ents_succ (fl : Bool) (j : Nat) : ents fl (j + 1) = ents fl j ++ [ent fl j] := by simp [ents, List.range_succ]
theorem ents_ok (fl : Bool) (j : Nat) : EOk (ents fl j) := by
  intro x hx
  obtain ⟨i, _, rfl⟩ := List.mem_map.1 hx
  cases fl
  · exact ⟨rfl, by show (0 : Int) ≤ 10; omega, by show (0 : Int) ≤ 0; omega, by show (0 : Int) ≤ 60; omega⟩
  · exact ⟨rfl, by show (0 : Int) ≤ 12; omega, by show (0 : Int) ≤ 1; omega, by show (1 : Int) ≤ 60; omega⟩
theorem ents_til (fl : Bool) (j : Nat) : ∀ x ∈ ents fl j, x.2.til = if fl then 12 else 10 := by
  intro x hx
  obtain ⟨i, _, rfl⟩ := List.mem_map.1 hx
  cases fl <;> rfl
theorem mget_ents (fl : Bool) (j : Nat) (h : j < 5) : mget (ents fl j) (nm j) = none := by
  match j, h with
  | 0, _ => cases fl <;> rfl
  | 1, _ => cases fl <;> rfl
  | 2, _ => cases fl <;> rfl
  | 3, _ => cases fl <;> rfl
  | 4, _ => cases fl <;> rfl
  | j + 5, h => omega
theorem mget_z (fl : Bool) (j : Nat) (h : j ≤ 5) : mget (ents fl j) zz = none := by
  match j, h with
  | 0, _ => cases fl <;> rfl
  | 1, _ => cases fl <;> rfl
  | 2, _ => cases fl <;> rfl
  | 3, _ => cases fl <;> rfl
  | 4, _ => cases fl <;> rfl
  | 5, _ => cases fl <;> rfl
  | j + 6, h => omega
theorem mget_a (fl : Bool) (j : Nat) (h1 : 1 ≤ j) : mget (ents fl j) [97] = some (if fl then ⟨[97], 1, 10, 12⟩ else ⟨[97], 0, 10, 10⟩) := by
  obtain ⟨j, rfl⟩ : ∃ i, j = i + 1 := ⟨j - 1, by omega⟩
  unfold ents
  rw [List.range_succ_eq_map, List.map_cons]
  cases fl <;> rfl
theorem nm_ne (j : Nat) : nm j ≠ [] := by simp [nm]
theorem nm_len (j : Nat) : (nm j).length ≤ 32 := by simp [nm]

theorem known_none {es : Es} {s : List UInt8} (h1 : s ≠ []) (h2 : s.length ≤ 32) (hm : mget es s = none) : knownE es s = (6, v0) := by
  unfold knownE; rw [if_neg h1, if_neg (by omega), hm]
theorem known_some {es : Es} {s : List UInt8} {v : V} (h1 : s ≠ []) (h2 : s.length ≤ 32) (hm : mget es s = some v) : knownE es s = (0, v) := by
  unfold knownE; rw [if_neg h1, if_neg (by omega), hm]
theorem enter_put {c : Cfg} {es : Es} {s : List UInt8} {now : Int} (h1 : s ≠ []) (h2 : s.length ≤ 32) (hm : mget es s = none) (hl : es.length < c.room) : enterE c es s now = (0, es ++ [(s, ⟨s, 0, now, now⟩)]) := by
  unfold enterE
  rw [known_none h1 h2 hm, if_neg (by simp), if_neg (by simp)]
  unfold roomE
  rw [if_neg (by omega), put_of_none hm, if_neg (by omega)]
theorem enter_full {c : Cfg} {es : Es} {s : List UInt8} {now : Int} (h1 : s ≠ []) (h2 : s.length ≤ 32) (hm : mget es s = none) (hl : es.length = c.room) (ho : ∀ x ∈ es, overB c now x = false) : enterE c es s now = (8, es) := by
  have hsw : (sweepE c es now).2 = es := by
    show es.filter (fun x => !overB c now x) = es
    rw [List.filter_eq_self]
    intro x hx; rw [ho x hx]; rfl
  unfold enterE
  rw [known_none h1 h2 hm, if_neg (by simp), if_neg (by simp)]
  unfold roomE
  rw [if_pos hl, hsw, put_of_none hm, if_pos (by omega)]
theorem enter_over {c : Cfg} {es : Es} {s : List UInt8} {now : Int} (hc : 1 ≤ c.room) (h1 : s ≠ []) (h2 : s.length ≤ 32) (hm : mget es s = none) (hl : es.length = c.room) (ho : ∀ x ∈ es, overB c now x = true) : enterE c es s now = (0, [(s, ⟨s, 0, now, now⟩)]) := by
  have hsw : (sweepE c es now).2 = [] := by
    show es.filter (fun x => !overB c now x) = []
    rw [List.filter_eq_nil_iff]
    intro x hx; rw [ho x hx]; simp
  unfold enterE
  rw [known_none h1 h2 hm, if_neg (by simp), if_neg (by simp)]
  unfold roomE
  rw [if_pos hl, hsw, put_of_none rfl, if_neg (by simp; omega)]
  rfl
theorem enter_known {c : Cfg} {es : Es} {s : List UInt8} {v : V} {now : Int} (h1 : s ≠ []) (h2 : s.length ≤ 32) (hm : mget es s = some v) (h : ¬ now < v.til) : enterE c es s now = (0, es) := by
  unfold enterE
  rw [known_some h1 h2 hm, if_neg (by simp), if_pos rfl, if_neg h]
theorem mput_end {s : List UInt8} {v u : V} : ∀ {es : Es}, mget es s = none → mput (es ++ [(s, v)]) s u = es ++ [(s, u)]
  | [], _ => by simp [mput]
  | (k, w) :: es, h => by
    simp only [mget] at h
    split at h
    · cases h
    · rename_i hne
      simp only [List.cons_append, mput]
      rw [if_neg hne, mput_end h]
theorem mget_end {s : List UInt8} {v : V} : ∀ {es : Es}, mget es s = none → mget (es ++ [(s, v)]) s = some v
  | [], _ => by simp [mget]
  | (k, w) :: es, h => by
    simp only [mget] at h
    split at h
    · cases h
    · rename_i hne
      simp only [List.cons_append, mget]
      rw [if_neg hne, mget_end h]
theorem fail_end {c : Cfg} {es : Es} {s : List UInt8} {v : V} {now : Int} (h1 : s ≠ []) (h2 : s.length ≤ 32) (hm : mget es s = none) : failE c (es ++ [(s, v)]) s now = (0, es ++ [(s, failV c v now)]) := by
  unfold failE
  rw [known_some h1 h2 (mget_end hm), if_pos rfl, mput_end hm]
theorem eok_end {es : Es} {s : List UInt8} {v : V} (h : EOk es) (h1 : EOk [(s, v)]) : EOk (es ++ [(s, v)]) := fun x hx => by
  rcases List.mem_append.1 hx with hx | hx
  · exact h x hx
  · exact h1 x hx
theorem failV_ten (r : Nat) (h : Int) (s : List UInt8) : failV ⟨r, 1, 2, h⟩ ⟨s, 0, 10, 10⟩ 10 = ⟨s, 1, 10, 12⟩ := by
  show (⟨s, minI (0 + 1) 60, 10, add 10 (wt 1 2 (minI (0 + 1) 60).toNat)⟩ : V) = _
  rw [show minI (0 + 1) 60 = 1 from rfl, show add 10 (wt 1 2 (1 : Int).toNat) = 12 from by kernel_rfl]
def enB (fl : Bool) : Int := if fl then 12 else 10
theorem ents_not (fl : Bool) (j r : Nat) (h now : Int) (h0 : 0 ≤ h) (h1 : h ≤ 1000) (hn : now < enB fl + h) : ∀ x ∈ ents fl j, overB ⟨r, 1, 2, h⟩ now x = false := by
  intro x hx
  unfold overB
  rw [ents_til fl j x hx]
  apply decide_eq_false
  show ¬ add (enB fl) h ≤ now
  rw [add_eq _ _ (by cases fl <;> decide) h0 (by cases fl <;> simp only [enB] <;> simp <;> omega)]
  omega
theorem ents_over (fl : Bool) (j r : Nat) (h now : Int) (h0 : 0 ≤ h) (h1 : h ≤ 1000) (hn : enB fl + h ≤ now) : ∀ x ∈ ents fl j, overB ⟨r, 1, 2, h⟩ now x = true := by
  intro x hx
  unfold overB
  rw [ents_til fl j x hx]
  apply decide_eq_true
  show add (enB fl) h ≤ now
  rw [add_eq _ _ (by cases fl <;> decide) h0 (by cases fl <;> simp only [enB] <;> simp <;> omega)]
  omega
theorem zz_ne : zz ≠ [] := by simp [zz]
theorem zz_len : zz.length ≤ 32 := by simp [zz]

end Go.Proofs.Ytjagaagemgppcaa

/- The statement GuardFull. Conditions: as each says. -/
set_option linter.unusedSimpArgs false
set_option linter.unusedVariables false
namespace Go.Proofs.Ytjagaagemgppcaa
open Go Go.Ost Go.Tab Go.Span

set_option maxHeartbeats 2000000 in
theorem GuardFull_law (C : Chunk) (_ : True) (a : Int) (ha : (Lit.int .u8 a).wf = true) (n : Int) (hn : (Lit.int .u16 n).wf = true) (fl : Bool) :
    Meets Try.prog 4 [.int .u8 a, .int .u16 n, .bool fl] [C] fun v A => v = .bool true ∧ A = [C] := by
  have ha := wf_u8 ha
  have hn := wf_u16 hn
  refine spec_intro Try.func4 rfl (by kernel_rfl) (by rw [Try.ntmps4]; simp) fun F => ?_; rw [Try.ntmps4, Try.results4]
  (repeat (first | (with_reducible refine then_n ?_) | (with_reducible refine then_r ?_) | (with_reducible refine then_e ?_) | (with_reducible refine block_n ?_) | (with_reducible refine block_r ?_) | (with_reducible refine block_e ?_) | refine block_o ?_ | (with_reducible refine scope_n ?_) | (with_reducible refine scope_r ?_) | (with_reducible refine scope_e ?_) | (with_reducible refine code_seq ?_) | (with_reducible refine code_skip ?_) | (with_reducible refine code_label ?_) | (with_reducible refine code_block ?_) | (with_reducible refine code_scope ?_) | (with_reducible refine code_exit ?_) | (with_reducible refine code_ret ?_) | refine regq_to ?_ | (with_reducible refine run_nil ?_) | ((with_reducible refine run_probe ?_); refine runq_more ?_) | (with_reducible refine draw_nil ?_) | ((with_reducible refine draw_probe ?_); (first | refine drawq_more ?_ | refine drawq_as ?_)) | refine code_then ?_ | refine code_else ?_))
  refine run_op fun K hK => ?_; refine calls_to (awake_spec) ?_; rintro v A ⟨rfl, rfl⟩; (try simp only [List.nil_append, List.cons_append]); refine hK _ _ ?_; clear hK K; (repeat (first | (with_reducible refine then_n ?_) | (with_reducible refine then_r ?_) | (with_reducible refine then_e ?_) | (with_reducible refine block_n ?_) | (with_reducible refine block_r ?_) | (with_reducible refine block_e ?_) | refine block_o ?_ | (with_reducible refine scope_n ?_) | (with_reducible refine scope_r ?_) | (with_reducible refine scope_e ?_) | (with_reducible refine code_seq ?_) | (with_reducible refine code_skip ?_) | (with_reducible refine code_label ?_) | (with_reducible refine code_block ?_) | (with_reducible refine code_scope ?_) | (with_reducible refine code_exit ?_) | (with_reducible refine code_ret ?_) | refine regq_to ?_ | (with_reducible refine run_nil ?_) | ((with_reducible refine run_probe ?_); refine runq_more ?_) | (with_reducible refine draw_nil ?_) | ((with_reducible refine draw_probe ?_); (first | refine drawq_more ?_ | refine drawq_as ?_)) | refine code_then ?_ | refine code_else ?_))
  obtain ⟨r, hr⟩ : ∃ r : Nat, 1 + a % 5 = r := ⟨(1 + a % 5).toNat, by omega⟩
  obtain ⟨h, hh⟩ : ∃ h : Nat, 1 + n % 1000 = h := ⟨(1 + n % 1000).toNat, by omega⟩
  rw [hr, hh]
  have hcf : (⟨r, 1, 2, h⟩ : Cfg).Ok := ⟨by show 1 ≤ r; omega, by show r ≤ 64; omega, by show (1 : Int) ≤ 1; omega, by show (1 : Int) ≤ 1099511627776; omega, by show (1 : Int) ≤ 2; omega, by show (2 : Int) ≤ 1099511627776; omega, by show (1 : Int) ≤ h; omega, by show (h : Int) ≤ 1099511627776; omega⟩
  have hh0 : 0 ≤ (⟨r, 1, 2, h⟩ : Cfg).hold := by show (0 : Int) ≤ h; omega
  refine run_op fun K hK => ?_; rw [build_struct (ps := [(0, .int .i64 r), (1, .int .u64 1), (2, .int .u64 2), (3, .int .u64 h)]) (cs := #[.int .i64 r, .int .u64 1, .int .u64 2, .int .u64 h]) rfl]; refine hK _ _ ?_; clear hK K
  refine run_op fun K hK => ?_; refine calls_to (gnew_yes ⟨r, 1, 2, h⟩ hcf) ?_; rintro v A ⟨g, b, T, rfl, hT, rfl⟩; (try simp only [List.nil_append, List.cons_append]); refine hK _ _ ?_; clear hK K; (repeat (first | (with_reducible refine then_n ?_) | (with_reducible refine then_r ?_) | (with_reducible refine then_e ?_) | (with_reducible refine block_n ?_) | (with_reducible refine block_r ?_) | (with_reducible refine block_e ?_) | refine block_o ?_ | (with_reducible refine scope_n ?_) | (with_reducible refine scope_r ?_) | (with_reducible refine scope_e ?_) | (with_reducible refine code_seq ?_) | (with_reducible refine code_skip ?_) | (with_reducible refine code_label ?_) | (with_reducible refine code_block ?_) | (with_reducible refine code_scope ?_) | (with_reducible refine code_exit ?_) | (with_reducible refine code_ret ?_) | refine regq_to ?_ | (with_reducible refine run_nil ?_) | ((with_reducible refine run_probe ?_); refine runq_more ?_) | (with_reducible refine draw_nil ?_) | ((with_reducible refine draw_probe ?_); (first | refine drawq_more ?_ | refine drawq_as ?_)) | refine code_then ?_ | refine code_else ?_))
  refine run_op fun K hK => ?_; refine build1 rfl [.string (str [97]), .string (str [98]), .string (str [99]), .string (str [100]), .string (str [101])] (by decide) rfl rfl (by simp [Value.cell1]) (fun b5 C5 ho5 => ?_); refine hK _ _ ?_; clear hK K
  (repeat (first | (with_reducible refine then_n ?_) | (with_reducible refine then_r ?_) | (with_reducible refine then_e ?_) | (with_reducible refine block_n ?_) | (with_reducible refine block_r ?_) | (with_reducible refine block_e ?_) | refine block_o ?_ | (with_reducible refine scope_n ?_) | (with_reducible refine scope_r ?_) | (with_reducible refine scope_e ?_) | (with_reducible refine code_seq ?_) | (with_reducible refine code_skip ?_) | (with_reducible refine code_label ?_) | (with_reducible refine code_block ?_) | (with_reducible refine code_scope ?_) | (with_reducible refine code_exit ?_) | (with_reducible refine code_ret ?_) | refine regq_to ?_ | (with_reducible refine run_nil ?_) | ((with_reducible refine run_probe ?_); refine runq_more ?_) | (with_reducible refine draw_nil ?_) | ((with_reducible refine draw_probe ?_); (first | refine drawq_more ?_ | refine drawq_as ?_)) | refine code_then ?_ | refine code_else ?_))
  have hq := own_cut ho5 (l := 0) (h' := r) (m := 5) (by omega) (by omega) (by omega) (by omega)
  generalize cutA 1 (some ⟨b5, 0, none⟩) 0 5 = sa at hq ⊢
  rw [show (([.string (str [97]), .string (str [98]), .string (str [99]), .string (str [100]), .string (str [101])] : List Value).drop (0 * 1)).take ((r - 0) * 1) = nmV.take r from by simp [nmV]] at hq
  simp only [Nat.sub_zero] at hq
  refine loop_i (fun q D L S => ∃ (j : Nat) (T : Chunk), j ≤ r ∧ IsTab T b r (ents fl j) ∧ q = r - j ∧ D = [] ∧
    L = [(39, .int .i64 j), (38, .int .i64 r), (37, .slice sa r 5), (9, .pointer (some ⟨g, 0, none⟩)), (8, .int .u64 h), (7, .int .i64 r), (2, .bool fl)] ∧ S = [C5, gB g ⟨r, 1, 2, h⟩ b, T, F, C])
    ⟨0, T, by omega, hT, rfl, rfl, rfl, rfl⟩ ?_
  rintro q D L S ⟨j, T, hj, hT, rfl, rfl, rfl, rfl⟩
  (repeat (first | (with_reducible refine then_n ?_) | (with_reducible refine then_r ?_) | (with_reducible refine then_e ?_) | (with_reducible refine block_n ?_) | (with_reducible refine block_r ?_) | (with_reducible refine block_e ?_) | refine block_o ?_ | (with_reducible refine scope_n ?_) | (with_reducible refine scope_r ?_) | (with_reducible refine scope_e ?_) | (with_reducible refine code_seq ?_) | (with_reducible refine code_skip ?_) | (with_reducible refine code_label ?_) | (with_reducible refine code_block ?_) | (with_reducible refine code_scope ?_) | (with_reducible refine code_exit ?_) | (with_reducible refine code_ret ?_) | refine regq_to ?_ | (with_reducible refine run_nil ?_) | ((with_reducible refine run_probe ?_); refine runq_more ?_) | (with_reducible refine draw_nil ?_) | ((with_reducible refine draw_probe ?_); (first | refine drawq_more ?_ | refine drawq_as ?_)) | refine code_then ?_ | refine code_else ?_))
  refine if_d (fun hc => ?_) (fun hc => ?_)
  · have hjr : j < r := by omega
    have hx : (nmV.take r)[j]? = some (.string (str (nm j))) := by rw [List.getElem?_take_of_lt hjr]; exact nm_at j (by omega)
    have h1 := genter_spec (g := g) (c := ⟨r, 1, 2, h⟩) hh0 hT (ents_ok fl j) (nm j) 10
    rw [enter_put (nm_ne j) (nm_len j) (mget_ents fl j (by omega)) (by rw [ents_len]; exact hjr)] at h1
    (repeat (first | (with_reducible refine then_n ?_) | (with_reducible refine then_r ?_) | (with_reducible refine then_e ?_) | (with_reducible refine block_n ?_) | (with_reducible refine block_r ?_) | (with_reducible refine block_e ?_) | refine block_o ?_ | (with_reducible refine scope_n ?_) | (with_reducible refine scope_r ?_) | (with_reducible refine scope_e ?_) | (with_reducible refine code_seq ?_) | (with_reducible refine code_skip ?_) | (with_reducible refine code_label ?_) | (with_reducible refine code_block ?_) | (with_reducible refine code_scope ?_) | (with_reducible refine code_exit ?_) | (with_reducible refine code_ret ?_) | refine regq_to ?_ | (with_reducible refine run_nil ?_) | ((with_reducible refine run_probe ?_); refine runq_more ?_) | (with_reducible refine draw_nil ?_) | ((with_reducible refine draw_probe ?_); (first | refine drawq_more ?_ | refine drawq_as ?_)) | refine code_then ?_ | refine code_else ?_))
    refine run_op fun K hK => ?_; refine calls_to (h1) ?_; rintro v A ⟨rfl, T1, hT1, rfl⟩; (try simp only [List.nil_append, List.cons_append]); refine hK _ _ ?_; clear hK K; (repeat (first | (with_reducible refine then_n ?_) | (with_reducible refine then_r ?_) | (with_reducible refine then_e ?_) | (with_reducible refine block_n ?_) | (with_reducible refine block_r ?_) | (with_reducible refine block_e ?_) | refine block_o ?_ | (with_reducible refine scope_n ?_) | (with_reducible refine scope_r ?_) | (with_reducible refine scope_e ?_) | (with_reducible refine code_seq ?_) | (with_reducible refine code_skip ?_) | (with_reducible refine code_label ?_) | (with_reducible refine code_block ?_) | (with_reducible refine code_scope ?_) | (with_reducible refine code_exit ?_) | (with_reducible refine code_ret ?_) | refine regq_to ?_ | (with_reducible refine run_nil ?_) | ((with_reducible refine run_probe ?_); refine runq_more ?_) | (with_reducible refine draw_nil ?_) | ((with_reducible refine draw_probe ?_); (first | refine drawq_more ?_ | refine drawq_as ?_)) | refine code_then ?_ | refine code_else ?_))
    have hv : EOk [(nm j, (⟨nm j, 0, 10, 10⟩ : V))] := eok_one rfl (by show (0 : Int) ≤ 10; omega) (by show (0 : Int) ≤ 0; omega) (by show (0 : Int) ≤ 60; omega)
    cases fl with
    | false =>
      (repeat (first | (with_reducible refine then_n ?_) | (with_reducible refine then_r ?_) | (with_reducible refine then_e ?_) | (with_reducible refine block_n ?_) | (with_reducible refine block_r ?_) | (with_reducible refine block_e ?_) | refine block_o ?_ | (with_reducible refine scope_n ?_) | (with_reducible refine scope_r ?_) | (with_reducible refine scope_e ?_) | (with_reducible refine code_seq ?_) | (with_reducible refine code_skip ?_) | (with_reducible refine code_label ?_) | (with_reducible refine code_block ?_) | (with_reducible refine code_scope ?_) | (with_reducible refine code_exit ?_) | (with_reducible refine code_ret ?_) | refine regq_to ?_ | (with_reducible refine run_nil ?_) | ((with_reducible refine run_probe ?_); refine runq_more ?_) | (with_reducible refine draw_nil ?_) | ((with_reducible refine draw_probe ?_); (first | refine drawq_more ?_ | refine drawq_as ?_)) | refine code_then ?_ | refine code_else ?_))
      exact again ⟨j + 1, T1, by omega, by rw [ents_succ]; exact hT1, rfl, rfl, rfl, rfl⟩
    | true =>
      (repeat (first | (with_reducible refine then_n ?_) | (with_reducible refine then_r ?_) | (with_reducible refine then_e ?_) | (with_reducible refine block_n ?_) | (with_reducible refine block_r ?_) | (with_reducible refine block_e ?_) | refine block_o ?_ | (with_reducible refine scope_n ?_) | (with_reducible refine scope_r ?_) | (with_reducible refine scope_e ?_) | (with_reducible refine code_seq ?_) | (with_reducible refine code_skip ?_) | (with_reducible refine code_label ?_) | (with_reducible refine code_block ?_) | (with_reducible refine code_scope ?_) | (with_reducible refine code_exit ?_) | (with_reducible refine code_ret ?_) | refine regq_to ?_ | (with_reducible refine run_nil ?_) | ((with_reducible refine run_probe ?_); refine runq_more ?_) | (with_reducible refine draw_nil ?_) | ((with_reducible refine draw_probe ?_); (first | refine drawq_more ?_ | refine drawq_as ?_)) | refine code_then ?_ | refine code_else ?_))
      have h2 := gfail_spec (g := g) hcf hT1 (eok_end (ents_ok true j) hv) (nm j) 10 (by omega)
      rw [fail_end (nm_ne j) (nm_len j) (mget_ents true j (by omega)), failV_ten] at h2
      refine run_op fun K hK => ?_; refine calls_to (h2) ?_; rintro v A ⟨rfl, T2, hT2, rfl⟩; (try simp only [List.nil_append, List.cons_append]); refine hK _ _ ?_; clear hK K; (repeat (first | (with_reducible refine then_n ?_) | (with_reducible refine then_r ?_) | (with_reducible refine then_e ?_) | (with_reducible refine block_n ?_) | (with_reducible refine block_r ?_) | (with_reducible refine block_e ?_) | refine block_o ?_ | (with_reducible refine scope_n ?_) | (with_reducible refine scope_r ?_) | (with_reducible refine scope_e ?_) | (with_reducible refine code_seq ?_) | (with_reducible refine code_skip ?_) | (with_reducible refine code_label ?_) | (with_reducible refine code_block ?_) | (with_reducible refine code_scope ?_) | (with_reducible refine code_exit ?_) | (with_reducible refine code_ret ?_) | refine regq_to ?_ | (with_reducible refine run_nil ?_) | ((with_reducible refine run_probe ?_); refine runq_more ?_) | (with_reducible refine draw_nil ?_) | ((with_reducible refine draw_probe ?_); (first | refine drawq_more ?_ | refine drawq_as ?_)) | refine code_then ?_ | refine code_else ?_))
      exact again ⟨j + 1, T2, by omega, by rw [ents_succ]; exact hT2, rfl, rfl, rfl, rfl⟩
  · have hjr : j = r := by omega
    rw [hjr] at hT
    have hen : 10 ≤ enB fl ∧ enB fl ≤ 12 := by cases fl <;> simp [enB]
    (repeat (first | (with_reducible refine then_n ?_) | (with_reducible refine then_r ?_) | (with_reducible refine then_e ?_) | (with_reducible refine block_n ?_) | (with_reducible refine block_r ?_) | (with_reducible refine block_e ?_) | refine block_o ?_ | (with_reducible refine scope_n ?_) | (with_reducible refine scope_r ?_) | (with_reducible refine scope_e ?_) | (with_reducible refine code_seq ?_) | (with_reducible refine code_skip ?_) | (with_reducible refine code_label ?_) | (with_reducible refine code_block ?_) | (with_reducible refine code_scope ?_) | (with_reducible refine code_exit ?_) | (with_reducible refine code_ret ?_) | refine regq_to ?_ | (with_reducible refine run_nil ?_) | ((with_reducible refine run_probe ?_); refine runq_more ?_) | (with_reducible refine draw_nil ?_) | ((with_reducible refine draw_probe ?_); (first | refine drawq_more ?_ | refine drawq_as ?_)) | refine code_then ?_ | refine code_else ?_))
    refine then_mid (fun D L S => D = [] ∧ L = [(14, .int .u64 (enB fl + h)), (9, .pointer (some ⟨g, 0, none⟩)), (7, .int .i64 r), (2, .bool fl)] ∧ S = [gB g ⟨r, 1, 2, h⟩ b, T, F, C]) ?_ ?_
    · cases fl with
      | true =>
        (repeat (first | (with_reducible refine then_n ?_) | (with_reducible refine then_r ?_) | (with_reducible refine then_e ?_) | (with_reducible refine block_n ?_) | (with_reducible refine block_r ?_) | (with_reducible refine block_e ?_) | refine block_o ?_ | (with_reducible refine scope_n ?_) | (with_reducible refine scope_r ?_) | (with_reducible refine scope_e ?_) | (with_reducible refine code_seq ?_) | (with_reducible refine code_skip ?_) | (with_reducible refine code_label ?_) | (with_reducible refine code_block ?_) | (with_reducible refine code_scope ?_) | (with_reducible refine code_exit ?_) | (with_reducible refine code_ret ?_) | refine regq_to ?_ | (with_reducible refine run_nil ?_) | ((with_reducible refine run_probe ?_); refine runq_more ?_) | (with_reducible refine draw_nil ?_) | ((with_reducible refine draw_probe ?_); (first | refine drawq_more ?_ | refine drawq_as ?_)) | refine code_then ?_ | refine code_else ?_))
        rw [show (10 : Int) + h + 2 = enB true + h from by show (10 : Int) + h + 2 = 12 + h; omega]
        exact mid ⟨rfl, rfl, rfl⟩
      | false =>
        (repeat (first | (with_reducible refine then_n ?_) | (with_reducible refine then_r ?_) | (with_reducible refine then_e ?_) | (with_reducible refine block_n ?_) | (with_reducible refine block_r ?_) | (with_reducible refine block_e ?_) | refine block_o ?_ | (with_reducible refine scope_n ?_) | (with_reducible refine scope_r ?_) | (with_reducible refine scope_e ?_) | (with_reducible refine code_seq ?_) | (with_reducible refine code_skip ?_) | (with_reducible refine code_label ?_) | (with_reducible refine code_block ?_) | (with_reducible refine code_scope ?_) | (with_reducible refine code_exit ?_) | (with_reducible refine code_ret ?_) | refine regq_to ?_ | (with_reducible refine run_nil ?_) | ((with_reducible refine run_probe ?_); refine runq_more ?_) | (with_reducible refine draw_nil ?_) | ((with_reducible refine draw_probe ?_); (first | refine drawq_more ?_ | refine drawq_as ?_)) | refine code_then ?_ | refine code_else ?_))
        exact mid ⟨rfl, rfl, rfl⟩
    rintro D L S ⟨rfl, rfl, rfl⟩
    obtain ⟨ov, hov⟩ : ∃ ov : Int, enB fl + h = ov := ⟨_, rfl⟩
    rw [hov]
    have e0 : ∀ now : Int, now < ov → enterE ⟨r, 1, 2, h⟩ (ents fl r) zz now = (8, ents fl r) := fun now hlt =>
      enter_full zz_ne zz_len (mget_z fl r (by omega)) (ents_len fl r) (ents_not fl r r h now (by omega) (by omega) (by omega))
    have e1 : enterE ⟨r, 1, 2, h⟩ (ents fl r) [97] (ov - 1) = (0, ents fl r) := enter_known (by simp) (by simp) (mget_a fl r (by omega)) (by
      cases fl with
      | true => show ¬ ov - 1 < 12; have : enB true = 12 := rfl; omega
      | false => show ¬ ov - 1 < 10; have : enB false = 10 := rfl; omega)
    have e2 : enterE ⟨r, 1, 2, h⟩ (ents fl r) zz ov = (0, [(zz, ⟨zz, 0, ov, ov⟩)]) :=
      enter_over (c := ⟨r, 1, 2, h⟩) (by show 1 ≤ r; omega) zz_ne zz_len (mget_z fl r (by omega)) (ents_len fl r) (ents_over fl r r h ov (by omega) (by omega) (by omega))
    have hlen := ents_len fl r
    have hok := ents_ok fl r
    generalize ents fl r = es at *
    have h1 := genter_spec (g := g) (c := ⟨r, 1, 2, h⟩) hh0 hT hok zz 10
    rw [e0 10 (by omega)] at h1
    (repeat (first | (with_reducible refine then_n ?_) | (with_reducible refine then_r ?_) | (with_reducible refine then_e ?_) | (with_reducible refine block_n ?_) | (with_reducible refine block_r ?_) | (with_reducible refine block_e ?_) | refine block_o ?_ | (with_reducible refine scope_n ?_) | (with_reducible refine scope_r ?_) | (with_reducible refine scope_e ?_) | (with_reducible refine code_seq ?_) | (with_reducible refine code_skip ?_) | (with_reducible refine code_label ?_) | (with_reducible refine code_block ?_) | (with_reducible refine code_scope ?_) | (with_reducible refine code_exit ?_) | (with_reducible refine code_ret ?_) | refine regq_to ?_ | (with_reducible refine run_nil ?_) | ((with_reducible refine run_probe ?_); refine runq_more ?_) | (with_reducible refine draw_nil ?_) | ((with_reducible refine draw_probe ?_); (first | refine drawq_more ?_ | refine drawq_as ?_)) | refine code_then ?_ | refine code_else ?_))
    refine run_op fun K hK => ?_; refine calls_to (h1) ?_; rintro v A ⟨rfl, T1, hT1, rfl⟩; (try simp only [List.nil_append, List.cons_append]); refine hK _ _ ?_; clear hK K; (repeat (first | (with_reducible refine then_n ?_) | (with_reducible refine then_r ?_) | (with_reducible refine then_e ?_) | (with_reducible refine block_n ?_) | (with_reducible refine block_r ?_) | (with_reducible refine block_e ?_) | refine block_o ?_ | (with_reducible refine scope_n ?_) | (with_reducible refine scope_r ?_) | (with_reducible refine scope_e ?_) | (with_reducible refine code_seq ?_) | (with_reducible refine code_skip ?_) | (with_reducible refine code_label ?_) | (with_reducible refine code_block ?_) | (with_reducible refine code_scope ?_) | (with_reducible refine code_exit ?_) | (with_reducible refine code_ret ?_) | refine regq_to ?_ | (with_reducible refine run_nil ?_) | ((with_reducible refine run_probe ?_); refine runq_more ?_) | (with_reducible refine draw_nil ?_) | ((with_reducible refine draw_probe ?_); (first | refine drawq_more ?_ | refine drawq_as ?_)) | refine code_then ?_ | refine code_else ?_))
    have h2 := genter_spec (g := g) (c := ⟨r, 1, 2, h⟩) hh0 hT1 hok zz (ov - 1)
    rw [e0 _ (by omega)] at h2
    refine run_op fun K hK => ?_; refine calls_to (h2) ?_; rintro v A ⟨rfl, T2, hT2, rfl⟩; (try simp only [List.nil_append, List.cons_append]); refine hK _ _ ?_; clear hK K; (repeat (first | (with_reducible refine then_n ?_) | (with_reducible refine then_r ?_) | (with_reducible refine then_e ?_) | (with_reducible refine block_n ?_) | (with_reducible refine block_r ?_) | (with_reducible refine block_e ?_) | refine block_o ?_ | (with_reducible refine scope_n ?_) | (with_reducible refine scope_r ?_) | (with_reducible refine scope_e ?_) | (with_reducible refine code_seq ?_) | (with_reducible refine code_skip ?_) | (with_reducible refine code_label ?_) | (with_reducible refine code_block ?_) | (with_reducible refine code_scope ?_) | (with_reducible refine code_exit ?_) | (with_reducible refine code_ret ?_) | refine regq_to ?_ | (with_reducible refine run_nil ?_) | ((with_reducible refine run_probe ?_); refine runq_more ?_) | (with_reducible refine draw_nil ?_) | ((with_reducible refine draw_probe ?_); (first | refine drawq_more ?_ | refine drawq_as ?_)) | refine code_then ?_ | refine code_else ?_))
    have h3 := glen_spec (g := g) (c := ⟨r, 1, 2, h⟩) hT2
    simp only [hlen] at h3
    refine run_op fun K hK => ?_; refine calls_to (h3) ?_; rintro v A ⟨rfl, rfl⟩; (try simp only [List.nil_append, List.cons_append]); refine hK _ _ ?_; clear hK K; (repeat (first | (with_reducible refine then_n ?_) | (with_reducible refine then_r ?_) | (with_reducible refine then_e ?_) | (with_reducible refine block_n ?_) | (with_reducible refine block_r ?_) | (with_reducible refine block_e ?_) | refine block_o ?_ | (with_reducible refine scope_n ?_) | (with_reducible refine scope_r ?_) | (with_reducible refine scope_e ?_) | (with_reducible refine code_seq ?_) | (with_reducible refine code_skip ?_) | (with_reducible refine code_label ?_) | (with_reducible refine code_block ?_) | (with_reducible refine code_scope ?_) | (with_reducible refine code_exit ?_) | (with_reducible refine code_ret ?_) | refine regq_to ?_ | (with_reducible refine run_nil ?_) | ((with_reducible refine run_probe ?_); refine runq_more ?_) | (with_reducible refine draw_nil ?_) | ((with_reducible refine draw_probe ?_); (first | refine drawq_more ?_ | refine drawq_as ?_)) | refine code_then ?_ | refine code_else ?_))
    (try (repeat (first | (with_reducible refine then_n ?_) | (with_reducible refine then_r ?_) | (with_reducible refine then_e ?_) | (with_reducible refine block_n ?_) | (with_reducible refine block_r ?_) | (with_reducible refine block_e ?_) | refine block_o ?_ | (with_reducible refine scope_n ?_) | (with_reducible refine scope_r ?_) | (with_reducible refine scope_e ?_) | (with_reducible refine code_seq ?_) | (with_reducible refine code_skip ?_) | (with_reducible refine code_label ?_) | (with_reducible refine code_block ?_) | (with_reducible refine code_scope ?_) | (with_reducible refine code_exit ?_) | (with_reducible refine code_ret ?_) | refine regq_to ?_ | (with_reducible refine run_nil ?_) | ((with_reducible refine run_probe ?_); refine runq_more ?_) | (with_reducible refine draw_nil ?_) | ((with_reducible refine draw_probe ?_); (first | refine drawq_more ?_ | refine drawq_as ?_)) | refine code_then ?_ | refine code_else ?_)))
    have h4 := genter_spec (g := g) (c := ⟨r, 1, 2, h⟩) hh0 hT2 hok [97] (ov - 1)
    rw [e1] at h4
    refine run_op fun K hK => ?_; refine calls_to (h4) ?_; rintro v A ⟨rfl, T3, hT3, rfl⟩; (try simp only [List.nil_append, List.cons_append]); refine hK _ _ ?_; clear hK K; (repeat (first | (with_reducible refine then_n ?_) | (with_reducible refine then_r ?_) | (with_reducible refine then_e ?_) | (with_reducible refine block_n ?_) | (with_reducible refine block_r ?_) | (with_reducible refine block_e ?_) | refine block_o ?_ | (with_reducible refine scope_n ?_) | (with_reducible refine scope_r ?_) | (with_reducible refine scope_e ?_) | (with_reducible refine code_seq ?_) | (with_reducible refine code_skip ?_) | (with_reducible refine code_label ?_) | (with_reducible refine code_block ?_) | (with_reducible refine code_scope ?_) | (with_reducible refine code_exit ?_) | (with_reducible refine code_ret ?_) | refine regq_to ?_ | (with_reducible refine run_nil ?_) | ((with_reducible refine run_probe ?_); refine runq_more ?_) | (with_reducible refine draw_nil ?_) | ((with_reducible refine draw_probe ?_); (first | refine drawq_more ?_ | refine drawq_as ?_)) | refine code_then ?_ | refine code_else ?_))
    have h5 := genter_spec (g := g) (c := ⟨r, 1, 2, h⟩) hh0 hT3 hok zz ov
    rw [e2] at h5
    refine run_op fun K hK => ?_; refine calls_to (h5) ?_; rintro v A ⟨rfl, T4, hT4, rfl⟩; (try simp only [List.nil_append, List.cons_append]); refine hK _ _ ?_; clear hK K; (repeat (first | (with_reducible refine then_n ?_) | (with_reducible refine then_r ?_) | (with_reducible refine then_e ?_) | (with_reducible refine block_n ?_) | (with_reducible refine block_r ?_) | (with_reducible refine block_e ?_) | refine block_o ?_ | (with_reducible refine scope_n ?_) | (with_reducible refine scope_r ?_) | (with_reducible refine scope_e ?_) | (with_reducible refine code_seq ?_) | (with_reducible refine code_skip ?_) | (with_reducible refine code_label ?_) | (with_reducible refine code_block ?_) | (with_reducible refine code_scope ?_) | (with_reducible refine code_exit ?_) | (with_reducible refine code_ret ?_) | refine regq_to ?_ | (with_reducible refine run_nil ?_) | ((with_reducible refine run_probe ?_); refine runq_more ?_) | (with_reducible refine draw_nil ?_) | ((with_reducible refine draw_probe ?_); (first | refine drawq_more ?_ | refine drawq_as ?_)) | refine code_then ?_ | refine code_else ?_))
    refine run_op fun K hK => ?_; refine calls_to (glen_spec (g := g) (c := ⟨r, 1, 2, h⟩) hT4) ?_; rintro v A ⟨rfl, rfl⟩; (try simp only [List.nil_append, List.cons_append]); refine hK _ _ ?_; clear hK K; (repeat (first | (with_reducible refine then_n ?_) | (with_reducible refine then_r ?_) | (with_reducible refine then_e ?_) | (with_reducible refine block_n ?_) | (with_reducible refine block_r ?_) | (with_reducible refine block_e ?_) | refine block_o ?_ | (with_reducible refine scope_n ?_) | (with_reducible refine scope_r ?_) | (with_reducible refine scope_e ?_) | (with_reducible refine code_seq ?_) | (with_reducible refine code_skip ?_) | (with_reducible refine code_label ?_) | (with_reducible refine code_block ?_) | (with_reducible refine code_scope ?_) | (with_reducible refine code_exit ?_) | (with_reducible refine code_ret ?_) | refine regq_to ?_ | (with_reducible refine run_nil ?_) | ((with_reducible refine run_probe ?_); refine runq_more ?_) | (with_reducible refine draw_nil ?_) | ((with_reducible refine draw_probe ?_); (first | refine drawq_more ?_ | refine drawq_as ?_)) | refine code_then ?_ | refine code_else ?_))
    (try simp only [List.length_cons, List.length_nil])
    (try (repeat (first | (with_reducible refine then_n ?_) | (with_reducible refine then_r ?_) | (with_reducible refine then_e ?_) | (with_reducible refine block_n ?_) | (with_reducible refine block_r ?_) | (with_reducible refine block_e ?_) | refine block_o ?_ | (with_reducible refine scope_n ?_) | (with_reducible refine scope_r ?_) | (with_reducible refine scope_e ?_) | (with_reducible refine code_seq ?_) | (with_reducible refine code_skip ?_) | (with_reducible refine code_label ?_) | (with_reducible refine code_block ?_) | (with_reducible refine code_scope ?_) | (with_reducible refine code_exit ?_) | (with_reducible refine code_ret ?_) | refine regq_to ?_ | (with_reducible refine run_nil ?_) | ((with_reducible refine run_probe ?_); refine runq_more ?_) | (with_reducible refine draw_nil ?_) | ((with_reducible refine draw_probe ?_); (first | refine drawq_more ?_ | refine drawq_as ?_)) | refine code_then ?_ | refine code_else ?_)))
    refine back_tmp [C] ?_; exact ⟨rfl, rfl⟩

end Go.Proofs.Ytjagaagemgppcaa
