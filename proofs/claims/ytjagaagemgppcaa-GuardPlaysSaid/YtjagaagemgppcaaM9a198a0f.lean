/- Texts in a row: the walk's rules and contracts, as each says. Conditions: as each says. -/
import Derived.Test.YtjagaagemgppcaaMffd81879
import Derived.Test.YtjagaagemgppcaaM7fd4872f
import Derived.Test.YtjagaagemgppcaaM5fb1742b
/- The statement GuardFull. Conditions: as each says. -/
set_option linter.unusedSimpArgs false
set_option linter.unusedVariables false
namespace Go.Proofs.Ytjagaagemgppcaa
open Go Go.Ost Go.Tab Go.Span

def nm (j : Nat) : List UInt8 := [UInt8.ofNat (97 + j)]
def nmV : List Value := [.string (str [97]), .string (str [98]), .string (str [99]), .string (str [100]), .string (str [101])]
theorem nm_at (j : Nat) (h : j < 5) : nmV[j]? = some (.string (str (nm j))) := by
  match j, h with
  | 0, _ => rfl
  | 1, _ => rfl
  | 2, _ => rfl
  | 3, _ => rfl
  | 4, _ => rfl
  | j + 5, h => omega
def zz : List UInt8 := [122]
/-- Those that tried at ten, and failed (or did not). -/
def ent (fl : Bool) (j : Nat) : List UInt8 × V := (nm j, if fl then ⟨nm j, 1, 10, 12⟩ else ⟨nm j, 0, 10, 10⟩)
def ents (fl : Bool) (j : Nat) : Es := (List.range j).map (ent fl)
theorem ents_len (fl : Bool) (j : Nat) : (ents fl j).length = j := by simp [ents]
theorem ents_succ (fl : Bool) (j : Nat) : ents fl (j + 1) = ents fl j ++ [ent fl j] := by simp [ents, List.range_succ]
theorem ents_ok (fl : Bool) (j : Nat) : EOk (ents fl j) := by
  intro x hx
  obtain ⟨i, _, rfl⟩ := List.mem_map.1 hx
  cases fl
  · exact ⟨rfl, by show (0 : Int) ≤ 10; omega, by show (0 : Int) ≤ 0; omega, by show (0 : Int) ≤ 60; omega⟩
  · exact ⟨rfl, by show (0 : Int) ≤ 12; omega, by show (0 : Int) ≤ 1; omega, by show (1 : Int) ≤ 60; omega⟩
theorem ents_til (fl : Bool) (j : Nat) : ∀ x ∈ ents fl j, x.2.til = if fl then 12 else 10 := by
  intro x hx
  obtain ⟨i, _, rfl⟩ := List.mem_map.1 hx
  cases fl <;> rfl
theorem mget_ents (fl : Bool) (j : Nat) (h : j < 5) : mget (ents fl j) (nm j) = none := by
  match j, h with
  | 0, _ => cases fl <;> rfl
  | 1, _ => cases fl <;> rfl
  | 2, _ => cases fl <;> rfl
  | 3, _ => cases fl <;> rfl
  | 4, _ => cases fl <;> rfl
  | j + 5, h => omega
theorem mget_z (fl : Bool) (j : Nat) (h : j ≤ 5) : mget (ents fl j) zz = none := by
  match j, h with
  | 0, _ => cases fl <;> rfl
  | 1, _ => cases fl <;> rfl
  | 2, _ => cases fl <;> rfl
  | 3, _ => cases fl <;> rfl
  | 4, _ => cases fl <;> rfl
  | 5, _ => cases fl <;> rfl
  | j + 6, h => omega
theorem mget_a (fl : Bool) (j : Nat) (h1 : 1 ≤ j) : mget (ents fl j) [97] = some (if fl then ⟨[97], 1, 10, 12⟩ else ⟨[97], 0, 10, 10⟩) := by
  obtain ⟨j, rfl⟩ : ∃ i, j = i + 1 := ⟨j - 1, by omega⟩
  unfold ents
  rw [List.range_succ_eq_map, List.map_cons]
  cases fl <;> rfl
theorem nm_ne (j : Nat) : nm j ≠ [] := by simp [nm]
theorem nm_len (j : Nat) : (nm j).length ≤ 32 := by simp [nm]

theorem known_none {es : Es} {s : List UInt8} (h1 : s ≠ []) (h2 : s.length ≤ 32) (hm : mget es s = none) : knownE es s = (6, v0) := by
  unfold knownE; rw [if_neg h1, if_neg (by omega), hm]
theorem known_some {es : Es} {s : List UInt8} {v : V} (h1 : s ≠ []) (h2 : s.length ≤ 32) (hm : mget es s = some v) : knownE es s = (0, v) := by
  unfold knownE; rw [if_neg h1, if_neg (by omega), hm]
theorem enter_put {c : Cfg} {es : Es} {s : List UInt8} {now : Int} (h1 : s ≠ []) (h2 : s.length ≤ 32) (hm : mget es s = none) (hl : es.length < c.room) : enterE c es s now = (0, es ++ [(s, ⟨s, 0, now, now⟩)]) := by
  unfold enterE
  rw [known_none h1 h2 hm, if_neg (by simp), if_neg (by simp)]
  unfold roomE
  rw [if_neg (by omega), put_of_none hm, if_neg (by omega)]
theorem enter_full {c : Cfg} {es : Es} {s : List UInt8} {now : Int} (h1 : s ≠ []) (h2 : s.length ≤ 32) (hm : mget es s = none) (hl : es.length = c.room) (ho : ∀ x ∈ es, overB c now x = false) : enterE c es s now = (8, es) := by
  have hsw : (sweepE c es now).2 = es := by
    show es.filter (fun x => !overB c now x) = es
    rw [List.filter_eq_self]
    intro x hx; rw [ho x hx]; rfl
  unfold enterE
  rw [known_none h1 h2 hm, if_neg (by simp), if_neg (by simp)]
  unfold roomE
  rw [if_pos hl, hsw, put_of_none hm, if_pos (by omega)]
theorem enter_over {c : Cfg} {es : Es} {s : List UInt8} {now : Int} (hc : 1 ≤ c.room) (h1 : s ≠ []) (h2 : s.length ≤ 32) (hm : mget es s = none) (hl : es.length = c.room) (ho : ∀ x ∈ es, overB c now x = true) : enterE c es s now = (0, [(s, ⟨s, 0, now, now⟩)]) := by
  have hsw : (sweepE c es now).2 = [] := by
    show es.filter (fun x => !overB c now x) = []
    rw [List.filter_eq_nil_iff]
    intro x hx; rw [ho x hx]; simp
  unfold enterE
  rw [known_none h1 h2 hm, if_neg (by simp), if_neg (by simp)]
  unfold roomE
  rw [if_pos hl, hsw, put_of_none rfl, if_neg (by simp; omega)]
  rfl
theorem enter_known {c : Cfg} {es : Es} {s : List UInt8} {v : V} {now : Int} (h1 : s ≠ []) (h2 : s.length ≤ 32) (hm : mget es s = some v) (h : ¬ now < v.til) : enterE c es s now = (0, es) := by
  unfold enterE
  rw [known_some h1 h2 hm, if_neg (by simp), if_pos rfl, if_neg h]
theorem mput_end {s : List UInt8} {v u : V} : ∀ {es : Es}, mget es s = none → mput (es ++ [(s, v)]) s u = es ++ [(s, u)]
  | [], _ => by simp [mput]
  | (k, w) :: es, h => by
    simp only [mget] at h
    split at h
    · cases h
    · rename_i hne
      simp only [List.cons_append, mput]
      rw [if_neg hne, mput_end h]
theorem mget_end {s : List UInt8} {v : V} : ∀ {es : Es}, mget es s = none → mget (es ++ [(s, v)]) s = some v
  | [], _ => by simp [mget]
  | (k, w) :: es, h => by
    simp only [mget] at h
    split at h
    · cases h
    · rename_i hne
      simp only [List.cons_append, mget]
      rw [if_neg hne, mget_end h]
theorem fail_end {c : Cfg} {es : Es} {s : List UInt8} {v : V} {now : Int} (h1 : s ≠ []) (h2 : s.length ≤ 32) (hm : mget es s = none) : failE c (es ++ [(s, v)]) s now = (0, es ++ [(s, failV c v now)]) := by
  unfold failE
  rw [known_some h1 h2 (mget_end hm), if_pos rfl, mput_end hm]
theorem eok_end {es : Es} {s : List UInt8} {v : V} (h : EOk es) (h1 : EOk [(s, v)]) : EOk (es ++ [(s, v)]) := fun x hx => by
  rcases List.mem_append.1 hx with hx | hx
  · exact h x hx
  · exact h1 x hx
theorem failV_ten (r : Nat) (h : Int) (s : List UInt8) : failV ⟨r, 1, 2, h⟩ ⟨s, 0, 10, 10⟩ 10 = ⟨s, 1, 10, 12⟩ := by
  show (⟨s, minI (0 + 1) 60, 10, add 10 (wt 1 2 (minI (0 + 1) 60).toNat)⟩ : V) = _
  rw [show minI (0 + 1) 60 = 1 from rfl, show add 10 (wt 1 2 (1 : Int).toNat) = 12 from by kernel_rfl]
def enB (fl : Bool) : Int := if fl then 12 else 10
theorem ents_not (fl : Bool) (j r : Nat) (h now : Int) (h0 : 0 ≤ h) (h1 : h ≤ 1000) (hn : now < enB fl + h) : ∀ x ∈ ents fl j, overB ⟨r, 1, 2, h⟩ now x = false := by
  intro x hx
  unfold overB
  rw [ents_til fl j x hx]
  apply decide_eq_false
  show ¬ add (enB fl) h ≤ now
  rw [add_eq _ _ (by cases fl <;> decide) h0 (by cases fl <;> simp only [enB] <;> simp <;> omega)]
  omega
theorem ents_over (fl : Bool) (j r : Nat) (h now : Int) (h0 : 0 ≤ h) (h1 : h ≤ 1000) (hn : enB fl + h ≤ now) : ∀ x ∈ ents fl j, overB ⟨r, 1, 2, h⟩ now x = true := by
  intro x hx
  unfold overB
  rw [ents_til fl j x hx]
  apply decide_eq_true
  show add (enB fl) h ≤ now
  rw [add_eq _ _ (by cases fl <;> decide) h0 (by cases fl <;> simp only [enB] <;> simp <;> omega)]
  omega
theorem zz_ne : zz ≠ [] := by simp [zz]
theorem zz_len : zz.length ≤ 32 := by simp [zz]

end Go.Proofs.Ytjagaagemgppcaa

/- Guards' scripts; who waits keeps waiting whatever others do; how often one source fails. Conditions: as each says. -/
set_option linter.unusedSimpArgs false
set_option linter.unusedVariables false
namespace Go.Proofs.Ytjagaagemgppcaa
open Go Go.Ost Go.Tab Go.Span

/-- A call, as a script has it. -/
structure GOp where
  d : Int
  src : List UInt8
  tk : Int
def encG (o : GOp) : List Value := [.int .u8 o.d, .string (str o.src), .int .u32 o.tk]
theorem encG_len (o : GOp) : (encG o).length = 3 := rfl
def GOp.Ok (o : GOp) : Prop := 0 ≤ o.d ∧ o.d < 256 ∧ 0 ≤ o.tk ∧ o.tk < 4294967296
theorem gops_of {C : Chunk} : ∀ rows : List (List Value), (∀ r ∈ rows, RowW C [.int .u8, .str, .int .u32] r) → ∃ ops : List GOp, rows = ops.map encG ∧ ∀ o ∈ ops, o.Ok
  | [], _ => ⟨[], rfl, by simp⟩
  | r :: rows, h => by
    obtain ⟨ops, e, ho⟩ := gops_of rows fun x hx => h x (List.mem_cons_of_mem _ hx)
    have hr := h r (List.mem_cons_self ..)
    obtain ⟨x, y, z, rfl⟩ : ∃ x y z, r = [x, y, z] := by
      rcases r with _ | ⟨x, _ | ⟨y, _ | ⟨z, _ | ⟨w, r⟩⟩⟩⟩
      · exact hr.elim
      · exact hr.2.elim
      · exact hr.2.2.elim
      · exact ⟨x, y, z, rfl⟩
      · exact hr.2.2.2.elim
    obtain ⟨⟨d, rfl, hd⟩, ⟨k, rfl, _⟩, ⟨v, rfl, hv⟩, _⟩ := hr
    simp only [Lit.wf, Bool.and_eq_true, decide_eq_true_eq] at hd hv
    have hd2 : 0 ≤ d ∧ d ≤ 255 := ⟨hd.1, hd.2⟩
    have hv2 : 0 ≤ v ∧ v ≤ 4294967295 := ⟨hv.1, hv.2⟩
    refine ⟨⟨d, k, v⟩ :: ops, by rw [e]; rfl, fun o ho' => ?_⟩
    rcases List.mem_cons.1 ho' with rfl | ho'
    · exact ⟨hd2.1, by show d < 256; omega, hv2.1, by show v < 4294967296; omega⟩
    · exact ho o ho'
structure Script (C : Chunk) (v : Value) (ops : List GOp) : Prop where
  out : ∃ a cap, v = .slice a ops.length cap ∧ ops.length ≤ cap ∧ cap ≤ maxLen ∧ Rd 3 [C] a ops.length (ops.flatMap encG)
  ok : ∀ o ∈ ops, o.Ok
theorem script_of {C : Chunk} {v : Value} {rows : List (List Value)} (h : RowsK C [.int .u8, .str, .int .u32] v rows) : ∃ ops, Script C v ops := by
  obtain ⟨a, cap, rfl, h1, h2, h3, h4⟩ := h
  obtain ⟨ops, rfl, ho⟩ := gops_of rows h4
  refine ⟨ops, ⟨a, cap, by simp, by simpa using h1, h2, ?_⟩, ho⟩
  simpa [List.flatMap_def] using h3

/-! ### Others leave one alone -/

theorem mget_app {s k : List UInt8} {v : V} (h : k ≠ s) : ∀ {es : Es}, mget (es ++ [(s, v)]) k = mget es k
  | [] => by simp [mget, h]
  | (q, w) :: es => by
    simp only [List.cons_append, mget]
    split
    · rfl
    · exact mget_app h
theorem mget_put_ne {s k : List UInt8} {v : V} (h : k ≠ s) : ∀ {es : Es}, mget (mput es s v) k = mget es k
  | [] => by simp [mput, mget, h]
  | (q, w) :: es => by
    simp only [mput]
    split
    · rename_i hq
      subst hq
      simp only [mget]
      rw [if_neg h, if_neg h]
    · simp only [mget]
      split
      · rfl
      · exact mget_put_ne h
theorem mget_put_eq {s : List UInt8} {v : V} : ∀ {es : Es}, mget (mput es s v) s = some v
  | [] => by simp [mput, mget]
  | (q, w) :: es => by
    simp only [mput]
    split
    · simp [mget]
    · rename_i hq
      simp only [mget]
      rw [if_neg hq]
      exact mget_put_eq
theorem sweep_long {c : Cfg} {es : Es} (he : EOk es) (hh : c.hold = 1099511627776) {now : Int} (hn : now < 1099511627776) : (sweepE c es now).2 = es := by
  show es.filter (fun x => !overB c now x) = es
  rw [List.filter_eq_self]
  intro x hx
  have ht := (he x hx).2.1
  have h1 := tk_bd x.2.til ht
  unfold overB
  rw [hh, decide_eq_false]
  · rfl
  · unfold add
    have : tk (1099511627776 : Int) = 1099511627776 := by kernel_rfl
    rw [this]
    unfold tk top
    split <;> split <;> omega
theorem enter_keep {c : Cfg} {es : Es} (he : EOk es) (hh : c.hold = 1099511627776) {now : Int} (hn : now < 1099511627776) {s k : List UInt8} (h : k ≠ s) : mget (enterE c es s now).2 k = mget es k := by
  have hr : roomE c es now = es := by unfold roomE; split
                                      · exact sweep_long he hh hn
                                      · rfl
  unfold enterE
  split
  · rfl
  · split
    · split <;> rfl
    · rw [hr]
      unfold putE
      split
      · rfl
      · split
        · rfl
        · exact mget_app h
theorem fail_keep {c : Cfg} {es : Es} {now : Int} {s k : List UInt8} (h : k ≠ s) : mget (failE c es s now).2 k = mget es k := by
  unfold failE
  split
  · exact mget_put_ne h
  · rfl
theorem fail_known {c : Cfg} {es : Es} {now : Int} {s : List UInt8} {v : V} (h1 : s ≠ []) (h2 : s.length ≤ 32) (hm : mget es s = some v) : failE c es s now = (0, mput es s (failV c v now)) := by
  unfold failE
  rw [known_some h1 h2 hm, if_pos rfl]
theorem enter_locked {c : Cfg} {es : Es} {s : List UInt8} {v : V} {now : Int} (h1 : s ≠ []) (h2 : s.length ≤ 32) (hm : mget es s = some v) (h : now < v.til) : enterE c es s now = (11, es) := by
  unfold enterE
  rw [known_some h1 h2 hm, if_neg (by simp), if_pos rfl, if_pos h]
theorem lock_known {es : Es} {s : List UInt8} {v : V} (h1 : s ≠ []) (h2 : s.length ≤ 32) (hm : mget es s = some v) (now : Int) : lockE es s now = decide (now < v.til) := by
  unfold lockE
  rw [known_some h1 h2 hm, if_pos rfl]

def me : List UInt8 := [109, 101]
theorem me_ne : me ≠ [] := by decide
theorem me_len : me.length ≤ 32 := by decide
def oth (s : List UInt8) : List UInt8 := 111 :: s.take 20
theorem oth_ne (s : List UInt8) : me ≠ oth s := by simp [me, oth]

/-- What is known of the one that waits: behind k failures, the last of which was at t. -/
structure Waits (c : Cfg) (es : Es) (k : Nat) (t : Int) : Prop where
  ok : EOk es
  me : (k = 0 ∧ es = []) ∨ ∃ v, mget es me = some v ∧ v.fails = k ∧ v.til = t
theorem Waits.enter {c : Cfg} (hc : c.Ok) (hh : c.hold = 1099511627776) {es : Es} {k : Nat} {t : Int} (h : Waits c es k t) (ht : 0 ≤ t) : ∃ es' v, enterE c es Proofs.Ytjagaagemgppcaa.me t = (0, es') ∧ EOk es' ∧ mget es' Proofs.Ytjagaagemgppcaa.me = some v ∧ v.fails = k ∧ v.til = t := by
  rcases h.me with ⟨rfl, rfl⟩ | ⟨v, hm, hf, hv⟩
  · exact ⟨_, ⟨Proofs.Ytjagaagemgppcaa.me, 0, t, t⟩, enter_new hc me_ne me_len t, eok_one rfl ht (by show (0 : Int) ≤ 0; omega) (by show (0 : Int) ≤ 60; omega), by simp [mget], rfl, rfl⟩
  · exact ⟨es, v, enter_known me_ne me_len hm (by omega), h.ok, hm, hf, hv⟩
theorem fail_wait {c : Cfg} (hc : c.Ok) {v : V} {k : Nat} {t : Int} (hf : v.fails = k) (hk : k < 60) (ht : 0 ≤ t) (ht2 : t + c.most ≤ 1099511627776) : (failV c v t).fails = (k + 1 : Nat) ∧ (failV c v t).til = t + wt c.base c.most (k + 1) := by
  have hb := hc.b1
  have hm := hc.m1
  have hm2 := hc.m2
  have e : minI (v.fails + 1) 60 = (k + 1 : Nat) := by unfold minI; split <;> omega
  have hw := wt_bd c.base c.most (by omega) (by omega) (k + 1)
  rw [tk_self hm2] at hw
  refine ⟨e, ?_⟩
  show add t (wt c.base c.most (minI (v.fails + 1) 60).toNat) = _
  rw [e, Int.toNat_natCast, add_eq _ _ ht hw.1 (by omega)]

/-! ### One source alone, and the bound -/

structure Fails (c : Cfg) (es : Es) (n : Nat) (now : Int) : Prop where
  ok : EOk es
  one : (n = 0 ∧ es = []) ∨ ∃ v, es = [(s0, v)] ∧ v.fails = min n 60 ∧ 1 ≤ n ∧ sm c.base c.most n ≤ v.til ∧ sm c.base c.most (n - 1) ≤ now
theorem Fails.low {c : Cfg} (hc : c.Ok) {es : Es} {n : Nat} {now : Int} (h : Fails c es n now) (hn : 0 ≤ now) : n = 0 ∨ sm c.base c.most (n - 1) ≤ now := by
  rcases h.one with ⟨h, _⟩ | ⟨v, _, _, _, _, h⟩
  · exact .inl h
  · exact .inr h
theorem Fails.enter {c : Cfg} (hc : c.Ok) {es : Es} {n : Nat} {now t : Int} (h : Fails c es n now) (hn : 0 ≤ now) (hnt : now ≤ t) (ht2 : t + c.most ≤ 1099511627776) :
    (enterE c es s0 t = (11, es) ∧ Fails c es n t) ∨ ∃ v, enterE c es s0 t = (0, [(s0, v)]) ∧ EOk [(s0, v)] ∧ Fails c [(s0, failV c v t)] (n + 1) t := by
  have hb := hc.b1
  have hm := hc.m1
  have hm2 := hc.m2
  have key : ∀ v : V, EOk [(s0, v)] → v.fails = min n 60 → sm c.base c.most n ≤ t → Fails c [(s0, failV c v t)] (n + 1) t := by
    intro v hv hf hs
    have hok := eok_fail hc hv s0 t (by omega)
    rw [fail_one (by decide) (by decide)] at hok
    refine ⟨hok, .inr ⟨_, rfl, ?_, by omega, ?_, by simpa using hs⟩⟩
    · show minI (v.fails + 1) 60 = _
      unfold minI; split <;> omega
    · have e : wt c.base c.most (minI (v.fails + 1) 60).toNat = wt c.base c.most (n + 1) := by
        by_cases h60 : n + 1 ≤ 60
        · rw [show (minI (v.fails + 1) 60).toNat = n + 1 from by unfold minI; split <;> omega]
        · rw [show (minI (v.fails + 1) 60).toNat = 60 from by unfold minI; split <;> omega, wt_cap _ _ (by omega) 60 (by omega), wt_cap _ _ (by omega) (n + 1) (by omega)]
      have hw := wt_bd c.base c.most (by omega) (by omega) (n + 1)
      rw [tk_self hm2] at hw
      show _ ≤ add t (wt c.base c.most (minI (v.fails + 1) 60).toNat)
      rw [e, add_eq _ _ (by omega) hw.1 (by omega)]
      simp only [sm]; omega
  rcases h.one with ⟨rfl, rfl⟩ | ⟨v, rfl, hf, h1, hs, hl⟩
  · have hv : EOk [(s0, (⟨s0, 0, t, t⟩ : V))] := eok_one rfl (by show (0 : Int) ≤ t; omega) (by show (0 : Int) ≤ 0; omega) (by show (0 : Int) ≤ 60; omega)
    exact .inr ⟨_, enter_new hc (by decide) (by decide) t, hv, key _ hv rfl (by simp only [sm]; omega)⟩
  · by_cases hlt : t < v.til
    · refine .inl ⟨enter_locked (by decide) (by decide) (by simp [mget]) hlt, h.ok, .inr ⟨v, rfl, hf, h1, hs, by omega⟩⟩
    · exact .inr ⟨v, enter_one (by decide) (by decide) v t hlt, h.ok, key v h.ok hf (by omega)⟩
theorem Fails.bound {c : Cfg} (hc : c.Ok) {es : Es} {n : Nat} {now u : Int} (h : Fails c es n now) (hn : 0 ≤ now) (hn2 : now + 1 ≤ 1099511627776) (hu : IsBound (now + 1) c.base c.most u) : (n : Int) ≤ u := by
  have hb := hc.b1
  have hb2 := hc.b2
  have hm := hc.m1
  have hm2 := hc.m2
  have e1 : mx (tk c.base) = c.base := by rw [tk_self hb2]; unfold mx; split <;> omega
  have e2 : mx (tk c.most) = c.most := by rw [tk_self hm2]; unfold mx; split <;> omega
  obtain ⟨k, rfl, hk⟩ := hu.2 (by rw [tk_self hn2]; omega)
  rw [e1, e2, tk_self hn2] at hk
  rcases h.low hc hn with rfl | hs
  · omega
  · rcases Nat.lt_or_ge (k + 1) n with hlt | hge
    · have := sm_mono c.base c.most (by omega) (by omega) (k + 1) (n - 1 - (k + 1))
      rw [show k + 1 + (n - 1 - (k + 1)) = n - 1 from by omega] at this
      have := hk.2
      omega
    · omega

end Go.Proofs.Ytjagaagemgppcaa

/- The statement GuardPlays. Conditions: as each says. -/
set_option linter.unusedSimpArgs false
set_option linter.unusedVariables false
namespace Go.Proofs.Ytjagaagemgppcaa
open Go Go.Ost Go.Tab Go.Span

theorem rright_spec (r x y z : Int) : Meets Try.prog 18 [cfgV r x y z] [] fun v A => v = .bool ((tickB x && (tickB y && tickB z)) && (decide (1 ≤ r) && decide (r ≤ 64))) ∧ A = [] := by
  refine spec_intro Try.func18 rfl (by kernel_rfl) (by rw [Try.ntmps18]; simp) fun F => ?_; rw [Try.ntmps18, Try.results18]
  (repeat (first | (with_reducible refine then_n ?_) | (with_reducible refine then_r ?_) | (with_reducible refine then_e ?_) | (with_reducible refine block_n ?_) | (with_reducible refine block_r ?_) | (with_reducible refine block_e ?_) | refine block_o ?_ | (with_reducible refine scope_n ?_) | (with_reducible refine scope_r ?_) | (with_reducible refine scope_e ?_) | (with_reducible refine code_seq ?_) | (with_reducible refine code_skip ?_) | (with_reducible refine code_label ?_) | (with_reducible refine code_block ?_) | (with_reducible refine code_scope ?_) | (with_reducible refine code_exit ?_) | (with_reducible refine code_ret ?_) | refine regq_to ?_ | (with_reducible refine run_nil ?_) | ((with_reducible refine run_probe ?_); refine runq_more ?_) | (with_reducible refine draw_nil ?_) | ((with_reducible refine draw_probe ?_); (first | refine drawq_more ?_ | refine drawq_as ?_)) | refine code_then ?_ | refine code_else ?_))
  refine run_op fun K hK => ?_; refine box_new fun b1 => ?_; (try simp only [Value.cells]); refine hK _ _ ?_; clear hK K
  (repeat (first | (with_reducible refine then_n ?_) | (with_reducible refine then_r ?_) | (with_reducible refine then_e ?_) | (with_reducible refine block_n ?_) | (with_reducible refine block_r ?_) | (with_reducible refine block_e ?_) | refine block_o ?_ | (with_reducible refine scope_n ?_) | (with_reducible refine scope_r ?_) | (with_reducible refine scope_e ?_) | (with_reducible refine code_seq ?_) | (with_reducible refine code_skip ?_) | (with_reducible refine code_label ?_) | (with_reducible refine code_block ?_) | (with_reducible refine code_scope ?_) | (with_reducible refine code_exit ?_) | (with_reducible refine code_ret ?_) | refine regq_to ?_ | (with_reducible refine run_nil ?_) | ((with_reducible refine run_probe ?_); refine runq_more ?_) | (with_reducible refine draw_nil ?_) | ((with_reducible refine draw_probe ?_); (first | refine drawq_more ?_ | refine drawq_as ?_)) | refine code_then ?_ | refine code_else ?_))
  refine run_op fun K hK => ?_; refine build1 rfl [.int .u64 x, .int .u64 y, .int .u64 z] (by decide) rfl rfl (by simp [Value.cell1]) (fun b3 C3 ho3 => ?_); refine hK _ _ ?_; clear hK K
  (repeat (first | (with_reducible refine then_n ?_) | (with_reducible refine then_r ?_) | (with_reducible refine then_e ?_) | (with_reducible refine block_n ?_) | (with_reducible refine block_r ?_) | (with_reducible refine block_e ?_) | refine block_o ?_ | (with_reducible refine scope_n ?_) | (with_reducible refine scope_r ?_) | (with_reducible refine scope_e ?_) | (with_reducible refine code_seq ?_) | (with_reducible refine code_skip ?_) | (with_reducible refine code_label ?_) | (with_reducible refine code_block ?_) | (with_reducible refine code_scope ?_) | (with_reducible refine code_exit ?_) | (with_reducible refine code_ret ?_) | refine regq_to ?_ | (with_reducible refine run_nil ?_) | ((with_reducible refine run_probe ?_); refine runq_more ?_) | (with_reducible refine draw_nil ?_) | ((with_reducible refine draw_probe ?_); (first | refine drawq_more ?_ | refine drawq_as ?_)) | refine code_then ?_ | refine code_else ?_))
  generalize (some (⟨b3, 0, none⟩ : Addr)) = xa at *
  refine loop_i (fun q D L S => ∃ i : Nat, i ≤ 3 ∧ (1 ≤ i → tickB x = true) ∧ (2 ≤ i → tickB y = true) ∧ (3 ≤ i → tickB z = true) ∧ q = 3 - i ∧ D = [] ∧ L = [(13, .int .i64 i), (12, .int .i64 3), (11, .slice xa 3 3), (1, .pointer (some ⟨b1, 0, none⟩))] ∧
    S = [C3, [(b1, .cells #[.int .i64 r, .int .u64 x, .int .u64 y, .int .u64 z] 47 (0, 0))], F])
    ⟨0, by omega, by omega, by omega, by omega, rfl, rfl, rfl, rfl⟩ ?_
  rintro q D L S ⟨i, hi, h1, h2, h3, rfl, rfl, rfl, rfl⟩
  (repeat (first | (with_reducible refine then_n ?_) | (with_reducible refine then_r ?_) | (with_reducible refine then_e ?_) | (with_reducible refine block_n ?_) | (with_reducible refine block_r ?_) | (with_reducible refine block_e ?_) | refine block_o ?_ | (with_reducible refine scope_n ?_) | (with_reducible refine scope_r ?_) | (with_reducible refine scope_e ?_) | (with_reducible refine code_seq ?_) | (with_reducible refine code_skip ?_) | (with_reducible refine code_label ?_) | (with_reducible refine code_block ?_) | (with_reducible refine code_scope ?_) | (with_reducible refine code_exit ?_) | (with_reducible refine code_ret ?_) | refine regq_to ?_ | (with_reducible refine run_nil ?_) | ((with_reducible refine run_probe ?_); refine runq_more ?_) | (with_reducible refine draw_nil ?_) | ((with_reducible refine draw_probe ?_); (first | refine drawq_more ?_ | refine drawq_as ?_)) | refine code_then ?_ | refine code_else ?_))
  refine if_d (fun hc => ?_) (fun hc => ?_)
  · have hi3 : i < 3 := by omega
    obtain ⟨n, hn, hst⟩ : ∃ n : Int, ([.int .u64 x, .int .u64 y, .int .u64 z] : List Value)[i]? = some (.int .u64 n) ∧ (tickB n = true → (1 ≤ i + 1 → tickB x = true) ∧ (2 ≤ i + 1 → tickB y = true) ∧ (3 ≤ i + 1 → tickB z = true)) ∧ (tickB n = false → (tickB x && (tickB y && tickB z)) = false) := by
      match i, hi3 with
      | 0, _ => exact ⟨x, rfl, fun h => ⟨fun _ => h, by omega, by omega⟩, fun h => by rw [h]; rfl⟩
      | 1, _ => exact ⟨y, rfl, fun h => ⟨fun _ => h1 (by omega), fun _ => h, by omega⟩, fun h => by rw [h]; simp⟩
      | 2, _ => exact ⟨z, rfl, fun h => ⟨fun _ => h1 (by omega), fun _ => h2 (by omega), fun _ => h⟩, fun h => by rw [h]; simp⟩
    obtain ⟨hyes, hno⟩ := hst
    (repeat (first | (with_reducible refine then_n ?_) | (with_reducible refine then_r ?_) | (with_reducible refine then_e ?_) | (with_reducible refine block_n ?_) | (with_reducible refine block_r ?_) | (with_reducible refine block_e ?_) | refine block_o ?_ | (with_reducible refine scope_n ?_) | (with_reducible refine scope_r ?_) | (with_reducible refine scope_e ?_) | (with_reducible refine code_seq ?_) | (with_reducible refine code_skip ?_) | (with_reducible refine code_label ?_) | (with_reducible refine code_block ?_) | (with_reducible refine code_scope ?_) | (with_reducible refine code_exit ?_) | (with_reducible refine code_ret ?_) | refine regq_to ?_ | (with_reducible refine run_nil ?_) | ((with_reducible refine run_probe ?_); refine runq_more ?_) | (with_reducible refine draw_nil ?_) | ((with_reducible refine draw_probe ?_); (first | refine drawq_more ?_ | refine drawq_as ?_)) | refine code_then ?_ | refine code_else ?_))
    by_cases g1 : n < 1
    · rw [decide_eq_true g1]
      (repeat (first | (with_reducible refine then_n ?_) | (with_reducible refine then_r ?_) | (with_reducible refine then_e ?_) | (with_reducible refine block_n ?_) | (with_reducible refine block_r ?_) | (with_reducible refine block_e ?_) | refine block_o ?_ | (with_reducible refine scope_n ?_) | (with_reducible refine scope_r ?_) | (with_reducible refine scope_e ?_) | (with_reducible refine code_seq ?_) | (with_reducible refine code_skip ?_) | (with_reducible refine code_label ?_) | (with_reducible refine code_block ?_) | (with_reducible refine code_scope ?_) | (with_reducible refine code_exit ?_) | (with_reducible refine code_ret ?_) | refine regq_to ?_ | (with_reducible refine run_nil ?_) | ((with_reducible refine run_probe ?_); refine runq_more ?_) | (with_reducible refine draw_nil ?_) | ((with_reducible refine draw_probe ?_); (first | refine drawq_more ?_ | refine drawq_as ?_)) | refine code_then ?_ | refine code_else ?_))
      rw [hno (by unfold tickB; rw [decide_eq_false (by omega)]; rfl)]
      refine back_tmp [] ?_; exact ⟨rfl, rfl⟩
    · rw [decide_eq_false g1]
      (repeat (first | (with_reducible refine then_n ?_) | (with_reducible refine then_r ?_) | (with_reducible refine then_e ?_) | (with_reducible refine block_n ?_) | (with_reducible refine block_r ?_) | (with_reducible refine block_e ?_) | refine block_o ?_ | (with_reducible refine scope_n ?_) | (with_reducible refine scope_r ?_) | (with_reducible refine scope_e ?_) | (with_reducible refine code_seq ?_) | (with_reducible refine code_skip ?_) | (with_reducible refine code_label ?_) | (with_reducible refine code_block ?_) | (with_reducible refine code_scope ?_) | (with_reducible refine code_exit ?_) | (with_reducible refine code_ret ?_) | refine regq_to ?_ | (with_reducible refine run_nil ?_) | ((with_reducible refine run_probe ?_); refine runq_more ?_) | (with_reducible refine draw_nil ?_) | ((with_reducible refine draw_probe ?_); (first | refine drawq_more ?_ | refine drawq_as ?_)) | refine code_then ?_ | refine code_else ?_))
      by_cases g2 : 1099511627776 < n
      · rw [decide_eq_true g2]
        (repeat (first | (with_reducible refine then_n ?_) | (with_reducible refine then_r ?_) | (with_reducible refine then_e ?_) | (with_reducible refine block_n ?_) | (with_reducible refine block_r ?_) | (with_reducible refine block_e ?_) | refine block_o ?_ | (with_reducible refine scope_n ?_) | (with_reducible refine scope_r ?_) | (with_reducible refine scope_e ?_) | (with_reducible refine code_seq ?_) | (with_reducible refine code_skip ?_) | (with_reducible refine code_label ?_) | (with_reducible refine code_block ?_) | (with_reducible refine code_scope ?_) | (with_reducible refine code_exit ?_) | (with_reducible refine code_ret ?_) | refine regq_to ?_ | (with_reducible refine run_nil ?_) | ((with_reducible refine run_probe ?_); refine runq_more ?_) | (with_reducible refine draw_nil ?_) | ((with_reducible refine draw_probe ?_); (first | refine drawq_more ?_ | refine drawq_as ?_)) | refine code_then ?_ | refine code_else ?_))
        rw [hno (by unfold tickB; rw [decide_eq_false (show ¬ n ≤ 1099511627776 by omega)]; simp)]
        refine back_tmp [] ?_; exact ⟨rfl, rfl⟩
      · rw [decide_eq_false g2]
        (repeat (first | (with_reducible refine then_n ?_) | (with_reducible refine then_r ?_) | (with_reducible refine then_e ?_) | (with_reducible refine block_n ?_) | (with_reducible refine block_r ?_) | (with_reducible refine block_e ?_) | refine block_o ?_ | (with_reducible refine scope_n ?_) | (with_reducible refine scope_r ?_) | (with_reducible refine scope_e ?_) | (with_reducible refine code_seq ?_) | (with_reducible refine code_skip ?_) | (with_reducible refine code_label ?_) | (with_reducible refine code_block ?_) | (with_reducible refine code_scope ?_) | (with_reducible refine code_exit ?_) | (with_reducible refine code_ret ?_) | refine regq_to ?_ | (with_reducible refine run_nil ?_) | ((with_reducible refine run_probe ?_); refine runq_more ?_) | (with_reducible refine draw_nil ?_) | ((with_reducible refine draw_probe ?_); (first | refine drawq_more ?_ | refine drawq_as ?_)) | refine code_then ?_ | refine code_else ?_))
        obtain ⟨a1, a2, a3⟩ := hyes (by unfold tickB; rw [decide_eq_true (by omega), decide_eq_true (by omega)]; rfl)
        exact again ⟨i + 1, by omega, a1, a2, a3, rfl, rfl, rfl, rfl⟩
  · obtain rfl : i = 3 := by omega
    rw [h1 (by omega), h2 (by omega), h3 (by omega)]
    (repeat (first | (with_reducible refine then_n ?_) | (with_reducible refine then_r ?_) | (with_reducible refine then_e ?_) | (with_reducible refine block_n ?_) | (with_reducible refine block_r ?_) | (with_reducible refine block_e ?_) | refine block_o ?_ | (with_reducible refine scope_n ?_) | (with_reducible refine scope_r ?_) | (with_reducible refine scope_e ?_) | (with_reducible refine code_seq ?_) | (with_reducible refine code_skip ?_) | (with_reducible refine code_label ?_) | (with_reducible refine code_block ?_) | (with_reducible refine code_scope ?_) | (with_reducible refine code_exit ?_) | (with_reducible refine code_ret ?_) | refine regq_to ?_ | (with_reducible refine run_nil ?_) | ((with_reducible refine run_probe ?_); refine runq_more ?_) | (with_reducible refine draw_nil ?_) | ((with_reducible refine draw_probe ?_); (first | refine drawq_more ?_ | refine drawq_as ?_)) | refine code_then ?_ | refine code_else ?_))
    by_cases g1 : 1 ≤ r
    · rw [decide_eq_true g1]
      (repeat (first | (with_reducible refine then_n ?_) | (with_reducible refine then_r ?_) | (with_reducible refine then_e ?_) | (with_reducible refine block_n ?_) | (with_reducible refine block_r ?_) | (with_reducible refine block_e ?_) | refine block_o ?_ | (with_reducible refine scope_n ?_) | (with_reducible refine scope_r ?_) | (with_reducible refine scope_e ?_) | (with_reducible refine code_seq ?_) | (with_reducible refine code_skip ?_) | (with_reducible refine code_label ?_) | (with_reducible refine code_block ?_) | (with_reducible refine code_scope ?_) | (with_reducible refine code_exit ?_) | (with_reducible refine code_ret ?_) | refine regq_to ?_ | (with_reducible refine run_nil ?_) | ((with_reducible refine run_probe ?_); refine runq_more ?_) | (with_reducible refine draw_nil ?_) | ((with_reducible refine draw_probe ?_); (first | refine drawq_more ?_ | refine drawq_as ?_)) | refine code_then ?_ | refine code_else ?_))
      refine back_tmp [] ?_; exact ⟨rfl, rfl⟩
    · rw [decide_eq_false g1]
      (repeat (first | (with_reducible refine then_n ?_) | (with_reducible refine then_r ?_) | (with_reducible refine then_e ?_) | (with_reducible refine block_n ?_) | (with_reducible refine block_r ?_) | (with_reducible refine block_e ?_) | refine block_o ?_ | (with_reducible refine scope_n ?_) | (with_reducible refine scope_r ?_) | (with_reducible refine scope_e ?_) | (with_reducible refine code_seq ?_) | (with_reducible refine code_skip ?_) | (with_reducible refine code_label ?_) | (with_reducible refine code_block ?_) | (with_reducible refine code_scope ?_) | (with_reducible refine code_exit ?_) | (with_reducible refine code_ret ?_) | refine regq_to ?_ | (with_reducible refine run_nil ?_) | ((with_reducible refine run_probe ?_); refine runq_more ?_) | (with_reducible refine draw_nil ?_) | ((with_reducible refine draw_probe ?_); (first | refine drawq_more ?_ | refine drawq_as ?_)) | refine code_then ?_ | refine code_else ?_))
      refine back_tmp [] ?_; exact ⟨rfl, rfl⟩

theorem gnew_no (r x y z : Int) (h : ((tickB x && (tickB y && tickB z)) && (decide (1 ≤ r) && decide (r ≤ 64))) = false) : Meets Try.prog 9 [cfgV r x y z] [] fun v A => v = .tuple #[.pointer none, .int .i64 1] ∧ A = [] := by
  refine spec_intro Try.func9 rfl (by kernel_rfl) (by rw [Try.ntmps9]; simp) fun F => ?_; rw [Try.ntmps9, Try.results9]
  (repeat (first | (with_reducible refine then_n ?_) | (with_reducible refine then_r ?_) | (with_reducible refine then_e ?_) | (with_reducible refine block_n ?_) | (with_reducible refine block_r ?_) | (with_reducible refine block_e ?_) | refine block_o ?_ | (with_reducible refine scope_n ?_) | (with_reducible refine scope_r ?_) | (with_reducible refine scope_e ?_) | (with_reducible refine code_seq ?_) | (with_reducible refine code_skip ?_) | (with_reducible refine code_label ?_) | (with_reducible refine code_block ?_) | (with_reducible refine code_scope ?_) | (with_reducible refine code_exit ?_) | (with_reducible refine code_ret ?_) | refine regq_to ?_ | (with_reducible refine run_nil ?_) | ((with_reducible refine run_probe ?_); refine runq_more ?_) | (with_reducible refine draw_nil ?_) | ((with_reducible refine draw_probe ?_); (first | refine drawq_more ?_ | refine drawq_as ?_)) | refine code_then ?_ | refine code_else ?_))
  refine run_op fun K hK => ?_; refine box_new fun b1' => ?_; (try simp only [Value.cells]); refine hK _ _ ?_; clear hK K
  (repeat (first | (with_reducible refine then_n ?_) | (with_reducible refine then_r ?_) | (with_reducible refine then_e ?_) | (with_reducible refine block_n ?_) | (with_reducible refine block_r ?_) | (with_reducible refine block_e ?_) | refine block_o ?_ | (with_reducible refine scope_n ?_) | (with_reducible refine scope_r ?_) | (with_reducible refine scope_e ?_) | (with_reducible refine code_seq ?_) | (with_reducible refine code_skip ?_) | (with_reducible refine code_label ?_) | (with_reducible refine code_block ?_) | (with_reducible refine code_scope ?_) | (with_reducible refine code_exit ?_) | (with_reducible refine code_ret ?_) | refine regq_to ?_ | (with_reducible refine run_nil ?_) | ((with_reducible refine run_probe ?_); refine runq_more ?_) | (with_reducible refine draw_nil ?_) | ((with_reducible refine draw_probe ?_); (first | refine drawq_more ?_ | refine drawq_as ?_)) | refine code_then ?_ | refine code_else ?_))
  by_cases g1 : r < 1
  · rw [decide_eq_true g1]
    (repeat (first | (with_reducible refine then_n ?_) | (with_reducible refine then_r ?_) | (with_reducible refine then_e ?_) | (with_reducible refine block_n ?_) | (with_reducible refine block_r ?_) | (with_reducible refine block_e ?_) | refine block_o ?_ | (with_reducible refine scope_n ?_) | (with_reducible refine scope_r ?_) | (with_reducible refine scope_e ?_) | (with_reducible refine code_seq ?_) | (with_reducible refine code_skip ?_) | (with_reducible refine code_label ?_) | (with_reducible refine code_block ?_) | (with_reducible refine code_scope ?_) | (with_reducible refine code_exit ?_) | (with_reducible refine code_ret ?_) | refine regq_to ?_ | (with_reducible refine run_nil ?_) | ((with_reducible refine run_probe ?_); refine runq_more ?_) | (with_reducible refine draw_nil ?_) | ((with_reducible refine draw_probe ?_); (first | refine drawq_more ?_ | refine drawq_as ?_)) | refine code_then ?_ | refine code_else ?_))
    refine back_cells [] ⟨rfl, rfl⟩
  · rw [decide_eq_false g1]
    (repeat (first | (with_reducible refine then_n ?_) | (with_reducible refine then_r ?_) | (with_reducible refine then_e ?_) | (with_reducible refine block_n ?_) | (with_reducible refine block_r ?_) | (with_reducible refine block_e ?_) | refine block_o ?_ | (with_reducible refine scope_n ?_) | (with_reducible refine scope_r ?_) | (with_reducible refine scope_e ?_) | (with_reducible refine code_seq ?_) | (with_reducible refine code_skip ?_) | (with_reducible refine code_label ?_) | (with_reducible refine code_block ?_) | (with_reducible refine code_scope ?_) | (with_reducible refine code_exit ?_) | (with_reducible refine code_ret ?_) | refine regq_to ?_ | (with_reducible refine run_nil ?_) | ((with_reducible refine run_probe ?_); refine runq_more ?_) | (with_reducible refine draw_nil ?_) | ((with_reducible refine draw_probe ?_); (first | refine drawq_more ?_ | refine drawq_as ?_)) | refine code_then ?_ | refine code_else ?_))
    by_cases g2 : 64 < r
    · rw [decide_eq_true g2]
      (repeat (first | (with_reducible refine then_n ?_) | (with_reducible refine then_r ?_) | (with_reducible refine then_e ?_) | (with_reducible refine block_n ?_) | (with_reducible refine block_r ?_) | (with_reducible refine block_e ?_) | refine block_o ?_ | (with_reducible refine scope_n ?_) | (with_reducible refine scope_r ?_) | (with_reducible refine scope_e ?_) | (with_reducible refine code_seq ?_) | (with_reducible refine code_skip ?_) | (with_reducible refine code_label ?_) | (with_reducible refine code_block ?_) | (with_reducible refine code_scope ?_) | (with_reducible refine code_exit ?_) | (with_reducible refine code_ret ?_) | refine regq_to ?_ | (with_reducible refine run_nil ?_) | ((with_reducible refine run_probe ?_); refine runq_more ?_) | (with_reducible refine draw_nil ?_) | ((with_reducible refine draw_probe ?_); (first | refine drawq_more ?_ | refine drawq_as ?_)) | refine code_then ?_ | refine code_else ?_))
      refine back_cells [] ⟨rfl, rfl⟩
    · rw [decide_eq_false g2]
      (repeat (first | (with_reducible refine then_n ?_) | (with_reducible refine then_r ?_) | (with_reducible refine then_e ?_) | (with_reducible refine block_n ?_) | (with_reducible refine block_r ?_) | (with_reducible refine block_e ?_) | refine block_o ?_ | (with_reducible refine scope_n ?_) | (with_reducible refine scope_r ?_) | (with_reducible refine scope_e ?_) | (with_reducible refine code_seq ?_) | (with_reducible refine code_skip ?_) | (with_reducible refine code_label ?_) | (with_reducible refine code_block ?_) | (with_reducible refine code_scope ?_) | (with_reducible refine code_exit ?_) | (with_reducible refine code_ret ?_) | refine regq_to ?_ | (with_reducible refine run_nil ?_) | ((with_reducible refine run_probe ?_); refine runq_more ?_) | (with_reducible refine draw_nil ?_) | ((with_reducible refine draw_probe ?_); (first | refine drawq_more ?_ | refine drawq_as ?_)) | refine code_then ?_ | refine code_else ?_))
      refine run_op fun K hK => ?_; refine build1 rfl [.int .u64 x, .int .u64 y, .int .u64 z] (by decide) rfl rfl (by simp [Value.cell1]) (fun b3 C3 ho3 => ?_); refine hK _ _ ?_; clear hK K
      have htk := ticks_spec x y z ho3
      rw [show (tickB x && (tickB y && tickB z)) = false from by
        rw [decide_eq_true (show 1 ≤ r by omega), decide_eq_true (show r ≤ 64 by omega)] at h
        simpa using h] at htk
      refine run_op fun K hK => ?_; refine calls_to (htk) ?_; rintro v A ⟨rfl, rfl⟩; (try simp only [List.nil_append, List.cons_append]); refine hK _ _ ?_; clear hK K; (repeat (first | (with_reducible refine then_n ?_) | (with_reducible refine then_r ?_) | (with_reducible refine then_e ?_) | (with_reducible refine block_n ?_) | (with_reducible refine block_r ?_) | (with_reducible refine block_e ?_) | refine block_o ?_ | (with_reducible refine scope_n ?_) | (with_reducible refine scope_r ?_) | (with_reducible refine scope_e ?_) | (with_reducible refine code_seq ?_) | (with_reducible refine code_skip ?_) | (with_reducible refine code_label ?_) | (with_reducible refine code_block ?_) | (with_reducible refine code_scope ?_) | (with_reducible refine code_exit ?_) | (with_reducible refine code_ret ?_) | refine regq_to ?_ | (with_reducible refine run_nil ?_) | ((with_reducible refine run_probe ?_); refine runq_more ?_) | (with_reducible refine draw_nil ?_) | ((with_reducible refine draw_probe ?_); (first | refine drawq_more ?_ | refine drawq_as ?_)) | refine code_then ?_ | refine code_else ?_))
      refine back_cells [] ⟨rfl, rfl⟩

/-- The configuration as it comes. -/
theorem cfg_of {C : Chunk} {us : List Value} (h : RowW C [.int .i64, .int .u64, .int .u64, .int .u64] us) : ∃ r x y z : Int, us = [.int .i64 r, .int .u64 x, .int .u64 y, .int .u64 z] ∧ 0 ≤ x ∧ 0 ≤ y ∧ 0 ≤ z := by
  obtain ⟨a, b, c, d, rfl⟩ : ∃ a b c d, us = [a, b, c, d] := by
    rcases us with _ | ⟨a, _ | ⟨b, _ | ⟨c, _ | ⟨d, _ | ⟨e, us⟩⟩⟩⟩⟩
    · exact h.elim
    · exact h.2.elim
    · exact h.2.2.elim
    · exact h.2.2.2.elim
    · exact ⟨a, b, c, d, rfl⟩
    · exact h.2.2.2.2.elim
  obtain ⟨⟨r, rfl, _⟩, ⟨x, rfl, hx⟩, ⟨y, rfl, hy⟩, ⟨z, rfl, hz⟩, _⟩ := h
  simp only [Lit.wf, Bool.and_eq_true, decide_eq_true_eq] at hx hy hz
  exact ⟨r, x, y, z, rfl, hx.1, hy.1, hz.1⟩
theorem right_of {r x y z : Int} (h : ((tickB x && (tickB y && tickB z)) && (decide (1 ≤ r) && decide (r ≤ 64))) = true) : ∃ k : Nat, r = k ∧ (⟨k, x, y, z⟩ : Cfg).Ok := by
  simp only [tickB, Bool.and_eq_true, decide_eq_true_eq] at h
  obtain ⟨⟨⟨x1, x2⟩, ⟨y1, y2⟩, z1, z2⟩, r1, r2⟩ := h
  exact ⟨r.toNat, by omega, ⟨by show 1 ≤ r.toNat; omega, by show r.toNat ≤ 64; omega, x1, x2, y1, y2, z1, z2⟩⟩

instance : TPlaces Try.prog 52 [(0, 4), (4, 1)] := ⟨by kernel_rfl⟩
theorem gnew_one (c : Cfg) (hc : c.Ok) : Meets Try.prog 9 [cfgV c.room c.base c.most c.hold] [] fun v A => ∃ g b T, v = .tuple #[.pointer (some ⟨g, 0, none⟩), .int .i64 0] ∧ IsTab T b c.room [] ∧ A = [gB g c b ++ T] := by
  refine Meets.conv [] (gnew_yes c hc) rfl (.nil _) ?_
  rintro v A ⟨g, b, T, rfl, hT, rfl⟩
  exact ⟨[gB g c b ++ T], [gB g c b, T], by simp only [List.flatten_cons, List.flatten_nil, List.append_assoc, List.append_nil], by first | ((repeat (first | with_reducible exact Among.nil _ | with_reducible exact Pick.head _ _ | with_reducible apply Pick.tail | with_reducible apply Among.cons)); done) | ((repeat (first | exact Among.nil _ | exact Pick.head _ _ | apply Pick.tail | apply Among.cons)); done), g, b, T, rfl, hT, rfl⟩
/-- How a script begins. -/
def GStart (B : Bool) (r x y z : Int) (gv e : Value) (Cm : Chunk) : Prop := (B = true ∧ ∃ (k g tb : Nat) (T : Chunk), r = k ∧ (⟨k, x, y, z⟩ : Cfg).Ok ∧ gv = .pointer (some ⟨g, 0, none⟩) ∧ e = .int .i64 0 ∧ IsTab T tb k [] ∧ Cm = gB g ⟨k, x, y, z⟩ tb ++ T) ∨
  (B = false ∧ gv = .pointer none ∧ e = .int .i64 1 ∧ Cm = [])

theorem gentries1_mode {gv xv : Value} {Cm : Chunk} (h : GMode gv xv Cm) : Meets Try.prog 22 [gv, .int .i64 1] [Cm] fun v A => ∃ X a n k, v = .slice a n k ∧ n ≤ 1 ∧ A = [X, Cm] := by
  rcases h with ⟨rfl, rfl, rfl⟩ | ⟨c, es, g, b, r, T, la, lc, Cl, hb, rfl, rfl, rfl⟩
  · refine Meets.conv [] (entries_nil 1) rfl (.nil _) ?_
    rintro v A ⟨rfl, rfl⟩
    exact ⟨[[], []], [], rfl, .nil _, [], none, 0, 0, rfl, by omega, rfl⟩
  · refine Meets.conv [gB g c b, T, rB r c la es.length lc ++ Cl] (entries_one hb.tab hb.le) (by simp only [List.flatten_cons, List.flatten_nil, List.append_assoc, List.append_nil]) (by (repeat (first | with_reducible exact Take.nil _ | with_reducible exact Pick.head _ _ | with_reducible apply Pick.tail | with_reducible apply Take.cons))) ?_; rintro v A ⟨X, a, k, rfl, hX, rfl⟩
    exact ⟨[X, gB g c b ++ (T ++ (rB r c la es.length lc ++ Cl))], [X, gB g c b, T, rB r c la es.length lc ++ Cl], by simp only [List.flatten_cons, List.flatten_nil, List.append_assoc, List.append_nil], by first | ((repeat (first | with_reducible exact Among.nil _ | with_reducible exact Pick.head _ _ | with_reducible apply Pick.tail | with_reducible apply Among.cons)); done) | ((repeat (first | exact Among.nil _ | exact Pick.head _ _ | apply Pick.tail | apply Among.cons)); done), X, a, _, k, rfl, (by rw [List.length_take]; omega), rfl⟩

set_option maxHeartbeats 2000000 in
theorem GuardPlays_law (C : Chunk) (_ : True) (none_ : Bool) (us : List Value) (hus : RowW C [.int .i64, .int .u64, .int .u64, .int .u64] us) (v : Value) (rows : List (List Value)) (hv : RowsK C [.int .u8, .str, .int .u32] v rows) :
    Meets Try.prog 7 [.bool none_, .agg us.toArray, v] [C] fun v A => v = .bool true ∧ A = [C] := by
  obtain ⟨ops, ⟨a, cap, rfl, hcap, hmax, hrd⟩, hops⟩ := script_of hv
  obtain ⟨r, x, y, z, rfl, hx0, hy0, hz0⟩ := cfg_of hus
  obtain ⟨B, hB⟩ : ∃ B : Bool, ((tickB x && (tickB y && tickB z)) && (decide (1 ≤ r) && decide (r ≤ 64))) = B := ⟨_, rfl⟩
  have hs := encG_len
  refine spec_intro Try.func7 rfl (by kernel_rfl) (by rw [Try.ntmps7]; simp) fun F => ?_; rw [Try.ntmps7, Try.results7]
  (with_reducible refine code_seq ?_); refine then_mid (fun D L S => ∃ b4 : Nat, D = [] ∧ L = [(4, .pointer (some ⟨b4, 0, none⟩)), (0, .bool none_), (2, .slice a ops.length cap)] ∧ S = [[(b4, .cells #[.int .i64 r, .int .u64 x, .int .u64 y, .int .u64 z] 47 (0, 0))], F, C]) ?_ ?_
  · (repeat (first | (with_reducible refine then_n ?_) | (with_reducible refine then_r ?_) | (with_reducible refine then_e ?_) | (with_reducible refine block_n ?_) | (with_reducible refine block_r ?_) | (with_reducible refine block_e ?_) | refine block_o ?_ | (with_reducible refine scope_n ?_) | (with_reducible refine scope_r ?_) | (with_reducible refine scope_e ?_) | (with_reducible refine code_seq ?_) | (with_reducible refine code_skip ?_) | (with_reducible refine code_label ?_) | (with_reducible refine code_block ?_) | (with_reducible refine code_scope ?_) | (with_reducible refine code_exit ?_) | (with_reducible refine code_ret ?_) | refine regq_to ?_ | (with_reducible refine run_nil ?_) | ((with_reducible refine run_probe ?_); refine runq_more ?_) | (with_reducible refine draw_nil ?_) | ((with_reducible refine draw_probe ?_); (first | refine drawq_more ?_ | refine drawq_as ?_)) | refine code_then ?_ | refine code_else ?_))
    refine run_op fun K hK => ?_; refine box_new fun b4 => ?_; (try simp only [Value.cells]); refine hK _ _ ?_; clear hK K
    (repeat (first | (with_reducible refine then_n ?_) | (with_reducible refine then_r ?_) | (with_reducible refine then_e ?_) | (with_reducible refine block_n ?_) | (with_reducible refine block_r ?_) | (with_reducible refine block_e ?_) | refine block_o ?_ | (with_reducible refine scope_n ?_) | (with_reducible refine scope_r ?_) | (with_reducible refine scope_e ?_) | (with_reducible refine code_seq ?_) | (with_reducible refine code_skip ?_) | (with_reducible refine code_label ?_) | (with_reducible refine code_block ?_) | (with_reducible refine code_scope ?_) | (with_reducible refine code_exit ?_) | (with_reducible refine code_ret ?_) | refine regq_to ?_ | (with_reducible refine run_nil ?_) | ((with_reducible refine run_probe ?_); refine runq_more ?_) | (with_reducible refine draw_nil ?_) | ((with_reducible refine draw_probe ?_); (first | refine drawq_more ?_ | refine drawq_as ?_)) | refine code_then ?_ | refine code_else ?_))
    exact mid ⟨b4, rfl, rfl, rfl⟩
  rintro D L S ⟨b4, rfl, rfl, rfl⟩
  (with_reducible refine code_seq ?_); refine then_mid (fun D L S => D = [] ∧ L = [(4, .pointer (some ⟨b4, 0, none⟩)), (0, .bool none_), (2, .slice a ops.length cap)] ∧ S = [[], [(b4, .cells #[.int .i64 r, .int .u64 x, .int .u64 y, .int .u64 z] 47 (0, 0))], F, C]) ?_ ?_
  · refine code_nil ?_
    (repeat (first | (with_reducible refine then_n ?_) | (with_reducible refine then_r ?_) | (with_reducible refine then_e ?_) | (with_reducible refine block_n ?_) | (with_reducible refine block_r ?_) | (with_reducible refine block_e ?_) | refine block_o ?_ | (with_reducible refine scope_n ?_) | (with_reducible refine scope_r ?_) | (with_reducible refine scope_e ?_) | (with_reducible refine code_seq ?_) | (with_reducible refine code_skip ?_) | (with_reducible refine code_label ?_) | (with_reducible refine code_block ?_) | (with_reducible refine code_scope ?_) | (with_reducible refine code_exit ?_) | (with_reducible refine code_ret ?_) | refine regq_to ?_ | (with_reducible refine run_nil ?_) | ((with_reducible refine run_probe ?_); refine runq_more ?_) | (with_reducible refine draw_nil ?_) | ((with_reducible refine draw_probe ?_); (first | refine drawq_more ?_ | refine drawq_as ?_)) | refine code_then ?_ | refine code_else ?_))
    refine run_op fun K hK => ?_; refine calls_to (awake_spec) ?_; rintro v A ⟨rfl, rfl⟩; (try simp only [List.nil_append, List.cons_append]); refine hK _ _ ?_; clear hK K; (repeat (first | (with_reducible refine then_n ?_) | (with_reducible refine then_r ?_) | (with_reducible refine then_e ?_) | (with_reducible refine block_n ?_) | (with_reducible refine block_r ?_) | (with_reducible refine block_e ?_) | refine block_o ?_ | (with_reducible refine scope_n ?_) | (with_reducible refine scope_r ?_) | (with_reducible refine scope_e ?_) | (with_reducible refine code_seq ?_) | (with_reducible refine code_skip ?_) | (with_reducible refine code_label ?_) | (with_reducible refine code_block ?_) | (with_reducible refine code_scope ?_) | (with_reducible refine code_exit ?_) | (with_reducible refine code_ret ?_) | refine regq_to ?_ | (with_reducible refine run_nil ?_) | ((with_reducible refine run_probe ?_); refine runq_more ?_) | (with_reducible refine draw_nil ?_) | ((with_reducible refine draw_probe ?_); (first | refine drawq_more ?_ | refine drawq_as ?_)) | refine code_then ?_ | refine code_else ?_))
    exact mid ⟨rfl, rfl, rfl⟩
  rintro D L S ⟨rfl, rfl, rfl⟩
  (with_reducible refine code_seq ?_); refine then_mid (fun D L S => ∃ (gv e : Value) (Cm : Chunk), GStart B r x y z gv e Cm ∧ D = [] ∧ L = [(7, gv), (8, e), (4, .pointer (some ⟨b4, 0, none⟩)), (0, .bool none_), (2, .slice a ops.length cap)] ∧ S = [Cm, [(b4, .cells #[.int .i64 r, .int .u64 x, .int .u64 y, .int .u64 z] 47 (0, 0))], F, C]) ?_ ?_
  · (repeat (first | (with_reducible refine then_n ?_) | (with_reducible refine then_r ?_) | (with_reducible refine then_e ?_) | (with_reducible refine block_n ?_) | (with_reducible refine block_r ?_) | (with_reducible refine block_e ?_) | refine block_o ?_ | (with_reducible refine scope_n ?_) | (with_reducible refine scope_r ?_) | (with_reducible refine scope_e ?_) | (with_reducible refine code_seq ?_) | (with_reducible refine code_skip ?_) | (with_reducible refine code_label ?_) | (with_reducible refine code_block ?_) | (with_reducible refine code_scope ?_) | (with_reducible refine code_exit ?_) | (with_reducible refine code_ret ?_) | refine regq_to ?_ | (with_reducible refine run_nil ?_) | ((with_reducible refine run_probe ?_); refine runq_more ?_) | (with_reducible refine draw_nil ?_) | ((with_reducible refine draw_probe ?_); (first | refine drawq_more ?_ | refine drawq_as ?_)) | refine code_then ?_ | refine code_else ?_))
    refine run_op fun K hK => ?_; refine load_all (vs := [.int .i64 r, .int .u64 x, .int .u64 y, .int .u64 z]) (by (repeat (first | with_reducible exact Lies.one | with_reducible apply Lies.next))) rfl ?_; refine hK _ _ ?_; clear hK K
    cases hBc : B with
    | true =>
      obtain ⟨k, rfl, hok⟩ := right_of (hB.trans hBc)
      refine run_op fun K hK => ?_; refine calls_to (gnew_one ⟨k, x, y, z⟩ hok) ?_; rintro v A ⟨g, tb, T, rfl, hT, rfl⟩; (try simp only [List.nil_append, List.cons_append]); refine hK _ _ ?_; clear hK K; (repeat (first | (with_reducible refine then_n ?_) | (with_reducible refine then_r ?_) | (with_reducible refine then_e ?_) | (with_reducible refine block_n ?_) | (with_reducible refine block_r ?_) | (with_reducible refine block_e ?_) | refine block_o ?_ | (with_reducible refine scope_n ?_) | (with_reducible refine scope_r ?_) | (with_reducible refine scope_e ?_) | (with_reducible refine code_seq ?_) | (with_reducible refine code_skip ?_) | (with_reducible refine code_label ?_) | (with_reducible refine code_block ?_) | (with_reducible refine code_scope ?_) | (with_reducible refine code_exit ?_) | (with_reducible refine code_ret ?_) | refine regq_to ?_ | (with_reducible refine run_nil ?_) | ((with_reducible refine run_probe ?_); refine runq_more ?_) | (with_reducible refine draw_nil ?_) | ((with_reducible refine draw_probe ?_); (first | refine drawq_more ?_ | refine drawq_as ?_)) | refine code_then ?_ | refine code_else ?_))
      exact mid ⟨_, _, _, .inl ⟨rfl, k, g, tb, T, rfl, hok, rfl, rfl, hT, rfl⟩, rfl, rfl, rfl⟩
    | false =>
      refine run_op fun K hK => ?_; refine calls_to (gnew_no r x y z (hB.trans hBc)) ?_; rintro v A ⟨rfl, rfl⟩; (try simp only [List.nil_append, List.cons_append]); refine hK _ _ ?_; clear hK K; (repeat (first | (with_reducible refine then_n ?_) | (with_reducible refine then_r ?_) | (with_reducible refine then_e ?_) | (with_reducible refine block_n ?_) | (with_reducible refine block_r ?_) | (with_reducible refine block_e ?_) | refine block_o ?_ | (with_reducible refine scope_n ?_) | (with_reducible refine scope_r ?_) | (with_reducible refine scope_e ?_) | (with_reducible refine code_seq ?_) | (with_reducible refine code_skip ?_) | (with_reducible refine code_label ?_) | (with_reducible refine code_block ?_) | (with_reducible refine code_scope ?_) | (with_reducible refine code_exit ?_) | (with_reducible refine code_ret ?_) | refine regq_to ?_ | (with_reducible refine run_nil ?_) | ((with_reducible refine run_probe ?_); refine runq_more ?_) | (with_reducible refine draw_nil ?_) | ((with_reducible refine draw_probe ?_); (first | refine drawq_more ?_ | refine drawq_as ?_)) | refine code_then ?_ | refine code_else ?_))
      exact mid ⟨_, _, [], .inr ⟨rfl, rfl, rfl, rfl⟩, rfl, rfl, rfl⟩
  rintro D L S ⟨gv, e, Cm, hS, rfl, rfl, rfl⟩
  (with_reducible refine code_seq ?_); refine then_mid (fun D L S => D = [] ∧ L = [(9, .bool B), (7, gv), (8, e), (4, .pointer (some ⟨b4, 0, none⟩)), (0, .bool none_), (2, .slice a ops.length cap)] ∧ S = [Cm, [(b4, .cells #[.int .i64 r, .int .u64 x, .int .u64 y, .int .u64 z] 47 (0, 0))], F, C]) ?_ ?_
  · (repeat (first | (with_reducible refine then_n ?_) | (with_reducible refine then_r ?_) | (with_reducible refine then_e ?_) | (with_reducible refine block_n ?_) | (with_reducible refine block_r ?_) | (with_reducible refine block_e ?_) | refine block_o ?_ | (with_reducible refine scope_n ?_) | (with_reducible refine scope_r ?_) | (with_reducible refine scope_e ?_) | (with_reducible refine code_seq ?_) | (with_reducible refine code_skip ?_) | (with_reducible refine code_label ?_) | (with_reducible refine code_block ?_) | (with_reducible refine code_scope ?_) | (with_reducible refine code_exit ?_) | (with_reducible refine code_ret ?_) | refine regq_to ?_ | (with_reducible refine run_nil ?_) | ((with_reducible refine run_probe ?_); refine runq_more ?_) | (with_reducible refine draw_nil ?_) | ((with_reducible refine draw_probe ?_); (first | refine drawq_more ?_ | refine drawq_as ?_)) | refine code_then ?_ | refine code_else ?_))
    refine run_op fun K hK => ?_; refine load_all (vs := [.int .i64 r, .int .u64 x, .int .u64 y, .int .u64 z]) (by (repeat (first | with_reducible exact Lies.one | with_reducible apply Lies.next))) rfl ?_; refine hK _ _ ?_; clear hK K
    have h := rright_spec r x y z
    rw [hB] at h
    refine run_op fun K hK => ?_; refine calls_to (h) ?_; rintro v A ⟨rfl, rfl⟩; (try simp only [List.nil_append, List.cons_append]); refine hK _ _ ?_; clear hK K; (repeat (first | (with_reducible refine then_n ?_) | (with_reducible refine then_r ?_) | (with_reducible refine then_e ?_) | (with_reducible refine block_n ?_) | (with_reducible refine block_r ?_) | (with_reducible refine block_e ?_) | refine block_o ?_ | (with_reducible refine scope_n ?_) | (with_reducible refine scope_r ?_) | (with_reducible refine scope_e ?_) | (with_reducible refine code_seq ?_) | (with_reducible refine code_skip ?_) | (with_reducible refine code_label ?_) | (with_reducible refine code_block ?_) | (with_reducible refine code_scope ?_) | (with_reducible refine code_exit ?_) | (with_reducible refine code_ret ?_) | refine regq_to ?_ | (with_reducible refine run_nil ?_) | ((with_reducible refine run_probe ?_); refine runq_more ?_) | (with_reducible refine draw_nil ?_) | ((with_reducible refine draw_probe ?_); (first | refine drawq_more ?_ | refine drawq_as ?_)) | refine code_then ?_ | refine code_else ?_))
    exact mid ⟨rfl, rfl, rfl⟩
  rintro D L S ⟨rfl, rfl, rfl⟩
  (with_reducible refine code_seq ?_); refine then_mid (fun D L S => D = [] ∧ L = [(9, .bool B), (7, gv), (8, e), (4, .pointer (some ⟨b4, 0, none⟩)), (0, .bool none_), (2, .slice a ops.length cap)] ∧ S = [Cm, [(b4, .cells #[.int .i64 r, .int .u64 x, .int .u64 y, .int .u64 z] 47 (0, 0))], F, C]) ?_ ?_
  · rcases hS with ⟨hBt, k, g, tb, T, rfl, hok, rfl, rfl, hT, rfl⟩ | ⟨hBt, rfl, rfl, rfl⟩
    · rw [hBt]
      (repeat (first | (with_reducible refine then_n ?_) | (with_reducible refine then_r ?_) | (with_reducible refine then_e ?_) | (with_reducible refine block_n ?_) | (with_reducible refine block_r ?_) | (with_reducible refine block_e ?_) | refine block_o ?_ | (with_reducible refine scope_n ?_) | (with_reducible refine scope_r ?_) | (with_reducible refine scope_e ?_) | (with_reducible refine code_seq ?_) | (with_reducible refine code_skip ?_) | (with_reducible refine code_label ?_) | (with_reducible refine code_block ?_) | (with_reducible refine code_scope ?_) | (with_reducible refine code_exit ?_) | (with_reducible refine code_ret ?_) | refine regq_to ?_ | (with_reducible refine run_nil ?_) | ((with_reducible refine run_probe ?_); refine runq_more ?_) | (with_reducible refine draw_nil ?_) | ((with_reducible refine draw_probe ?_); (first | refine drawq_more ?_ | refine drawq_as ?_)) | refine code_then ?_ | refine code_else ?_))
      (try rw [show (false == true) = false from rfl])
      (try (repeat (first | (with_reducible refine then_n ?_) | (with_reducible refine then_r ?_) | (with_reducible refine then_e ?_) | (with_reducible refine block_n ?_) | (with_reducible refine block_r ?_) | (with_reducible refine block_e ?_) | refine block_o ?_ | (with_reducible refine scope_n ?_) | (with_reducible refine scope_r ?_) | (with_reducible refine scope_e ?_) | (with_reducible refine code_seq ?_) | (with_reducible refine code_skip ?_) | (with_reducible refine code_label ?_) | (with_reducible refine code_block ?_) | (with_reducible refine code_scope ?_) | (with_reducible refine code_exit ?_) | (with_reducible refine code_ret ?_) | refine regq_to ?_ | (with_reducible refine run_nil ?_) | ((with_reducible refine run_probe ?_); refine runq_more ?_) | (with_reducible refine draw_nil ?_) | ((with_reducible refine draw_probe ?_); (first | refine drawq_more ?_ | refine drawq_as ?_)) | refine code_then ?_ | refine code_else ?_)))
      exact mid ⟨rfl, rfl, rfl⟩
    · rw [hBt]
      (repeat (first | (with_reducible refine then_n ?_) | (with_reducible refine then_r ?_) | (with_reducible refine then_e ?_) | (with_reducible refine block_n ?_) | (with_reducible refine block_r ?_) | (with_reducible refine block_e ?_) | refine block_o ?_ | (with_reducible refine scope_n ?_) | (with_reducible refine scope_r ?_) | (with_reducible refine scope_e ?_) | (with_reducible refine code_seq ?_) | (with_reducible refine code_skip ?_) | (with_reducible refine code_label ?_) | (with_reducible refine code_block ?_) | (with_reducible refine code_scope ?_) | (with_reducible refine code_exit ?_) | (with_reducible refine code_ret ?_) | refine regq_to ?_ | (with_reducible refine run_nil ?_) | ((with_reducible refine run_probe ?_); refine runq_more ?_) | (with_reducible refine draw_nil ?_) | ((with_reducible refine draw_probe ?_); (first | refine drawq_more ?_ | refine drawq_as ?_)) | refine code_then ?_ | refine code_else ?_))
      (try rw [show (true == false) = false from rfl])
      (try (repeat (first | (with_reducible refine then_n ?_) | (with_reducible refine then_r ?_) | (with_reducible refine then_e ?_) | (with_reducible refine block_n ?_) | (with_reducible refine block_r ?_) | (with_reducible refine block_e ?_) | refine block_o ?_ | (with_reducible refine scope_n ?_) | (with_reducible refine scope_r ?_) | (with_reducible refine scope_e ?_) | (with_reducible refine code_seq ?_) | (with_reducible refine code_skip ?_) | (with_reducible refine code_label ?_) | (with_reducible refine code_block ?_) | (with_reducible refine code_scope ?_) | (with_reducible refine code_exit ?_) | (with_reducible refine code_ret ?_) | refine regq_to ?_ | (with_reducible refine run_nil ?_) | ((with_reducible refine run_probe ?_); refine runq_more ?_) | (with_reducible refine draw_nil ?_) | ((with_reducible refine draw_probe ?_); (first | refine drawq_more ?_ | refine drawq_as ?_)) | refine code_then ?_ | refine code_else ?_)))
      exact mid ⟨rfl, rfl, rfl⟩
  rintro D L S ⟨rfl, rfl, rfl⟩
  (with_reducible refine code_seq ?_); refine then_mid (fun D L S => ∃ rb : Nat, D = [] ∧ L = [(10, .pointer (some ⟨rb, 0, none⟩)), (9, .bool B), (7, gv), (0, .bool none_), (2, .slice a ops.length cap)] ∧ S = [[(rb, .cells #[.int .i64 r, .int .u64 x, .int .u64 y, .int .u64 z, .slice none 0 0] 52 (0, 0))], Cm, F, C]) ?_ ?_
  · (repeat (first | (with_reducible refine then_n ?_) | (with_reducible refine then_r ?_) | (with_reducible refine then_e ?_) | (with_reducible refine block_n ?_) | (with_reducible refine block_r ?_) | (with_reducible refine block_e ?_) | refine block_o ?_ | (with_reducible refine scope_n ?_) | (with_reducible refine scope_r ?_) | (with_reducible refine scope_e ?_) | (with_reducible refine code_seq ?_) | (with_reducible refine code_skip ?_) | (with_reducible refine code_label ?_) | (with_reducible refine code_block ?_) | (with_reducible refine code_scope ?_) | (with_reducible refine code_exit ?_) | (with_reducible refine code_ret ?_) | refine regq_to ?_ | (with_reducible refine run_nil ?_) | ((with_reducible refine run_probe ?_); refine runq_more ?_) | (with_reducible refine draw_nil ?_) | ((with_reducible refine draw_probe ?_); (first | refine drawq_more ?_ | refine drawq_as ?_)) | refine code_then ?_ | refine code_else ?_))
    refine run_op fun K hK => ?_; refine load_all (vs := [.int .i64 r, .int .u64 x, .int .u64 y, .int .u64 z]) (by (repeat (first | with_reducible exact Lies.one | with_reducible apply Lies.next))) rfl ?_; refine hK _ _ ?_; clear hK K
    (repeat (first | (with_reducible refine then_n ?_) | (with_reducible refine then_r ?_) | (with_reducible refine then_e ?_) | (with_reducible refine block_n ?_) | (with_reducible refine block_r ?_) | (with_reducible refine block_e ?_) | refine block_o ?_ | (with_reducible refine scope_n ?_) | (with_reducible refine scope_r ?_) | (with_reducible refine scope_e ?_) | (with_reducible refine code_seq ?_) | (with_reducible refine code_skip ?_) | (with_reducible refine code_label ?_) | (with_reducible refine code_block ?_) | (with_reducible refine code_scope ?_) | (with_reducible refine code_exit ?_) | (with_reducible refine code_ret ?_) | refine regq_to ?_ | (with_reducible refine run_nil ?_) | ((with_reducible refine run_probe ?_); refine runq_more ?_) | (with_reducible refine draw_nil ?_) | ((with_reducible refine draw_probe ?_); (first | refine drawq_more ?_ | refine drawq_as ?_)) | refine code_then ?_ | refine code_else ?_))
    refine run_op fun K hK => ?_; rw [build_struct (ps := [(0, .agg #[.int .i64 r, .int .u64 x, .int .u64 y, .int .u64 z])]) (cs := #[.int .i64 r, .int .u64 x, .int .u64 y, .int .u64 z, .slice none 0 0]) rfl]; refine hK _ _ ?_; clear hK K
    (repeat (first | (with_reducible refine then_n ?_) | (with_reducible refine then_r ?_) | (with_reducible refine then_e ?_) | (with_reducible refine block_n ?_) | (with_reducible refine block_r ?_) | (with_reducible refine block_e ?_) | refine block_o ?_ | (with_reducible refine scope_n ?_) | (with_reducible refine scope_r ?_) | (with_reducible refine scope_e ?_) | (with_reducible refine code_seq ?_) | (with_reducible refine code_skip ?_) | (with_reducible refine code_label ?_) | (with_reducible refine code_block ?_) | (with_reducible refine code_scope ?_) | (with_reducible refine code_exit ?_) | (with_reducible refine code_ret ?_) | refine regq_to ?_ | (with_reducible refine run_nil ?_) | ((with_reducible refine run_probe ?_); refine runq_more ?_) | (with_reducible refine draw_nil ?_) | ((with_reducible refine draw_probe ?_); (first | refine drawq_more ?_ | refine drawq_as ?_)) | refine code_then ?_ | refine code_else ?_))
    refine run_op fun K hK => ?_; refine box_new fun rb => ?_; (try simp only [Value.cells]); refine hK _ _ ?_; clear hK K
    (repeat (first | (with_reducible refine then_n ?_) | (with_reducible refine then_r ?_) | (with_reducible refine then_e ?_) | (with_reducible refine block_n ?_) | (with_reducible refine block_r ?_) | (with_reducible refine block_e ?_) | refine block_o ?_ | (with_reducible refine scope_n ?_) | (with_reducible refine scope_r ?_) | (with_reducible refine scope_e ?_) | (with_reducible refine code_seq ?_) | (with_reducible refine code_skip ?_) | (with_reducible refine code_label ?_) | (with_reducible refine code_block ?_) | (with_reducible refine code_scope ?_) | (with_reducible refine code_exit ?_) | (with_reducible refine code_ret ?_) | refine regq_to ?_ | (with_reducible refine run_nil ?_) | ((with_reducible refine run_probe ?_); refine runq_more ?_) | (with_reducible refine draw_nil ?_) | ((with_reducible refine draw_probe ?_); (first | refine drawq_more ?_ | refine drawq_as ?_)) | refine code_then ?_ | refine code_else ?_))
    exact mid ⟨rb, rfl, rfl, rfl⟩
  rintro D L S ⟨rb, rfl, rfl, rfl⟩
  (with_reducible refine code_seq ?_); refine then_mid (fun D L S => ∃ (gv xv : Value) (Cm : Chunk), GMode gv xv Cm ∧ D = [] ∧ L = [(7, gv), (10, xv), (2, .slice a ops.length cap)] ∧ S = [Cm, F, C]) ?_ ?_
  · rcases hS with ⟨hBt, k, g, tb, T, rfl, hok, rfl, rfl, hT, rfl⟩ | ⟨hBt, rfl, rfl, rfl⟩
    · rw [hBt]
      cases none_ with
      | true =>
        refine code_nil ?_
        (repeat (first | (with_reducible refine then_n ?_) | (with_reducible refine then_r ?_) | (with_reducible refine then_e ?_) | (with_reducible refine block_n ?_) | (with_reducible refine block_r ?_) | (with_reducible refine block_e ?_) | refine block_o ?_ | (with_reducible refine scope_n ?_) | (with_reducible refine scope_r ?_) | (with_reducible refine scope_e ?_) | (with_reducible refine code_seq ?_) | (with_reducible refine code_skip ?_) | (with_reducible refine code_label ?_) | (with_reducible refine code_block ?_) | (with_reducible refine code_scope ?_) | (with_reducible refine code_exit ?_) | (with_reducible refine code_ret ?_) | refine regq_to ?_ | (with_reducible refine run_nil ?_) | ((with_reducible refine run_probe ?_); refine runq_more ?_) | (with_reducible refine draw_nil ?_) | ((with_reducible refine draw_probe ?_); (first | refine drawq_more ?_ | refine drawq_as ?_)) | refine code_then ?_ | refine code_else ?_))
        exact mid ⟨_, _, [], .inl ⟨rfl, rfl, rfl⟩, rfl, rfl, rfl⟩
      | false =>
        refine code_perm (S' := [gB g ⟨k, x, y, z⟩ tb ++ (T ++ (rB rb ⟨k, x, y, z⟩ none 0 0 ++ [])), F, C]) ?_ ?_
        · simp only [List.flatten_cons, List.flatten_nil, List.append_nil, List.append_assoc]
          have := List.Perm.append_right (F ++ C) (List.perm_append_comm (l₁ := rB rb ⟨k, x, y, z⟩ none 0 0) (l₂ := gB g ⟨k, x, y, z⟩ tb ++ T))
          simpa only [List.append_assoc] using this
        · (repeat (first | (with_reducible refine then_n ?_) | (with_reducible refine then_r ?_) | (with_reducible refine then_e ?_) | (with_reducible refine block_n ?_) | (with_reducible refine block_r ?_) | (with_reducible refine block_e ?_) | refine block_o ?_ | (with_reducible refine scope_n ?_) | (with_reducible refine scope_r ?_) | (with_reducible refine scope_e ?_) | (with_reducible refine code_seq ?_) | (with_reducible refine code_skip ?_) | (with_reducible refine code_label ?_) | (with_reducible refine code_block ?_) | (with_reducible refine code_scope ?_) | (with_reducible refine code_exit ?_) | (with_reducible refine code_ret ?_) | refine regq_to ?_ | (with_reducible refine run_nil ?_) | ((with_reducible refine run_probe ?_); refine runq_more ?_) | (with_reducible refine draw_nil ?_) | ((with_reducible refine draw_probe ?_); (first | refine drawq_more ?_ | refine drawq_as ?_)) | refine code_then ?_ | refine code_else ?_))
          exact mid ⟨_, _, _, .inr ⟨⟨k, x, y, z⟩, [], g, tb, rb, T, none, 0, [], ⟨hok, hT, own_nil, eok_nil⟩, rfl, rfl, rfl⟩, rfl, rfl, rfl⟩
    · rw [hBt]
      cases none_ with
      | true =>
        (repeat (first | (with_reducible refine then_n ?_) | (with_reducible refine then_r ?_) | (with_reducible refine then_e ?_) | (with_reducible refine block_n ?_) | (with_reducible refine block_r ?_) | (with_reducible refine block_e ?_) | refine block_o ?_ | (with_reducible refine scope_n ?_) | (with_reducible refine scope_r ?_) | (with_reducible refine scope_e ?_) | (with_reducible refine code_seq ?_) | (with_reducible refine code_skip ?_) | (with_reducible refine code_label ?_) | (with_reducible refine code_block ?_) | (with_reducible refine code_scope ?_) | (with_reducible refine code_exit ?_) | (with_reducible refine code_ret ?_) | refine regq_to ?_ | (with_reducible refine run_nil ?_) | ((with_reducible refine run_probe ?_); refine runq_more ?_) | (with_reducible refine draw_nil ?_) | ((with_reducible refine draw_probe ?_); (first | refine drawq_more ?_ | refine drawq_as ?_)) | refine code_then ?_ | refine code_else ?_))
        exact mid ⟨_, _, [], .inl ⟨rfl, rfl, rfl⟩, rfl, rfl, rfl⟩
      | false =>
        (repeat (first | (with_reducible refine then_n ?_) | (with_reducible refine then_r ?_) | (with_reducible refine then_e ?_) | (with_reducible refine block_n ?_) | (with_reducible refine block_r ?_) | (with_reducible refine block_e ?_) | refine block_o ?_ | (with_reducible refine scope_n ?_) | (with_reducible refine scope_r ?_) | (with_reducible refine scope_e ?_) | (with_reducible refine code_seq ?_) | (with_reducible refine code_skip ?_) | (with_reducible refine code_label ?_) | (with_reducible refine code_block ?_) | (with_reducible refine code_scope ?_) | (with_reducible refine code_exit ?_) | (with_reducible refine code_ret ?_) | refine regq_to ?_ | (with_reducible refine run_nil ?_) | ((with_reducible refine run_probe ?_); refine runq_more ?_) | (with_reducible refine draw_nil ?_) | ((with_reducible refine draw_probe ?_); (first | refine drawq_more ?_ | refine drawq_as ?_)) | refine code_then ?_ | refine code_else ?_))
        exact mid ⟨_, _, [], .inl ⟨rfl, rfl, rfl⟩, rfl, rfl, rfl⟩
  rintro D L S ⟨gv, xv, Cm, hM, rfl, rfl, rfl⟩
  (repeat (first | (with_reducible refine then_n ?_) | (with_reducible refine then_r ?_) | (with_reducible refine then_e ?_) | (with_reducible refine block_n ?_) | (with_reducible refine block_r ?_) | (with_reducible refine block_e ?_) | refine block_o ?_ | (with_reducible refine scope_n ?_) | (with_reducible refine scope_r ?_) | (with_reducible refine scope_e ?_) | (with_reducible refine code_seq ?_) | (with_reducible refine code_skip ?_) | (with_reducible refine code_label ?_) | (with_reducible refine code_block ?_) | (with_reducible refine code_scope ?_) | (with_reducible refine code_exit ?_) | (with_reducible refine code_ret ?_) | refine regq_to ?_ | (with_reducible refine run_nil ?_) | ((with_reducible refine run_probe ?_); refine runq_more ?_) | (with_reducible refine draw_nil ?_) | ((with_reducible refine draw_probe ?_); (first | refine drawq_more ?_ | refine drawq_as ?_)) | refine code_then ?_ | refine code_else ?_))
  refine loop_i (fun q D L S => ∃ (i : Nat) (Cm : Chunk) (t : Int), i ≤ ops.length ∧ GMode gv xv Cm ∧ 0 ≤ t ∧ q = ops.length - i ∧ D = [] ∧
    L = [(51, .int .i64 i), (50, .int .i64 ops.length), (49, .slice a ops.length cap), (7, gv), (10, xv), (11, .int .u64 t)] ∧ S = [Cm, F, C])
    ⟨0, Cm, 0, by omega, hM, by omega, rfl, rfl, rfl, rfl⟩ ?_
  rintro q D L S ⟨i, Cm, t, hi, hM, ht0, rfl, rfl, rfl, rfl⟩
  (repeat (first | (with_reducible refine then_n ?_) | (with_reducible refine then_r ?_) | (with_reducible refine then_e ?_) | (with_reducible refine block_n ?_) | (with_reducible refine block_r ?_) | (with_reducible refine block_e ?_) | refine block_o ?_ | (with_reducible refine scope_n ?_) | (with_reducible refine scope_r ?_) | (with_reducible refine scope_e ?_) | (with_reducible refine code_seq ?_) | (with_reducible refine code_skip ?_) | (with_reducible refine code_label ?_) | (with_reducible refine code_block ?_) | (with_reducible refine code_scope ?_) | (with_reducible refine code_exit ?_) | (with_reducible refine code_ret ?_) | refine regq_to ?_ | (with_reducible refine run_nil ?_) | ((with_reducible refine run_probe ?_); refine runq_more ?_) | (with_reducible refine draw_nil ?_) | ((with_reducible refine draw_probe ?_); (first | refine drawq_more ?_ | refine drawq_as ?_)) | refine code_then ?_ | refine code_else ?_))
  refine if_d (fun hc => ?_) (fun hc => ?_)
  · have hil : i < ops.length := by omega
    have hx : ops[i]? = some ops[i] := List.getElem?_eq_getElem hil
    obtain ⟨ho1, ho2, ho3, ho4⟩ := hops _ (List.getElem_mem hil)
    generalize ops[i] = o at *
    (repeat (first | (with_reducible refine then_n ?_) | (with_reducible refine then_r ?_) | (with_reducible refine then_e ?_) | (with_reducible refine block_n ?_) | (with_reducible refine block_r ?_) | (with_reducible refine block_e ?_) | refine block_o ?_ | (with_reducible refine scope_n ?_) | (with_reducible refine scope_r ?_) | (with_reducible refine scope_e ?_) | (with_reducible refine code_seq ?_) | (with_reducible refine code_skip ?_) | (with_reducible refine code_label ?_) | (with_reducible refine code_block ?_) | (with_reducible refine code_scope ?_) | (with_reducible refine code_exit ?_) | (with_reducible refine code_ret ?_) | refine regq_to ?_ | (with_reducible refine run_nil ?_) | ((with_reducible refine run_probe ?_); refine runq_more ?_) | (with_reducible refine draw_nil ?_) | ((with_reducible refine draw_probe ?_); (first | refine drawq_more ?_ | refine drawq_as ?_)) | refine code_then ?_ | refine code_else ?_))
    refine run_op fun K hK => ?_; rw [el_at hrd (by omega) (by omega) (by decide), Int.toNat_natCast]; refine hK _ _ ?_; clear hK K
    refine run_op fun K hK => ?_; refine load_rd_agg hrd hs hx (by decide) (by (repeat (first | with_reducible assumption | with_reducible exact List.mem_cons_self .. | with_reducible apply List.mem_cons_of_mem))) ?_; refine hK _ _ ?_; clear hK K
    refine run_op fun K hK => ?_; refine alloc_new fun b13 => ?_; (try simp only [Value.cells]); refine hK _ _ ?_; clear hK K
    (repeat (first | (with_reducible refine then_n ?_) | (with_reducible refine then_r ?_) | (with_reducible refine then_e ?_) | (with_reducible refine block_n ?_) | (with_reducible refine block_r ?_) | (with_reducible refine block_e ?_) | refine block_o ?_ | (with_reducible refine scope_n ?_) | (with_reducible refine scope_r ?_) | (with_reducible refine scope_e ?_) | (with_reducible refine code_seq ?_) | (with_reducible refine code_skip ?_) | (with_reducible refine code_label ?_) | (with_reducible refine code_block ?_) | (with_reducible refine code_scope ?_) | (with_reducible refine code_exit ?_) | (with_reducible refine code_ret ?_) | refine regq_to ?_ | (with_reducible refine run_nil ?_) | ((with_reducible refine run_probe ?_); refine runq_more ?_) | (with_reducible refine draw_nil ?_) | ((with_reducible refine draw_probe ?_); (first | refine drawq_more ?_ | refine drawq_as ?_)) | refine code_then ?_ | refine code_else ?_))
    refine run_op fun K hK => ?_; refine store_all rfl (by simp [encG, Value.cell1]) (by (repeat (first | with_reducible exact Upd.one | with_reducible apply Upd.next))) (by rfl) ?_; refine hK _ _ ?_; clear hK K
    (repeat (first | (with_reducible refine then_n ?_) | (with_reducible refine then_r ?_) | (with_reducible refine then_e ?_) | (with_reducible refine block_n ?_) | (with_reducible refine block_r ?_) | (with_reducible refine block_e ?_) | refine block_o ?_ | (with_reducible refine scope_n ?_) | (with_reducible refine scope_r ?_) | (with_reducible refine scope_e ?_) | (with_reducible refine code_seq ?_) | (with_reducible refine code_skip ?_) | (with_reducible refine code_label ?_) | (with_reducible refine code_block ?_) | (with_reducible refine code_scope ?_) | (with_reducible refine code_exit ?_) | (with_reducible refine code_ret ?_) | refine regq_to ?_ | (with_reducible refine run_nil ?_) | ((with_reducible refine run_probe ?_); refine runq_more ?_) | (with_reducible refine draw_nil ?_) | ((with_reducible refine draw_probe ?_); (first | refine drawq_more ?_ | refine drawq_as ?_)) | refine code_then ?_ | refine code_else ?_))
    refine if_d (fun hc => ?_) (fun hc => ?_)
    · (repeat (first | (with_reducible refine then_n ?_) | (with_reducible refine then_r ?_) | (with_reducible refine then_e ?_) | (with_reducible refine block_n ?_) | (with_reducible refine block_r ?_) | (with_reducible refine block_e ?_) | refine block_o ?_ | (with_reducible refine scope_n ?_) | (with_reducible refine scope_r ?_) | (with_reducible refine scope_e ?_) | (with_reducible refine code_seq ?_) | (with_reducible refine code_skip ?_) | (with_reducible refine code_label ?_) | (with_reducible refine code_block ?_) | (with_reducible refine code_scope ?_) | (with_reducible refine code_exit ?_) | (with_reducible refine code_ret ?_) | refine regq_to ?_ | (with_reducible refine run_nil ?_) | ((with_reducible refine run_probe ?_); refine runq_more ?_) | (with_reducible refine draw_nil ?_) | ((with_reducible refine draw_probe ?_); (first | refine drawq_more ?_ | refine drawq_as ?_)) | refine code_then ?_ | refine code_else ?_))
      refine run_op fun K hK => ?_; refine calls_to (gentries1_mode hM) ?_; rintro v A ⟨X, xa, xn, xk, rfl, hxn, rfl⟩; (try simp only [List.nil_append, List.cons_append]); refine hK _ _ ?_; clear hK K
      (repeat (first | (with_reducible refine then_n ?_) | (with_reducible refine then_r ?_) | (with_reducible refine then_e ?_) | (with_reducible refine block_n ?_) | (with_reducible refine block_r ?_) | (with_reducible refine block_e ?_) | refine block_o ?_ | (with_reducible refine scope_n ?_) | (with_reducible refine scope_r ?_) | (with_reducible refine scope_e ?_) | (with_reducible refine code_seq ?_) | (with_reducible refine code_skip ?_) | (with_reducible refine code_label ?_) | (with_reducible refine code_block ?_) | (with_reducible refine code_scope ?_) | (with_reducible refine code_exit ?_) | (with_reducible refine code_ret ?_) | refine regq_to ?_ | (with_reducible refine run_nil ?_) | ((with_reducible refine run_probe ?_); refine runq_more ?_) | (with_reducible refine draw_nil ?_) | ((with_reducible refine draw_probe ?_); (first | refine drawq_more ?_ | refine drawq_as ?_)) | refine code_then ?_ | refine code_else ?_))
      rw [decide_eq_true (show (xn : Int) ≤ 1 by omega)]
      (try (repeat (first | (with_reducible refine then_n ?_) | (with_reducible refine then_r ?_) | (with_reducible refine then_e ?_) | (with_reducible refine block_n ?_) | (with_reducible refine block_r ?_) | (with_reducible refine block_e ?_) | refine block_o ?_ | (with_reducible refine scope_n ?_) | (with_reducible refine scope_r ?_) | (with_reducible refine scope_e ?_) | (with_reducible refine code_seq ?_) | (with_reducible refine code_skip ?_) | (with_reducible refine code_label ?_) | (with_reducible refine code_block ?_) | (with_reducible refine code_scope ?_) | (with_reducible refine code_exit ?_) | (with_reducible refine code_ret ?_) | refine regq_to ?_ | (with_reducible refine run_nil ?_) | ((with_reducible refine run_probe ?_); refine runq_more ?_) | (with_reducible refine draw_nil ?_) | ((with_reducible refine draw_probe ?_); (first | refine drawq_more ?_ | refine drawq_as ?_)) | refine code_then ?_ | refine code_else ?_)))
      refine back_tmp [C] ?_; exact ⟨rfl, rfl⟩
    · simp only [encG]
      (repeat (first | (with_reducible refine then_n ?_) | (with_reducible refine then_r ?_) | (with_reducible refine then_e ?_) | (with_reducible refine block_n ?_) | (with_reducible refine block_r ?_) | (with_reducible refine block_e ?_) | refine block_o ?_ | (with_reducible refine scope_n ?_) | (with_reducible refine scope_r ?_) | (with_reducible refine scope_e ?_) | (with_reducible refine code_seq ?_) | (with_reducible refine code_skip ?_) | (with_reducible refine code_label ?_) | (with_reducible refine code_block ?_) | (with_reducible refine code_scope ?_) | (with_reducible refine code_exit ?_) | (with_reducible refine code_ret ?_) | refine regq_to ?_ | (with_reducible refine run_nil ?_) | ((with_reducible refine run_probe ?_); refine runq_more ?_) | (with_reducible refine draw_nil ?_) | ((with_reducible refine draw_probe ?_); (first | refine drawq_more ?_ | refine drawq_as ?_)) | refine code_then ?_ | refine code_else ?_))
      refine run_op fun K hK => ?_; refine calls_to (radd_spec t o.tk ht0 ho3) ?_; rintro v A ⟨rfl, rfl⟩; (try simp only [List.nil_append, List.cons_append]); refine hK _ _ ?_; clear hK K; (repeat (first | (with_reducible refine then_n ?_) | (with_reducible refine then_r ?_) | (with_reducible refine then_e ?_) | (with_reducible refine block_n ?_) | (with_reducible refine block_r ?_) | (with_reducible refine block_e ?_) | refine block_o ?_ | (with_reducible refine scope_n ?_) | (with_reducible refine scope_r ?_) | (with_reducible refine scope_e ?_) | (with_reducible refine code_seq ?_) | (with_reducible refine code_skip ?_) | (with_reducible refine code_label ?_) | (with_reducible refine code_block ?_) | (with_reducible refine code_scope ?_) | (with_reducible refine code_exit ?_) | (with_reducible refine code_ret ?_) | refine regq_to ?_ | (with_reducible refine run_nil ?_) | ((with_reducible refine run_probe ?_); refine runq_more ?_) | (with_reducible refine draw_nil ?_) | ((with_reducible refine draw_probe ?_); (first | refine drawq_more ?_ | refine drawq_as ?_)) | refine code_then ?_ | refine code_else ?_))
      have hadd := (add_le t o.tk ht0 ho3).1
      generalize add t o.tk = t' at *
      refine run_op fun K hK => ?_; refine load_all (vs := [.int .u8 o.d, .string (str o.src), .int .u32 o.tk]) (by (repeat (first | with_reducible exact Lies.one | with_reducible apply Lies.next))) rfl ?_; refine hK _ _ ?_; clear hK K
      (repeat (first | (with_reducible refine then_n ?_) | (with_reducible refine then_r ?_) | (with_reducible refine then_e ?_) | (with_reducible refine block_n ?_) | (with_reducible refine block_r ?_) | (with_reducible refine block_e ?_) | refine block_o ?_ | (with_reducible refine scope_n ?_) | (with_reducible refine scope_r ?_) | (with_reducible refine scope_e ?_) | (with_reducible refine code_seq ?_) | (with_reducible refine code_skip ?_) | (with_reducible refine code_label ?_) | (with_reducible refine code_block ?_) | (with_reducible refine code_scope ?_) | (with_reducible refine code_exit ?_) | (with_reducible refine code_ret ?_) | refine regq_to ?_ | (with_reducible refine run_nil ?_) | ((with_reducible refine run_probe ?_); refine runq_more ?_) | (with_reducible refine draw_nil ?_) | ((with_reducible refine draw_probe ?_); (first | refine drawq_more ?_ | refine drawq_as ?_)) | refine code_then ?_ | refine code_else ?_))
      refine run_op fun K hK => ?_; refine calls_to (gdo_mode hM o.d ho1 ho2 o.src o.tk t' hadd) ?_; rintro v A ⟨rfl, Cm', hM', rfl⟩; (try simp only [List.nil_append, List.cons_append]); refine hK _ _ ?_; clear hK K; (repeat (first | (with_reducible refine then_n ?_) | (with_reducible refine then_r ?_) | (with_reducible refine then_e ?_) | (with_reducible refine block_n ?_) | (with_reducible refine block_r ?_) | (with_reducible refine block_e ?_) | refine block_o ?_ | (with_reducible refine scope_n ?_) | (with_reducible refine scope_r ?_) | (with_reducible refine scope_e ?_) | (with_reducible refine code_seq ?_) | (with_reducible refine code_skip ?_) | (with_reducible refine code_label ?_) | (with_reducible refine code_block ?_) | (with_reducible refine code_scope ?_) | (with_reducible refine code_exit ?_) | (with_reducible refine code_ret ?_) | refine regq_to ?_ | (with_reducible refine run_nil ?_) | ((with_reducible refine run_probe ?_); refine runq_more ?_) | (with_reducible refine draw_nil ?_) | ((with_reducible refine draw_probe ?_); (first | refine drawq_more ?_ | refine drawq_as ?_)) | refine code_then ?_ | refine code_else ?_))
      refine run_op fun K hK => ?_; refine calls_to (cuttext_spec o.src 40) ?_; rintro v A ⟨rfl, rfl⟩; (try simp only [List.nil_append, List.cons_append]); refine hK _ _ ?_; clear hK K; (repeat (first | (with_reducible refine then_n ?_) | (with_reducible refine then_r ?_) | (with_reducible refine then_e ?_) | (with_reducible refine block_n ?_) | (with_reducible refine block_r ?_) | (with_reducible refine block_e ?_) | refine block_o ?_ | (with_reducible refine scope_n ?_) | (with_reducible refine scope_r ?_) | (with_reducible refine scope_e ?_) | (with_reducible refine code_seq ?_) | (with_reducible refine code_skip ?_) | (with_reducible refine code_label ?_) | (with_reducible refine code_block ?_) | (with_reducible refine code_scope ?_) | (with_reducible refine code_exit ?_) | (with_reducible refine code_ret ?_) | refine regq_to ?_ | (with_reducible refine run_nil ?_) | ((with_reducible refine run_probe ?_); refine runq_more ?_) | (with_reducible refine draw_nil ?_) | ((with_reducible refine draw_probe ?_); (first | refine drawq_more ?_ | refine drawq_as ?_)) | refine code_then ?_ | refine code_else ?_))
      refine run_op fun K hK => ?_; refine calls_to (gsame_mode hM' (o.src.take 40) (by rw [List.length_take]; omega) t') ?_; rintro v A ⟨rfl, rfl⟩; (try simp only [List.nil_append, List.cons_append]); refine hK _ _ ?_; clear hK K; (repeat (first | (with_reducible refine then_n ?_) | (with_reducible refine then_r ?_) | (with_reducible refine then_e ?_) | (with_reducible refine block_n ?_) | (with_reducible refine block_r ?_) | (with_reducible refine block_e ?_) | refine block_o ?_ | (with_reducible refine scope_n ?_) | (with_reducible refine scope_r ?_) | (with_reducible refine scope_e ?_) | (with_reducible refine code_seq ?_) | (with_reducible refine code_skip ?_) | (with_reducible refine code_label ?_) | (with_reducible refine code_block ?_) | (with_reducible refine code_scope ?_) | (with_reducible refine code_exit ?_) | (with_reducible refine code_ret ?_) | refine regq_to ?_ | (with_reducible refine run_nil ?_) | ((with_reducible refine run_probe ?_); refine runq_more ?_) | (with_reducible refine draw_nil ?_) | ((with_reducible refine draw_probe ?_); (first | refine drawq_more ?_ | refine drawq_as ?_)) | refine code_then ?_ | refine code_else ?_))
      exact again ⟨i + 1, Cm', t', by omega, hM', hadd, rfl, rfl, rfl, rfl⟩
  · (repeat (first | (with_reducible refine then_n ?_) | (with_reducible refine then_r ?_) | (with_reducible refine then_e ?_) | (with_reducible refine block_n ?_) | (with_reducible refine block_r ?_) | (with_reducible refine block_e ?_) | refine block_o ?_ | (with_reducible refine scope_n ?_) | (with_reducible refine scope_r ?_) | (with_reducible refine scope_e ?_) | (with_reducible refine code_seq ?_) | (with_reducible refine code_skip ?_) | (with_reducible refine code_label ?_) | (with_reducible refine code_block ?_) | (with_reducible refine code_scope ?_) | (with_reducible refine code_exit ?_) | (with_reducible refine code_ret ?_) | refine regq_to ?_ | (with_reducible refine run_nil ?_) | ((with_reducible refine run_probe ?_); refine runq_more ?_) | (with_reducible refine draw_nil ?_) | ((with_reducible refine draw_probe ?_); (first | refine drawq_more ?_ | refine drawq_as ?_)) | refine code_then ?_ | refine code_else ?_))
    refine run_op fun K hK => ?_; refine calls_to (gentries1_mode hM) ?_; rintro v A ⟨X, xa, xn, xk, rfl, hxn, rfl⟩; (try simp only [List.nil_append, List.cons_append]); refine hK _ _ ?_; clear hK K
    (repeat (first | (with_reducible refine then_n ?_) | (with_reducible refine then_r ?_) | (with_reducible refine then_e ?_) | (with_reducible refine block_n ?_) | (with_reducible refine block_r ?_) | (with_reducible refine block_e ?_) | refine block_o ?_ | (with_reducible refine scope_n ?_) | (with_reducible refine scope_r ?_) | (with_reducible refine scope_e ?_) | (with_reducible refine code_seq ?_) | (with_reducible refine code_skip ?_) | (with_reducible refine code_label ?_) | (with_reducible refine code_block ?_) | (with_reducible refine code_scope ?_) | (with_reducible refine code_exit ?_) | (with_reducible refine code_ret ?_) | refine regq_to ?_ | (with_reducible refine run_nil ?_) | ((with_reducible refine run_probe ?_); refine runq_more ?_) | (with_reducible refine draw_nil ?_) | ((with_reducible refine draw_probe ?_); (first | refine drawq_more ?_ | refine drawq_as ?_)) | refine code_then ?_ | refine code_else ?_))
    rw [decide_eq_true (show (xn : Int) ≤ 1 by omega)]
    (try (repeat (first | (with_reducible refine then_n ?_) | (with_reducible refine then_r ?_) | (with_reducible refine then_e ?_) | (with_reducible refine block_n ?_) | (with_reducible refine block_r ?_) | (with_reducible refine block_e ?_) | refine block_o ?_ | (with_reducible refine scope_n ?_) | (with_reducible refine scope_r ?_) | (with_reducible refine scope_e ?_) | (with_reducible refine code_seq ?_) | (with_reducible refine code_skip ?_) | (with_reducible refine code_label ?_) | (with_reducible refine code_block ?_) | (with_reducible refine code_scope ?_) | (with_reducible refine code_exit ?_) | (with_reducible refine code_ret ?_) | refine regq_to ?_ | (with_reducible refine run_nil ?_) | ((with_reducible refine run_probe ?_); refine runq_more ?_) | (with_reducible refine draw_nil ?_) | ((with_reducible refine draw_probe ?_); (first | refine drawq_more ?_ | refine drawq_as ?_)) | refine code_then ?_ | refine code_else ?_)))
    refine back_tmp [C] ?_; exact ⟨rfl, rfl⟩

end Go.Proofs.Ytjagaagemgppcaa
