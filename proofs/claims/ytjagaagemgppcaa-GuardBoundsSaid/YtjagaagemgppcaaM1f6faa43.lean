/- Texts in a row: the walk's rules and contracts, as each says. Conditions: as each says. -/
import Derived.Test.YtjagaagemgppcaaM9cd68a0c
import Derived.Test.YtjagaagemgppcaaM432aa544
/- The statement GuardFull. Conditions: as each says. -/
set_option linter.unusedSimpArgs false
set_option linter.unusedVariables false
namespace Go.Proofs.Ytjagaagemgppcaa
open Go Go.Ost Go.Tab Go.Span

def nm (j : Nat) : List UInt8 := [UInt8.ofNat (97 + j)]
def nmV : List Value := [.string (str [97]), .string (str [98]), .string (str [99]), .string (str [100]), .string (str [101])]
theorem nm_at (j : Nat) (h : j < 5) : nmV[j]? = some (.string (str (nm j))) := by
  match j, h with
  | 0, _ => rfl
  | 1, _ => rfl
  | 2, _ => rfl
  | 3, _ => rfl
  | 4, _ => rfl
  | j + 5, h => omega
def zz : List UInt8 := [122]
/-- Those that tried at ten, and failed (or did not). -/
def ent (fl : Bool) (j : Nat) : List UInt8 × V := (nm j, if fl then ⟨nm j, 1, 10, 12⟩ else ⟨nm j, 0, 10, 10⟩)
def ents (fl : Bool) (j : Nat) : Es := (List.range j).map (ent fl)
theorem ents_len (fl : Bool) (j : Nat) : (ents fl j).length = j := by simp [ents]
theorem ents_succ (fl : Bool) (j : Nat) : ents fl (j + 1) = ents fl j ++ [ent fl j] := by simp [ents, List.range_succ]
theorem ents_ok (fl : Bool) (j : Nat) : EOk (ents fl j) := by
  intro x hx
  obtain ⟨i, _, rfl⟩ := List.mem_map.1 hx
  cases fl
  · exact ⟨rfl, by show (0 : Int) ≤ 10; omega, by show (0 : Int) ≤ 0; omega, by show (0 : Int) ≤ 60; omega⟩
  · exact ⟨rfl, by show (0 : Int) ≤ 12; omega, by show (0 : Int) ≤ 1; omega, by show (1 : Int) ≤ 60; omega⟩
theorem ents_til (fl : Bool) (j : Nat) : ∀ x ∈ ents fl j, x.2.til = if fl then 12 else 10 := by
  intro x hx
  obtain ⟨i, _, rfl⟩ := List.mem_map.1 hx
  cases fl <;> rfl
theorem mget_ents (fl : Bool) (j : Nat) (h : j < 5) : mget (ents fl j) (nm j) = none := by
  match j, h with
  | 0, _ => cases fl <;> rfl
  | 1, _ => cases fl <;> rfl
  | 2, _ => cases fl <;> rfl
  | 3, _ => cases fl <;> rfl
  | 4, _ => cases fl <;> rfl
  | j + 5, h => omega
theorem mget_z (fl : Bool) (j : Nat) (h : j ≤ 5) : mget (ents fl j) zz = none := by
  match j, h with
  | 0, _ => cases fl <;> rfl
  | 1, _ => cases fl <;> rfl
  | 2, _ => cases fl <;> rfl
  | 3, _ => cases fl <;> rfl
  | 4, _ => cases fl <;> rfl
  | 5, _ => cases fl <;> rfl
  | j + 6, h => omega
theorem mget_a (fl : Bool) (j : Nat) (h1 : 1 ≤ j) : mget (ents fl j) [97] = some (if fl then ⟨[97], 1, 10, 12⟩ else ⟨[97], 0, 10, 10⟩) := by
  obtain ⟨j, rfl⟩ : ∃ i, j = i + 1 := ⟨j - 1, by omega⟩
  unfold ents
  rw [List.range_succ_eq_map, List.map_cons]
  cases fl <;> rfl
theorem nm_ne (j : Nat) : nm j ≠ [] := by simp [nm]
theorem nm_len (j : Nat) : (nm j).length ≤ 32 := by simp [nm]

theorem known_none {es : Es} {s : List UInt8} (h1 : s ≠ []) (h2 : s.length ≤ 32) (hm : mget es s = none) : knownE es s = (6, v0) := by
  unfold knownE; rw [if_neg h1, if_neg (by omega), hm]
theorem known_some {es : Es} {s : List UInt8} {v : V} (h1 : s ≠ []) (h2 : s.length ≤ 32) (hm : mget es s = some v) : knownE es s = (0, v) := by
  unfold knownE; rw [if_neg h1, if_neg (by omega), hm]
theorem enter_put {c : Cfg} {es : Es} {s : List UInt8} {now : Int} (h1 : s ≠ []) (h2 : s.length ≤ 32) (hm : mget es s = none) (hl : es.length < c.room) : enterE c es s now = (0, es ++ [(s, ⟨s, 0, now, now⟩)]) := by
  unfold enterE
  rw [known_none h1 h2 hm, if_neg (by simp), if_neg (by simp)]
  unfold roomE
  rw [if_neg (by omega), put_of_none hm, if_neg (by omega)]
theorem enter_full {c : Cfg} {es : Es} {s : List UInt8} {now : Int} (h1 : s ≠ []) (h2 : s.length ≤ 32) (hm : mget es s = none) (hl : es.length = c.room) (ho : ∀ x ∈ es, overB c now x = false) : enterE c es s now = (8, es) := by
  have hsw : (sweepE c es now).2 = es := by
    show es.filter (fun x => !overB c now x) = es
    rw [List.filter_eq_self]
    intro x hx; rw [ho x hx]; rfl
  unfold enterE
  rw [known_none h1 h2 hm, if_neg (by simp), if_neg (by simp)]
  unfold roomE
  rw [if_pos hl, hsw, put_of_none hm, if_pos (by omega)]
theorem enter_over {c : Cfg} {es : Es} {s : List UInt8} {now : Int} (hc : 1 ≤ c.room) (h1 : s ≠ []) (h2 : s.length ≤ 32) (hm : mget es s = none) (hl : es.length = c.room) (ho : ∀ x ∈ es, overB c now x = true) : enterE c es s now = (0, [(s, ⟨s, 0, now, now⟩)]) := by
  have hsw : (sweepE c es now).2 = [] := by
    show es.filter (fun x => !overB c now x) = []
    rw [List.filter_eq_nil_iff]
    intro x hx; rw [ho x hx]; simp
  unfold enterE
  rw [known_none h1 h2 hm, if_neg (by simp), if_neg (by simp)]
  unfold roomE
  rw [if_pos hl, hsw, put_of_none rfl, if_neg (by simp; omega)]
  rfl
theorem enter_known {c : Cfg} {es : Es} {s : List UInt8} {v : V} {now : Int} (h1 : s ≠ []) (h2 : s.length ≤ 32) (hm : mget es s = some v) (h : ¬ now < v.til) : enterE c es s now = (0, es) := by
  unfold enterE
  rw [known_some h1 h2 hm, if_neg (by simp), if_pos rfl, if_neg h]
theorem mput_end {s : List UInt8} {v u : V} : ∀ {es : Es}, mget es s = none → mput (es ++ [(s, v)]) s u = es ++ [(s, u)]
  | [], _ => by simp [mput]
  | (k, w) :: es, h => by
    simp only [mget] at h
    split at h
    · cases h
    · rename_i hne
      simp only [List.cons_append, mput]
      rw [if_neg hne, mput_end h]
theorem mget_end {s : List UInt8} {v : V} : ∀ {es : Es}, mget es s = none → mget (es ++ [(s, v)]) s = some v
  | [], _ => by simp [mget]
  | (k, w) :: es, h => by
    simp only [mget] at h
    split at h
    · cases h
    · rename_i hne
      simp only [List.cons_append, mget]
      rw [if_neg hne, mget_end h]
theorem fail_end {c : Cfg} {es : Es} {s : List UInt8} {v : V} {now : Int} (h1 : s ≠ []) (h2 : s.length ≤ 32) (hm : mget es s = none) : failE c (es ++ [(s, v)]) s now = (0, es ++ [(s, failV c v now)]) := by
  unfold failE
  rw [known_some h1 h2 (mget_end hm), if_pos rfl, mput_end hm]
theorem eok_end {es : Es} {s : List UInt8} {v : V} (h : EOk es) (h1 : EOk [(s, v)]) : EOk (es ++ [(s, v)]) := fun x hx => by
  rcases List.mem_append.1 hx with hx | hx
  · exact h x hx
  · exact h1 x hx
theorem failV_ten (r : Nat) (h : Int) (s : List UInt8) : failV ⟨r, 1, 2, h⟩ ⟨s, 0, 10, 10⟩ 10 = ⟨s, 1, 10, 12⟩ := by
  show (⟨s, minI (0 + 1) 60, 10, add 10 (wt 1 2 (minI (0 + 1) 60).toNat)⟩ : V) = _
  rw [show minI (0 + 1) 60 = 1 from rfl, show add 10 (wt 1 2 (1 : Int).toNat) = 12 from by kernel_rfl]
def enB (fl : Bool) : Int := if fl then 12 else 10
theorem ents_not (fl : Bool) (j r : Nat) (h now : Int) (h0 : 0 ≤ h) (h1 : h ≤ 1000) (hn : now < enB fl + h) : ∀ x ∈ ents fl j, overB ⟨r, 1, 2, h⟩ now x = false := by
  intro x hx
  unfold overB
  rw [ents_til fl j x hx]
  apply decide_eq_false
  show ¬ add (enB fl) h ≤ now
  rw [add_eq _ _ (by cases fl <;> decide) h0 (by cases fl <;> simp only [enB] <;> simp <;> omega)]
  omega
theorem ents_over (fl : Bool) (j r : Nat) (h now : Int) (h0 : 0 ≤ h) (h1 : h ≤ 1000) (hn : enB fl + h ≤ now) : ∀ x ∈ ents fl j, overB ⟨r, 1, 2, h⟩ now x = true := by
  intro x hx
  unfold overB
  rw [ents_til fl j x hx]
  apply decide_eq_true
  show add (enB fl) h ≤ now
  rw [add_eq _ _ (by cases fl <;> decide) h0 (by cases fl <;> simp only [enB] <;> simp <;> omega)]
  omega
theorem zz_ne : zz ≠ [] := by simp [zz]
theorem zz_len : zz.length ≤ 32 := by simp [zz]

end Go.Proofs.Ytjagaagemgppcaa

/- Guards' scripts; who waits keeps waiting whatever others do; how often one source fails. Conditions: as each says. -/
set_option linter.unusedSimpArgs false
set_option linter.unusedVariables false
namespace Go.Proofs.Ytjagaagemgppcaa
open Go Go.Ost Go.Tab Go.Span

/-- A call, as a script has it. -/
structure GOp where
  d : Int
  src : List UInt8
  tk : Int
def encG (o : GOp) : List Value := [.int .u8 o.d, .string (str o.src), .int .u32 o.tk]
theorem encG_len (o : GOp) : (encG o).length = 3 := rfl
def GOp.Ok (o : GOp) : Prop := 0 ≤ o.d ∧ o.d < 256 ∧ 0 ≤ o.tk ∧ o.tk < 4294967296
theorem gops_of {C : Chunk} : ∀ rows : List (List Value), (∀ r ∈ rows, RowW C [.int .u8, .str, .int .u32] r) → ∃ ops : List GOp, rows = ops.map encG ∧ ∀ o ∈ ops, o.Ok
  | [], _ => ⟨[], rfl, by simp⟩
  | r :: rows, h => by
    obtain ⟨ops, e, ho⟩ := gops_of rows fun x hx => h x (List.mem_cons_of_mem _ hx)
    have hr := h r (List.mem_cons_self ..)
    obtain ⟨x, y, z, rfl⟩ : ∃ x y z, r = [x, y, z] := by
      rcases r with _ | ⟨x, _ | ⟨y, _ | ⟨z, _ | ⟨w, r⟩⟩⟩⟩
      · exact hr.elim
      · exact hr.2.elim
      · exact hr.2.2.elim
      · exact ⟨x, y, z, rfl⟩
      · exact hr.2.2.2.elim
    obtain ⟨⟨d, rfl, hd⟩, ⟨k, rfl, _⟩, ⟨v, rfl, hv⟩, _⟩ := hr
    simp only [Lit.wf, Bool.and_eq_true, decide_eq_true_eq] at hd hv
    have hd2 : 0 ≤ d ∧ d ≤ 255 := ⟨hd.1, hd.2⟩
    have hv2 : 0 ≤ v ∧ v ≤ 4294967295 := ⟨hv.1, hv.2⟩
    refine ⟨⟨d, k, v⟩ :: ops, by rw [e]; rfl, fun o ho' => ?_⟩
    rcases List.mem_cons.1 ho' with rfl | ho'
    · exact ⟨hd2.1, by show d < 256; omega, hv2.1, by show v < 4294967296; omega⟩
    · exact ho o ho'
structure Script (C : Chunk) (v : Value) (ops : List GOp) : Prop where
  out : ∃ a cap, v = .slice a ops.length cap ∧ ops.length ≤ cap ∧ cap ≤ maxLen ∧ Rd 3 [C] a ops.length (ops.flatMap encG)
  ok : ∀ o ∈ ops, o.Ok
theorem script_of {C : Chunk} {v : Value} {rows : List (List Value)} (h : RowsK C [.int .u8, .str, .int .u32] v rows) : ∃ ops, Script C v ops := by
  obtain ⟨a, cap, rfl, h1, h2, h3, h4⟩ := h
  obtain ⟨ops, rfl, ho⟩ := gops_of rows h4
  refine ⟨ops, ⟨a, cap, by simp, by simpa using h1, h2, ?_⟩, ho⟩
  simpa [List.flatMap_def] using h3

/-! ### Others leave one alone -/

theorem mget_app {s k : List UInt8} {v : V} (h : k ≠ s) : ∀ {es : Es}, mget (es ++ [(s, v)]) k = mget es k
  | [] => by simp [mget, h]
  | (q, w) :: es => by
    simp only [List.cons_append, mget]
    split
    · rfl
    · exact mget_app h
theorem mget_put_ne {s k : List UInt8} {v : V} (h : k ≠ s) : ∀ {es : Es}, mget (mput es s v) k = mget es k
  | [] => by simp [mput, mget, h]
  | (q, w) :: es => by
    simp only [mput]
    split
    · rename_i hq
      subst hq
      simp only [mget]
      rw [if_neg h, if_neg h]
    · simp only [mget]
      split
      · rfl
      · exact mget_put_ne h
theorem mget_put_eq {s : List UInt8} {v : V} : ∀ {es : Es}, mget (mput es s v) s = some v
  | [] => by simp [mput, mget]
  | (q, w) :: es => by
    simp only [mput]
    split
    · simp [mget]
    · rename_i hq
      simp only [mget]
      rw [if_neg hq]
      exact mget_put_eq
theorem sweep_long {c : Cfg} {es : Es} (he : EOk es) (hh : c.hold = 1099511627776) {now : Int} (hn : now < 1099511627776) : (sweepE c es now).2 = es := by
  show es.filter (fun x => !overB c now x) = es
  rw [List.filter_eq_self]
  intro x hx
  have ht := (he x hx).2.1
  have h1 := tk_bd x.2.til ht
  unfold overB
  rw [hh, decide_eq_false]
  · rfl
  · unfold add
    have : tk (1099511627776 : Int) = 1099511627776 := by kernel_rfl
    rw [this]
    unfold tk top
    split <;> split <;> omega
theorem enter_keep {c : Cfg} {es : Es} (he : EOk es) (hh : c.hold = 1099511627776) {now : Int} (hn : now < 1099511627776) {s k : List UInt8} (h : k ≠ s) : mget (enterE c es s now).2 k = mget es k := by
  have hr : roomE c es now = es := by unfold roomE; split
                                      · exact sweep_long he hh hn
                                      · rfl
  unfold enterE
  split
  · rfl
  · split
    · split <;> rfl
    · rw [hr]
      unfold putE
      split
      · rfl
      · split
        · rfl
        · exact mget_app h
theorem fail_keep {c : Cfg} {es : Es} {now : Int} {s k : List UInt8} (h : k ≠ s) : mget (failE c es s now).2 k = mget es k := by
  unfold failE
  split
  · exact mget_put_ne h
  · rfl
theorem fail_known {c : Cfg} {es : Es} {now : Int} {s : List UInt8} {v : V} (h1 : s ≠ []) (h2 : s.length ≤ 32) (hm : mget es s = some v) : failE c es s now = (0, mput es s (failV c v now)) := by
  unfold failE
  rw [known_some h1 h2 hm, if_pos rfl]
theorem enter_locked {c : Cfg} {es : Es} {s : List UInt8} {v : V} {now : Int} (h1 : s ≠ []) (h2 : s.length ≤ 32) (hm : mget es s = some v) (h : now < v.til) : enterE c es s now = (11, es) := by
  unfold enterE
  rw [known_some h1 h2 hm, if_neg (by simp), if_pos rfl, if_pos h]
theorem lock_known {es : Es} {s : List UInt8} {v : V} (h1 : s ≠ []) (h2 : s.length ≤ 32) (hm : mget es s = some v) (now : Int) : lockE es s now = decide (now < v.til) := by
  unfold lockE
  rw [known_some h1 h2 hm, if_pos rfl]

def me : List UInt8 := [109, 101]
theorem me_ne : me ≠ [] := by decide
theorem me_len : me.length ≤ 32 := by decide
def oth (s : List UInt8) : List UInt8 := 111 :: s.take 20
theorem oth_ne (s : List UInt8) : me ≠ oth s := by simp [me, oth]

/-- What is known of the one that waits: behind k failures, the last of which was at t. -/
structure Waits (c : Cfg) (es : Es) (k : Nat) (t : Int) : Prop where
  ok : EOk es
  me : (k = 0 ∧ es = []) ∨ ∃ v, mget es me = some v ∧ v.fails = k ∧ v.til = t
theorem Waits.enter {c : Cfg} (hc : c.Ok) (hh : c.hold = 1099511627776) {es : Es} {k : Nat} {t : Int} (h : Waits c es k t) (ht : 0 ≤ t) : ∃ es' v, enterE c es Proofs.Ytjagaagemgppcaa.me t = (0, es') ∧ EOk es' ∧ mget es' Proofs.Ytjagaagemgppcaa.me = some v ∧ v.fails = k ∧ v.til = t := by
  rcases h.me with ⟨rfl, rfl⟩ | ⟨v, hm, hf, hv⟩
  · exact ⟨_, ⟨Proofs.Ytjagaagemgppcaa.me, 0, t, t⟩, enter_new hc me_ne me_len t, eok_one rfl ht (by show (0 : Int) ≤ 0; omega) (by show (0 : Int) ≤ 60; omega), by simp [mget], rfl, rfl⟩
  · exact ⟨es, v, enter_known me_ne me_len hm (by omega), h.ok, hm, hf, hv⟩
theorem fail_wait {c : Cfg} (hc : c.Ok) {v : V} {k : Nat} {t : Int} (hf : v.fails = k) (hk : k < 60) (ht : 0 ≤ t) (ht2 : t + c.most ≤ 1099511627776) : (failV c v t).fails = (k + 1 : Nat) ∧ (failV c v t).til = t + wt c.base c.most (k + 1) := by
  have hb := hc.b1
  have hm := hc.m1
  have hm2 := hc.m2
  have e : minI (v.fails + 1) 60 = (k + 1 : Nat) := by unfold minI; split <;> omega
  have hw := wt_bd c.base c.most (by omega) (by omega) (k + 1)
  rw [tk_self hm2] at hw
  refine ⟨e, ?_⟩
  show add t (wt c.base c.most (minI (v.fails + 1) 60).toNat) = _
  rw [e, Int.toNat_natCast, add_eq _ _ ht hw.1 (by omega)]

/-! ### One source alone, and the bound -/

structure Fails (c : Cfg) (es : Es) (n : Nat) (now : Int) : Prop where
  ok : EOk es
  one : (n = 0 ∧ es = []) ∨ ∃ v, es = [(s0, v)] ∧ v.fails = min n 60 ∧ 1 ≤ n ∧ sm c.base c.most n ≤ v.til ∧ sm c.base c.most (n - 1) ≤ now
theorem Fails.low {c : Cfg} (hc : c.Ok) {es : Es} {n : Nat} {now : Int} (h : Fails c es n now) (hn : 0 ≤ now) : n = 0 ∨ sm c.base c.most (n - 1) ≤ now := by
  rcases h.one with ⟨h, _⟩ | ⟨v, _, _, _, _, h⟩
  · exact .inl h
  · exact .inr h
theorem Fails.enter {c : Cfg} (hc : c.Ok) {es : Es} {n : Nat} {now t : Int} (h : Fails c es n now) (hn : 0 ≤ now) (hnt : now ≤ t) (ht2 : t + c.most ≤ 1099511627776) :
    (enterE c es s0 t = (11, es) ∧ Fails c es n t) ∨ ∃ v, enterE c es s0 t = (0, [(s0, v)]) ∧ EOk [(s0, v)] ∧ Fails c [(s0, failV c v t)] (n + 1) t := by
  have hb := hc.b1
  have hm := hc.m1
  have hm2 := hc.m2
  have key : ∀ v : V, EOk [(s0, v)] → v.fails = min n 60 → sm c.base c.most n ≤ t → Fails c [(s0, failV c v t)] (n + 1) t := by
    intro v hv hf hs
    have hok := eok_fail hc hv s0 t (by omega)
    rw [fail_one (by decide) (by decide)] at hok
    refine ⟨hok, .inr ⟨_, rfl, ?_, by omega, ?_, by simpa using hs⟩⟩
    · show minI (v.fails + 1) 60 = _
      unfold minI; split <;> omega
    · have e : wt c.base c.most (minI (v.fails + 1) 60).toNat = wt c.base c.most (n + 1) := by
        by_cases h60 : n + 1 ≤ 60
        · rw [show (minI (v.fails + 1) 60).toNat = n + 1 from by unfold minI; split <;> omega]
        · rw [show (minI (v.fails + 1) 60).toNat = 60 from by unfold minI; split <;> omega, wt_cap _ _ (by omega) 60 (by omega), wt_cap _ _ (by omega) (n + 1) (by omega)]
      have hw := wt_bd c.base c.most (by omega) (by omega) (n + 1)
      rw [tk_self hm2] at hw
      show _ ≤ add t (wt c.base c.most (minI (v.fails + 1) 60).toNat)
      rw [e, add_eq _ _ (by omega) hw.1 (by omega)]
      simp only [sm]; omega
  rcases h.one with ⟨rfl, rfl⟩ | ⟨v, rfl, hf, h1, hs, hl⟩
  · have hv : EOk [(s0, (⟨s0, 0, t, t⟩ : V))] := eok_one rfl (by show (0 : Int) ≤ t; omega) (by show (0 : Int) ≤ 0; omega) (by show (0 : Int) ≤ 60; omega)
    exact .inr ⟨_, enter_new hc (by decide) (by decide) t, hv, key _ hv rfl (by simp only [sm]; omega)⟩
  · by_cases hlt : t < v.til
    · refine .inl ⟨enter_locked (by decide) (by decide) (by simp [mget]) hlt, h.ok, .inr ⟨v, rfl, hf, h1, hs, by omega⟩⟩
    · exact .inr ⟨v, enter_one (by decide) (by decide) v t hlt, h.ok, key v h.ok hf (by omega)⟩
theorem Fails.bound {c : Cfg} (hc : c.Ok) {es : Es} {n : Nat} {now u : Int} (h : Fails c es n now) (hn : 0 ≤ now) (hn2 : now + 1 ≤ 1099511627776) (hu : IsBound (now + 1) c.base c.most u) : (n : Int) ≤ u := by
  have hb := hc.b1
  have hb2 := hc.b2
  have hm := hc.m1
  have hm2 := hc.m2
  have e1 : mx (tk c.base) = c.base := by rw [tk_self hb2]; unfold mx; split <;> omega
  have e2 : mx (tk c.most) = c.most := by rw [tk_self hm2]; unfold mx; split <;> omega
  obtain ⟨k, rfl, hk⟩ := hu.2 (by rw [tk_self hn2]; omega)
  rw [e1, e2, tk_self hn2] at hk
  rcases h.low hc hn with rfl | hs
  · omega
  · rcases Nat.lt_or_ge (k + 1) n with hlt | hge
    · have := sm_mono c.base c.most (by omega) (by omega) (k + 1) (n - 1 - (k + 1))
      rw [show k + 1 + (n - 1 - (k + 1)) = n - 1 from by omega] at this
      have := hk.2
      omega
    · omega

end Go.Proofs.Ytjagaagemgppcaa

/- The statement GuardBounds. Conditions: as each says. -/
set_option linter.unusedSimpArgs false
set_option linter.unusedVariables false
namespace Go.Proofs.Ytjagaagemgppcaa
open Go Go.Ost Go.Tab Go.Span

theorem row_ints {C : Chunk} {k : IntKind} {v : Value} {zs : List Int} (h : Ost.Row C k v zs) : (∀ z ∈ zs, (Lit.int k z).wf = true) ∧ ∃ a cap, v = .slice a zs.length cap ∧ zs.length ≤ cap ∧ cap ≤ maxLen ∧ Rd 1 [C] a zs.length (zs.map (Value.int k)) := by
  obtain ⟨hz, a, len, cap, rfl, h1, h2, rfl, h3⟩ := h
  refine ⟨hz, a, cap, rfl, h1, h2, ⟨by simp, fun hne => ?_⟩⟩
  obtain ⟨b, o, cs, e, m, rfl, hm, hc⟩ := h3 (by
    rcases zs with _ | ⟨z, zs⟩
    · simp at hne
    · simp)
  refine ⟨b, o, cs, e, m, rfl, .here hm, fun i hi => ?_⟩
  rw [List.length_map] at hi
  rw [List.getElem?_map, List.getElem?_eq_getElem hi, hc i hi, List.getD, List.getElem?_eq_getElem hi]
  rfl

set_option maxHeartbeats 2000000 in
theorem GuardBounds_law (C : Chunk) (_ : True) (bb : Int) (hbb : (Lit.int .u8 bb).wf = true) (mm : Int) (hmm : (Lit.int .u8 mm).wf = true) (v : Value) (zs : List Int) (hv : Ost.Row C .u8 v zs) :
    Meets Try.prog 6 [.int .u8 bb, .int .u8 mm, v] [C] fun v A => v = .bool true ∧ A = [C] := by
  have hbb := wf_u8 hbb
  have hmm := wf_u8 hmm
  obtain ⟨hz, a, cap, rfl, hcap, hmax, hrd⟩ := row_ints hv
  refine spec_intro Try.func6 rfl (by kernel_rfl) (by rw [Try.ntmps6]; simp) fun F => ?_; rw [Try.ntmps6, Try.results6]
  (repeat (first | (with_reducible refine then_n ?_) | (with_reducible refine then_r ?_) | (with_reducible refine then_e ?_) | (with_reducible refine block_n ?_) | (with_reducible refine block_r ?_) | (with_reducible refine block_e ?_) | refine block_o ?_ | (with_reducible refine scope_n ?_) | (with_reducible refine scope_r ?_) | (with_reducible refine scope_e ?_) | (with_reducible refine code_seq ?_) | (with_reducible refine code_skip ?_) | (with_reducible refine code_label ?_) | (with_reducible refine code_block ?_) | (with_reducible refine code_scope ?_) | (with_reducible refine code_exit ?_) | (with_reducible refine code_ret ?_) | refine regq_to ?_ | (with_reducible refine run_nil ?_) | ((with_reducible refine run_probe ?_); refine runq_more ?_) | (with_reducible refine draw_nil ?_) | ((with_reducible refine draw_probe ?_); (first | refine drawq_more ?_ | refine drawq_as ?_)) | refine code_then ?_ | refine code_else ?_))
  refine run_op fun K hK => ?_; refine calls_to (awake_spec) ?_; rintro v A ⟨rfl, rfl⟩; (try simp only [List.nil_append, List.cons_append]); refine hK _ _ ?_; clear hK K; (repeat (first | (with_reducible refine then_n ?_) | (with_reducible refine then_r ?_) | (with_reducible refine then_e ?_) | (with_reducible refine block_n ?_) | (with_reducible refine block_r ?_) | (with_reducible refine block_e ?_) | refine block_o ?_ | (with_reducible refine scope_n ?_) | (with_reducible refine scope_r ?_) | (with_reducible refine scope_e ?_) | (with_reducible refine code_seq ?_) | (with_reducible refine code_skip ?_) | (with_reducible refine code_label ?_) | (with_reducible refine code_block ?_) | (with_reducible refine code_scope ?_) | (with_reducible refine code_exit ?_) | (with_reducible refine code_ret ?_) | refine regq_to ?_ | (with_reducible refine run_nil ?_) | ((with_reducible refine run_probe ?_); refine runq_more ?_) | (with_reducible refine draw_nil ?_) | ((with_reducible refine draw_probe ?_); (first | refine drawq_more ?_ | refine drawq_as ?_)) | refine code_then ?_ | refine code_else ?_))
  obtain ⟨b, hb⟩ : ∃ b : Int, 1 + bb % 20 = b := ⟨_, rfl⟩
  obtain ⟨m, hm⟩ : ∃ m : Int, 1 + mm = m := ⟨_, rfl⟩
  rw [hb, hm]
  obtain ⟨c, hc⟩ : ∃ c : Cfg, c = ⟨3, b, m, 1099511627776⟩ := ⟨_, rfl⟩
  have hcr : c.room = 3 := by rw [hc]
  have hcb : c.base = b := by rw [hc]
  have hcm : c.most = m := by rw [hc]
  have hch : c.hold = 1099511627776 := by rw [hc]
  have hok : c.Ok := ⟨by rw [hcr]; omega, by rw [hcr]; omega, by rw [hcb]; omega, by rw [hcb]; omega, by rw [hcm]; omega, by rw [hcm]; omega, by rw [hch]; omega, by rw [hch]; omega⟩
  have hh : 0 ≤ c.hold := by rw [hch]; omega
  refine run_op fun K hK => ?_; rw [build_struct (ps := [(0, .int .i64 3), (1, .int .u64 b), (2, .int .u64 m), (3, .int .u64 1099511627776)]) (cs := #[.int .i64 3, .int .u64 b, .int .u64 m, .int .u64 1099511627776]) rfl]; refine hK _ _ ?_; clear hK K
  have hnew := gnew_yes c hok
  rw [hcr, hcb, hcm, hch] at hnew
  refine run_op fun K hK => ?_; refine calls_to (hnew) ?_; rintro v A ⟨g, tb, T, rfl, hT, rfl⟩; (try simp only [List.nil_append, List.cons_append]); refine hK _ _ ?_; clear hK K; (repeat (first | (with_reducible refine then_n ?_) | (with_reducible refine then_r ?_) | (with_reducible refine then_e ?_) | (with_reducible refine block_n ?_) | (with_reducible refine block_r ?_) | (with_reducible refine block_e ?_) | refine block_o ?_ | (with_reducible refine scope_n ?_) | (with_reducible refine scope_r ?_) | (with_reducible refine scope_e ?_) | (with_reducible refine code_seq ?_) | (with_reducible refine code_skip ?_) | (with_reducible refine code_label ?_) | (with_reducible refine code_block ?_) | (with_reducible refine code_scope ?_) | (with_reducible refine code_exit ?_) | (with_reducible refine code_ret ?_) | refine regq_to ?_ | (with_reducible refine run_nil ?_) | ((with_reducible refine run_probe ?_); refine runq_more ?_) | (with_reducible refine draw_nil ?_) | ((with_reducible refine draw_probe ?_); (first | refine drawq_more ?_ | refine drawq_as ?_)) | refine code_then ?_ | refine code_else ?_))
  rw [← hcr] at hT
  refine loop_i (fun q D L S => ∃ (i : Nat) (T : Chunk) (es : Es) (t : Int) (n : Nat), i ≤ zs.length ∧ IsTab T tb c.room es ∧ Fails c es n t ∧ 0 ≤ t ∧ t ≤ i * 256 ∧ i ≤ 200 ∧ n ≤ i ∧ q = zs.length - i ∧ D = [] ∧
    L = [(36, .int .i64 i), (35, .int .i64 zs.length), (34, .slice a zs.length cap), (7, .int .u64 b), (8, .int .u64 m), (9, .pointer (some ⟨g, 0, none⟩)), (11, .int .u64 t), (12, .int .u64 n)] ∧ S = [gB g c tb, T, F, C])
    ⟨0, T, [], 0, 0, by omega, hT, ⟨eok_nil, .inl ⟨rfl, rfl⟩⟩, by omega, by omega, by omega, by omega, rfl, rfl, rfl, rfl⟩ ?_
  rintro q D L S ⟨i, T, es, t, n, hi, hT, hF, ht0, ht1, hi2, hni, rfl, rfl, rfl, rfl⟩
  (repeat (first | (with_reducible refine then_n ?_) | (with_reducible refine then_r ?_) | (with_reducible refine then_e ?_) | (with_reducible refine block_n ?_) | (with_reducible refine block_r ?_) | (with_reducible refine block_e ?_) | refine block_o ?_ | (with_reducible refine scope_n ?_) | (with_reducible refine scope_r ?_) | (with_reducible refine scope_e ?_) | (with_reducible refine code_seq ?_) | (with_reducible refine code_skip ?_) | (with_reducible refine code_label ?_) | (with_reducible refine code_block ?_) | (with_reducible refine code_scope ?_) | (with_reducible refine code_exit ?_) | (with_reducible refine code_ret ?_) | refine regq_to ?_ | (with_reducible refine run_nil ?_) | ((with_reducible refine run_probe ?_); refine runq_more ?_) | (with_reducible refine draw_nil ?_) | ((with_reducible refine draw_probe ?_); (first | refine drawq_more ?_ | refine drawq_as ?_)) | refine code_then ?_ | refine code_else ?_))
  refine if_d (fun hc => ?_) (fun hc => ?_)
  · have hil : i < zs.length := by omega
    have hx : (zs.map (Value.int .u8))[i]? = some (.int .u8 zs[i]) := by rw [List.getElem?_map, List.getElem?_eq_getElem hil]; rfl
    have hz1 := wf_u8 (hz _ (List.getElem_mem hil))
    generalize zs[i] = z at *
    (repeat (first | (with_reducible refine then_n ?_) | (with_reducible refine then_r ?_) | (with_reducible refine then_e ?_) | (with_reducible refine block_n ?_) | (with_reducible refine block_r ?_) | (with_reducible refine block_e ?_) | refine block_o ?_ | (with_reducible refine scope_n ?_) | (with_reducible refine scope_r ?_) | (with_reducible refine scope_e ?_) | (with_reducible refine code_seq ?_) | (with_reducible refine code_skip ?_) | (with_reducible refine code_label ?_) | (with_reducible refine code_block ?_) | (with_reducible refine code_scope ?_) | (with_reducible refine code_exit ?_) | (with_reducible refine code_ret ?_) | refine regq_to ?_ | (with_reducible refine run_nil ?_) | ((with_reducible refine run_probe ?_); refine runq_more ?_) | (with_reducible refine draw_nil ?_) | ((with_reducible refine draw_probe ?_); (first | refine drawq_more ?_ | refine drawq_as ?_)) | refine code_then ?_ | refine code_else ?_))
    refine if_d (fun hc => ?_) (fun hc => ?_)
    · (repeat (first | (with_reducible refine then_n ?_) | (with_reducible refine then_r ?_) | (with_reducible refine then_e ?_) | (with_reducible refine block_n ?_) | (with_reducible refine block_r ?_) | (with_reducible refine block_e ?_) | refine block_o ?_ | (with_reducible refine scope_n ?_) | (with_reducible refine scope_r ?_) | (with_reducible refine scope_e ?_) | (with_reducible refine code_seq ?_) | (with_reducible refine code_skip ?_) | (with_reducible refine code_label ?_) | (with_reducible refine code_block ?_) | (with_reducible refine code_scope ?_) | (with_reducible refine code_exit ?_) | (with_reducible refine code_ret ?_) | refine regq_to ?_ | (with_reducible refine run_nil ?_) | ((with_reducible refine run_probe ?_); refine runq_more ?_) | (with_reducible refine draw_nil ?_) | ((with_reducible refine draw_probe ?_); (first | refine drawq_more ?_ | refine drawq_as ?_)) | refine code_then ?_ | refine code_else ?_))
      refine back_tmp [C] ?_; exact ⟨rfl, rfl⟩
    · have hi3 : i < 200 := by omega
      have hmo : ∀ d : Int, 0 ≤ d → d ≤ 255 → t + d + c.most ≤ 1099511627776 := fun d h0 h1 => by rw [hcm]; omega
      (with_reducible refine code_skip ?_); (with_reducible refine then_n ?_)
      (with_reducible refine code_seq ?_)
      refine then_mid (fun D L S => ∃ (t' : Int), t ≤ t' ∧ t' ≤ t + 255 ∧ D = [] ∧ L = [(36, .int .i64 i), (35, .int .i64 zs.length), (34, .slice a zs.length cap), (7, .int .u64 b), (8, .int .u64 m), (9, .pointer (some ⟨g, 0, none⟩)), (11, .int .u64 t'), (12, .int .u64 n)] ∧ S = [gB g c tb, T, F, C]) ?_ ?_
      · (repeat (first | (with_reducible refine then_n ?_) | (with_reducible refine then_r ?_) | (with_reducible refine then_e ?_) | (with_reducible refine block_n ?_) | (with_reducible refine block_r ?_) | (with_reducible refine block_e ?_) | refine block_o ?_ | (with_reducible refine scope_n ?_) | (with_reducible refine scope_r ?_) | (with_reducible refine scope_e ?_) | (with_reducible refine code_seq ?_) | (with_reducible refine code_skip ?_) | (with_reducible refine code_label ?_) | (with_reducible refine code_block ?_) | (with_reducible refine code_scope ?_) | (with_reducible refine code_exit ?_) | (with_reducible refine code_ret ?_) | refine regq_to ?_ | (with_reducible refine run_nil ?_) | ((with_reducible refine run_probe ?_); refine runq_more ?_) | (with_reducible refine draw_nil ?_) | ((with_reducible refine draw_probe ?_); (first | refine drawq_more ?_ | refine drawq_as ?_)) | refine code_then ?_ | refine code_else ?_))
        refine if_d (fun hc => ?_) (fun hc => ?_)
        · (repeat (first | (with_reducible refine then_n ?_) | (with_reducible refine then_r ?_) | (with_reducible refine then_e ?_) | (with_reducible refine block_n ?_) | (with_reducible refine block_r ?_) | (with_reducible refine block_e ?_) | refine block_o ?_ | (with_reducible refine scope_n ?_) | (with_reducible refine scope_r ?_) | (with_reducible refine scope_e ?_) | (with_reducible refine code_seq ?_) | (with_reducible refine code_skip ?_) | (with_reducible refine code_label ?_) | (with_reducible refine code_block ?_) | (with_reducible refine code_scope ?_) | (with_reducible refine code_exit ?_) | (with_reducible refine code_ret ?_) | refine regq_to ?_ | (with_reducible refine run_nil ?_) | ((with_reducible refine run_probe ?_); refine runq_more ?_) | (with_reducible refine draw_nil ?_) | ((with_reducible refine draw_probe ?_); (first | refine drawq_more ?_ | refine drawq_as ?_)) | refine code_then ?_ | refine code_else ?_))
          exact mid ⟨t + z, by omega, by omega, rfl, rfl, rfl⟩
        · (repeat (first | (with_reducible refine then_n ?_) | (with_reducible refine then_r ?_) | (with_reducible refine then_e ?_) | (with_reducible refine block_n ?_) | (with_reducible refine block_r ?_) | (with_reducible refine block_e ?_) | refine block_o ?_ | (with_reducible refine scope_n ?_) | (with_reducible refine scope_r ?_) | (with_reducible refine scope_e ?_) | (with_reducible refine code_seq ?_) | (with_reducible refine code_skip ?_) | (with_reducible refine code_label ?_) | (with_reducible refine code_block ?_) | (with_reducible refine code_scope ?_) | (with_reducible refine code_exit ?_) | (with_reducible refine code_ret ?_) | refine regq_to ?_ | (with_reducible refine run_nil ?_) | ((with_reducible refine run_probe ?_); refine runq_more ?_) | (with_reducible refine draw_nil ?_) | ((with_reducible refine draw_probe ?_); (first | refine drawq_more ?_ | refine drawq_as ?_)) | refine code_then ?_ | refine code_else ?_))
          exact mid ⟨t, by omega, by omega, rfl, rfl, rfl⟩
      rintro D L S ⟨t', htt, htt2, rfl, rfl, rfl⟩
      have h1 := genter_spec (g := g) hh hT hF.ok s0 t'
      rcases hF.enter hok ht0 htt (by rw [hcm]; omega) with ⟨he, hF2⟩ | ⟨v1, he, hok1, hF2⟩
      · rw [he] at h1
        (repeat (first | (with_reducible refine then_n ?_) | (with_reducible refine then_r ?_) | (with_reducible refine then_e ?_) | (with_reducible refine block_n ?_) | (with_reducible refine block_r ?_) | (with_reducible refine block_e ?_) | refine block_o ?_ | (with_reducible refine scope_n ?_) | (with_reducible refine scope_r ?_) | (with_reducible refine scope_e ?_) | (with_reducible refine code_seq ?_) | (with_reducible refine code_skip ?_) | (with_reducible refine code_label ?_) | (with_reducible refine code_block ?_) | (with_reducible refine code_scope ?_) | (with_reducible refine code_exit ?_) | (with_reducible refine code_ret ?_) | refine regq_to ?_ | (with_reducible refine run_nil ?_) | ((with_reducible refine run_probe ?_); refine runq_more ?_) | (with_reducible refine draw_nil ?_) | ((with_reducible refine draw_probe ?_); (first | refine drawq_more ?_ | refine drawq_as ?_)) | refine code_then ?_ | refine code_else ?_))
        refine run_op fun K hK => ?_; refine calls_to (h1) ?_; rintro v A ⟨rfl, T1, hT1, rfl⟩; (try simp only [List.nil_append, List.cons_append]); refine hK _ _ ?_; clear hK K; (repeat (first | (with_reducible refine then_n ?_) | (with_reducible refine then_r ?_) | (with_reducible refine then_e ?_) | (with_reducible refine block_n ?_) | (with_reducible refine block_r ?_) | (with_reducible refine block_e ?_) | refine block_o ?_ | (with_reducible refine scope_n ?_) | (with_reducible refine scope_r ?_) | (with_reducible refine scope_e ?_) | (with_reducible refine code_seq ?_) | (with_reducible refine code_skip ?_) | (with_reducible refine code_label ?_) | (with_reducible refine code_block ?_) | (with_reducible refine code_scope ?_) | (with_reducible refine code_exit ?_) | (with_reducible refine code_ret ?_) | refine regq_to ?_ | (with_reducible refine run_nil ?_) | ((with_reducible refine run_probe ?_); refine runq_more ?_) | (with_reducible refine draw_nil ?_) | ((with_reducible refine draw_probe ?_); (first | refine drawq_more ?_ | refine drawq_as ?_)) | refine code_then ?_ | refine code_else ?_))
        have h2 := bound_spec (t' + 1) b m (by omega) (by omega) (by omega)
        refine run_op fun K hK => ?_; refine calls_to h2 ?_; rintro v A ⟨⟨u, rfl, hu⟩, rfl⟩; (try simp only [List.nil_append, List.cons_append]); refine hK _ _ ?_; clear hK K
        rw [← hcb, ← hcm] at hu
        have hbd := hF2.bound hok (by omega) (by omega) hu
        (repeat (first | (with_reducible refine then_n ?_) | (with_reducible refine then_r ?_) | (with_reducible refine then_e ?_) | (with_reducible refine block_n ?_) | (with_reducible refine block_r ?_) | (with_reducible refine block_e ?_) | refine block_o ?_ | (with_reducible refine scope_n ?_) | (with_reducible refine scope_r ?_) | (with_reducible refine scope_e ?_) | (with_reducible refine code_seq ?_) | (with_reducible refine code_skip ?_) | (with_reducible refine code_label ?_) | (with_reducible refine code_block ?_) | (with_reducible refine code_scope ?_) | (with_reducible refine code_exit ?_) | (with_reducible refine code_ret ?_) | refine regq_to ?_ | (with_reducible refine run_nil ?_) | ((with_reducible refine run_probe ?_); refine runq_more ?_) | (with_reducible refine draw_nil ?_) | ((with_reducible refine draw_probe ?_); (first | refine drawq_more ?_ | refine drawq_as ?_)) | refine code_then ?_ | refine code_else ?_))
        rw [decide_eq_false (show ¬ u < (n : Int) by omega)]
        (repeat (first | (with_reducible refine then_n ?_) | (with_reducible refine then_r ?_) | (with_reducible refine then_e ?_) | (with_reducible refine block_n ?_) | (with_reducible refine block_r ?_) | (with_reducible refine block_e ?_) | refine block_o ?_ | (with_reducible refine scope_n ?_) | (with_reducible refine scope_r ?_) | (with_reducible refine scope_e ?_) | (with_reducible refine code_seq ?_) | (with_reducible refine code_skip ?_) | (with_reducible refine code_label ?_) | (with_reducible refine code_block ?_) | (with_reducible refine code_scope ?_) | (with_reducible refine code_exit ?_) | (with_reducible refine code_ret ?_) | refine regq_to ?_ | (with_reducible refine run_nil ?_) | ((with_reducible refine run_probe ?_); refine runq_more ?_) | (with_reducible refine draw_nil ?_) | ((with_reducible refine draw_probe ?_); (first | refine drawq_more ?_ | refine drawq_as ?_)) | refine code_then ?_ | refine code_else ?_))
        exact again ⟨i + 1, T1, es, t', n, by omega, hT1, hF2, by omega, by omega, by omega, by omega, rfl, rfl, rfl, rfl⟩
      · rw [he] at h1
        (repeat (first | (with_reducible refine then_n ?_) | (with_reducible refine then_r ?_) | (with_reducible refine then_e ?_) | (with_reducible refine block_n ?_) | (with_reducible refine block_r ?_) | (with_reducible refine block_e ?_) | refine block_o ?_ | (with_reducible refine scope_n ?_) | (with_reducible refine scope_r ?_) | (with_reducible refine scope_e ?_) | (with_reducible refine code_seq ?_) | (with_reducible refine code_skip ?_) | (with_reducible refine code_label ?_) | (with_reducible refine code_block ?_) | (with_reducible refine code_scope ?_) | (with_reducible refine code_exit ?_) | (with_reducible refine code_ret ?_) | refine regq_to ?_ | (with_reducible refine run_nil ?_) | ((with_reducible refine run_probe ?_); refine runq_more ?_) | (with_reducible refine draw_nil ?_) | ((with_reducible refine draw_probe ?_); (first | refine drawq_more ?_ | refine drawq_as ?_)) | refine code_then ?_ | refine code_else ?_))
        refine run_op fun K hK => ?_; refine calls_to (h1) ?_; rintro v A ⟨rfl, T1, hT1, rfl⟩; (try simp only [List.nil_append, List.cons_append]); refine hK _ _ ?_; clear hK K; (repeat (first | (with_reducible refine then_n ?_) | (with_reducible refine then_r ?_) | (with_reducible refine then_e ?_) | (with_reducible refine block_n ?_) | (with_reducible refine block_r ?_) | (with_reducible refine block_e ?_) | refine block_o ?_ | (with_reducible refine scope_n ?_) | (with_reducible refine scope_r ?_) | (with_reducible refine scope_e ?_) | (with_reducible refine code_seq ?_) | (with_reducible refine code_skip ?_) | (with_reducible refine code_label ?_) | (with_reducible refine code_block ?_) | (with_reducible refine code_scope ?_) | (with_reducible refine code_exit ?_) | (with_reducible refine code_ret ?_) | refine regq_to ?_ | (with_reducible refine run_nil ?_) | ((with_reducible refine run_probe ?_); refine runq_more ?_) | (with_reducible refine draw_nil ?_) | ((with_reducible refine draw_probe ?_); (first | refine drawq_more ?_ | refine drawq_as ?_)) | refine code_then ?_ | refine code_else ?_))
        have h3 := gfail_spec (g := g) hok hT1 hok1 s0 t' (by omega)
        rw [fail_one s0_ne s0_len] at h3
        refine run_op fun K hK => ?_; refine calls_to (h3) ?_; rintro v A ⟨rfl, T2, hT2, rfl⟩; (try simp only [List.nil_append, List.cons_append]); refine hK _ _ ?_; clear hK K; (repeat (first | (with_reducible refine then_n ?_) | (with_reducible refine then_r ?_) | (with_reducible refine then_e ?_) | (with_reducible refine block_n ?_) | (with_reducible refine block_r ?_) | (with_reducible refine block_e ?_) | refine block_o ?_ | (with_reducible refine scope_n ?_) | (with_reducible refine scope_r ?_) | (with_reducible refine scope_e ?_) | (with_reducible refine code_seq ?_) | (with_reducible refine code_skip ?_) | (with_reducible refine code_label ?_) | (with_reducible refine code_block ?_) | (with_reducible refine code_scope ?_) | (with_reducible refine code_exit ?_) | (with_reducible refine code_ret ?_) | refine regq_to ?_ | (with_reducible refine run_nil ?_) | ((with_reducible refine run_probe ?_); refine runq_more ?_) | (with_reducible refine draw_nil ?_) | ((with_reducible refine draw_probe ?_); (first | refine drawq_more ?_ | refine drawq_as ?_)) | refine code_then ?_ | refine code_else ?_))
        have h2 := bound_spec (t' + 1) b m (by omega) (by omega) (by omega)
        refine run_op fun K hK => ?_; refine calls_to h2 ?_; rintro v A ⟨⟨u, rfl, hu⟩, rfl⟩; (try simp only [List.nil_append, List.cons_append]); refine hK _ _ ?_; clear hK K
        rw [← hcb, ← hcm] at hu
        have hbd := hF2.bound hok (by omega) (by omega) hu
        (repeat (first | (with_reducible refine then_n ?_) | (with_reducible refine then_r ?_) | (with_reducible refine then_e ?_) | (with_reducible refine block_n ?_) | (with_reducible refine block_r ?_) | (with_reducible refine block_e ?_) | refine block_o ?_ | (with_reducible refine scope_n ?_) | (with_reducible refine scope_r ?_) | (with_reducible refine scope_e ?_) | (with_reducible refine code_seq ?_) | (with_reducible refine code_skip ?_) | (with_reducible refine code_label ?_) | (with_reducible refine code_block ?_) | (with_reducible refine code_scope ?_) | (with_reducible refine code_exit ?_) | (with_reducible refine code_ret ?_) | refine regq_to ?_ | (with_reducible refine run_nil ?_) | ((with_reducible refine run_probe ?_); refine runq_more ?_) | (with_reducible refine draw_nil ?_) | ((with_reducible refine draw_probe ?_); (first | refine drawq_more ?_ | refine drawq_as ?_)) | refine code_then ?_ | refine code_else ?_))
        rw [decide_eq_false (show ¬ u < (n : Int) + 1 by omega)]
        (repeat (first | (with_reducible refine then_n ?_) | (with_reducible refine then_r ?_) | (with_reducible refine then_e ?_) | (with_reducible refine block_n ?_) | (with_reducible refine block_r ?_) | (with_reducible refine block_e ?_) | refine block_o ?_ | (with_reducible refine scope_n ?_) | (with_reducible refine scope_r ?_) | (with_reducible refine scope_e ?_) | (with_reducible refine code_seq ?_) | (with_reducible refine code_skip ?_) | (with_reducible refine code_label ?_) | (with_reducible refine code_block ?_) | (with_reducible refine code_scope ?_) | (with_reducible refine code_exit ?_) | (with_reducible refine code_ret ?_) | refine regq_to ?_ | (with_reducible refine run_nil ?_) | ((with_reducible refine run_probe ?_); refine runq_more ?_) | (with_reducible refine draw_nil ?_) | ((with_reducible refine draw_probe ?_); (first | refine drawq_more ?_ | refine drawq_as ?_)) | refine code_then ?_ | refine code_else ?_))
        exact again ⟨i + 1, T2, _, t', n + 1, by omega, hT2, hF2, by omega, by omega, by omega, by omega, rfl, rfl, rfl, rfl⟩
  · (repeat (first | (with_reducible refine then_n ?_) | (with_reducible refine then_r ?_) | (with_reducible refine then_e ?_) | (with_reducible refine block_n ?_) | (with_reducible refine block_r ?_) | (with_reducible refine block_e ?_) | refine block_o ?_ | (with_reducible refine scope_n ?_) | (with_reducible refine scope_r ?_) | (with_reducible refine scope_e ?_) | (with_reducible refine code_seq ?_) | (with_reducible refine code_skip ?_) | (with_reducible refine code_label ?_) | (with_reducible refine code_block ?_) | (with_reducible refine code_scope ?_) | (with_reducible refine code_exit ?_) | (with_reducible refine code_ret ?_) | refine regq_to ?_ | (with_reducible refine run_nil ?_) | ((with_reducible refine run_probe ?_); refine runq_more ?_) | (with_reducible refine draw_nil ?_) | ((with_reducible refine draw_probe ?_); (first | refine drawq_more ?_ | refine drawq_as ?_)) | refine code_then ?_ | refine code_else ?_))
    refine back_tmp [C] ?_; exact ⟨rfl, rfl⟩

end Go.Proofs.Ytjagaagemgppcaa
