/- The rules of statements and of functions over chunks of memory. Conditions: none. -/
import Derived.Test.YtfaobbekodifmaaDoorSm
set_option linter.unusedSimpArgs false
set_option linter.unusedVariables false
namespace Go.Ost
open Go

variable {P : Program} {n : Nat} {ro : Option Nat}

abbrev Cont := Exit → List Nat → Env → State → Prop

def KQ (n : Nat) (K : Cont) (w : World) : Exit → Act → World → Prop :=
  fun e a' w' => ∃ D L S, K e D L S ∧ Agree n L D a' ∧ Ext w w' ∧ Hold w' S

/-- From these marks, this knowledge of the temporaries, these chunks the code comes to where K holds. -/
structure CodeW (P : Program) (n : Nat) (ro : Option Nat) (c : Code) (K : Cont) (D : List Nat) (L : Env) (S : State) : Prop where
  out : ∀ a w, Agree n L D a → Hold w S → c.wpIn (FW ro) 0 P (KQ n K w) a w

theorem KQ.ext {K : Cont} {w w' : World} (h : Ext w w') {e : Exit} {a : Act} {v : World} (hq : KQ n K w' e a v) : KQ n K w e a v :=
  let ⟨D, L, S, k, ag, ex, ho⟩ := hq; ⟨D, L, S, k, ag, h.trans ex, ho⟩

theorem code_less {c : Code} {K : Cont} {D : List Nat} {L L' : Env} {S S' : State} (hL : Knows L' L) (hS : Among S' S) (h : CodeW P n ro c K D L' S') : CodeW P n ro c K D L S :=
  ⟨fun a w ha hw => h.out a w (ha.less hL) (hS.hold hw)⟩

theorem code_mono {c : Code} {K K' : Cont} {D : List Nat} {L : Env} {S : State} (h : CodeW P n ro c K D L S) (hk : ∀ e D L S, K e D L S → K' e D L S) : CodeW P n ro c K' D L S :=
  ⟨fun a w ha hw => wpIn_mono (h.out a w ha hw) fun _ _ _ ⟨D, L, S, k, r⟩ => ⟨D, L, S, hk _ _ _ _ k, r⟩⟩

theorem code_skip {K : Cont} {D : List Nat} {L : Env} {S : State} (h : K .normal D L S) : CodeW P n ro .skip K D L S :=
  ⟨fun _ w ha hw => wpIn_skip ⟨D, L, S, h, ha, Ext.refl w, hw⟩⟩
theorem code_label {K : Cont} {D : List Nat} {L : Env} {S : State} {l : Nat} (h : K .normal D L S) : CodeW P n ro (.label l) K D L S :=
  ⟨fun _ w ha hw => wpIn_label ⟨D, L, S, h, ha, Ext.refl w, hw⟩⟩
theorem code_exit {K : Cont} {D : List Nat} {L : Env} {S : State} {id : Nat} (h : K (.exit id) D L S) : CodeW P n ro (.exit id) K D L S :=
  ⟨fun _ w ha hw => wpIn_exit ⟨D, L, S, h, ha, Ext.refl w, hw⟩⟩
theorem code_ret {K : Cont} {D : List Nat} {L : Env} {S : State} (h : K .ret D L S) : CodeW P n ro .ret K D L S :=
  ⟨fun _ w ha hw => wpIn_ret ⟨D, L, S, h, ha, Ext.refl w, hw⟩⟩

def Cont.then (next : List Nat → Env → State → Prop) (K : Cont) : Cont
  | .normal, D, L, S => next D L S
  | e, D, L, S => K e D L S

theorem code_seq {x y : Code} {K : Cont} {D : List Nat} {L : Env} {S : State} (h : CodeW P n ro x (Cont.then (CodeW P n ro y K) K) D L S) : CodeW P n ro (.seq x y) K D L S :=
  ⟨fun a w ha hw => wpIn_seq (wpIn_mono (h.out a w ha hw) fun e a' w' hq => by
    obtain ⟨D, L, S, k, ag, ex, ho⟩ := hq
    cases e <;> first | exact wpIn_mono (CodeW.out k a' w' ag ho) (fun _ _ _ h => h.ext ex) | exact ⟨D, L, S, k, ag, ex, ho⟩)⟩
/-- The same, what comes next under a name. -/
theorem code_seq_k {x y : Code} {K : Cont} {D : List Nat} {L : Env} {S : State}
    (h : ∀ N : List Nat → Env → State → Prop, (∀ D L S, CodeW P n ro y K D L S → N D L S) → CodeW P n ro x (Cont.then N K) D L S) : CodeW P n ro (.seq x y) K D L S :=
  code_seq (h _ fun _ _ _ h => h)

theorem code_cond {c : Operand} {x y : Code} {K : Cont} {D : List Nat} {L : Env} {S : State} {b : Bool} (hc : evT L c = some (.bool b))
    (ht : b = true → CodeW P n ro x K D L S) (hf : b = false → CodeW P n ro y K D L S) : CodeW P n ro (.cond c x y) K D L S :=
  ⟨fun a w ha hw => wpIn_cond_split (ha.ev hc) (fun h => (ht h).out a w ha hw) (fun h => (hf h).out a w ha hw)⟩
theorem code_true {c : Operand} {x y : Code} {K : Cont} {D : List Nat} {L : Env} {S : State} (hc : evT L c = some (.bool true))
    (ht : CodeW P n ro x K D L S) : CodeW P n ro (.cond c x y) K D L S := code_cond hc (fun _ => ht) (fun h => by cases h)
theorem code_false {c : Operand} {x y : Code} {K : Cont} {D : List Nat} {L : Env} {S : State} (hc : evT L c = some (.bool false))
    (hf : CodeW P n ro y K D L S) : CodeW P n ro (.cond c x y) K D L S := code_cond hc (fun h => by cases h) (fun _ => hf)

def Cont.block (id : Nat) (K : Cont) : Cont
  | .exit id', D, L, S => if id' = id then K .normal D L S else K (.exit id') D L S
  | e, D, L, S => K e D L S

theorem code_block {id : Nat} {c : Code} {K : Cont} {D : List Nat} {L : Env} {S : State} (h : CodeW P n ro c (K.block id) D L S) : CodeW P n ro (.block id c) K D L S :=
  ⟨fun a w ha hw => wpIn_block (wpIn_mono (h.out a w ha hw) fun e a' w' hq => by
    obtain ⟨D, L, S, k, r⟩ := hq
    cases e <;> simp only [Exit.inBlock] <;> first | exact ⟨D, L, S, k, r⟩ | skip
    simp only [Cont.block] at k
    split at k
    · rw [if_pos ‹_›]; exact ⟨D, L, S, k, r⟩
    · rw [if_neg ‹_›]; exact ⟨D, L, S, k, r⟩)⟩

def Cont.noGoto (K : Cont) : Cont
  | .goto _, _, _, _ => False
  | e, D, L, S => K e D L S

/-- A piece of code that holds labels, to none of which anything jumps. -/
theorem code_scope {c : Code} {K : Cont} {D : List Nat} {L : Env} {S : State} (h : CodeW P n ro c K.noGoto D L S) : CodeW P n ro (.scope c) K D L S := by
  refine ⟨fun a w ha hw b k cs hro hb hr => ?_⟩
  obtain ⟨e, a₁, w₁, hq, harr⟩ := h.out a w ha hw b (.inScope c :: k) cs hro hb hr
  have s0 : step P (lone (b.atR a (.code (.scope c) :: k)) cs w) = .next (lone (b.atR a (.code c :: .inScope c :: k)) cs w) :=
    step_lone_go (by simp [stepG, stepG.exec, Frame.atR])
  have s1 : ∀ (a : Act) (w : World), step P (lone (b.atR a (.inScope c :: k)) cs w) = .next (lone (b.atR a k) cs w) :=
    fun a w => step_lone_go (by simp [stepG, stepG.exec, Frame.atR])
  have f0 : (lone (b.atR a (.code (.scope c) :: k)) cs w).fenced P (FW ro) := fenced_calm hb hr rfl
  obtain ⟨D, L, S, hk, r⟩ := hq
  cases e with
  | normal => exact ⟨.normal, a₁, w₁, ⟨D, L, S, hk, r⟩, .head f0 s0 (StepsIn.trans harr (.one (fenced_calm (fr := b.atR a₁ (.inScope c :: k)) hb hr rfl) (s1 a₁ w₁)))⟩
  | exit id =>
    refine ⟨.exit id, a₁, w₁, ⟨D, L, S, hk, r⟩, ?_⟩
    have e2 : exitTo id (.inScope c :: k) = exitTo id k := by simp [exitTo]
    refine ArrivesIn.of_steps (.one f0 s0) ?_
    unfold ArrivesIn at harr ⊢
    simp only at harr ⊢
    rw [e2] at harr
    exact harr
  | goto l => exact hk.elim
  | ret => exact ⟨.ret, a₁, w₁, ⟨D, L, S, hk, r⟩, ArrivesIn.of_steps (.one f0 s0) harr⟩
  | panic ch => exact ⟨.panic ch, a₁, w₁, ⟨D, L, S, hk, r⟩, ArrivesIn.of_steps (.one f0 s0) harr⟩
  | outgrown => exact ⟨.outgrown, a₁, w₁, ⟨D, L, S, hk, r⟩, ArrivesIn.of_steps (e := .outgrown) (a := a₁) (w := w₁) (b := b) (k := k) (.one f0 s0) harr⟩

/-- The loop goes round once more. -/
structure Again (I : Nat → List Nat → Env → State → Prop) (m : Nat) (D : List Nat) (L : Env) (S : State) : Prop where
  out : ∃ m' L'' S'', m' < m ∧ I m' D L'' S'' ∧ Knows L'' L ∧ Among S'' S

/-- A loop: what holds at its head, by a number that each round lowers. -/
theorem code_loop {c : Code} {K : Cont} {D : List Nat} {L : Env} {S : State} (I : Nat → List Nat → Env → State → Prop) (h0 : ∃ m L0 S0, I m D L0 S0 ∧ Knows L0 L ∧ Among S0 S)
    (round : ∀ m D L S, I m D L S → CodeW P n ro c (Cont.then (Again I m) K) D L S) : CodeW P n ro (.loop c) K D L S := by
  refine ⟨fun a w ha hw b k cs hro hb hr => ?_⟩
  have key : ∀ m (a : Act) (w : World) D L S, I m D L S → Agree n L D a → Hold w S →
      ∃ e a' w', KQ n K w e a' w' ∧ ArrivesIn (Machine.fenced P (FW ro)) P (lone (b.atR a (.code c :: .inLoop c :: k)) cs w) b k cs e a' w' := by
    intro m
    induction m using Nat.strongRecOn with
    | _ m ih =>
      intro a w D L S hI ha hw
      obtain ⟨e, a₁, w₁, hq, harr⟩ := (round m D L S hI).out a w ha hw b (.inLoop c :: k) cs hro hb hr
      obtain ⟨D₁, L₁, S₁, hk, hag, hex, hho⟩ := hq
      cases e with
      | normal =>
        obtain ⟨m', L'', S'', hlt, hI', hL, hS⟩ := Again.out hk
        obtain ⟨e₂, a₂, w₂, hq₂, harr₂⟩ := ih m' hlt a₁ w₁ D₁ L'' S'' hI' (hag.less hL) (hS.hold hho)
        exact ⟨e₂, a₂, w₂, hq₂.ext hex, .of_steps (StepsIn.trans harr (.one (fenced_calm (fr := b.atR a₁ (.inLoop c :: k)) hb hr rfl) stepR_inLoop)) harr₂⟩
      | exit id => exact ⟨_, a₁, w₁, ⟨D₁, L₁, S₁, hk, hag, hex, hho⟩, .pass (x := .inLoop c) rfl (fun _ _ => .inl (by simp)) harr⟩
      | goto l => exact ⟨_, a₁, w₁, ⟨D₁, L₁, S₁, hk, hag, hex, hho⟩, .pass (x := .inLoop c) rfl (fun _ _ => .inl (by simp)) harr⟩
      | ret => exact ⟨_, a₁, w₁, ⟨D₁, L₁, S₁, hk, hag, hex, hho⟩, .pass (x := .inLoop c) rfl (fun _ _ => .inl (by simp)) harr⟩
      | panic ch => exact ⟨_, a₁, w₁, ⟨D₁, L₁, S₁, hk, hag, hex, hho⟩, .pass (x := .inLoop c) rfl (fun _ _ => .inl (by simp)) harr⟩
      | outgrown => exact ⟨_, a₁, w₁, ⟨D₁, L₁, S₁, hk, hag, hex, hho⟩, .pass (x := .inLoop c) rfl (fun _ _ => .inl (by simp)) harr⟩
  obtain ⟨m, L0, S0, h0, hL0, hS0⟩ := h0
  obtain ⟨e, a', w', hq, harr⟩ := key m a w D L0 S0 h0 (ha.less hL0) (hS0.hold hw)
  exact ⟨e, a', w', hq, .of_steps (.one (fenced_calm hb hr rfl) stepR_loop) harr⟩

/-! ### Regions -/

/-- What an operation's guard says: carried out or passed over. -/
def guardW (ops : Array Oper) (o : Oper) (L : Env) (A B : Prop) : Prop :=
  match o.guard with
  | none => A
  | some (j, want) =>
    match (ops[j]?).bind (·.dst) with
    | none => False
    | some d => withV (lookT L d) fun v => match v with | .bool b => if b = want then A else B | .tuple _ => B | _ => False

/-- The operations of a region, one behind the other. -/
def runW (P : Program) (n : Nat) (ops : Array Oper) (K : Env → State → Prop) : List Oper → Env → State → Prop
  | [], L, S => K L S
  | o :: l, L, S => guardW ops o L (stepW P o.op o.type L S fun v S' => runW P n ops K l (putT n o.dst v L) S') (runW P n ops K l (putT n o.dst undef L) S)

theorem stepW_mono {op : Op} {t : TypeId} {L : Env} {S : State} {κ κ' : Value → State → Prop} (hk : ∀ v S, κ v S → κ' v S) (h : stepW P op t L S κ) : stepW P op t L S κ' := by
  have withV_mono : ∀ {x : Option Value} {p q : Value → Prop}, (∀ v, p v → q v) → withV x p → withV x q := fun {x p q} hpq h => by cases x <;> first | exact h.elim | exact hpq _ h
  have withL_mono : ∀ {x : Option (List Value)} {p q : List Value → Prop}, (∀ v, p v → q v) → withL x p → withL x q := fun {x p q} hpq h => by cases x <;> first | exact h.elim | exact hpq _ h
  have withO_mono : ∀ {x : Option (Option Value)} {p q : Option Value → Prop}, (∀ v, p v → q v) → withO x p → withO x q := fun {x p q} hpq h => by cases x <;> first | exact h.elim | exact hpq _ h
  have withP_mono : ∀ {x : Option (List (Nat × Value))} {p q : List (Nat × Value) → Prop}, (∀ v, p v → q v) → withP x p → withP x q := fun {x p q} hpq h => by cases x <;> first | exact h.elim | exact hpq _ h
  have pure_mono : ∀ {m : Sem Value} {p q : Value → Prop}, (∀ v, p v → q v) → PureW P m p → PureW P m q := fun hpq ⟨v, a, b⟩ => ⟨v, a, hpq _ b⟩
  have read_mono : ∀ {m : Sem Value} {S : State} {p q : Value → Prop}, (∀ v, p v → q v) → ReadW P m S p → ReadW P m S q := fun hpq ⟨v, a, b⟩ => ⟨v, a, hpq _ b⟩
  have val_mono : ∀ {m : Sem Value} {S : State}, ValW P m S κ → ValW P m S κ' := fun h => ⟨fun w hw => let ⟨v, w', S', a, b, c, d⟩ := h.out w hw; ⟨v, w', S', a, b, c, hk _ _ d⟩⟩
  have unit_mono : ∀ {m : Sem Unit} {S : State}, UnitW P m S (κ undef) → UnitW P m S (κ' undef) := fun h => ⟨fun w hw => let ⟨w', S', a, b, c, d⟩ := h.out w hw; ⟨w', S', a, b, c, hk _ _ d⟩⟩
  have ends_mono : ∀ {w : World} (e : Ending) (w' : World), EndsW w κ e w' → EndsW w κ' e w' := fun e w' ⟨v, S', a, b, c, d⟩ => ⟨v, S', a, b, c, hk _ _ d⟩
  have nil_mono : ∀ {v : Value} {p q : Value → Prop}, (∀ v, p v → q v) → NilW v p → NilW v q := fun {v p q} hpq h => by
    unfold NilW at *; split at h <;> first | exact hpq _ h | exact h.elim
  have k1 : ∀ (S : State) v, κ v S → κ' v S := fun S v => hk v S
  cases op <;> simp only [stepW] at h ⊢
  case move x => exact withV_mono (k1 _) h
  case assign x => exact withV_mono (k1 _) h
  case pick c a b => exact withV_mono (fun v hv => by cases v <;> first | exact hv.elim | exact withV_mono (k1 _) hv) h
  case alloc e => exact val_mono h
  case box e x => exact withV_mono (fun v => val_mono) h
  case build u ps => exact withP_mono (fun v => pure_mono (k1 _)) h
  case buildSlice u n ps => exact withP_mono (fun v => val_mono) h
  case load u x => exact withV_mono (fun v => read_mono (k1 _)) h
  case store u x y => exact withV_mono (fun v => withV_mono fun v => unit_mono) h
  case nilCheck x => exact withV_mono (fun v => nil_mono (k1 _)) h
  case binOp o u x y yt => exact withV_mono (fun v => withV_mono fun v => pure_mono (k1 _)) h
  case unOp o u x => exact withV_mono (fun v => pure_mono (k1 _)) h
  case convert s d x =>
    refine withV_mono (fun v hv => ?_) h
    unfold ConvW at *
    split at hv
    · exact pure_mono (k1 _) hv
    · exact val_mono hv
  case sliceToArrayPointer u x => exact withV_mono (fun v => pure_mono (k1 _)) h
  case makeInterface u x => exact withV_mono (fun v => pure_mono (k1 _)) h
  case makeFunc fn a b => exact withL_mono (fun v => withL_mono fun v => hk _ _) h
  case makeMap u r => exact withO_mono (fun v => val_mono) h
  case makeSlice u x y => exact withV_mono (fun v => withV_mono fun v => val_mono) h
  case slice u x lo hi mx => exact withV_mono (fun v => withO_mono fun v => withO_mono fun v => withO_mono fun v => pure_mono (k1 _)) h
  case fieldAddr u x f => exact withV_mono (fun v => pure_mono (k1 _)) h
  case field u x f => exact withV_mono (fun v => pure_mono (k1 _)) h
  case indexAddr u x y => exact withV_mono (fun v => withV_mono fun v => pure_mono (k1 _)) h
  case index u x y => exact withV_mono (fun v => withV_mono fun v => pure_mono (k1 _)) h
  case lookup u x y ok => exact withV_mono (fun v => withV_mono fun v => read_mono (k1 _)) h
  case mapUpdate u m k x => exact withV_mono (fun v => withV_mono fun v => withV_mono fun v => unit_mono) h
  case insert u m k x => exact withV_mono (fun v => withV_mono fun v => withV_mono fun v => unit_mono) h
  case mapEntry u m k => exact withV_mono (fun v => withV_mono fun v => val_mono) h
  case entryStore u m k x => exact withV_mono (fun v => withV_mono fun v => withV_mono fun v => unit_mono) h
  case range u x => exact withV_mono (fun v => val_mono) h
  case next it s => exact withV_mono (fun v => val_mono) h
  case entry it => exact withV_mono (fun v => val_mono) h
  case typeAssert x u v ok => exact withV_mono (fun v => pure_mono (k1 _)) h
  case extract x i => exact withV_mono (fun v => pure_mono (k1 _)) h
  case call c =>
    refine withL_mono (fun vs hv => ?_) h
    cases hc : c.callee with
    | value f =>
      simp only [hc] at hv ⊢
      refine withV_mono (fun fv hf => ?_) hv
      unfold FnW at *
      split at hf
      · exact ⟨hf.1, fun w hw => (hf.2 w hw).mono ends_mono⟩
      · refine ⟨fun w hw => ?_⟩
        obtain ⟨fn, tmps, as, bd, hr, hR⟩ := hf.out w hw
        exact ⟨fn, tmps, as, bd, hr, hR.mono ends_mono⟩
      · exact hf.elim
    | builtin b =>
      simp only [hc] at hv ⊢
      unfold BuiltinW at *
      split at hv <;> first | exact hv.elim | exact pure_mono (k1 _) hv | exact read_mono (k1 _) hv | exact val_mono hv
    | invoke r m => simp only [hc] at hv
  all_goals exact h.elim

theorem upon_next {o : Oper} {a : Act} {w : World} {nx : Act → World → Prop} {Q : Exit → Act → World → Prop} {S : State} {κ : Value → State → Prop} {m : Sem Next}
    (h : NextW P m S κ) (hw : Hold w S) (hk : ∀ v S' w', κ v S' → Ext w w' → Hold w' S' → nx (a.put o.dst v) w') : o.uponIn (FW ro) 0 P a nx Q (m.run P w) := by
  obtain ⟨r, w', hr, hg⟩ := h w hw
  rw [hr]
  cases r <;> simp only [GoesW] at hg
  case value v => obtain ⟨S', he, hh, k⟩ := hg; exact hk v S' w' k he hh
  case skip => obtain ⟨S', he, hh, k⟩ := hg; exact hk undef S' w' k he hh
  case enter f args =>
    refine ⟨fun h => (by cases h), hg.mono fun e w'' he => ?_⟩
    obtain ⟨v, S', rfl, he, hh, k⟩ := he
    exact hk v S' w'' k he hh
  case round l f tmps as bd =>
    refine ⟨fun h => (by cases h), hg.mono fun e w'' he => ?_⟩
    obtain ⟨v, S', rfl, he, hh, k⟩ := he
    exact hk v S' w'' k he hh

theorem step_not_defer {op : Op} {t : TypeId} {L : Env} {S : State} {κ : Value → State → Prop} (h : stepW P op t L S κ) : ∀ c, op ≠ .defer c := by
  intro c e; subst e; exact h

/-- One operation, as the walk has it. -/
theorem oper_in {o : Oper} {a : Act} {w : World} {nx : Act → World → Prop} {Q : Exit → Act → World → Prop} {L : Env} {D : List Nat} {S : State} {κ : Value → State → Prop}
    (h : stepW P o.op o.type L S κ) (ha : Agree n L D a) (hw : Hold w S) (hk : ∀ v S' w', κ v S' → Ext w w' → Hold w' S' → nx (a.put o.dst v) w') : o.wpIn (FW ro) 0 P a w nx Q := by
  refine ⟨fun _ _ => trivial, ?_⟩
  rw [Oper.semAt_eq _ _ _ (step_not_defer h)]
  exact upon_next (step_next (fun x v hx => ha.ev hx) h) hw hk

theorem guard_cases {ops : Array Oper} {o : Oper} {L : Env} {D : List Nat} {a : Act} {A B : Prop} (ha : Agree n L D a) (h : guardW ops o L A B) :
    (Region.wanted o (yielded ops a.tmps) = true ∧ A) ∨ (Region.wanted o (yielded ops a.tmps) = false ∧ B) := by
  unfold guardW at h
  cases hg : o.guard with
  | none => rw [hg] at h; exact .inl ⟨by simp [Region.wanted, hg], h⟩
  | some g =>
    obtain ⟨j, want⟩ := g
    rw [hg] at h
    simp only at h
    cases hd : (ops[j]?).bind (·.dst) with
    | none => rw [hd] at h; exact h.elim
    | some d =>
      rw [hd] at h
      simp only at h
      cases hv : lookT L d with
      | none => rw [hv] at h; exact h.elim
      | some v =>
        rw [hv] at h
        have ht := ha.get d v hv
        cases v <;> first | exact h.elim | skip
        case bool b =>
          simp only [withV] at h
          split at h
          · subst_vars; exact .inl ⟨by simp [Region.wanted, hg, yielded, hd, ht], h⟩
          · rename_i hne; exact .inr ⟨by simp [Region.wanted, hg, yielded, hd, ht, hne], h⟩
        case tuple vs => exact .inr ⟨by simp [Region.wanted, hg, yielded, hd, ht], h⟩

theorem run_in {ops : Array Oper} {K : Cont} {D : List Nat} : ∀ (l : List Oper) (L : Env) (S : State), runW P n ops (K .normal D) l L S →
    ∀ (a : Act) (w : World), Agree n L D a → Hold w S → wpListIn (FW ro) 0 P ops (KQ n K w) l a w := by
  intro l
  induction l with
  | nil => intro L S h a w ha hw; exact ⟨D, L, S, h, ha, Ext.refl w, hw⟩
  | cons o l ih =>
    intro L S h a w ha hw
    have mono : ∀ {w w' : World} {a : Act} {l : List Oper}, Ext w w' → wpListIn (FW ro) 0 P ops (KQ n K w') l a w' → wpListIn (FW ro) 0 P ops (KQ n K w) l a w' := by
      intro w w' a l he h
      have hq : ∀ e a v, KQ n K w' e a v → KQ n K w e a v := fun _ _ _ h => h.ext he
      clear ih
      have gen : ∀ (l : List Oper) (a : Act) (v : World), wpListIn (FW ro) 0 P ops (KQ n K w') l a v → wpListIn (FW ro) 0 P ops (KQ n K w) l a v := by
        intro l
        induction l with
        | nil => intro a v h; exact hq _ _ _ h
        | cons o l ih =>
          intro a v h
          simp only [wpListIn] at h ⊢
          split at h
          · rw [if_pos ‹_›]
            refine ⟨h.1, ?_⟩
            have h2 := h.2
            generalize (o.semAt (FW ro).round a.eval).run P v = r at *
            cases r with
            | ok x v' =>
              cases x <;> simp only [Oper.uponIn] at h2 ⊢ <;>
                first
                  | exact ih _ _ h2
                  | exact ⟨h2.1, CallsIn.mono h2.2 (fun e w'' he => by cases e <;> first | exact ih _ _ he | exact hq _ _ _ he | exact (let ⟨a, w, q⟩ := he; ⟨a, w, hq _ _ _ q⟩))⟩
                  | exact ⟨h2.1, RowsIn.mono h2.2 (fun _ _ he => ih _ _ he)⟩
                  | exact ⟨h2.1, RoundIn.mono h2.2 (fun e w'' he => by cases e <;> first | exact ih _ _ he | exact hq _ _ _ he | exact (let ⟨a, w, q⟩ := he; ⟨a, w, hq _ _ _ q⟩))⟩
            | halt x v' => cases x <;> simp only [Oper.uponIn] at h2 ⊢ <;> exact hq _ _ _ h2
          · rw [if_neg ‹_›]
            exact ⟨h.1, ih _ _ h.2⟩
      exact gen l a w' h
    simp only [runW] at h
    simp only [wpListIn]
    rcases guard_cases ha h with ⟨hw1, h⟩ | ⟨hw1, h⟩
    · rw [if_pos hw1]
      exact oper_in h ha hw fun v S' w' hk he hh => mono he (ih _ _ hk _ _ (ha.put _ _) hh)
    · rw [if_neg (by simp [hw1])]
      exact ⟨fun _ _ => trivial, ih _ _ h _ _ (ha.put _ _) hw⟩

theorem code_region {id : Nat} {ops : Array Oper} {K : Cont} {D : List Nat} {L : Env} {S : State} (h : runW P n ops (K .normal D) ops.toList L S) :
    CodeW P n ro (.region id ops false) K D L S :=
  ⟨fun a w ha hw => wpIn_region_list (run_in _ _ _ h a w ha hw)⟩

/-- One operation, what comes behind it under a name. -/
theorem run_cons {ops : Array Oper} {K : Env → State → Prop} {o : Oper} {l : List Oper} {L : Env} {S : State}
    (h : ∀ N : Env → State → Prop, (∀ L S, runW P n ops K l L S → N L S) → guardW ops o L (stepW P o.op o.type L S fun v S' => N (putT n o.dst v L) S') (N (putT n o.dst undef L) S)) :
    runW P n ops K (o :: l) L S := h _ fun _ _ h => h
theorem run_nil {ops : Array Oper} {K : Env → State → Prop} {L : Env} {S : State} (h : K L S) : runW P n ops K [] L S := h
theorem code_reg {id : Nat} {l : List Oper} {K : Cont} {D : List Nat} {L : Env} {S : State} (h : runW P n l.toArray (K .normal D) l L S) :
    CodeW P n ro (.region id l.toArray false) K D L S := code_region (by simpa using h)

end Go.Ost
