/- The steps of a piece of code over chunks of memory: what each operation, region, loop and function asks and gives. Conditions: none. -/
import Derived.Test.YtfaobbekodifmaaDoorSl
set_option linter.unusedSimpArgs false
set_option linter.unusedVariables false
namespace Go.Ost
open Go

variable {P : Program}

abbrev FW (ro : Option Nat) : Fence := { Fence.wide with round := ro }
theorem fw_fn (ro : Option Nat) (f : FuncId) : (FW ro).fn f := trivial
theorem fw_depth (ro : Option Nat) : (FW ro).depth = none := rfl
theorem fw_room (ro : Option Nat) (k : Nat) : (FW ro).room k := fun _ h => by cases h

/-! ### What an operation asks -/

/- (Structures, not definitions: nothing unfolds them by itself.) -/
structure PureW (P : Program) (m : Sem Value) (κ : Value → Prop) : Prop where
  out : ∃ v, (∀ w, m.run P w = .ok v w) ∧ κ v
structure ReadW (P : Program) (m : Sem Value) (S : State) (κ : Value → Prop) : Prop where
  out : ∃ v, (∀ w, Hold w S → m.run P w = .ok v w) ∧ κ v
structure ValW (P : Program) (m : Sem Value) (S : State) (κ : Value → State → Prop) : Prop where
  out : ∀ w, Hold w S → ∃ v w' S', m.run P w = .ok v w' ∧ Ext w w' ∧ Hold w' S' ∧ κ v S'
structure UnitW (P : Program) (m : Sem Unit) (S : State) (κ : State → Prop) : Prop where
  out : ∀ w, Hold w S → ∃ w' S', m.run P w = .ok () w' ∧ Ext w w' ∧ Hold w' S' ∧ κ S'
/-- How a call that was made ends. -/
def EndsW (w : World) (κ : Value → State → Prop) : Ending → World → Prop := fun e w' => ∃ v S', e = .returned v ∧ Ext w w' ∧ Hold w' S' ∧ κ v S'
def GoesW (P : Program) (w : World) (κ : Value → State → Prop) : Next → World → Prop
  | .value v, w' => ∃ S', Ext w w' ∧ Hold w' S' ∧ κ v S'
  | .skip, w' => ∃ S', Ext w w' ∧ Hold w' S' ∧ κ undef S'
  | .enter f args, w' => CallsIn (FW none) 0 P f args w' (EndsW w κ)
  | .round l f tmps assign body, w' => RoundIn (FW none) 0 P l f tmps assign body w' (EndsW w κ)
  | _, _ => False
def NextW (P : Program) (m : Sem Next) (S : State) (κ : Value → State → Prop) : Prop :=
  ∀ w, Hold w S → ∃ r w', m.run P w = .ok r w' ∧ GoesW P w κ r w'

theorem PureW.read {m : Sem Value} {κ : Value → Prop} (h : PureW P m κ) (S : State) : ReadW P m S κ := let ⟨v, a, b⟩ := h.out; ⟨v, fun w _ => a w, b⟩
theorem ReadW.val {m : Sem Value} {S : State} {κ : Value → State → Prop} (h : ReadW P m S fun v => κ v S) : ValW P m S κ :=
  let ⟨v, a, b⟩ := h.out; ⟨fun w hw => ⟨v, w, S, a w hw, Ext.refl w, hw, b⟩⟩
theorem ValW.next {m : Sem Value} {S : State} {κ : Value → State → Prop} (h : ValW P m S κ) : NextW P (do pure (.value (← m))) S κ := fun w hw => by
  obtain ⟨v, w', S', hr, he, hh, hk⟩ := h.out w hw
  refine ⟨.value v, w', ?_, S', he, hh, hk⟩
  simp [Sem.run_bind, hr, Result.andThen]
theorem UnitW.next {m : Sem Unit} {S : State} {κ : Value → State → Prop} (h : UnitW P m S (κ undef)) : NextW P (do m; pure .skip) S κ := fun w hw => by
  obtain ⟨w', S', hr, he, hh, hk⟩ := h.out w hw
  refine ⟨.skip, w', ?_, S', he, hh, hk⟩
  simp [Sem.run_bind, hr, Result.andThen]

/-- A function is called, by its number. -/
structure CallsW (P : Program) (f : FuncId) (args : Array Value) (S : State) (κ : Value → State → Prop) : Prop where
  able : (match P.funcs[f]? with | some fn => fn.name != "runtime.NumGoroutine" && fn.body.isSome | none => false) = true
  out : ∀ w, Hold w S → CallsIn (FW none) 0 P f args w (EndsW w κ)
/-- A loop's body is called, by the loop's record. -/
structure YieldW (P : Program) (l : Nat) (args : Array Value) (S : State) (κ : Value → State → Prop) : Prop where
  out : ∀ w, Hold w S → YieldAt (FW none) 0 P l args w (EndsW w κ)

theorem CallsW.next {f : FuncId} {args : Array Value} {S : State} {κ : Value → State → Prop} (h : CallsW P f args S κ) : NextW P (callFunc f args) S κ := fun w hw => by
  obtain ⟨h1, h2⟩ := h
  split at h1
  · rename_i fn hf
    simp only [Bool.and_eq_true, bne_iff_ne, ne_eq] at h1
    refine ⟨.enter f args, w, ?_, h2 w hw⟩
    obtain ⟨hn, hb⟩ := h1
    obtain ⟨c, hc⟩ := Option.isSome_iff_exists.1 hb
    simp [callFunc, program, Sem.run_bind, Sem.run, hf, hn, hc, Result.andThen]
  · cases h1
theorem YieldW.next {l : Nat} {args : Array Value} {S : State} {κ : Value → State → Prop} (h : YieldW P l args S κ) : NextW P (Instr.yield l args) S κ := fun w hw => by
  obtain ⟨fn, tmps, assign, body, hr, hR⟩ := h.out w hw
  exact ⟨_, w, hr, hR⟩

/-- A function's value is called. -/
def FnW (P : Program) (f : Value) (args : List Value) (S : State) (κ : Value → State → Prop) : Prop :=
  match f with
  | .func (.func g) first captured => CallsW P g (first.toList ++ args ++ captured.toList).toArray S κ
  | .func (.yield l) first _ => YieldW P l (first.toList ++ args).toArray S κ
  | _ => False

theorem FnW.next {f : Value} {args : List Value} {S : State} {κ : Value → State → Prop} (h : FnW P f args S κ) :
    NextW P (do let d ← Deferred.ofValue f args.toArray; invoke d.target d.args) S κ := by
  unfold FnW at h
  split at h
  · rename_i g first captured
    have e : (do let d ← Deferred.ofValue (.func (.func g) first captured) args.toArray; invoke d.target d.args : Sem Next) = callFunc g (first.toList ++ args ++ captured.toList).toArray := by
      simp only [Deferred.ofValue, invoke, bind, pure, Sem.bind]
      congr 1
      apply Array.ext'
      simp
    rw [e]; exact h.next
  · rename_i l first captured
    have e : (do let d ← Deferred.ofValue (.func (.yield l) first captured) args.toArray; invoke d.target d.args : Sem Next) = Instr.yield l (first.toList ++ args).toArray := by
      simp only [Deferred.ofValue, invoke, bind, pure, Sem.bind]
      congr 1
      apply Array.ext'
      simp
    rw [e]; exact h.next
  · exact h.elim

/-- A builtin is called. -/
def BuiltinW (P : Program) (b : Builtin) (ats : Array TypeId) (t : TypeId) (args : List Value) (S : State) (κ : Value → State → Prop) : Prop :=
  match b, args with
  | .min, _ => PureW P (Builtin.min_ ats t args.toArray) fun v => κ v S
  | .max, _ => PureW P (Builtin.max_ ats t args.toArray) fun v => κ v S
  | .len, [.slice a n c] => PureW P (Builtin.len_ ats t #[.slice a n c]) fun v => κ v S
  | .len, [.string s] => PureW P (Builtin.len_ ats t #[.string s]) fun v => κ v S
  | .len, [.map r] => ReadW P (Builtin.len_ ats t #[.map r]) S fun v => κ v S
  | .cap, _ => PureW P (Builtin.cap_ ats t args.toArray) fun v => κ v S
  | .append, _ => ValW P (Builtin.append_ ats t args.toArray) S κ
  | .copy, _ => ValW P (Builtin.copy_ ats t args.toArray) S κ
  | .clear, _ => ValW P (Builtin.clear_ ats t args.toArray) S κ
  | .delete, _ => ValW P (Builtin.delete_ ats t args.toArray) S κ
  | _, _ => False

theorem BuiltinW.next {b : Builtin} {ats : Array TypeId} {t : TypeId} {cs : Array Bool} {args : List Value} {S : State} {κ : Value → State → Prop}
    (h : BuiltinW P b ats t args S κ) : NextW P (builtin b ats t cs args.toArray) S κ := by
  unfold BuiltinW at h
  split at h
  · exact (h.read S).val.next
  · exact (h.read S).val.next
  · exact (h.read S).val.next
  · exact (h.read S).val.next
  · exact h.val.next
  · exact (h.read S).val.next
  · exact h.next
  · exact h.next
  · exact h.next
  · exact h.next
  · exact h.elim

def withV (x : Option Value) (κ : Value → Prop) : Prop :=
  match x with
  | some v => κ v
  | none => False
def evL (L : Env) : List Operand → Option (List Value)
  | [] => some []
  | x :: l =>
    match evT L x, evL L l with
    | some v, some vs => some (v :: vs)
    | _, _ => none
def withL (x : Option (List Value)) (κ : List Value → Prop) : Prop :=
  match x with
  | some v => κ v
  | none => False
def evO (L : Env) : Option Operand → Option (Option Value)
  | none => some none
  | some x =>
    match evT L x with
    | some v => some (some v)
    | none => none
def withO (x : Option (Option Value)) (κ : Option Value → Prop) : Prop :=
  match x with
  | some v => κ v
  | none => False
def withB (v : Value) (κ : Bool → Prop) : Prop :=
  match v with
  | .bool b => κ b
  | _ => False
def evP (L : Env) : List (Nat × Operand) → Option (List (Nat × Value))
  | [] => some []
  | (i, x) :: l =>
    match evT L x, evP L l with
    | some v, some vs => some ((i, v) :: vs)
    | _, _ => none
def withP (x : Option (List (Nat × Value))) (κ : List (Nat × Value) → Prop) : Prop :=
  match x with
  | some v => κ v
  | none => False

/-- 'x is no nil': a pointer, a function. -/
def NilW (v : Value) (κ : Value → Prop) : Prop :=
  match v with
  | .pointer (some a) => κ (.pointer (some a))
  | .func (.func f) a b => κ (.func (.func f) a b)
  | .func (.yield f) a b => κ (.func (.yield f) a b)
  | _ => False

def ConvW (P : Program) (s d : TypeId) (v : Value) (S : State) (κ : Value → State → Prop) : Prop :=
  match v with
  | .int k n => PureW P (convert s d (.int k n)) fun v => κ v S
  | v => ValW P (convert s d v) S κ

/-- ONE OPERATION. -/
def stepW (P : Program) (op : Op) (t : TypeId) (L : Env) (S : State) (κ : Value → State → Prop) : Prop :=
  match op with
  | .move x | .assign x => withV (evT L x) fun v => κ v S
  | .pick c a b => withV (evT L c) fun v => withB v fun g => withV (evT L (if g then a else b)) fun u => κ u S
  | .alloc e => ValW P (Instr.alloc e true (.tuple #[])) S κ
  | .box e x => withV (evT L x) fun v => ValW P (Instr.box e v) S κ
  | .build u ps => withP (evP L ps.toList) fun vs => PureW P (Instr.build u vs.toArray) fun v => κ v S
  | .buildSlice u n ps => withP (evP L ps.toList) fun vs => ValW P (Instr.buildSlice u n vs.toArray) S κ
  | .load u x => withV (evT L x) fun a => ReadW P (Instr.loadAt u a) S fun v => κ v S
  | .store u x y => withV (evT L x) fun a => withV (evT L y) fun v => UnitW P (Instr.storeAt u a v) S (κ undef)
  | .nilCheck x => withV (evT L x) fun v => NilW v fun v => κ v S
  | .binOp o u x y _ => withV (evT L x) fun a => withV (evT L y) fun b => PureW P (do eqGuard o u x y a b; binOp o u a b) fun v => κ v S
  | .unOp o _ x => withV (evT L x) fun a => PureW P (Op.unary o a) fun v => κ v S
  | .convert s d x => withV (evT L x) fun v => ConvW P s d v S κ
  | .makeInterface u x => withV (evT L x) fun v => PureW P (Instr.makeInterface u v) fun v => κ v S
  | .makeFunc fn a b => withL (evL L a.toList) fun va => withL (evL L b.toList) fun vb => κ (.func fn va.toArray vb.toArray) S
  | .makeMap u r => withO (evO L r) fun v => ValW P (Instr.makeMap u v) S κ
  | .makeSlice u x y => withV (evT L x) fun a => withV (evT L y) fun b => ValW P (Instr.makeSlice u a b) S κ
  | .slice u x lo hi mx => withV (evT L x) fun v => withO (evO L lo) fun a => withO (evO L hi) fun b => withO (evO L mx) fun c => PureW P (Instr.sliceAt u v a b c) fun v => κ v S
  | .sliceToArrayPointer u x => withV (evT L x) fun v => PureW P (Instr.arrayAt u v) fun v => κ v S
  | .fieldAddr u x f => withV (evT L x) fun v => PureW P (Instr.fieldAt u v f) fun v => κ v S
  | .field u x f => withV (evT L x) fun v => PureW P (Instr.field u v f) fun v => κ v S
  | .indexAddr u x i => withV (evT L x) fun v => withV (evT L i) fun j => PureW P (Instr.indexAt u v j) fun v => κ v S
  | .index u x i => withV (evT L x) fun v => withV (evT L i) fun j => PureW P (Instr.index u v j) fun v => κ v S
  | .lookup u x i ok => withV (evT L x) fun v => withV (evT L i) fun j => ReadW P (Instr.lookup u v j ok) S fun v => κ v S
  | .mapUpdate u m k x | .insert u m k x => withV (evT L m) fun a => withV (evT L k) fun b => withV (evT L x) fun c => UnitW P (Instr.mapUpdate u a b c) S (κ undef)
  | .mapEntry u m k => withV (evT L m) fun a => withV (evT L k) fun b => ValW P (Instr.mapEntry u a b) S κ
  | .entryStore u m s x => withV (evT L m) fun a => withV (evT L s) fun b => withV (evT L x) fun c => UnitW P (Instr.entryStore u a b c) S (κ undef)
  | .range u x => withV (evT L x) fun v => ValW P (Instr.range u v) S κ
  | .next it s => withV (evT L it) fun v => ValW P (Instr.next v s t) S κ
  | .entry it => withV (evT L it) fun v => ValW P (Instr.entry v) S κ
  | .typeAssert x u v ok => withV (evT L x) fun a => PureW P (Instr.typeAssert a u v ok) fun v => κ v S
  | .extract x i => withV (evT L x) fun a => PureW P (Instr.extract a i) fun v => κ v S
  | .call c => withL (evL L c.args.toList) fun vs =>
    match c.callee with
    | .value f => withV (evT L f) fun fv => FnW P fv vs S κ
    | .builtin b => BuiltinW P b c.argTypes t vs S κ
    | .invoke _ _ => False
  | _ => False

theorem withV_out {L : Env} {x : Operand} {κ : Value → Prop} (h : withV (evT L x) κ) : ∃ v, evT L x = some v ∧ κ v := by
  cases hx : evT L x with
  | none => rw [hx] at h; exact h.elim
  | some v => rw [hx] at h; exact ⟨v, rfl, h⟩
theorem withO_out {L : Env} {x : Option Operand} {ρ : Operand → Value} (hρ : ∀ x v, evT L x = some v → ρ x = v) {κ : Option Value → Prop} (h : withO (evO L x) κ) : κ (x.map ρ) := by
  cases x with
  | none => exact h
  | some x =>
    simp only [evO] at h
    cases hx : evT L x with
    | none => rw [hx] at h; exact h.elim
    | some v => rw [hx] at h; simp only [Option.map_some, hρ x v hx]; exact h
theorem evL_out {L : Env} {ρ : Operand → Value} (hρ : ∀ x v, evT L x = some v → ρ x = v) : ∀ (l : List Operand) (vs : List Value), evL L l = some vs → l.map ρ = vs
  | [], vs, h => by simp only [evL] at h; cases h; rfl
  | x :: l, vs, h => by
    simp only [evL] at h
    cases hx : evT L x with
    | none => simp [hx] at h
    | some v =>
      cases hl : evL L l with
      | none => simp [hx, hl] at h
      | some us =>
        simp only [hx, hl, Option.some.injEq] at h
        subst h
        simp [hρ x v hx, evL_out hρ l us hl]
theorem evP_out {L : Env} {ρ : Operand → Value} (hρ : ∀ x v, evT L x = some v → ρ x = v) : ∀ (l : List (Nat × Operand)) (vs : List (Nat × Value)), evP L l = some vs → (l.map fun (i, x) => (i, ρ x)) = vs
  | [], vs, h => by simp only [evP] at h; cases h; rfl
  | (i, x) :: l, vs, h => by
    simp only [evP] at h
    cases hx : evT L x with
    | none => simp [hx] at h
    | some v =>
      cases hl : evP L l with
      | none => simp [hx, hl] at h
      | some us =>
        simp only [hx, hl, Option.some.injEq] at h
        subst h
        simp [hρ x v hx, evP_out hρ l us hl]

theorem step_next {o : Oper} {L : Env} {S : State} {κ : Value → State → Prop} {ρ : Operand → Value} (hρ : ∀ x v, evT L x = some v → ρ x = v)
    (h : stepW P o.op o.type L S κ) : NextW P (execOp ρ o) S κ := by
  obtain ⟨dst, op, t, pos, after, guard⟩ := o
  have pureN : ∀ {v : Value} {S : State}, κ v S → NextW P (pure (.value v)) S κ := fun {v S} hk w hw => ⟨.value v, w, rfl, S, Ext.refl w, hw, hk⟩
  cases op <;> simp only [stepW] at h <;> simp only [execOp]
  case move x => obtain ⟨v, hx, h⟩ := withV_out h; rw [hρ x v hx]; exact pureN h
  case assign x => obtain ⟨v, hx, h⟩ := withV_out h; rw [hρ x v hx]; exact pureN h
  case pick c a b =>
    obtain ⟨v, hx, h⟩ := withV_out h
    cases v <;> first | exact h.elim | skip
    rename_i g
    simp only [withB] at h
    obtain ⟨u, hu, h⟩ := withV_out h
    have hu' := hρ _ _ hu
    rw [hρ c _ hx]
    intro w hw
    refine ⟨.value u, w, ?_, S, Ext.refl w, hw, h⟩
    cases g <;> simp_all [asBool, Sem.run_bind, Result.andThen]
  case alloc e => exact h.next
  case box e x => obtain ⟨v, hx, h⟩ := withV_out h; rw [hρ x v hx]; exact h.next
  case build u ps =>
    cases hp : evP L ps.toList with
    | none => rw [hp] at h; exact h.elim
    | some vs =>
      rw [hp] at h
      have e : (ps.map fun (i, x) => (i, ρ x)) = vs.toArray := Array.ext' (by simpa using evP_out hρ _ _ hp)
      rw [e]; exact (PureW.read h S).val.next
  case buildSlice u n ps =>
    cases hp : evP L ps.toList with
    | none => rw [hp] at h; exact h.elim
    | some vs =>
      rw [hp] at h
      have e : (ps.map fun (i, x) => (i, ρ x)) = vs.toArray := Array.ext' (by simpa using evP_out hρ _ _ hp)
      rw [e]; exact h.next
  case load u x => obtain ⟨v, hx, h⟩ := withV_out h; rw [hρ x v hx]; exact h.val.next
  case store u x y =>
    obtain ⟨v, hx, h⟩ := withV_out h; obtain ⟨v', hy, h⟩ := withV_out h
    rw [hρ x v hx, hρ y v' hy]; exact h.next
  case nilCheck x =>
    obtain ⟨v, hx, h⟩ := withV_out h; rw [hρ x v hx]
    unfold NilW at h
    split at h
    · exact pureN h
    · exact pureN h
    · exact pureN h
    · exact h.elim
  case binOp o u x y yt =>
    obtain ⟨v, hx, h⟩ := withV_out h; obtain ⟨v', hy, h⟩ := withV_out h
    rw [hρ x v hx, hρ y v' hy]; exact (PureW.read h S).val.next
  case unOp o u x => obtain ⟨v, hx, h⟩ := withV_out h; rw [hρ x v hx]; exact (PureW.read h S).val.next
  case convert s d x =>
    obtain ⟨v, hx, h⟩ := withV_out h; rw [hρ x v hx]
    unfold ConvW at h
    split at h
    · exact (PureW.read h S).val.next
    · exact h.next
  case sliceToArrayPointer u x => obtain ⟨v, hx, h⟩ := withV_out h; rw [hρ x v hx]; exact (PureW.read h S).val.next
  case makeInterface u x => obtain ⟨v, hx, h⟩ := withV_out h; rw [hρ x v hx]; exact (PureW.read h S).val.next
  case makeFunc fn a b =>
    cases ha : evL L a.toList with
    | none => rw [ha] at h; exact h.elim
    | some va =>
      rw [ha] at h
      simp only [withL] at h
      cases hb : evL L b.toList with
      | none => rw [hb] at h; exact h.elim
      | some vb =>
        rw [hb] at h
        have ea : a.map ρ = va.toArray := Array.ext' (by simpa using evL_out hρ _ _ ha)
        have eb : b.map ρ = vb.toArray := Array.ext' (by simpa using evL_out hρ _ _ hb)
        rw [ea, eb]
        exact ReadW.val (m := Instr.makeFunc fn va.toArray vb.toArray) ⟨_, fun w _ => rfl, h⟩ |>.next
  case makeMap u r => exact (withO_out (κ := fun v => ValW P (Instr.makeMap u v) S κ) hρ h).next
  case makeSlice u x y =>
    obtain ⟨v, hx, h⟩ := withV_out h; obtain ⟨v', hy, h⟩ := withV_out h
    rw [hρ x v hx, hρ y v' hy]; exact h.next
  case slice u x lo hi mx =>
    obtain ⟨v, hx, h⟩ := withV_out h; rw [hρ x v hx]
    have h := withO_out hρ h
    have h := withO_out hρ h
    have h := withO_out hρ h
    exact (PureW.read h S).val.next
  case fieldAddr u x f => obtain ⟨v, hx, h⟩ := withV_out h; rw [hρ x v hx]; exact (PureW.read h S).val.next
  case field u x f => obtain ⟨v, hx, h⟩ := withV_out h; rw [hρ x v hx]; exact (PureW.read h S).val.next
  case indexAddr u x y =>
    obtain ⟨v, hx, h⟩ := withV_out h; obtain ⟨v', hy, h⟩ := withV_out h
    rw [hρ x v hx, hρ y v' hy]; exact (PureW.read h S).val.next
  case index u x y =>
    obtain ⟨v, hx, h⟩ := withV_out h; obtain ⟨v', hy, h⟩ := withV_out h
    rw [hρ x v hx, hρ y v' hy]; exact (PureW.read h S).val.next
  case lookup u x y ok =>
    obtain ⟨v, hx, h⟩ := withV_out h; obtain ⟨v', hy, h⟩ := withV_out h
    rw [hρ x v hx, hρ y v' hy]; exact h.val.next
  case mapUpdate u m k x =>
    obtain ⟨v, hx, h⟩ := withV_out h; obtain ⟨v', hy, h⟩ := withV_out h; obtain ⟨v'', hz, h⟩ := withV_out h
    rw [hρ _ v hx, hρ _ v' hy, hρ _ v'' hz]; exact h.next
  case insert u m k x =>
    obtain ⟨v, hx, h⟩ := withV_out h; obtain ⟨v', hy, h⟩ := withV_out h; obtain ⟨v'', hz, h⟩ := withV_out h
    rw [hρ _ v hx, hρ _ v' hy, hρ _ v'' hz]; exact h.next
  case mapEntry u m k =>
    obtain ⟨v, hx, h⟩ := withV_out h; obtain ⟨v', hy, h⟩ := withV_out h
    rw [hρ _ v hx, hρ _ v' hy]; exact h.next
  case entryStore u m k x =>
    obtain ⟨v, hx, h⟩ := withV_out h; obtain ⟨v', hy, h⟩ := withV_out h; obtain ⟨v'', hz, h⟩ := withV_out h
    rw [hρ _ v hx, hρ _ v' hy, hρ _ v'' hz]; exact h.next
  case range u x => obtain ⟨v, hx, h⟩ := withV_out h; rw [hρ x v hx]; exact h.next
  case next it s => obtain ⟨v, hx, h⟩ := withV_out h; rw [hρ _ v hx]; exact h.next
  case entry it => obtain ⟨v, hx, h⟩ := withV_out h; rw [hρ _ v hx]; exact h.next
  case typeAssert x u v ok => obtain ⟨v, hx, h⟩ := withV_out h; rw [hρ _ v hx]; exact (PureW.read h S).val.next
  case extract x i => obtain ⟨v, hx, h⟩ := withV_out h; rw [hρ _ v hx]; exact (PureW.read h S).val.next
  case call c =>
    cases hp : evL L c.args.toList with
    | none => rw [hp] at h; exact h.elim
    | some vs =>
      rw [hp] at h
      simp only [withL] at h
      have e : c.args.map ρ = vs.toArray := Array.ext' (by simpa using evL_out hρ _ _ hp)
      unfold resolve
      rw [e]
      cases hc : c.callee with
      | value f =>
        rw [hc] at h
        obtain ⟨fv, hf, h⟩ := withV_out h
        simp only [hρ f fv hf]
        exact h.next
      | builtin b =>
        rw [hc] at h
        exact BuiltinW.next h
      | invoke r m => rw [hc] at h; exact h.elim
  all_goals exact h.elim

end Go.Ost
