/- A region whose order of evaluation Go leaves open, over chunks of memory: one walk, in an order that takes what changes nothing as early as may be, serves every order. Conditions: none. -/
import Derived.Test.YtfaobbekodifmaaDoorSf
import Derived.OrdersIn
set_option linter.unusedSimpArgs false
set_option linter.unusedVariables false
namespace Go.Ost
open Go

variable {P : Program} {n : Nat} {ro : Option Nat}

/-- Does an operation's value hang on memory? (Of those that change nothing.) -/
def readsB : Op → Bool
  | .load .. | .lookup .. => true
  | .call { callee := .builtin .len, .. } => true
  | _ => false

/-- One operation that changes nothing. -/
def stepQ (P : Program) (op : Op) (t : TypeId) (L : Env) (S : State) (κ : Value → Prop) : Prop :=
  match op with
  | .move x | .assign x => withV (evT L x) fun v => κ v
  | .pick c a b => withV (evT L c) fun v => withB v fun g => withV (evT L (if g then a else b)) fun u => κ u
  | .build u ps => withP (evP L ps.toList) fun vs => PureW P (Instr.build u vs.toArray) fun v => κ v
  | .load u x => withV (evT L x) fun a => ReadW P (Instr.loadAt u a) S fun v => κ v
  | .nilCheck x => withV (evT L x) fun v => NilW v fun v => κ v
  | .binOp o u x y _ => withV (evT L x) fun a => withV (evT L y) fun b => PureW P (do eqGuard o u x y a b; binOp o u a b) fun v => κ v
  | .unOp o _ x => withV (evT L x) fun a => PureW P (Op.unary o a) fun v => κ v
  | .convert s d x => withV (evT L x) fun v => PureW P (convert s d v) fun v => κ v
  | .makeInterface u x => withV (evT L x) fun v => PureW P (Instr.makeInterface u v) fun v => κ v
  | .makeFunc fn a b => withL (evL L a.toList) fun va => withL (evL L b.toList) fun vb => κ (.func fn va.toArray vb.toArray)
  | .slice u x lo hi mx => withV (evT L x) fun v => withO (evO L lo) fun a => withO (evO L hi) fun b => withO (evO L mx) fun c => PureW P (Instr.sliceAt u v a b c) fun v => κ v
  | .sliceToArrayPointer u x => withV (evT L x) fun v => PureW P (Instr.arrayAt u v) fun v => κ v
  | .fieldAddr u x f => withV (evT L x) fun v => PureW P (Instr.fieldAt u v f) fun v => κ v
  | .field u x f => withV (evT L x) fun v => PureW P (Instr.field u v f) fun v => κ v
  | .indexAddr u x i => withV (evT L x) fun v => withV (evT L i) fun j => PureW P (Instr.indexAt u v j) fun v => κ v
  | .index u x i => withV (evT L x) fun v => withV (evT L i) fun j => PureW P (Instr.index u v j) fun v => κ v
  | .lookup u x i ok => withV (evT L x) fun v => withV (evT L i) fun j => ReadW P (Instr.lookup u v j ok) S fun v => κ v
  | .typeAssert x u v ok => withV (evT L x) fun a => PureW P (Instr.typeAssert a u v ok) fun v => κ v
  | .extract x i => withV (evT L x) fun a => PureW P (Instr.extract a i) fun v => κ v
  | .call c => withL (evL L c.args.toList) fun vs =>
    match c.callee, vs with
    | .builtin .min, _ => PureW P (Builtin.min_ c.argTypes t vs.toArray) fun v => κ v
    | .builtin .max, _ => PureW P (Builtin.max_ c.argTypes t vs.toArray) fun v => κ v
    | .builtin .cap, _ => PureW P (Builtin.cap_ c.argTypes t vs.toArray) fun v => κ v
    | .builtin .len, [.slice a n c'] => PureW P (Builtin.len_ c.argTypes t #[.slice a n c']) fun v => κ v
    | .builtin .len, [.string s] => PureW P (Builtin.len_ c.argTypes t #[.string s]) fun v => κ v
    | .builtin .len, [.map r] => ReadW P (Builtin.len_ c.argTypes t #[.map r]) S fun v => κ v
    | _, _ => False
  | _ => False

theorem pure_val {m : Sem Value} {κ : Value → Prop} (h : PureW P m κ) : ∃ v, κ v ∧ ∀ w, (do pure (.value (← m)) : Sem Next).run P w = .ok (.value v) w := by
  obtain ⟨v, h1, h2⟩ := h.out
  exact ⟨v, h2, fun w => by simp [Sem.run_bind, h1 w, Result.andThen]⟩
theorem read_val {m : Sem Value} {S : State} {κ : Value → Prop} (h : ReadW P m S κ) : ∃ v, κ v ∧ ∀ w, Hold w S → (do pure (.value (← m)) : Sem Next).run P w = .ok (.value v) w := by
  obtain ⟨v, h1, h2⟩ := h.out
  exact ⟨v, h2, fun w hw => by simp [Sem.run_bind, h1 w hw, Result.andThen]⟩

/-- An operation that changes nothing: one value, in every world in which the state lies (where it reads no memory: in every world). -/
theorem stepQ_out {o : Oper} {L : Env} {S : State} {κ : Value → Prop} (h : stepQ P o.op o.type L S κ) :
    ∃ v, κ v ∧ ∀ (ρ : Operand → Value), (∀ x v, evT L x = some v → ρ x = v) → ∀ w, (readsB o.op = true → Hold w S) → (execOp ρ o).run P w = .ok (.value v) w := by
  obtain ⟨dst, op, t, pos, after, guard⟩ := o
  have viaPure : ∀ {m : (Operand → Value) → Sem Value} {m0 : Sem Value}, PureW P m0 κ → (∀ ρ : Operand → Value, (∀ x v, evT L x = some v → ρ x = v) → m ρ = m0) →
      ∃ v, κ v ∧ ∀ (ρ : Operand → Value), (∀ x v, evT L x = some v → ρ x = v) → ∀ w, (do pure (.value (← m ρ)) : Sem Next).run P w = .ok (.value v) w := by
    intro m m0 hp he
    obtain ⟨v, hk, hr⟩ := pure_val hp
    exact ⟨v, hk, fun ρ hρ w => by rw [he ρ hρ]; exact hr w⟩
  have viaRead : ∀ {m : (Operand → Value) → Sem Value} {m0 : Sem Value}, ReadW P m0 S κ → (∀ ρ : Operand → Value, (∀ x v, evT L x = some v → ρ x = v) → m ρ = m0) →
      ∃ v, κ v ∧ ∀ (ρ : Operand → Value), (∀ x v, evT L x = some v → ρ x = v) → ∀ w, Hold w S → (do pure (.value (← m ρ)) : Sem Next).run P w = .ok (.value v) w := by
    intro m m0 hp he
    obtain ⟨v, hk, hr⟩ := read_val hp
    exact ⟨v, hk, fun ρ hρ w hw => by rw [he ρ hρ]; exact hr w hw⟩
  cases op <;> simp only [stepQ] at h <;> simp only [execOp, readsB]
  case move x => obtain ⟨v, hx, h⟩ := withV_out h; exact ⟨v, h, fun ρ hρ w _ => by rw [hρ x v hx]; rfl⟩
  case assign x => obtain ⟨v, hx, h⟩ := withV_out h; exact ⟨v, h, fun ρ hρ w _ => by rw [hρ x v hx]; rfl⟩
  case pick c a b =>
    obtain ⟨v, hx, h⟩ := withV_out h
    cases v <;> first | exact h.elim | skip
    rename_i g
    simp only [withB] at h
    obtain ⟨u, hu, h⟩ := withV_out h
    refine ⟨u, h, fun ρ hρ w _ => ?_⟩
    have h1 := hρ _ _ hu
    rw [hρ c _ hx]
    cases g <;> simp_all [asBool, Sem.run_bind, Result.andThen]
  case build u ps =>
    cases hp : evP L ps.toList with
    | none => rw [hp] at h; exact h.elim
    | some vs =>
      rw [hp] at h
      obtain ⟨v, hk, hr⟩ := viaPure (m := fun ρ => Instr.build u (ps.map fun (i, x) => (i, ρ x))) h (fun ρ hρ => by
        have e : (ps.map fun (i, x) => (i, ρ x)) = vs.toArray := Array.ext' (by simpa using evP_out hρ _ _ hp)
        rw [e])
      exact ⟨v, hk, fun ρ hρ w _ => hr ρ hρ w⟩
  case load u x =>
    obtain ⟨a, hx, h⟩ := withV_out h
    obtain ⟨v, hk, hr⟩ := viaRead (m := fun ρ => Instr.loadAt u (ρ x)) h (fun ρ hρ => by simp only [hρ x a hx])
    exact ⟨v, hk, fun ρ hρ w hw => hr ρ hρ w (hw trivial)⟩
  case nilCheck x =>
    obtain ⟨v, hx, h⟩ := withV_out h
    unfold NilW at h
    split at h
    · exact ⟨_, h, fun ρ hρ w _ => by rw [hρ x _ hx]; rfl⟩
    · exact ⟨_, h, fun ρ hρ w _ => by rw [hρ x _ hx]; rfl⟩
    · exact ⟨_, h, fun ρ hρ w _ => by rw [hρ x _ hx]; rfl⟩
    · exact h.elim
  case binOp o u x y yt =>
    obtain ⟨a, hx, h⟩ := withV_out h; obtain ⟨b, hy, h⟩ := withV_out h
    obtain ⟨v, hk, hr⟩ := viaPure (m := fun ρ => do eqGuard o u x y (ρ x) (ρ y); binOp o u (ρ x) (ρ y)) h (fun ρ hρ => by simp only [hρ x a hx, hρ y b hy])
    exact ⟨v, hk, fun ρ hρ w _ => hr ρ hρ w⟩
  case unOp o u x =>
    obtain ⟨a, hx, h⟩ := withV_out h
    obtain ⟨v, hk, hr⟩ := viaPure (m := fun ρ => Op.unary o (ρ x)) h (fun ρ hρ => by simp only [hρ x a hx])
    exact ⟨v, hk, fun ρ hρ w _ => hr ρ hρ w⟩
  case convert s d x =>
    obtain ⟨a, hx, h⟩ := withV_out h
    obtain ⟨v, hk, hr⟩ := viaPure (m := fun ρ => convert s d (ρ x)) h (fun ρ hρ => by simp only [hρ x _ hx])
    exact ⟨v, hk, fun ρ hρ w _ => hr ρ hρ w⟩
  case sliceToArrayPointer u x =>
    obtain ⟨a, hx, h⟩ := withV_out h
    obtain ⟨v, hk, hr⟩ := viaPure (m := fun ρ => Instr.arrayAt u (ρ x)) h (fun ρ hρ => by simp only [hρ x a hx])
    exact ⟨v, hk, fun ρ hρ w _ => hr ρ hρ w⟩
  case makeInterface u x =>
    obtain ⟨a, hx, h⟩ := withV_out h
    obtain ⟨v, hk, hr⟩ := viaPure (m := fun ρ => Instr.makeInterface u (ρ x)) h (fun ρ hρ => by simp only [hρ x a hx])
    exact ⟨v, hk, fun ρ hρ w _ => hr ρ hρ w⟩
  case makeFunc fn a b =>
    cases ha : evL L a.toList with
    | none => rw [ha] at h; exact h.elim
    | some va =>
      rw [ha] at h
      simp only [withL] at h
      cases hb : evL L b.toList with
      | none => rw [hb] at h; exact h.elim
      | some vb =>
        rw [hb] at h
        refine ⟨_, h, fun ρ hρ w _ => ?_⟩
        have ea : a.map ρ = va.toArray := Array.ext' (by simpa using evL_out hρ _ _ ha)
        have eb : b.map ρ = vb.toArray := Array.ext' (by simpa using evL_out hρ _ _ hb)
        rw [ea, eb]; rfl
  case slice u x lo hi mx =>
    obtain ⟨a, hx, h⟩ := withV_out h
    have h2 : ∃ v, κ v ∧ ∀ (ρ : Operand → Value), (∀ x v, evT L x = some v → ρ x = v) → ∀ w, (do pure (.value (← Instr.sliceAt u (ρ x) (lo.map ρ) (hi.map ρ) (mx.map ρ))) : Sem Next).run P w = .ok (.value v) w := by
      cases h1 : evO L lo with
      | none => rw [h1] at h; exact h.elim
      | some lo' =>
        rw [h1] at h
        simp only [withO] at h
        cases h2 : evO L hi with
        | none => rw [h2] at h; exact h.elim
        | some hi' =>
          rw [h2] at h
          simp only at h
          cases h3 : evO L mx with
          | none => rw [h3] at h; exact h.elim
          | some mx' =>
            rw [h3] at h
            simp only at h
            have out : ∀ {y : Option Operand} {y' : Option Value} {ρ : Operand → Value}, (∀ x v, evT L x = some v → ρ x = v) → evO L y = some y' → y.map ρ = y' := by
              intro y y' ρ hρ he
              have := withO_out (κ := fun z => z = y') hρ (x := y) (by rw [he]; exact rfl)
              exact this
            exact viaPure (m := fun ρ => Instr.sliceAt u (ρ x) (lo.map ρ) (hi.map ρ) (mx.map ρ)) h (fun ρ hρ => by simp only [hρ x a hx, out hρ h1, out hρ h2, out hρ h3])
    obtain ⟨v, hk, hr⟩ := h2
    exact ⟨v, hk, fun ρ hρ w _ => hr ρ hρ w⟩
  case fieldAddr u x f =>
    obtain ⟨a, hx, h⟩ := withV_out h
    obtain ⟨v, hk, hr⟩ := viaPure (m := fun ρ => Instr.fieldAt u (ρ x) f) h (fun ρ hρ => by simp only [hρ x a hx])
    exact ⟨v, hk, fun ρ hρ w _ => hr ρ hρ w⟩
  case field u x f =>
    obtain ⟨a, hx, h⟩ := withV_out h
    obtain ⟨v, hk, hr⟩ := viaPure (m := fun ρ => Instr.field u (ρ x) f) h (fun ρ hρ => by simp only [hρ x a hx])
    exact ⟨v, hk, fun ρ hρ w _ => hr ρ hρ w⟩
  case indexAddr u x y =>
    obtain ⟨a, hx, h⟩ := withV_out h; obtain ⟨b, hy, h⟩ := withV_out h
    obtain ⟨v, hk, hr⟩ := viaPure (m := fun ρ => Instr.indexAt u (ρ x) (ρ y)) h (fun ρ hρ => by simp only [hρ x a hx, hρ y b hy])
    exact ⟨v, hk, fun ρ hρ w _ => hr ρ hρ w⟩
  case index u x y =>
    obtain ⟨a, hx, h⟩ := withV_out h; obtain ⟨b, hy, h⟩ := withV_out h
    obtain ⟨v, hk, hr⟩ := viaPure (m := fun ρ => Instr.index u (ρ x) (ρ y)) h (fun ρ hρ => by simp only [hρ x a hx, hρ y b hy])
    exact ⟨v, hk, fun ρ hρ w _ => hr ρ hρ w⟩
  case lookup u x y ok =>
    obtain ⟨a, hx, h⟩ := withV_out h; obtain ⟨b, hy, h⟩ := withV_out h
    obtain ⟨v, hk, hr⟩ := viaRead (m := fun ρ => Instr.lookup u (ρ x) (ρ y) ok) h (fun ρ hρ => by simp only [hρ x a hx, hρ y b hy])
    exact ⟨v, hk, fun ρ hρ w hw => hr ρ hρ w (hw trivial)⟩
  case typeAssert x u v' ok =>
    obtain ⟨a, hx, h⟩ := withV_out h
    obtain ⟨v, hk, hr⟩ := viaPure (m := fun ρ => Instr.typeAssert (ρ x) u v' ok) h (fun ρ hρ => by simp only [hρ x a hx])
    exact ⟨v, hk, fun ρ hρ w _ => hr ρ hρ w⟩
  case extract x i =>
    obtain ⟨a, hx, h⟩ := withV_out h
    obtain ⟨v, hk, hr⟩ := viaPure (m := fun ρ => Instr.extract (ρ x) i) h (fun ρ hρ => by simp only [hρ x a hx])
    exact ⟨v, hk, fun ρ hρ w _ => hr ρ hρ w⟩
  case call c =>
    obtain ⟨callee, args, ats⟩ := c
    cases hp : evL L args.toList with
    | none => rw [hp] at h; exact h.elim
    | some vs =>
      rw [hp] at h
      simp only [withL] at h
      have e : ∀ ρ : Operand → Value, (∀ x v, evT L x = some v → ρ x = v) → args.map ρ = vs.toArray := fun ρ hρ => Array.ext' (by simpa using evL_out hρ _ _ hp)
      split at h
      · subst_vars
        obtain ⟨v, hk, hr⟩ := viaPure (m := fun ρ => Builtin.min_ ats t (args.map ρ)) h (fun ρ hρ => by simp only [e ρ hρ])
        exact ⟨v, hk, fun ρ hρ w _ => hr ρ hρ w⟩
      · subst_vars
        obtain ⟨v, hk, hr⟩ := viaPure (m := fun ρ => Builtin.max_ ats t (args.map ρ)) h (fun ρ hρ => by simp only [e ρ hρ])
        exact ⟨v, hk, fun ρ hρ w _ => hr ρ hρ w⟩
      · subst_vars
        obtain ⟨v, hk, hr⟩ := viaPure (m := fun ρ => Builtin.cap_ ats t (args.map ρ)) h (fun ρ hρ => by simp only [e ρ hρ])
        exact ⟨v, hk, fun ρ hρ w _ => hr ρ hρ w⟩
      · subst_vars
        obtain ⟨v, hk, hr⟩ := viaPure (m := fun ρ => Builtin.len_ ats t (args.map ρ)) h (fun ρ hρ => by simp only [e ρ hρ])
        exact ⟨v, hk, fun ρ hρ w _ => hr ρ hρ w⟩
      · subst_vars
        obtain ⟨v, hk, hr⟩ := viaPure (m := fun ρ => Builtin.len_ ats t (args.map ρ)) h (fun ρ hρ => by simp only [e ρ hρ])
        exact ⟨v, hk, fun ρ hρ w _ => hr ρ hρ w⟩
      · subst_vars
        obtain ⟨v, hk, hr⟩ := viaRead (m := fun ρ => Builtin.len_ ats t (args.map ρ)) h (fun ρ hρ => by simp only [e ρ hρ])
        exact ⟨v, hk, fun ρ hρ w hw => hr ρ hρ w (hw rfl)⟩
      · exact h.elim
  all_goals exact h.elim

end Go.Ost
