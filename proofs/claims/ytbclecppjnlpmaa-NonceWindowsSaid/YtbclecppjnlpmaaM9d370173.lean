/- Texts in a row: the walk's rules and contracts, as each says. Conditions: as each says. -/
import Derived.Test.YtbclecppjnlpmaaMbf37382f
import Derived.OrdersIn
import Derived.Laws.AppendOwn
import Derived.Laws.BytesString
import Derived.Laws.Strings
import Derived.Laws.MakeOwn
/- A region whose order of evaluation Go leaves open, over chunks of memory: one walk, in an order that takes what changes nothing as early as may be, serves every order. Conditions: none. -/
set_option linter.unusedSimpArgs false
set_option linter.unusedVariables false
namespace Go.Ost
open Go

variable {P : Program} {n : Nat} {ro : Option Nat}

/-- Does an operation's value hang on memory? (Of those that change nothing.) -/
def readsB : Op → Bool
  | .load .. | .lookup .. => true
  | .call { callee := .builtin .len, .. } => true
  | _ => false

/-- One operation that changes nothing. -/
def stepQ (P : Program) (op : Op) (t : TypeId) (L : Env) (S : State) (κ : Value → Prop) : Prop :=
  match op with
  | .move x | .assign x => withV (evT L x) fun v => κ v
  | .pick c a b => withV (evT L c) fun v => withB v fun g => withV (evT L (if g then a else b)) fun u => κ u
  | .build u ps => withP (evP L ps.toList) fun vs => PureW P (Instr.build u vs.toArray) fun v => κ v
  | .load u x => withV (evT L x) fun a => ReadW P (Instr.loadAt u a) S fun v => κ v
  | .nilCheck x => withV (evT L x) fun v => NilW v fun v => κ v
  | .binOp o u x y _ => withV (evT L x) fun a => withV (evT L y) fun b => PureW P (do eqGuard o u x y a b; binOp o u a b) fun v => κ v
  | .unOp o _ x => withV (evT L x) fun a => PureW P (Op.unary o a) fun v => κ v
  | .convert s d x => withV (evT L x) fun v => PureW P (convert s d v) fun v => κ v
  | .makeInterface u x => withV (evT L x) fun v => PureW P (Instr.makeInterface u v) fun v => κ v
  | .makeFunc fn a b => withL (evL L a.toList) fun va => withL (evL L b.toList) fun vb => κ (.func fn va.toArray vb.toArray)
  | .slice u x lo hi mx => withV (evT L x) fun v => withO (evO L lo) fun a => withO (evO L hi) fun b => withO (evO L mx) fun c => PureW P (Instr.sliceAt u v a b c) fun v => κ v
  | .sliceToArrayPointer u x => withV (evT L x) fun v => PureW P (Instr.arrayAt u v) fun v => κ v
  | .fieldAddr u x f => withV (evT L x) fun v => PureW P (Instr.fieldAt u v f) fun v => κ v
  | .field u x f => withV (evT L x) fun v => PureW P (Instr.field u v f) fun v => κ v
  | .indexAddr u x i => withV (evT L x) fun v => withV (evT L i) fun j => PureW P (Instr.indexAt u v j) fun v => κ v
  | .index u x i => withV (evT L x) fun v => withV (evT L i) fun j => PureW P (Instr.index u v j) fun v => κ v
  | .lookup u x i ok => withV (evT L x) fun v => withV (evT L i) fun j => ReadW P (Instr.lookup u v j ok) S fun v => κ v
  | .typeAssert x u v ok => withV (evT L x) fun a => PureW P (Instr.typeAssert a u v ok) fun v => κ v
  | .extract x i => withV (evT L x) fun a => PureW P (Instr.extract a i) fun v => κ v
  | .call c => withL (evL L c.args.toList) fun vs =>
    match c.callee, vs with
    | .builtin .min, _ => PureW P (Builtin.min_ c.argTypes t vs.toArray) fun v => κ v
    | .builtin .max, _ => PureW P (Builtin.max_ c.argTypes t vs.toArray) fun v => κ v
    | .builtin .cap, _ => PureW P (Builtin.cap_ c.argTypes t vs.toArray) fun v => κ v
    | .builtin .len, [.slice a n c'] => PureW P (Builtin.len_ c.argTypes t #[.slice a n c']) fun v => κ v
    | .builtin .len, [.string s] => PureW P (Builtin.len_ c.argTypes t #[.string s]) fun v => κ v
    | .builtin .len, [.map r] => ReadW P (Builtin.len_ c.argTypes t #[.map r]) S fun v => κ v
    | _, _ => False
  | _ => False

theorem pure_val {m : Sem Value} {κ : Value → Prop} (h : PureW P m κ) : ∃ v, κ v ∧ ∀ w, (do pure (.value (← m)) : Sem Next).run P w = .ok (.value v) w := by
  obtain ⟨v, h1, h2⟩ := h.out
  exact ⟨v, h2, fun w => by simp [Sem.run_bind, h1 w, Result.andThen]⟩
theorem read_val {m : Sem Value} {S : State} {κ : Value → Prop} (h : ReadW P m S κ) : ∃ v, κ v ∧ ∀ w, Hold w S → (do pure (.value (← m)) : Sem Next).run P w = .ok (.value v) w := by
  obtain ⟨v, h1, h2⟩ := h.out
  exact ⟨v, h2, fun w hw => by simp [Sem.run_bind, h1 w hw, Result.andThen]⟩

/-- An operation that changes nothing: one value, in every world in which the state lies (where it reads no memory: in every world). -/
theorem stepQ_out {o : Oper} {L : Env} {S : State} {κ : Value → Prop} (h : stepQ P o.op o.type L S κ) :
    ∃ v, κ v ∧ ∀ (ρ : Operand → Value), (∀ x v, evT L x = some v → ρ x = v) → ∀ w, (readsB o.op = true → Hold w S) → (execOp ρ o).run P w = .ok (.value v) w := by
  obtain ⟨dst, op, t, pos, after, guard⟩ := o
  have viaPure : ∀ {m : (Operand → Value) → Sem Value} {m0 : Sem Value}, PureW P m0 κ → (∀ ρ : Operand → Value, (∀ x v, evT L x = some v → ρ x = v) → m ρ = m0) →
      ∃ v, κ v ∧ ∀ (ρ : Operand → Value), (∀ x v, evT L x = some v → ρ x = v) → ∀ w, (do pure (.value (← m ρ)) : Sem Next).run P w = .ok (.value v) w := by
    intro m m0 hp he
    obtain ⟨v, hk, hr⟩ := pure_val hp
    exact ⟨v, hk, fun ρ hρ w => by rw [he ρ hρ]; exact hr w⟩
  have viaRead : ∀ {m : (Operand → Value) → Sem Value} {m0 : Sem Value}, ReadW P m0 S κ → (∀ ρ : Operand → Value, (∀ x v, evT L x = some v → ρ x = v) → m ρ = m0) →
      ∃ v, κ v ∧ ∀ (ρ : Operand → Value), (∀ x v, evT L x = some v → ρ x = v) → ∀ w, Hold w S → (do pure (.value (← m ρ)) : Sem Next).run P w = .ok (.value v) w := by
    intro m m0 hp he
    obtain ⟨v, hk, hr⟩ := read_val hp
    exact ⟨v, hk, fun ρ hρ w hw => by rw [he ρ hρ]; exact hr w hw⟩
  cases op <;> simp only [stepQ] at h <;> simp only [execOp, readsB]
  case move x => obtain ⟨v, hx, h⟩ := withV_out h; exact ⟨v, h, fun ρ hρ w _ => by rw [hρ x v hx]; rfl⟩
  case assign x => obtain ⟨v, hx, h⟩ := withV_out h; exact ⟨v, h, fun ρ hρ w _ => by rw [hρ x v hx]; rfl⟩
  case pick c a b =>
    obtain ⟨v, hx, h⟩ := withV_out h
    cases v <;> first | exact h.elim | skip
    rename_i g
    simp only [withB] at h
    obtain ⟨u, hu, h⟩ := withV_out h
    refine ⟨u, h, fun ρ hρ w _ => ?_⟩
    have h1 := hρ _ _ hu
    rw [hρ c _ hx]
    cases g <;> simp_all [asBool, Sem.run_bind, Result.andThen]
  case build u ps =>
    cases hp : evP L ps.toList with
    | none => rw [hp] at h; exact h.elim
    | some vs =>
      rw [hp] at h
      obtain ⟨v, hk, hr⟩ := viaPure (m := fun ρ => Instr.build u (ps.map fun (i, x) => (i, ρ x))) h (fun ρ hρ => by
        have e : (ps.map fun (i, x) => (i, ρ x)) = vs.toArray := Array.ext' (by simpa using evP_out hρ _ _ hp)
        rw [e])
      exact ⟨v, hk, fun ρ hρ w _ => hr ρ hρ w⟩
  case load u x =>
    obtain ⟨a, hx, h⟩ := withV_out h
    obtain ⟨v, hk, hr⟩ := viaRead (m := fun ρ => Instr.loadAt u (ρ x)) h (fun ρ hρ => by simp only [hρ x a hx])
    exact ⟨v, hk, fun ρ hρ w hw => hr ρ hρ w (hw trivial)⟩
  case nilCheck x =>
    obtain ⟨v, hx, h⟩ := withV_out h
    unfold NilW at h
    split at h
    · exact ⟨_, h, fun ρ hρ w _ => by rw [hρ x _ hx]; rfl⟩
    · exact ⟨_, h, fun ρ hρ w _ => by rw [hρ x _ hx]; rfl⟩
    · exact ⟨_, h, fun ρ hρ w _ => by rw [hρ x _ hx]; rfl⟩
    · exact h.elim
  case binOp o u x y yt =>
    obtain ⟨a, hx, h⟩ := withV_out h; obtain ⟨b, hy, h⟩ := withV_out h
    obtain ⟨v, hk, hr⟩ := viaPure (m := fun ρ => do eqGuard o u x y (ρ x) (ρ y); binOp o u (ρ x) (ρ y)) h (fun ρ hρ => by simp only [hρ x a hx, hρ y b hy])
    exact ⟨v, hk, fun ρ hρ w _ => hr ρ hρ w⟩
  case unOp o u x =>
    obtain ⟨a, hx, h⟩ := withV_out h
    obtain ⟨v, hk, hr⟩ := viaPure (m := fun ρ => Op.unary o (ρ x)) h (fun ρ hρ => by simp only [hρ x a hx])
    exact ⟨v, hk, fun ρ hρ w _ => hr ρ hρ w⟩
  case convert s d x =>
    obtain ⟨a, hx, h⟩ := withV_out h
    obtain ⟨v, hk, hr⟩ := viaPure (m := fun ρ => convert s d (ρ x)) h (fun ρ hρ => by simp only [hρ x _ hx])
    exact ⟨v, hk, fun ρ hρ w _ => hr ρ hρ w⟩
  case sliceToArrayPointer u x =>
    obtain ⟨a, hx, h⟩ := withV_out h
    obtain ⟨v, hk, hr⟩ := viaPure (m := fun ρ => Instr.arrayAt u (ρ x)) h (fun ρ hρ => by simp only [hρ x a hx])
    exact ⟨v, hk, fun ρ hρ w _ => hr ρ hρ w⟩
  case makeInterface u x =>
    obtain ⟨a, hx, h⟩ := withV_out h
    obtain ⟨v, hk, hr⟩ := viaPure (m := fun ρ => Instr.makeInterface u (ρ x)) h (fun ρ hρ => by simp only [hρ x a hx])
    exact ⟨v, hk, fun ρ hρ w _ => hr ρ hρ w⟩
  case makeFunc fn a b =>
    cases ha : evL L a.toList with
    | none => rw [ha] at h; exact h.elim
    | some va =>
      rw [ha] at h
      simp only [withL] at h
      cases hb : evL L b.toList with
      | none => rw [hb] at h; exact h.elim
      | some vb =>
        rw [hb] at h
        refine ⟨_, h, fun ρ hρ w _ => ?_⟩
        have ea : a.map ρ = va.toArray := Array.ext' (by simpa using evL_out hρ _ _ ha)
        have eb : b.map ρ = vb.toArray := Array.ext' (by simpa using evL_out hρ _ _ hb)
        rw [ea, eb]; rfl
  case slice u x lo hi mx =>
    obtain ⟨a, hx, h⟩ := withV_out h
    have h2 : ∃ v, κ v ∧ ∀ (ρ : Operand → Value), (∀ x v, evT L x = some v → ρ x = v) → ∀ w, (do pure (.value (← Instr.sliceAt u (ρ x) (lo.map ρ) (hi.map ρ) (mx.map ρ))) : Sem Next).run P w = .ok (.value v) w := by
      cases h1 : evO L lo with
      | none => rw [h1] at h; exact h.elim
      | some lo' =>
        rw [h1] at h
        simp only [withO] at h
        cases h2 : evO L hi with
        | none => rw [h2] at h; exact h.elim
        | some hi' =>
          rw [h2] at h
          simp only at h
          cases h3 : evO L mx with
          | none => rw [h3] at h; exact h.elim
          | some mx' =>
            rw [h3] at h
            simp only at h
            have out : ∀ {y : Option Operand} {y' : Option Value} {ρ : Operand → Value}, (∀ x v, evT L x = some v → ρ x = v) → evO L y = some y' → y.map ρ = y' := by
              intro y y' ρ hρ he
              have := withO_out (κ := fun z => z = y') hρ (x := y) (by rw [he]; exact rfl)
              exact this
            exact viaPure (m := fun ρ => Instr.sliceAt u (ρ x) (lo.map ρ) (hi.map ρ) (mx.map ρ)) h (fun ρ hρ => by simp only [hρ x a hx, out hρ h1, out hρ h2, out hρ h3])
    obtain ⟨v, hk, hr⟩ := h2
    exact ⟨v, hk, fun ρ hρ w _ => hr ρ hρ w⟩
  case fieldAddr u x f =>
    obtain ⟨a, hx, h⟩ := withV_out h
    obtain ⟨v, hk, hr⟩ := viaPure (m := fun ρ => Instr.fieldAt u (ρ x) f) h (fun ρ hρ => by simp only [hρ x a hx])
    exact ⟨v, hk, fun ρ hρ w _ => hr ρ hρ w⟩
  case field u x f =>
    obtain ⟨a, hx, h⟩ := withV_out h
    obtain ⟨v, hk, hr⟩ := viaPure (m := fun ρ => Instr.field u (ρ x) f) h (fun ρ hρ => by simp only [hρ x a hx])
    exact ⟨v, hk, fun ρ hρ w _ => hr ρ hρ w⟩
  case indexAddr u x y =>
    obtain ⟨a, hx, h⟩ := withV_out h; obtain ⟨b, hy, h⟩ := withV_out h
    obtain ⟨v, hk, hr⟩ := viaPure (m := fun ρ => Instr.indexAt u (ρ x) (ρ y)) h (fun ρ hρ => by simp only [hρ x a hx, hρ y b hy])
    exact ⟨v, hk, fun ρ hρ w _ => hr ρ hρ w⟩
  case index u x y =>
    obtain ⟨a, hx, h⟩ := withV_out h; obtain ⟨b, hy, h⟩ := withV_out h
    obtain ⟨v, hk, hr⟩ := viaPure (m := fun ρ => Instr.index u (ρ x) (ρ y)) h (fun ρ hρ => by simp only [hρ x a hx, hρ y b hy])
    exact ⟨v, hk, fun ρ hρ w _ => hr ρ hρ w⟩
  case lookup u x y ok =>
    obtain ⟨a, hx, h⟩ := withV_out h; obtain ⟨b, hy, h⟩ := withV_out h
    obtain ⟨v, hk, hr⟩ := viaRead (m := fun ρ => Instr.lookup u (ρ x) (ρ y) ok) h (fun ρ hρ => by simp only [hρ x a hx, hρ y b hy])
    exact ⟨v, hk, fun ρ hρ w hw => hr ρ hρ w (hw trivial)⟩
  case typeAssert x u v' ok =>
    obtain ⟨a, hx, h⟩ := withV_out h
    obtain ⟨v, hk, hr⟩ := viaPure (m := fun ρ => Instr.typeAssert (ρ x) u v' ok) h (fun ρ hρ => by simp only [hρ x a hx])
    exact ⟨v, hk, fun ρ hρ w _ => hr ρ hρ w⟩
  case extract x i =>
    obtain ⟨a, hx, h⟩ := withV_out h
    obtain ⟨v, hk, hr⟩ := viaPure (m := fun ρ => Instr.extract (ρ x) i) h (fun ρ hρ => by simp only [hρ x a hx])
    exact ⟨v, hk, fun ρ hρ w _ => hr ρ hρ w⟩
  case call c =>
    obtain ⟨callee, args, ats⟩ := c
    cases hp : evL L args.toList with
    | none => rw [hp] at h; exact h.elim
    | some vs =>
      rw [hp] at h
      simp only [withL] at h
      have e : ∀ ρ : Operand → Value, (∀ x v, evT L x = some v → ρ x = v) → args.map ρ = vs.toArray := fun ρ hρ => Array.ext' (by simpa using evL_out hρ _ _ hp)
      split at h
      · subst_vars
        obtain ⟨v, hk, hr⟩ := viaPure (m := fun ρ => Builtin.min_ ats t (args.map ρ)) h (fun ρ hρ => by simp only [e ρ hρ])
        exact ⟨v, hk, fun ρ hρ w _ => hr ρ hρ w⟩
      · subst_vars
        obtain ⟨v, hk, hr⟩ := viaPure (m := fun ρ => Builtin.max_ ats t (args.map ρ)) h (fun ρ hρ => by simp only [e ρ hρ])
        exact ⟨v, hk, fun ρ hρ w _ => hr ρ hρ w⟩
      · subst_vars
        obtain ⟨v, hk, hr⟩ := viaPure (m := fun ρ => Builtin.cap_ ats t (args.map ρ)) h (fun ρ hρ => by simp only [e ρ hρ])
        exact ⟨v, hk, fun ρ hρ w _ => hr ρ hρ w⟩
      · subst_vars
        obtain ⟨v, hk, hr⟩ := viaPure (m := fun ρ => Builtin.len_ ats t (args.map ρ)) h (fun ρ hρ => by simp only [e ρ hρ])
        exact ⟨v, hk, fun ρ hρ w _ => hr ρ hρ w⟩
      · subst_vars
        obtain ⟨v, hk, hr⟩ := viaPure (m := fun ρ => Builtin.len_ ats t (args.map ρ)) h (fun ρ hρ => by simp only [e ρ hρ])
        exact ⟨v, hk, fun ρ hρ w _ => hr ρ hρ w⟩
      · subst_vars
        obtain ⟨v, hk, hr⟩ := viaRead (m := fun ρ => Builtin.len_ ats t (args.map ρ)) h (fun ρ hρ => by simp only [e ρ hρ])
        exact ⟨v, hk, fun ρ hρ w hw => hr ρ hρ w (hw rfl)⟩
      · exact h.elim
  all_goals exact h.elim

end Go.Ost

/- A region whose order of evaluation Go leaves open, over chunks of memory: the rule. Conditions: none. -/
set_option linter.unusedSimpArgs false
set_option linter.unusedVariables false
namespace Go.Ost
open Go

variable {P : Program} {n : Nat} {ro : Option Nat}

abbrev Entry := Nat × Bool × List Nat

def dstOf (ops : Array Oper) (j : Nat) : Option Tmp := (ops[j]?).bind (·.dst)
def looksOf (ops : Array Oper) (j : Nat) : List Tmp := match ops[j]? with | some o => o.looksAt ops | none => []
def readsOf (ops : Array Oper) (j : Nat) : Bool := match ops[j]? with | some o => readsB o.op | none => false
def afterOf (ops : Array Oper) (j : Nat) : List Nat := match ops[j]? with | some o => (o.after.toList.filter (Region.binds .any)).map (·.on) | none => []

/-- What must hold of one entry, those in pre having been taken before it. -/
def okAt (ops : Array Oper) (A : List (List Nat)) (n : Nat) (pre : List Entry) (x : Entry) : Bool :=
  (afterOf ops x.1).all (fun j => pre.any (·.1 == j)) &&
  pre.all (fun y => !y.2.1 || (A.getD x.1 []).contains y.1) &&
  !pre.any (·.1 == x.1) &&
  pre.all (fun y => y.2.1 ||
    ((match dstOf ops y.1 with | some d => !(looksOf ops x.1).contains d || (A.getD x.1 []).contains y.1 | none => true) &&
     (match dstOf ops x.1 with | some d => (!(looksOf ops y.1).contains d && dstOf ops y.1 != some d) || (x.2.1 && (A.getD x.1 []).contains y.1) | none => true) &&
     (!x.2.1 || !readsOf ops y.1 || (A.getD x.1 []).contains y.1 || x.2.2.contains y.1))) &&
  (x.2.1 || (match dstOf ops x.1 with | some d => decide (d < n) && !(looksOf ops x.1).contains d | none => false)) &&
  decide (x.1 < ops.size)

def okPairs (ops : Array Oper) (A : List (List Nat)) (n : Nat) : List Entry → List Entry → Bool
  | _, [] => true
  | pre, x :: l => okAt ops A n pre x && okPairs ops A n (pre ++ [x]) l

/-- The ancestors of the operations, as far as their edges show them. -/
def certB (ops : Array Oper) (A : List (List Nat)) : Bool :=
  (List.range ops.size).all fun i => (A.getD i []).all fun j => (afterOf ops i).any fun e => e == j || (A.getD e []).contains j

def okDraw (ops : Array Oper) (A : List (List Nat)) (n : Nat) (pl : List Entry) : Bool :=
  certB ops A && okPairs ops A n [] pl && (List.range ops.size).all fun i => pl.any (·.1 == i)

def quietW (P : Program) (ops : Array Oper) (o : Oper) (L : Env) (S : State) (κ : Value → Prop) : Prop :=
  guardW ops o L (stepQ P o.op o.type L S κ) (κ undef)

def stillAll (P : Program) (ops : Array Oper) : List Nat → Env → State → Prop → Prop
  | [], _, _, p => p
  | j :: js, L, S, p =>
    match ops[j]? with
    | some o => (match o.dst with | some d => withV (lookT L d) fun v => quietW P ops o L S fun u => u = v | none => False) ∧ stillAll P ops js L S p
    | none => False

/-- The walk of the region, in the order of the plan. -/
def drawW (P : Program) (n : Nat) (ops : Array Oper) (K : Env → State → Prop) : List Entry → Env → State → Prop
  | [], L, S => K L S
  | (i, false, _) :: l, L, S =>
    match ops[i]? with
    | some o => quietW P ops o L S fun v => drawW P n ops K l (putT n o.dst v L) S
    | none => False
  | (i, true, pend) :: l, L, S =>
    match ops[i]? with
    | some o => guardW ops o L (stepW P o.op o.type L S fun v S' => stillAll P ops pend (putT n o.dst v L) S' (drawW P n ops K l (putT n o.dst v L) S'))
        (stillAll P ops pend (putT n o.dst undef L) S (drawW P n ops K l (putT n o.dst undef L) S))
    | none => False

def Yielding (P : Program) (ops : Array Oper) (o : Oper) (a : Act) (w : World) (v : Value) : Prop :=
  (Region.wanted o (yielded ops a.tmps) = true ∧ (execOp a.eval o).run P w = .ok (.value v) w) ∨ (Region.wanted o (yielded ops a.tmps) = false ∧ v = undef)

/-- The temporaries at which an operation looks hold what is known of them. -/
def Agrees (ts : List Tmp) (L : Env) (a : Act) : Prop := ∀ t ∈ ts, ∀ u, lookT L t = some u → a.tmps[t]? = some u

theorem guard_agrees {ops : Array Oper} {o : Oper} {L : Env} {a : Act} {A B : Prop} (ha : Agrees (o.looksAt ops) L a) (h : guardW ops o L A B) :
    (Region.wanted o (yielded ops a.tmps) = true ∧ A) ∨ (Region.wanted o (yielded ops a.tmps) = false ∧ B) := by
  unfold guardW at h
  cases hg : o.guard with
  | none => rw [hg] at h; exact .inl ⟨by simp [Region.wanted, hg], h⟩
  | some g =>
    obtain ⟨j, want⟩ := g
    rw [hg] at h
    simp only at h
    cases hd : (ops[j]?).bind (·.dst) with
    | none => rw [hd] at h; exact h.elim
    | some d =>
      rw [hd] at h
      simp only at h
      have hmem : d ∈ o.looksAt ops := by simp [Oper.looksAt, hg, hd]
      cases hv : lookT L d with
      | none => rw [hv] at h; exact h.elim
      | some v =>
        rw [hv] at h
        have ht := ha d hmem v hv
        cases v <;> first | exact h.elim | skip
        case bool b =>
          simp only [withV] at h
          split at h
          · subst_vars; exact .inl ⟨by simp [Region.wanted, hg, yielded, hd, ht], h⟩
          · rename_i hne; exact .inr ⟨by simp [Region.wanted, hg, yielded, hd, ht, hne], h⟩
        case tuple vs => exact .inr ⟨by simp [Region.wanted, hg, yielded, hd, ht], h⟩

/-- An act that knows all, and is as the act on what the operation looks at. -/
theorem full_rho {ops : Array Oper} {o : Oper} {L : Env} {a : Act} (ha : Agrees (o.looksAt ops) L a) :
    ∃ ρ : Operand → Value, (∀ x v, evT L x = some v → ρ x = v) ∧ ∀ x ∈ o.op.operands, ρ x = a.eval x := by
  refine ⟨fun x => (evT L x).getD (a.eval x), fun x v h => by simp [h], fun x hx => ?_⟩
  simp only
  cases h : evT L x with
  | none => rfl
  | some v =>
    simp only [Option.getD_some]
    cases x with
    | tmp t =>
      have hmem : t ∈ o.looksAt ops := List.mem_append_left _ (List.mem_filterMap.2 ⟨.tmp t, by simpa using hx, rfl⟩)
      have := ha t hmem v h
      simp [Act.eval, this]
    | const u => cases h; rfl
    | global g => cases h; rfl
    | func f => cases h; rfl

theorem stepQ_not_select {op : Op} {t : TypeId} {L : Env} {S : State} {κ : Value → Prop} (h : stepQ P op t L S κ) : ∀ cs b, op ≠ .select cs b := by intro cs b e; subst e; exact h
theorem stepQ_not_defer {op : Op} {t : TypeId} {L : Env} {S : State} {κ : Value → Prop} (h : stepQ P op t L S κ) : ∀ c, op ≠ .defer c := by intro cs e; subst e; exact h
theorem stepW_not_select {op : Op} {t : TypeId} {L : Env} {S : State} {κ : Value → State → Prop} (h : stepW P op t L S κ) : ∀ cs b, op ≠ .select cs b := by intro cs b e; subst e; exact h

theorem quiet_out {ops : Array Oper} {o : Oper} {L : Env} {S : State} {κ : Value → Prop} (h : quietW P ops o L S κ) :
    ∃ v, κ v ∧ ((∀ c, o.op ≠ .defer c) ∨ o.guard ≠ none) ∧ ∀ a w, Agrees (o.looksAt ops) L a → (readsB o.op = true → Hold w S) → Yielding P ops o a w v ∧ ((∀ c, o.op ≠ .defer c) ∨ Region.wanted o (yielded ops a.tmps) = false) := by
  unfold quietW at h
  by_cases hd : ∃ a, Agrees (o.looksAt ops) L a ∧ Region.wanted o (yielded ops a.tmps) = true
  · obtain ⟨a0, h1, h2⟩ := hd
    rcases guard_agrees h1 h with ⟨_, hs⟩ | ⟨h3, _⟩
    · obtain ⟨v, hk, hr⟩ := stepQ_out hs
      refine ⟨v, hk, .inl (stepQ_not_defer hs), fun a w ha hw => ⟨?_, .inl (stepQ_not_defer hs)⟩⟩
      -- the guard says the same to every act
      have hwn : Region.wanted o (yielded ops a.tmps) = true := by
        unfold guardW at h
        cases hg : o.guard with
        | none => simp [Region.wanted, hg]
        | some g =>
          obtain ⟨j, want⟩ := g
          rw [hg] at h
          simp only at h
          cases hdd : (ops[j]?).bind (·.dst) with
          | none => rw [hdd] at h; exact h.elim
          | some d =>
            rw [hdd] at h
            simp only at h
            have hmem : d ∈ o.looksAt ops := by simp [Oper.looksAt, hg, hdd]
            cases hv : lookT L d with
            | none => rw [hv] at h; exact h.elim
            | some v' =>
              have e1 := h1 d hmem v' hv
              have e2 := ha d hmem v' hv
              simp only [Region.wanted, hg, yielded, hdd, e1, e2, Option.bind_some] at h2 ⊢
              exact h2
      obtain ⟨ρ, hρ, he⟩ := full_rho ha
      refine .inl ⟨hwn, ?_⟩
      rw [← execOp_congr o (stepQ_not_select hs) he]
      exact hr ρ hρ w hw
    · rw [h2] at h3; cases h3
  · refine ⟨undef, ?_, ?_, fun a w ha _ => ?_⟩
    · by_cases hg : o.guard = none
      · exfalso
        exact hd ⟨{ tmps := Array.ofFn (n := (L.map (·.1)).foldr max 0 + 1) (fun i => (lookT L i).getD undef), defers := [] }, by
          intro t _ u hu
          have hb : ∀ (L : Env) t u, lookT L t = some u → t ≤ (L.map (·.1)).foldr max 0 := by
            intro L
            induction L with
            | nil => intro t u h; simp [lookT] at h
            | cons x L ih =>
              obtain ⟨d, v⟩ := x
              intro t u h
              simp only [lookT] at h
              simp only [List.map_cons, List.foldr_cons]
              split at h
              · subst_vars; exact Nat.le_max_left _ _
              · exact Nat.le_trans (ih t u h) (Nat.le_max_right _ _)
          have := hb L t u hu
          rw [Array.getElem?_ofFn]
          rw [dif_pos (by omega)]
          simp [hu], by simp [Region.wanted, hg]⟩
      · -- a guard that no act meets: passed over
        unfold guardW at h
        cases hg' : o.guard with
        | none => exact absurd hg' hg
        | some g =>
          obtain ⟨j, want⟩ := g
          rw [hg'] at h
          simp only at h
          cases hdd : (ops[j]?).bind (·.dst) with
          | none => rw [hdd] at h; exact h.elim
          | some d =>
            rw [hdd] at h
            simp only at h
            cases hv : lookT L d with
            | none => rw [hv] at h; exact h.elim
            | some v =>
              rw [hv] at h
              cases v <;> first | exact h.elim | skip
              case tuple vs => exact h
              case bool b =>
                simp only [withV] at h
                split at h
                · rename_i hb
                  exfalso
                  exact hd ⟨{ tmps := Array.ofFn (n := (L.map (·.1)).foldr max 0 + 1) (fun i => (lookT L i).getD undef), defers := [] }, by
                    intro t _ u hu
                    have hb : ∀ (L : Env) t u, lookT L t = some u → t ≤ (L.map (·.1)).foldr max 0 := by
                      intro L
                      induction L with
                      | nil => intro t u h; simp [lookT] at h
                      | cons x L ih =>
                        obtain ⟨d, v⟩ := x
                        intro t u h
                        simp only [lookT] at h
                        simp only [List.map_cons, List.foldr_cons]
                        split at h
                        · subst_vars; exact Nat.le_max_left _ _
                        · exact Nat.le_trans (ih t u h) (Nat.le_max_right _ _)
                    have := hb L t u hu
                    rw [Array.getElem?_ofFn]
                    rw [dif_pos (by omega)]
                    simp [hu], by
                    have hb' : ∀ (L : Env) t u, lookT L t = some u → t ≤ (L.map (·.1)).foldr max 0 := by
                      intro L
                      induction L with
                      | nil => intro t u h; simp [lookT] at h
                      | cons x L ih =>
                        obtain ⟨d, v⟩ := x
                        intro t u h
                        simp only [lookT] at h
                        simp only [List.map_cons, List.foldr_cons]
                        split at h
                        · subst_vars; exact Nat.le_max_left _ _
                        · exact Nat.le_trans (ih t u h) (Nat.le_max_right _ _)
                    have := hb' L d _ hv
                    simp only [Region.wanted, hg', yielded, hdd, Option.bind_some]
                    rw [Array.getElem?_ofFn, dif_pos (by omega)]
                    simp [hv, hb]⟩
                · exact h
    · by_cases hg : o.guard = none
      · exact .inl (by
          unfold guardW at h
          rw [hg] at h
          exact stepQ_not_defer h)
      · exact .inr hg
    · have hf : Region.wanted o (yielded ops a.tmps) = false := by
        cases hx : Region.wanted o (yielded ops a.tmps) with
        | false => rfl
        | true => exact absurd ⟨a, ha, hx⟩ hd
      exact ⟨.inr ⟨hf, rfl⟩, .inr hf⟩

theorem yielding_in {ops : Array Oper} {i : Nat} {o : Oper} {a : Act} {w : World} {v : Value} {K : Act → World → Prop} {Q : Exit → Act → World → Prop} (ho : ops[i]? = some o)
    (hy : Yielding P ops o a w v) (hd : (∀ c, o.op ≠ .defer c) ∨ Region.wanted o (yielded ops a.tmps) = false) (h : K (a.put o.dst v) w) : wpOpIn (FW ro) 0 P ops Q i K a w := by
  unfold wpOpIn
  rw [ho]
  simp only
  rcases hy with ⟨hw, hr⟩ | ⟨hw, rfl⟩
  · rw [if_pos hw]
    refine ⟨fun _ _ => trivial, ?_⟩
    rw [Oper.semAt_eq _ _ _ (hd.resolve_right (by simp [hw])), hr]
    exact h
  · rw [if_neg (by simp [hw])]
    exact ⟨fun _ _ => trivial, h⟩


theorem filter_less {p q : Nat → Bool} {i : Nat} : ∀ (l : List Nat), (∀ x, q x = true → p x = true) → i ∈ l → p i = true → q i = false → (l.filter q).length < (l.filter p).length
  | [], _, h, _, _ => by cases h
  | x :: l, hpq, hi, hp, hq => by
    have le : ∀ l : List Nat, (l.filter q).length ≤ (l.filter p).length := by
      intro l
      induction l with
      | nil => simp
      | cons y l ih =>
        simp only [List.filter_cons]
        by_cases h1 : q y = true
        · rw [if_pos h1, if_pos (hpq y h1)]; simpa using ih
        · rw [if_neg h1]
          split
          · simp only [List.length_cons]; omega
          · exact ih
    simp only [List.filter_cons]
    rcases List.mem_cons.1 hi with rfl | hi
    · rw [if_neg (by simp [hq]), if_pos hp]
      have := le l
      simp only [List.length_cons]; omega
    · have ih := filter_less l hpq hi hp hq
      by_cases h1 : q x = true
      · rw [if_pos h1, if_pos (hpq x h1)]; simp only [List.length_cons]; omega
      · rw [if_neg h1]
        split
        · simp only [List.length_cons]; omega
        · exact ih

theorem lookT_put {m : Nat} {dst : Option Tmp} {v : Value} {L : Env} {t : Nat} {u : Value} (h : lookT (putT m dst v L) t = some u) : (dst = some t ∧ t < m ∧ u = v) ∨ (lookT L t = some u) := by
  cases dst with
  | none => exact .inr h
  | some d =>
    simp only [putT] at h
    split at h
    · simp only [lookT] at h
      split at h
      · cases h; subst_vars; exact .inl ⟨rfl, ‹_›, rfl⟩
      · exact .inr h
    · exact .inr h
theorem lookT_put_ne {m : Nat} {dst : Option Tmp} {v : Value} {L : Env} {t : Nat} (h : dst ≠ some t) : lookT (putT m dst v L) t = lookT L t := by
  cases dst with
  | none => rfl
  | some d =>
    simp only [putT]
    split
    · simp only [lookT]; rw [if_neg (fun e => h (by rw [e]))]
    · rfl

/-- Between two operations of the region. -/
structure DInv (P : Program) (n : Nat) (ops : Array Oper) (A : List (List Nat)) (K : Env → State → Prop) (D : List Nat) (w0 : World) (pre l : List Entry) (listed : Array Bool) (L : Env) (S : State) (a : Act) (w : World) : Prop where
  size : listed.size = ops.size
  inPre : ∀ i, listed.getD i false = true → ∃ x ∈ pre, x.1 = i
  effs : ∀ x ∈ pre, x.2.1 = true → listed.getD x.1 false = true
  clos : ∀ i, listed.getD i false = true → ∀ j ∈ A.getD i [], listed.getD j false = true
  tmps : ∀ t v, lookT L t = some v → (∃ x ∈ pre, listed.getD x.1 false = false ∧ dstOf ops x.1 = some t) ∨ a.tmps[t]? = some v
  facts : ∀ x ∈ pre, listed.getD x.1 false = false → ∃ o v, ops[x.1]? = some o ∧ (∃ d, o.dst = some d ∧ d < n ∧ lookT L d = some v) ∧
    ∀ a' w', Agrees (o.looksAt ops) L a' → (readsB o.op = true → Hold w' S) → Yielding P ops o a' w' v ∧ ((∀ c, o.op ≠ .defer c) ∨ Region.wanted o (yielded ops a'.tmps) = false)
  prs : ∀ x ∈ pre, ∀ y ∈ pre, x.2.1 = false → y.2.1 = false → ∀ d, dstOf ops y.1 = some d → d ∈ looksOf ops x.1 → y.1 ∈ A.getD x.1 []
  asz : a.tmps.size = n
  dfr : a.defers = D.map markD
  ext : Ext w0 w
  hold : Hold w S
  ok : okPairs ops A n pre l = true
  pres : okPairs ops A n [] pre = true
  all : ∀ i, i < ops.size → (∃ x ∈ pre, x.1 = i) ∨ ∃ x ∈ l, x.1 = i
  rest : drawW P n ops K l L S

theorem okAt_parts {ops : Array Oper} {A : List (List Nat)} {pre : List Entry} {x : Entry} (h : okAt ops A n pre x = true) :
    (∀ j ∈ afterOf ops x.1, ∃ y ∈ pre, y.1 = j) ∧ (∀ y ∈ pre, y.2.1 = true → y.1 ∈ A.getD x.1 []) ∧ (∀ y ∈ pre, y.1 ≠ x.1) ∧
    (∀ y ∈ pre, y.2.1 = false → (∀ d, dstOf ops y.1 = some d → d ∈ looksOf ops x.1 → y.1 ∈ A.getD x.1 []) ∧
      (∀ d, dstOf ops x.1 = some d → (d ∉ looksOf ops y.1 ∧ dstOf ops y.1 ≠ some d) ∨ (x.2.1 = true ∧ y.1 ∈ A.getD x.1 [])) ∧
      (x.2.1 = true → readsOf ops y.1 = true → y.1 ∈ A.getD x.1 [] ∨ y.1 ∈ x.2.2)) ∧
    (x.2.1 = false → ∃ d, dstOf ops x.1 = some d ∧ d < n ∧ d ∉ looksOf ops x.1) ∧ x.1 < ops.size := by
  simp only [okAt, Bool.and_eq_true, decide_eq_true_eq] at h
  obtain ⟨⟨⟨⟨⟨h1, h2⟩, h3⟩, h4⟩, h5⟩, h6⟩ := h
  refine ⟨fun j hj => ?_, fun y hy he => ?_, fun y hy he => ?_, fun y hy he => ⟨fun d hd hl => ?_, fun d hd => ?_, fun hx hr => ?_⟩, fun hx => ?_, h6⟩
  · have := List.all_eq_true.1 h1 j hj
    obtain ⟨y, hy, e⟩ := List.any_eq_true.1 this
    exact ⟨y, hy, by simpa using e⟩
  · have := List.all_eq_true.1 h2 y hy
    simpa [he] using this
  · simp only [Bool.not_eq_true', List.any_eq_false] at h3
    exact h3 y hy (by simpa using he)
  · have := List.all_eq_true.1 h4 y hy
    simp only [he, Bool.false_or, Bool.and_eq_true, hd] at this
    simpa [hl] using this.1.1
  · have := List.all_eq_true.1 h4 y hy
    simp only [he, Bool.false_or, Bool.and_eq_true, hd] at this
    have := this.1.2
    simp only [Bool.or_eq_true, Bool.and_eq_true, Bool.not_eq_true', List.contains_eq_mem, decide_eq_false_iff_not, bne_iff_ne, ne_eq, decide_eq_true_eq] at this
    exact this
  · have := List.all_eq_true.1 h4 y hy
    simp only [he, Bool.false_or, Bool.and_eq_true] at this
    have := this.2
    simpa [hx, hr] using this
  · simp only [hx, Bool.false_or] at h5
    cases hd : dstOf ops x.1 with
    | none => rw [hd] at h5; cases h5
    | some d =>
      rw [hd] at h5
      simp only [Bool.and_eq_true, decide_eq_true_eq, Bool.not_eq_true', List.contains_eq_mem, decide_eq_false_iff_not] at h5
      exact ⟨d, rfl, h5.1, h5.2⟩

theorem okPairs_snoc {ops : Array Oper} {A : List (List Nat)} {x : Entry} : ∀ (l pre : List Entry), okPairs ops A n pre l = true → okAt ops A n (pre ++ l) x = true → okPairs ops A n pre (l ++ [x]) = true
  | [], pre, _, h => by simpa [okPairs] using h
  | y :: l, pre, h, hx => by
    simp only [okPairs, Bool.and_eq_true, List.cons_append] at h ⊢
    exact ⟨h.1, okPairs_snoc l _ h.2 (by simpa using hx)⟩
theorem okPairs_get {ops : Array Oper} {A : List (List Nat)} {x : Entry} : ∀ (l pre : List Entry) (k : Nat), okPairs ops A n pre l = true → l[k]? = some x → okAt ops A n (pre ++ l.take k) x = true
  | [], _, _, _, h => by simp at h
  | y :: l, pre, 0, h, hx => by
    simp only [okPairs, Bool.and_eq_true] at h
    simp at hx; subst hx
    simpa using h.1
  | y :: l, pre, k + 1, h, hx => by
    simp only [okPairs, Bool.and_eq_true] at h
    simp only [List.getElem?_cons_succ] at hx
    have := okPairs_get l (pre ++ [y]) k h.2 hx
    simpa using this

theorem okPairs_mem {ops : Array Oper} {A : List (List Nat)} : ∀ (l pre : List Entry), okPairs ops A n pre l = true → ∀ x ∈ l, ∃ q, okAt ops A n (pre ++ q) x = true
  | [], _, _, x, hx => by cases hx
  | y :: l, pre, h, x, hx => by
    simp only [okPairs, Bool.and_eq_true] at h
    rcases List.mem_cons.1 hx with rfl | hx
    · exact ⟨[], by simpa using h.1⟩
    · obtain ⟨q, hq⟩ := okPairs_mem l (pre ++ [y]) h.2 x hx
      exact ⟨y :: q, by simpa using hq⟩

/-- What changes nothing is taken at once. -/
theorem DInv.norm {ops : Array Oper} {A : List (List Nat)} {K : Env → State → Prop} {D : List Nat} {w0 : World} : ∀ (l pre : List Entry) (listed : Array Bool) (L : Env) (S : State) (a : Act) (w : World),
    DInv P n ops A K D w0 pre l listed L S a w → ∃ pre' l' L', DInv P n ops A K D w0 pre' l' listed L' S a w ∧ (l' = [] ∨ ∃ i pend l'', l' = (i, true, pend) :: l'')
  | [], pre, listed, L, S, a, w, h => ⟨pre, [], L, h, .inl rfl⟩
  | (i, true, pend) :: l, pre, listed, L, S, a, w, h => ⟨pre, _, L, h, .inr ⟨i, pend, l, rfl⟩⟩
  | (i, false, pend) :: l, pre, listed, L, S, a, w, h => by
    have hok := h.ok
    simp only [okPairs, Bool.and_eq_true] at hok
    obtain ⟨o1, o2, o3, o4, o5, o6⟩ := okAt_parts hok.1
    obtain ⟨d, hd, hdn, hdl⟩ := o5 rfl
    have hr := h.rest
    simp only [drawW] at hr
    cases ho : ops[i]? with
    | none => rw [ho] at hr; exact hr.elim
    | some o =>
      rw [ho] at hr
      simp only at hr
      obtain ⟨v, hk, _, hq⟩ := quiet_out hr
      have hdo : o.dst = some d := by simpa [dstOf, ho] using hd
      have hlo : looksOf ops i = o.looksAt ops := by simp [looksOf, ho]
      have hunl : listed.getD i false = false := by
        cases hx : listed.getD i false with
        | false => rfl
        | true => obtain ⟨y, hy, e⟩ := h.inPre i hx; exact absurd e (o3 y hy)
      have hL : putT n o.dst v L = (d, v) :: L := by simp [putT, hdo, hdn]
      rw [hL] at hk
      have keepA : ∀ (ts : List Tmp) (a' : Act), d ∉ ts → Agrees ts ((d, v) :: L) a' → Agrees ts L a' := by
        intro ts a' hn ha t ht u hu
        refine ha t ht u ?_
        simp only [lookT]
        rw [if_neg (fun e => hn (by rw [← e]; exact ht))]
        exact hu
      refine DInv.norm l (pre ++ [(i, false, pend)]) listed ((d, v) :: L) S a w ⟨h.size, ?_, ?_, h.clos, ?_, ?_, ?_, h.asz, h.dfr, h.ext, h.hold, hok.2, okPairs_snoc _ _ h.pres (by simpa using hok.1), ?_, hk⟩
      · intro j hj; obtain ⟨x, hx, e⟩ := h.inPre j hj; exact ⟨x, List.mem_append_left _ hx, e⟩
      · intro x hx he
        rcases List.mem_append.1 hx with hx | hx
        · exact h.effs x hx he
        · simp at hx; subst hx; cases he
      · intro t u hu
        simp only [lookT] at hu
        split at hu
        · subst_vars; exact .inl ⟨(i, false, pend), by simp, hunl, hd⟩
        · rcases h.tmps t u hu with ⟨x, hx, h1, h2⟩ | h3
          · exact .inl ⟨x, List.mem_append_left _ hx, h1, h2⟩
          · exact .inr h3
      · intro x hx hxl
        rcases List.mem_append.1 hx with hx | hx
        · obtain ⟨o', v', h1, ⟨d', h2, h3, h4⟩, h5⟩ := h.facts x hx hxl
          have hxe : x.2.1 = false := by
            cases hh : x.2.1 with
            | false => rfl
            | true => rw [h.effs x hx hh] at hxl; cases hxl
          have hne := ((o4 x hx hxe).2.1 d hd).resolve_right (fun hh => by cases hh.1)
          have hd' : dstOf ops x.1 = some d' := by simp [dstOf, h1, h2]
          refine ⟨o', v', h1, ⟨d', h2, h3, ?_⟩, fun a' w' ha hw => h5 a' w' (keepA _ a' (by simpa [looksOf, h1] using hne.1) ha) hw⟩
          simp only [lookT]
          rw [if_neg (fun e => hne.2 (by rw [hd', e]))]
          exact h4
        · simp at hx; subst hx
          refine ⟨o, v, ho, ⟨d, hdo, hdn, by simp [lookT]⟩, fun a' w' ha hw => hq a' w' (keepA _ a' (by rw [← hlo]; exact hdl) ha) hw⟩
      · intro x hx y hy hxe hye d' hd' hl'
        rcases List.mem_append.1 hx with hx | hx
        · rcases List.mem_append.1 hy with hy | hy
          · exact h.prs x hx y hy hxe hye d' hd' hl'
          · simp at hy; subst hy
            rw [hd] at hd'; cases hd'
            exact absurd hl' (((o4 x hx hxe).2.1 d hd).resolve_right (fun hh => by cases hh.1)).1
        · simp at hx; subst hx
          rcases List.mem_append.1 hy with hy | hy
          · exact (o4 y hy hye).1 d' hd' hl'
          · simp at hy; subst hy
            rw [hd] at hd'; cases hd'
            exact absurd hl' hdl
      · intro j hj
        rcases h.all j hj with ⟨x, hx, e⟩ | ⟨x, hx, e⟩
        · exact .inl ⟨x, List.mem_append_left _ hx, e⟩
        · rcases List.mem_cons.1 hx with rfl | hx
          · exact .inl ⟨_, by simp, e⟩
          · exact .inr ⟨x, hx, e⟩


theorem getD_set {listed : Array Bool} {i j : Nat} (hi : i < listed.size) : (listed.setIfInBounds i true).getD j false = (if j = i then true else listed.getD j false) := by
  simp only [Array.getD_eq_getD_getElem?, Array.getElem?_setIfInBounds]
  by_cases h : i = j
  · subst h; simp [hi]
  · rw [if_neg h, if_neg (Ne.symm h)]

theorem still_out {ops : Array Oper} {L : Env} {S : State} {p : Prop} : ∀ (js : List Nat), stillAll P ops js L S p → p ∧ ∀ j ∈ js, ∃ o d v, ops[j]? = some o ∧ o.dst = some d ∧ lookT L d = some v ∧ quietW P ops o L S fun u => u = v
  | [], h => ⟨h, fun j hj => by cases hj⟩
  | j :: js, h => by
    simp only [stillAll] at h
    cases ho : ops[j]? with
    | none => rw [ho] at h; exact h.elim
    | some o =>
      rw [ho] at h
      obtain ⟨h1, h2⟩ := h
      obtain ⟨hp, hr⟩ := still_out js h2
      refine ⟨hp, fun k hk => ?_⟩
      rcases List.mem_cons.1 hk with rfl | hk
      · cases hd : o.dst with
        | none => rw [hd] at h1; exact h1.elim
        | some d =>
          rw [hd] at h1
          cases hv : lookT L d with
          | none => simp only [hv] at h1; exact h1.elim
          | some v => simp only [hv] at h1; exact ⟨o, d, v, ho, hd, hv, h1⟩
      · exact hr k hk

theorem draw_core {ops : Array Oper} {A : List (List Nat)} {K : Cont} {D : List Nat} {w0 : World} (hc : certB ops A = true) : ∀ (fuel : Nat) (pre l : List Entry) (listed : Array Bool) (L : Env) (S : State) (a : Act) (w : World),
    DInv P n ops A (K .normal D) D w0 pre l listed L S a w → ((List.range ops.size).filter fun i => !listed.getD i false).length ≤ fuel →
    wpAnyIn (FW ro) 0 P .any ops (KQ n K w0) fuel listed a w := by
  intro fuel
  -- at a moment at which nothing is ready, all is done
  have fin : ∀ (pre l : List Entry) (listed : Array Bool) (L : Env) (S : State) (a : Act) (w : World), DInv P n ops A (K .normal D) D w0 pre l listed L S a w → Region.ready .any ops listed = [] → KQ n K w0 .normal a w := by
    intro pre l listed L S a w h hr
    obtain ⟨pre, l, L, h, hl⟩ := h.norm
    -- an operation whose edges all lead to what is done is ready
    have ready : ∀ i, i < ops.size → (∀ j ∈ afterOf ops i, listed.getD j false = true) → listed.getD i false = true := by
      intro i hi hall
      cases hx : listed.getD i false with
      | true => rfl
      | false =>
        exfalso
        have : i ∈ Region.ready .any ops listed := by
          refine List.mem_filter.2 ⟨List.mem_range.2 hi, ?_⟩
          have hsz : i < listed.size := by rw [h.size]; exact hi
          have h1 : listed.getD i true = false := by simpa [Array.getD_eq_getD_getElem?, hsz] using hx
          have ho : ops[i]? = some ops[i] := by simp [hi]
          rw [h1, ho]
          simp only [Option.map_some, Option.getD_some, Bool.not_false, Bool.true_and]
          rw [Array.all_eq_true']
          intro e he
          by_cases hb : Region.binds .any e = true
          · have := hall e.on (by simp only [afterOf, ho]; exact List.mem_map.2 ⟨e, List.mem_filter.2 ⟨by simpa using he, hb⟩, rfl⟩)
            simp [this]
          · simp [hb]
        rw [hr] at this; cases this
    have pend : ∀ (k : Nat) (x : Entry), pre[k]? = some x → listed.getD x.1 false = true := by
      intro k
      induction k using Nat.strongRecOn with
      | _ k ih =>
        intro x hx
        obtain ⟨o1, _, _, _, _, o6⟩ := okAt_parts (okPairs_get pre [] k h.pres hx)
        refine ready x.1 o6 fun j hj => ?_
        obtain ⟨y, hy, e⟩ := o1 j hj
        rw [List.nil_append] at hy
        obtain ⟨k', hk'⟩ := List.mem_iff_getElem?.1 hy
        have hlt : k' < k := by
          have := (List.getElem?_eq_some_iff.1 hk').1
          simp at this; omega
        rw [← e]
        refine ih k' hlt y ?_
        rw [List.getElem?_take_of_lt hlt] at hk'
        exact hk'
    rcases hl with rfl | ⟨i, pd, l'', rfl⟩
    · refine ⟨D, L, S, h.rest, ⟨h.asz, fun t v ht => ?_, h.dfr⟩, h.ext, h.hold⟩
      rcases h.tmps t v ht with ⟨x, hx, h1, _⟩ | h3
      · obtain ⟨k, hk⟩ := List.mem_iff_getElem?.1 hx
        rw [pend k x hk] at h1; cases h1
      · exact h3
    · exfalso
      have hok := h.ok
      simp only [okPairs, Bool.and_eq_true] at hok
      obtain ⟨o1, _, o3, _, _, o6⟩ := okAt_parts hok.1
      have hi : listed.getD i false = true := by
        refine ready i o6 fun j hj => ?_
        obtain ⟨y, hy, e⟩ := o1 j hj
        obtain ⟨k, hk⟩ := List.mem_iff_getElem?.1 hy
        rw [← e]; exact pend k y hk
      obtain ⟨y, hy, e⟩ := h.inPre i hi
      exact o3 y hy e
  induction fuel with
  | zero =>
    intro pre l listed L S a w h hle
    have hr : Region.ready .any ops listed = [] := by
      have h0 : ((List.range ops.size).filter fun i => !listed.getD i false) = [] := List.eq_nil_of_length_eq_zero (Nat.le_zero.1 hle)
      unfold Region.ready
      rw [List.filter_eq_nil_iff] at h0 ⊢
      intro i hi
      have := h0 i hi
      have hsz : i < listed.size := by rw [h.size]; exact List.mem_range.1 hi
      simp only [Array.getD_eq_getD_getElem?, hsz, Array.getElem?_eq_getElem, Option.getD_some] at this ⊢
      simp only [Bool.not_eq_true', Bool.not_eq_false] at this
      simp [this]
    exact ⟨hr, fin pre l listed L S a w h hr⟩
  | succ fuel ih =>
    intro pre l listed L S a w h hle
    refine ⟨fun hr => fin pre l listed L S a w h hr, fun i hi => ?_⟩
    obtain ⟨pre, l, L, h, hl⟩ := h.norm
    obtain ⟨hi1, hi2⟩ := List.mem_filter.1 hi
    have him := List.mem_range.1 hi1
    have hsz : i < listed.size := by rw [h.size]; exact him
    have ho : ops[i]? = some ops[i] := by simp [him]
    rw [ho] at hi2
    simp only [Option.map_some, Option.getD_some, Bool.and_eq_true, Bool.not_eq_true'] at hi2
    have hun : listed.getD i false = false := by
      have := hi2.1
      simpa [Array.getD_eq_getD_getElem?, hsz] using this
    have hdep : ∀ j ∈ afterOf ops i, listed.getD j false = true := by
      intro j hj
      simp only [afterOf, ho] at hj
      obtain ⟨e, he, rfl⟩ := List.mem_map.1 hj
      obtain ⟨he1, he2⟩ := List.mem_filter.1 he
      have := hi2.2
      rw [Array.all_eq_true'] at this
      have := this e (by simpa using he1)
      simpa [he2] using this
    have hanc : ∀ j ∈ A.getD i [], listed.getD j false = true := by
      intro j hj
      have h1 := List.all_eq_true.1 hc i (List.mem_range.2 him)
      have h2 := List.all_eq_true.1 h1 j hj
      obtain ⟨e, he, h3⟩ := List.any_eq_true.1 h2
      simp only [Bool.or_eq_true, beq_iff_eq, List.contains_eq_mem, decide_eq_true_eq] at h3
      rcases h3 with rfl | h3
      · exact hdep _ he
      · exact h.clos e (hdep e he) j h3
    have hsize' : (listed.setIfInBounds i true).size = ops.size := by simp [h.size]
    have hclos' : ∀ k, (listed.setIfInBounds i true).getD k false = true → ∀ j ∈ A.getD k [], (listed.setIfInBounds i true).getD j false = true := by
      intro k hk j hj
      rw [getD_set hsz] at hk ⊢
      split
      · rfl
      · split at hk
        · subst_vars; exact hanc j hj
        · exact h.clos k hk j hj
    have hcount : ((List.range ops.size).filter fun k => !(listed.setIfInBounds i true).getD k false).length ≤ fuel := by
      have := filter_less (p := fun k => !listed.getD k false) (q := fun k => !(listed.setIfInBounds i true).getD k false) (i := i) (List.range ops.size) (fun x hx => by
        simp only [getD_set hsz] at hx
        split at hx
        · simp at hx
        · exact hx) hi1 (by simp [hun]) (by simp [getD_set hsz])
      omega
    by_cases hin : ∃ x ∈ pre, x.1 = i
    · -- it has been reckoned
      obtain ⟨x, hx, rfl⟩ := hin
      have hxe : x.2.1 = false := by
        cases hh : x.2.1 with
        | false => rfl
        | true => rw [h.effs x hx hh] at hun; cases hun
      obtain ⟨o, v, ho', ⟨d, hd, hdn, hv⟩, hf⟩ := h.facts x hx hun
      have hag : Agrees (o.looksAt ops) L a := by
        intro t ht u hu
        rcases h.tmps t u hu with ⟨y, hy, h1, h2⟩ | h3
        · exfalso
          have hye : y.2.1 = false := by
            cases hh : y.2.1 with
            | false => rfl
            | true => rw [h.effs y hy hh] at h1; cases h1
          have := hanc _ (h.prs x hx y hy hxe hye t h2 (by simpa [looksOf, ho'] using ht))
          rw [h1] at this; cases this
        · exact h3
      obtain ⟨hy, hnd⟩ := hf a w hag (fun _ => h.hold)
      refine yielding_in ho' hy hnd (ih pre l _ L S _ w ⟨hsize', ?_, ?_, hclos', ?_, ?_, h.prs, ?_, ?_, h.ext, h.hold, h.ok, h.pres, h.all, h.rest⟩ hcount)
      · intro k hk
        rw [getD_set hsz] at hk
        split at hk
        · exact ⟨x, hx, by subst_vars; rfl⟩
        · exact h.inPre k hk
      · intro y hy he
        rw [getD_set hsz]
        split
        · rfl
        · exact h.effs y hy he
      · intro t u hu
        by_cases htd : d = t
        · subst htd
          rw [hv] at hu; cases hu
          right
          simp [hd, Act.put, h.asz, hdn]
        · rcases h.tmps t u hu with ⟨y, hy, h1, h2⟩ | h3
          · refine .inl ⟨y, hy, ?_, h2⟩
            rw [getD_set hsz]
            rw [if_neg]
            · exact h1
            · intro e
              have : dstOf ops x.1 = some t := by rw [← e]; exact h2
              simp only [dstOf, ho', Option.bind_some, hd, Option.some.injEq] at this
              exact htd this
          · right
            simp only [hd, Act.put, Array.getElem?_setIfInBounds_ne htd]
            exact h3
      · intro y hy hyl
        refine h.facts y hy ?_
        rw [getD_set hsz] at hyl
        split at hyl
        · cases hyl
        · exact hyl
      · simp [hd, Act.put, h.asz]
      · simp only [hd, Act.put]; exact h.dfr
    · -- it is what comes next
      have hnx : ∃ pd l'', l = (i, true, pd) :: l'' := by
        rcases (h.all i him).resolve_left hin with ⟨x, hx, he⟩
        rcases hl with rfl | ⟨j, pd, l'', rfl⟩
        · cases hx
        · rcases List.mem_cons.1 hx with rfl | hx
          · cases he; exact ⟨pd, l'', rfl⟩
          · exfalso
            have hok := h.ok
            simp only [okPairs, Bool.and_eq_true] at hok
            obtain ⟨q, hq⟩ := okPairs_mem l'' _ hok.2 x hx
            obtain ⟨_, o2, _⟩ := okAt_parts hq
            have := hanc j (by rw [← he]; exact o2 (j, true, pd) (by simp) rfl)
            obtain ⟨y, hy, e⟩ := h.inPre j this
            obtain ⟨_, _, o3, _⟩ := okAt_parts hok.1
            exact o3 y hy e
      obtain ⟨pd, l'', rfl⟩ := hnx
      have hok := h.ok
      simp only [okPairs, Bool.and_eq_true] at hok
      obtain ⟨o1, o2, o3, o4, o5, o6⟩ := okAt_parts hok.1
      have hag : Agrees (ops[i].looksAt ops) L a := by
        intro t ht u hu
        rcases h.tmps t u hu with ⟨y, hy, h1, h2⟩ | h3
        · exfalso
          have hye : y.2.1 = false := by
            cases hh : y.2.1 with
            | false => rfl
            | true => rw [h.effs y hy hh] at h1; cases h1
          have := hanc _ ((o4 y hy hye).1 t h2 (by simpa [looksOf, ho] using ht))
          rw [h1] at this; cases this
        · exact h3
      have hrest := h.rest
      simp only [drawW, ho] at hrest
      -- behind it
      have next : ∀ (v : Value) (S' : State) (w' : World), Ext w w' → Hold w' S' → stillAll P ops pd (putT n (ops[i]).dst v L) S' (drawW P n ops (K .normal D) l'' (putT n (ops[i]).dst v L) S') →
          wpAnyIn (FW ro) 0 P .any ops (KQ n K w0) fuel (listed.setIfInBounds i true) (a.put (ops[i]).dst v) w' := by
        intro v S' w' he hh hst
        obtain ⟨hdraw, hstill⟩ := still_out pd hst
        have hdi : dstOf ops i = (ops[i]).dst := by simp [dstOf, ho]
        -- of an entry that is still to come to its place nothing has turned
        have away : ∀ y ∈ pre, (listed.setIfInBounds i true).getD y.1 false = false → y.2.1 = false ∧ listed.getD y.1 false = false ∧ y.1 ∉ A.getD i [] ∧
            ∀ d, (ops[i]).dst = some d → d ∉ looksOf ops y.1 ∧ dstOf ops y.1 ≠ some d := by
          intro y hy hyl
          rw [getD_set hsz] at hyl
          split at hyl
          · cases hyl
          · have hye : y.2.1 = false := by
              cases hh : y.2.1 with
              | false => rfl
              | true => rw [h.effs y hy hh] at hyl; cases hyl
            have hna : y.1 ∉ A.getD i [] := fun hm => by rw [hanc _ hm] at hyl; cases hyl
            exact ⟨hye, hyl, hna, fun d hd => ((o4 y hy hye).2.1 d (by rw [hdi]; exact hd)).resolve_right (fun hc => hna hc.2)⟩
        refine ih (pre ++ [(i, true, pd)]) l'' _ (putT n (ops[i]).dst v L) S' _ w' ⟨hsize', ?_, ?_, hclos', ?_, ?_, ?_, ?_, ?_, h.ext.trans he, hh, hok.2, okPairs_snoc _ _ h.pres (by simpa using hok.1), ?_, hdraw⟩ hcount
        · intro k hk
          rw [getD_set hsz] at hk
          split at hk
          · exact ⟨(i, true, pd), by simp, by subst_vars; rfl⟩
          · obtain ⟨y, hy, e⟩ := h.inPre k hk; exact ⟨y, List.mem_append_left _ hy, e⟩
        · intro y hy hye
          rw [getD_set hsz]
          split
          · rfl
          · rcases List.mem_append.1 hy with hy | hy
            · exact h.effs y hy hye
            · simp at hy; subst hy; exact absurd rfl ‹_›
        · intro t u hu
          rcases lookT_put hu with ⟨h1, h2, rfl⟩ | h1
          · right; simp [h1, Act.put, h.asz, h2]
          · by_cases hdt : (ops[i]).dst = some t ∧ t < n
            · have : lookT (putT n (ops[i]).dst v L) t = some v := by simp [hdt.1, putT, hdt.2, lookT]
              rw [this] at hu; cases hu
              right; simp [hdt.1, Act.put, h.asz, hdt.2]
            · have keep : a.tmps[t]? = some u → (a.put (ops[i]).dst v).tmps[t]? = some u := by
                intro hat
                cases hd : (ops[i]).dst with
                | none => exact hat
                | some d =>
                  simp only [Act.put]
                  by_cases e : d = t
                  · subst e
                    have := (Array.getElem?_eq_some_iff.1 hat).1
                    rw [h.asz] at this
                    exact absurd ⟨hd, this⟩ hdt
                  · rw [Array.getElem?_setIfInBounds_ne e]; exact hat
              rcases h.tmps t u h1 with ⟨y, hy, h2, h3⟩ | h3
              · by_cases hyi : (listed.setIfInBounds i true).getD y.1 false = false
                · exact .inl ⟨y, List.mem_append_left _ hy, hyi, h3⟩
                · exfalso
                  rw [getD_set hsz] at hyi
                  split at hyi
                  · exact hin ⟨y, hy, ‹_›⟩
                  · exact hyi h2
              · exact .inr (keep h3)
        · intro y hy hyl
          rcases List.mem_append.1 hy with hy | hy
          · obtain ⟨hye, hyl', hna, hnd⟩ := away y hy hyl
            obtain ⟨o, v', ho', ⟨d, hd, hdn, hv⟩, hf⟩ := h.facts y hy hyl'
            have hlk : ∀ t, t ∈ o.looksAt ops ∨ t = d → lookT (putT n (ops[i]).dst v L) t = lookT L t := by
              intro t ht
              refine lookT_put_ne fun e => ?_
              obtain ⟨n1, n2⟩ := hnd t e
              rcases ht with ht | rfl
              · exact n1 (by simpa [looksOf, ho'] using ht)
              · exact n2 (by simp [dstOf, ho', hd])
            by_cases hrd : readsB o.op = true
            · have hmem : y.1 ∈ pd := by
                have := (o4 y hy hye).2.2 rfl (by simp [readsOf, ho', hrd])
                exact this.resolve_left hna
              obtain ⟨o2, d2, v2, e1, e2, e3, hq⟩ := hstill y.1 hmem
              rw [ho'] at e1; cases e1
              rw [hd] at e2; cases e2
              obtain ⟨v3, rfl, _, hq'⟩ := quiet_out hq
              refine ⟨o, v3, ho', ⟨d, hd, hdn, e3⟩, fun a' w'' ha hw => hq' a' w'' ha hw⟩
            · refine ⟨o, v', ho', ⟨d, hd, hdn, by rw [hlk d (.inr rfl)]; exact hv⟩, fun a' w'' ha _ => hf a' w'' (fun t ht u hu => ha t ht u (by rw [hlk t (.inl ht)]; exact hu)) (fun hh => absurd hh hrd)⟩
          · simp at hy; subst hy
            rw [getD_set hsz] at hyl; simp at hyl
        · intro x hx y hy hxe hye d' hd' hl'
          rcases List.mem_append.1 hx with hx | hx
          · rcases List.mem_append.1 hy with hy | hy
            · exact h.prs x hx y hy hxe hye d' hd' hl'
            · simp at hy; subst hy; cases hye
          · simp at hx; subst hx; cases hxe
        · cases (ops[i]).dst <;> simp [Act.put, h.asz]
        · cases (ops[i]).dst <;> exact h.dfr
        · intro j hj
          rcases h.all j hj with ⟨x, hx, e⟩ | ⟨x, hx, e⟩
          · exact .inl ⟨x, List.mem_append_left _ hx, e⟩
          · rcases List.mem_cons.1 hx with rfl | hx
            · exact .inl ⟨_, by simp, e⟩
            · exact .inr ⟨x, hx, e⟩
      unfold wpOpIn
      rw [ho]
      simp only
      rcases guard_agrees hag hrest with ⟨hw1, hs⟩ | ⟨hw1, hs⟩
      · rw [if_pos hw1]
        obtain ⟨ρ, hρ, hρe⟩ := full_rho hag
        refine ⟨fun _ _ => trivial, ?_⟩
        rw [Oper.semAt_eq _ _ _ (step_not_defer hs), ← execOp_congr _ (stepW_not_select hs) hρe]
        exact upon_next (step_next hρ hs) h.hold fun v S' w' hk he hh => next v S' w' he hh hk
      · rw [if_neg (by simp [hw1])]
        exact ⟨fun _ _ => trivial, next undef S w (Ext.refl w) h.hold hs⟩

/-- The rule: a plan that fits the region, and its walk. -/
theorem code_draw {id : Nat} {ops : Array Oper} {K : Cont} {D : List Nat} {L : Env} {S : State} (A : List (List Nat)) (pl : List Entry) (hm : P.follows .mixedOrders = true)
    (hok : okDraw ops A n pl = true) (h : drawW P n ops (K .normal D) pl L S) : CodeW P n ro (.region id ops true) K D L S := by
  refine ⟨fun a w ha hw => ?_⟩
  refine wpIn_region_any hm ?_
  simp only [okDraw, Bool.and_eq_true] at hok
  have h0 : ∀ i, (Array.replicate ops.size false).getD i false = false := by
    intro i; simp only [Array.getD_eq_getD_getElem?, Array.getElem?_replicate]; split <;> rfl
  have hw' : Hold { w with drawn := w.drawn + 1 } S := ⟨hw.nd, hw.get⟩
  have he : Ext w { w with drawn := w.drawn + 1 } := ⟨rfl, rfl, rfl, Nat.le_refl _⟩
  refine draw_core hok.1.1 ops.size [] pl _ L S a _ ⟨by simp, ?_, ?_, ?_, ?_, ?_, ?_, ha.size, ha.marks, he, hw', hok.1.2, rfl, ?_, h⟩ ?_
  · intro i hi; rw [h0] at hi; cases hi
  · intro x hx; cases hx
  · intro i hi; rw [h0] at hi; cases hi
  · intro t v ht; exact .inr (ha.get t v ht)
  · intro x hx; cases hx
  · intro x hx; cases hx
  · intro i hi
    have := List.all_eq_true.1 hok.2 i (List.mem_range.2 hi)
    obtain ⟨x, hx, e⟩ := List.any_eq_true.1 this
    exact .inr ⟨x, hx, by simpa using e⟩
  · refine Nat.le_trans (List.length_filter_le _ _) (by simp)

theorem draw_quiet {ops : Array Oper} {K : Env → State → Prop} {o : Oper} {i : Nat} {pd : List Nat} {l : List Entry} {L : Env} {S : State} (ho : ops[i]? = some o)
    (h : ∀ N : Env → State → Prop, (∀ L S, drawW P n ops K l L S → N L S) → quietW P ops o L S fun v => N (putT n o.dst v L) S) : drawW P n ops K ((i, false, pd) :: l) L S := by
  simp only [drawW, ho]; exact h _ fun _ _ h => h
theorem draw_effect {ops : Array Oper} {K : Env → State → Prop} {o : Oper} {i : Nat} {pd : List Nat} {l : List Entry} {L : Env} {S : State} (ho : ops[i]? = some o)
    (h : ∀ N : Env → State → Prop, (∀ L S, drawW P n ops K l L S → N L S) → guardW ops o L (stepW P o.op o.type L S fun v S' => stillAll P ops pd (putT n o.dst v L) S' (N (putT n o.dst v L) S'))
      (stillAll P ops pd (putT n o.dst undef L) S (N (putT n o.dst undef L) S))) : drawW P n ops K ((i, true, pd) :: l) L S := by
  simp only [drawW, ho]; exact h _ fun _ _ h => h
theorem draw_nil {ops : Array Oper} {K : Env → State → Prop} {L : Env} {S : State} (h : K L S) : drawW P n ops K [] L S := h

end Go.Ost

/- Slices: what is read of one, what is one's own, and the operations on them. Conditions: as each says. -/
set_option linter.unusedSimpArgs false
set_option linter.unusedVariables false
namespace Go.Ost
open Go

variable {P : Program}

/-- The slice (a, len) of elements of s cells reads as these cells. -/
def Rd (s : Nat) (S : State) (a : Option Addr) (len : Nat) (us : List Value) : Prop :=
  us.length = len * s ∧ (us ≠ [] → ∃ b o cs e m, a = some ⟨b, o, none⟩ ∧ Lies b (.cells cs e m) S ∧ ∀ i, i < us.length → cs[o + i]? = us[i]?)
/-- No cell of so many is frozen. -/
def Soft (n : Nat) (m : Nat × Nat) : Prop := m.1 = m.2 ∨ n ≤ m.1
theorem Soft.or {n : Nat} {m : Nat × Nat} (h : Soft n m) : m.2 ≤ m.1 ∨ n ≤ m.1 := h.imp (fun e => Nat.le_of_eq e.symm) id
/-- The slice's block is the chunk C alone, and what lies behind its length is free. -/
def Own (s : Nat) (e : TypeId) (C : Chunk) (a : Option Addr) (len cap : Nat) (us : List Value) : Prop :=
  len ≤ cap ∧ cap ≤ maxLen ∧ us.length = len * s ∧ ((cap = 0 ∧ C = []) ∨ ∃ b o cs m, a = some ⟨b, o, none⟩ ∧ C = [(b, .cells cs e m)] ∧ Soft cs.size m ∧ o + cap * s ≤ cs.size ∧ ∀ i, i < us.length → cs[o + i]? = us[i]?)

theorem Lies.of_mem {b : Nat} {o : Obj} {C : Chunk} (h : (b, o) ∈ C) : ∀ {S : State}, C ∈ S → Lies b o S
  | [], hC => by cases hC
  | D :: S, hC => by
    rcases List.mem_cons.1 hC with rfl | hC
    · exact .here h
    · exact .next (Lies.of_mem h hC)
theorem Own.rd {s : Nat} {e : TypeId} {C : Chunk} {a : Option Addr} {len cap : Nat} {us : List Value} (h : Own s e C a len cap us) {S : State} (hC : C ∈ S) : Rd s S a len us := by
  obtain ⟨h1, _, h3, h4⟩ := h
  refine ⟨h3, fun hne => ?_⟩
  rcases h4 with ⟨h5, _⟩ | ⟨b, o, cs, m, rfl, rfl, _, _, h6⟩
  · have : len = 0 := by omega
    subst this
    rw [Nat.zero_mul] at h3
    exact absurd (List.length_eq_zero_iff.1 h3) hne
  · exact ⟨b, o, cs, e, _, rfl, Lies.of_mem (List.mem_singleton.2 rfl) hC, h6⟩
theorem Rd.next {s : Nat} {S : State} {a : Option Addr} {len : Nat} {us : List Value} (h : Rd s S a len us) (C : Chunk) : Rd s (C :: S) a len us :=
  ⟨h.1, fun hne => let ⟨b, o, cs, e, m, h1, h2, h3⟩ := h.2 hne; ⟨b, o, cs, e, m, h1, h2.next, h3⟩⟩
theorem Rd.nil {s : Nat} {S : State} {a : Option Addr} : Rd s S a 0 [] := ⟨by simp, fun h => absurd rfl h⟩

theorem rd_first {s : Nat} {S : State} {a : Option Addr} {len c : Nat} {us : List Value} (h : Rd s S a len us) {w : World} (hw : Hold w S) :
    (Builtin.firstCells s len (.slice a len c)).run P w = .ok us.toArray w := by
  obtain ⟨h1, h2⟩ := h
  by_cases hne : us = []
  · subst hne
    have : len * s = 0 := by simpa using h1.symm
    cases a with
    | none => rfl
    | some a => simp [Builtin.firstCells, this, loadCells, loadCellsFrom]
  · obtain ⟨b, o, cs, e, m, rfl, hl, hc⟩ := h2 hne
    have hb := hl.get hw
    have hsz : o + us.length ≤ cs.size := by
      have hpos : 0 < us.length := List.length_pos_iff.2 hne
      have := hc (us.length - 1) (by omega)
      rw [List.getElem?_eq_getElem (by omega)] at this
      have := (Array.getElem?_eq_some_iff.1 this).1
      omega
    simp only [Builtin.firstCells, loadCells]
    rw [run_loadCells (P := P) hb o (len * s) 0 #[] (by rw [← h1]; omega), ← h1]
    congr 1
    apply Array.ext_getElem?
    intro i
    simp only [Nat.add_zero, Array.empty_append]
    rw [Array.getElem?_extract]
    by_cases hi : i < us.length
    · rw [if_pos (by omega), hc i hi]; simp
    · rw [if_neg (by omega)]; simp; omega

theorem get_setCells : ∀ (l : List Value) (cs : Array Value) (o i : Nat), o + l.length ≤ cs.size → (setCells cs o l)[i]? = if o ≤ i ∧ i < o + l.length then l[i - o]? else cs[i]?
  | [], cs, o, i, _ => by rw [if_neg (by rintro ⟨h1, h2⟩; simp at h2; omega)]; rfl
  | v :: l, cs, o, i, h => by
    simp only [List.length_cons] at h ⊢
    rw [setCells, get_setCells l _ (o + 1) i (by simp; omega)]
    by_cases h1 : o + 1 ≤ i ∧ i < o + 1 + l.length
    · rw [if_pos h1, if_pos (by omega), show i - o = i - (o + 1) + 1 from by omega, List.getElem?_cons_succ]
    · rw [if_neg h1]
      by_cases h2 : i = o
      · subst h2
        rw [if_pos (by omega), Array.getElem?_setIfInBounds_self]
        rw [if_pos (by omega)]; simp
      · rw [if_neg (by omega), Array.getElem?_setIfInBounds_ne (by omega)]

/-- append, onto one's own. -/
theorem append_own {t t2 ty e e2 : TypeId} {z : Value} {s by_ : Nat} [ht : TSlice P t e] [ht2 : TSlice P t2 e2] [hs : TSized P e z s by_] (hz : z.cells.size = s) (h0 : 0 < s) {S G : State} {κ : Value → State → Prop} {C : Chunk}
    {a b : Option Addr} {len cap n c : Nat} {us vs : List Value} (ho : Own s e C a len cap us) (hC : C = [] ∧ G = S ∨ Pick C S G) (hr : Rd s S b n vs) (h1 : ∀ v ∈ vs, Value.cell1 v)
    (hm : len + n ≤ maxLen) (hb : (len + n) * by_ ≤ 140737488355328)
    (k : ∀ C' a' cap', Own s e C' a' (len + n) cap' (us ++ vs) → κ (.slice a' (len + n) cap') (C' :: G)) : ValW P (Builtin.append_ #[t, t2] ty #[.slice a len cap, .slice b n c]) S κ := by
  refine ⟨fun w hw => ?_⟩
  have hCG : Hold w (C :: G) := by
    rcases hC with ⟨rfl, rfl⟩ | hp
    · exact hw.perm (by simp)
    · exact hw.perm hp.perm
  have hrd : Rd s (C :: G) a len us := ho.rd (List.mem_cons_self ..)
  have f1 := fun (w : World) hw => rd_first (P := P) (c := cap) hrd (w := w) hw
  have f2 := fun (w : World) hw => rd_first (P := P) (c := c) hr (w := w) hw
  have hlv := hr.1
  obtain ⟨i, hi, hz1, hsz, hby⟩ := sized_parts hs.info
  obtain ⟨hle, hmax, hlen, hcase⟩ := ho
  by_cases hroom : len + n ≤ cap
  · rcases hcase with ⟨rfl, rfl⟩ | ⟨b', o, cs, m, rfl, rfl, hsoft, hbig, hcs⟩
    · obtain rfl : len = 0 := by omega
      obtain rfl : n = 0 := by omega
      obtain rfl : us = [] := List.length_eq_zero_iff.1 (by simpa using hlen)
      obtain rfl : vs = [] := List.length_eq_zero_iff.1 (by simpa using hlv)
      refine ⟨.slice a 0 0, w, _, ?_, Ext.refl w, hCG, k [] a 0 ⟨Nat.le_refl _, Nat.zero_le _, by simp, .inl ⟨rfl, rfl⟩⟩⟩
      cases a <;> simp [Builtin.append_, Sem.run_bind, run_und ht.und, run_und ht2.und, run_size hs, Result.andThen, Builtin.lenOf, f2 w hw, storeCells]
    · have hg : w.heap[b']? = some (.cells cs e m) := hCG.get _ _ (by simp)
      obtain ⟨w', q1, q2, q3, q4⟩ := run_storeCells (P := P) (b := b') (o := o + len * s) vs 0 w cs hg h1 (by
        have : (len + n) * s ≤ cap * s := Nat.mul_le_mul_right s hroom
        rw [Nat.add_mul] at this
        omega) hsoft.or
      refine ⟨.slice (some ⟨b', o, none⟩) (len + n) cap, w', _, ?_, q2, (Upd.one (S := G)).hold hCG q3 q4, k _ _ cap ⟨hroom, hmax, ?_, .inr ⟨b', o, _, m, rfl, rfl, by rw [setCells_size]; exact hsoft, ?_, ?_⟩⟩⟩
      · simp [Builtin.append_, Sem.run_bind, run_und ht.und, run_und ht2.und, run_size hs, Result.andThen, Builtin.lenOf, f2 w hw, hroom, add_mk, q1]
      · rw [List.length_append, hlen, hlv, Nat.add_mul]
      · rw [setCells_size]; exact hbig
      · intro j hj
        rw [List.length_append] at hj
        have hmul : (len + n) * s ≤ cap * s := Nat.mul_le_mul_right s hroom
        rw [Nat.add_mul] at hmul
        rw [get_setCells _ _ _ _ (by omega)]
        by_cases hlt : j < us.length
        · rw [if_neg (by omega), hcs j hlt, List.getElem?_append_left hlt]
        · rw [if_pos (by omega), List.getElem?_append_right (by omega)]
          congr 1; omega
  · have hge := grownCap_ge w (len + n) cap e
    have hcm := grownCap_le_maxLen w (len + n) cap e hm
    have hn : ¬ (len + n ≤ cap) := hroom
    have h63' : ¬ (9223372036854775807 < ((len : Int) + (n : Int))) := by simp only [maxLen] at hm; omega
    have h48' : ¬ (281474976710656 < Builtin.nextslicecap (len + n) cap * i.bytes) := by
      rw [hby]
      have := growslice_fits (by omega : cap < len + n) hb
      omega
    have f1' := f1 w.drew ⟨hCG.nd, hCG.get⟩
    have f2' := f2 w.drew ⟨hw.nd, hw.get⟩
    obtain ⟨cells, hcells⟩ : ∃ cells : Array Value, cells = us.toArray ++ vs.toArray ++ Builtin.zeroCells z.cells (grownCap w (len + n) cap e - (len + n)) := ⟨_, rfl⟩
    refine ⟨.slice (some ⟨w.heap.size, 0, none⟩) (len + n) (grownCap w (len + n) cap e), w.drew.alloc (.cells cells e), [(w.heap.size, .cells cells e (0, 0))] :: G, ?_, ⟨rfl, rfl, rfl, by simp⟩, ?_, k _ _ _ ⟨hge, hcm, ?_, .inr ⟨_, 0, cells, (0, 0), rfl, rfl, .inl rfl, ?_, ?_⟩⟩⟩
    · rw [hcells]
      simp [Builtin.append_, Sem.run_bind, run_und ht.und, run_und ht2.und, run_size hs, run_zero hs, Result.andThen, typeInfo, program, Sem.run, hi, hn, h63', h48', Question.forced, Builtin.lenOf, f1', f2', newRow, newObj, grownCap, choose]
      generalize Builtin.zeroCells _ _ = X
      rw [show us.toArray ++ (vs.toArray ++ X) = (us ++ vs).toArray ++ X from by apply Array.ext'; simp]
      rfl
    · refine Hold.new (w := w) (o := .cells cells e (0, 0)) ?_ rfl
      exact hCG.sub (by simp)
    · rw [List.length_append, hlen, hlv, Nat.add_mul]
    · rw [hcells]
      simp only [Array.size_append, List.size_toArray, size_zeroCells, hz, hlen, hlv, ← Nat.add_mul]
      rw [Nat.zero_add]
      exact Nat.mul_le_mul_right s (by omega)
    · intro j hj
      rw [hcells, Nat.zero_add, Array.getElem?_append_left (by simpa using hj)]
      simp

/-! ### Slices of slices -/

def cutA (s : Nat) (a : Option Addr) (l m : Nat) : Option Addr := if m = l then a else a.map (·.add (l * s))

theorem rd_cut {s : Nat} {S : State} {a : Option Addr} {len : Nat} {us : List Value} (h : Rd s S a len us) {l h' m : Nat} (h1 : l ≤ h') (h2 : h' ≤ len) (h3 : h' ≤ m) :
    Rd s S (cutA s a l m) (h' - l) ((us.drop (l * s)).take ((h' - l) * s)) := by
  obtain ⟨hl, hne⟩ := h
  have e1 : l * s + (h' - l) * s = h' * s := by rw [← Nat.add_mul]; congr 1; omega
  have e2 : h' * s ≤ len * s := Nat.mul_le_mul_right s h2
  have hlen : ((us.drop (l * s)).take ((h' - l) * s)).length = (h' - l) * s := by rw [List.length_take, List.length_drop]; omega
  refine ⟨hlen, fun hn => ?_⟩
  have hpos : 0 < (h' - l) * s := by rw [← hlen]; exact List.length_pos_iff.2 hn
  have hlt : l < h' := by
    rcases Nat.lt_or_ge l h' with h | h
    · exact h
    · rw [show h' - l = 0 from by omega, Nat.zero_mul] at hpos; omega
  obtain ⟨b, o, cs, e, mm, rfl, hb, hc⟩ := hne (by intro h0; subst h0; simp at hl; omega)
  refine ⟨b, o + l * s, cs, e, mm, ?_, hb, fun i hi => ?_⟩
  · unfold cutA; rw [if_neg (by omega)]; simp [add_mk]
  · rw [hlen] at hi
    rw [show o + l * s + i = o + (l * s + i) from by omega, hc _ (by omega), List.getElem?_take_of_lt hi, List.getElem?_drop]
theorem own_cut {s : Nat} {e : TypeId} {C : Chunk} {a : Option Addr} {len cap : Nat} {us : List Value} (h : Own s e C a len cap us) {l h' m : Nat} (h1 : l ≤ h') (h2 : h' ≤ len) (h3 : h' ≤ m) (h4 : m ≤ cap) :
    Own s e C (cutA s a l m) (h' - l) (m - l) ((us.drop (l * s)).take ((h' - l) * s)) := by
  obtain ⟨q1, q2, hl, hcase⟩ := h
  have e1 : l * s + (h' - l) * s = h' * s := by rw [← Nat.add_mul]; congr 1; omega
  have e2 : h' * s ≤ len * s := Nat.mul_le_mul_right s h2
  have hlen : ((us.drop (l * s)).take ((h' - l) * s)).length = (h' - l) * s := by rw [List.length_take, List.length_drop]; omega
  refine ⟨by omega, by omega, hlen, ?_⟩
  rcases hcase with ⟨rfl, rfl⟩ | ⟨b, o, cs, m0, rfl, rfl, hsoft, hbig, hc⟩
  · exact .inl ⟨by omega, rfl⟩
  · right
    by_cases hm : m = l
    · refine ⟨b, o, cs, m0, by unfold cutA; rw [if_pos hm], rfl, hsoft, by rw [hm]; simp; omega, fun i hi => ?_⟩
      rw [hlen, show h' - l = 0 from by omega, Nat.zero_mul] at hi
      omega
    · refine ⟨b, o + l * s, cs, m0, by unfold cutA; rw [if_neg hm]; simp [add_mk], rfl, hsoft, ?_, fun i hi => ?_⟩
      · have : l * s + (m - l) * s = m * s := by rw [← Nat.add_mul]; congr 1; omega
        have : m * s ≤ cap * s := Nat.mul_le_mul_right s h4
        omega
      · rw [hlen] at hi
        rw [show o + l * s + i = o + (l * s + i) from by omega, hc _ (by omega), List.getElem?_take_of_lt hi, List.getElem?_drop]

theorem rd_cut1 {α : Type} {f : α → Value} {S : State} {a : Option Addr} {len : Nat} {us : List α} (h : Rd 1 S a len (us.map f)) {l h' m : Nat} (h1 : l ≤ h') (h2 : h' ≤ len) (h3 : h' ≤ m) :
    Rd 1 S (cutA 1 a l m) (h' - l) (((us.drop l).take (h' - l)).map f) := by
  have q := rd_cut h h1 h2 h3
  simpa only [Nat.mul_one, List.map_take, List.map_drop] using q
theorem own_cut1 {α : Type} {f : α → Value} {e : TypeId} {C : Chunk} {a : Option Addr} {len cap : Nat} {us : List α} (h : Own 1 e C a len cap (us.map f)) {l h' m : Nat} (h1 : l ≤ h') (h2 : h' ≤ len) (h3 : h' ≤ m) (h4 : m ≤ cap) :
    Own 1 e C (cutA 1 a l m) (h' - l) (m - l) (((us.drop l).take (h' - l)).map f) := by
  have q := own_cut h h1 h2 h3 h4
  simpa only [Nat.mul_one, List.map_take, List.map_drop] using q

theorem cut_hi {t e : TypeId} {z : Value} {s by_ : Nat} {κ : Value → Prop} [ht : TSlice P t e] [hs : TSized P e z s by_] {a : Option Addr} {len cap : Nat} {k : IntKind} {h : Int} (h0 : 0 ≤ h) (h1 : h ≤ cap) :
    PureW P (Instr.sliceAt t (.slice a len cap) none (some (.int k h)) none) κ = κ (.slice (cutA s a 0 cap) (h.toNat - 0) (cap - 0)) :=
  pureW_eq (fun w => by
    simp only [Instr.sliceAt, Instr.slice, Sem.run_bind, run_und ht.und, Result.andThen, Instr.sliceBounds, Instr.sliceBound, asIntOf, Sem.run_pure]
    simp [run_size hs, Result.andThen, Sem.run_bind, cutA, h0, h1]) κ
theorem cut_lo {t e : TypeId} {z : Value} {s by_ : Nat} {κ : Value → Prop} [ht : TSlice P t e] [hs : TSized P e z s by_] {a : Option Addr} {len cap : Nat} {j : IntKind} {l : Int} (l0 : 0 ≤ l) (l1 : l ≤ len) :
    PureW P (Instr.sliceAt t (.slice a len cap) (some (.int j l)) none none) κ = κ (.slice (cutA s a l.toNat cap) (len - l.toNat) (cap - l.toNat)) :=
  pureW_eq (fun w => by
    simp only [Instr.sliceAt, Instr.slice, Sem.run_bind, run_und ht.und, Result.andThen, Instr.sliceBounds, Instr.sliceBound, asIntOf, Sem.run_pure]
    simp [run_size hs, Result.andThen, Sem.run_bind, cutA, l0, l1]) κ
theorem cut_lohi {t e : TypeId} {z : Value} {s by_ : Nat} {κ : Value → Prop} [ht : TSlice P t e] [hs : TSized P e z s by_] {a : Option Addr} {len cap : Nat} {j k : IntKind} {l h : Int} (h0 : 0 ≤ h) (h1 : h ≤ cap) (l0 : 0 ≤ l) (l1 : l ≤ h) :
    PureW P (Instr.sliceAt t (.slice a len cap) (some (.int j l)) (some (.int k h)) none) κ = κ (.slice (cutA s a l.toNat cap) (h.toNat - l.toNat) (cap - l.toNat)) :=
  pureW_eq (fun w => by
    have l1' : l ≤ max h 0 := by omega
    simp only [Instr.sliceAt, Instr.slice, Sem.run_bind, run_und ht.und, Result.andThen, Instr.sliceBounds, Instr.sliceBound, asIntOf, Sem.run_pure]
    simp [run_size hs, Result.andThen, Sem.run_bind, cutA, h0, h1, l0, l1, l1']) κ
theorem cut_all {t e : TypeId} {z : Value} {s by_ : Nat} {κ : Value → Prop} [ht : TSlice P t e] [hs : TSized P e z s by_] {a : Option Addr} {len cap : Nat}  :
    PureW P (Instr.sliceAt t (.slice a len cap) none none none) κ = κ (.slice (cutA s a 0 cap) (len - 0) (cap - 0)) :=
  pureW_eq (fun w => by
    simp only [Instr.sliceAt, Instr.slice, Sem.run_bind, run_und ht.und, Result.andThen, Instr.sliceBounds, Instr.sliceBound, asIntOf, Sem.run_pure]
    simp [run_size hs, Result.andThen, Sem.run_bind, cutA]) κ
theorem cut_himax {t e : TypeId} {z : Value} {s by_ : Nat} {κ : Value → Prop} [ht : TSlice P t e] [hs : TSized P e z s by_] {a : Option Addr} {len cap : Nat} {k q : IntKind} {h m : Int} (m0 : 0 ≤ m) (m1 : m ≤ cap) (h0 : 0 ≤ h) (h1 : h ≤ m) :
    PureW P (Instr.sliceAt t (.slice a len cap) none (some (.int k h)) (some (.int q m))) κ = κ (.slice (cutA s a 0 m.toNat) (h.toNat - 0) (m.toNat - 0)) :=
  pureW_eq (fun w => by
    have h1' : h ≤ max m 0 := by omega
    simp only [Instr.sliceAt, Instr.slice, Sem.run_bind, run_und ht.und, Result.andThen, Instr.sliceBounds, Instr.sliceBound, asIntOf, Sem.run_pure]
    simp [run_size hs, Result.andThen, Sem.run_bind, cutA, m0, m1, h0, h1, h1']) κ
theorem cut_lohimax {t e : TypeId} {z : Value} {s by_ : Nat} {κ : Value → Prop} [ht : TSlice P t e] [hs : TSized P e z s by_] {a : Option Addr} {len cap : Nat} {j k q : IntKind} {l h m : Int} (m0 : 0 ≤ m) (m1 : m ≤ cap) (h0 : 0 ≤ h) (h1 : h ≤ m) (l0 : 0 ≤ l) (l1 : l ≤ h) :
    PureW P (Instr.sliceAt t (.slice a len cap) (some (.int j l)) (some (.int k h)) (some (.int q m))) κ = κ (.slice (cutA s a l.toNat m.toNat) (h.toNat - l.toNat) (m.toNat - l.toNat)) :=
  pureW_eq (fun w => by
    have h1' : h ≤ max m 0 := by omega
    have l1' : l ≤ max h 0 := by omega
    simp only [Instr.sliceAt, Instr.slice, Sem.run_bind, run_und ht.und, Result.andThen, Instr.sliceBounds, Instr.sliceBound, asIntOf, Sem.run_pure]
    simp [run_size hs, Result.andThen, Sem.run_bind, cutA, m0, m1, h0, h1, l0, l1, h1', l1']) κ

/-! ### New slices -/

theorem fill_all : ∀ (vs done rest : List Value), (∀ v ∈ vs, Value.cell1 v) → rest.length = vs.length →
    Instr.fill (fun i => some (i, 1)) (done ++ rest).toArray ((vs.zipIdx done.length).map fun x => (x.2, x.1)) = some (done ++ vs).toArray
  | [], done, rest, hc, hr => by
    have : rest = [] := List.length_eq_zero_iff.1 hr
    subst this; simp [Instr.fill]
  | v :: vs, done, [], hc, hr => by simp at hr
  | v :: vs, done, r :: rest, hc, hr => by
    have hcv : v.cells = #[v] := by have := hc v (List.mem_cons_self ..); cases v <;> first | exact this.elim | rfl
    have ih := fill_all vs (done ++ [v]) rest (fun u hu => hc u (List.mem_cons_of_mem _ hu)) (by simpa using hr)
    simp only [List.zipIdx_cons, List.map_cons, Instr.fill, hcv]
    rw [if_neg (by simp)]
    simp only [List.length_append, List.length_cons, List.length_nil, List.append_assoc, List.cons_append, List.nil_append, Nat.zero_add] at ih
    rw [← ih]
    have e : (#[v].zipIdx.foldl (fun cs x => match x with | (c, j) => cs.setIfInBounds (done.length + j) c) (done ++ r :: rest).toArray) = (done ++ v :: rest).toArray := by
      apply Array.ext'
      simp
    rw [← e]

/-- A slice written out: every element. -/
theorem build_slice {t e : TypeId} {z : Value} {by_ : Nat} [ht : TSlice P t e] [hs : TSized P e z 1 by_] (hz : z.cells.size = 1) {n : Nat} {ps : List (Nat × Value)} {S : State} {κ : Value → State → Prop} (hn : n ≤ 16777216)
    (hi : ps.map (·.1) = List.range n) (hc : ∀ v ∈ ps.map (·.2), Value.cell1 v)
    (k : ∀ b : Nat, κ (.slice (some ⟨b, 0, none⟩) n n) ([(b, .cells (ps.map (·.2)).toArray e (0, 0))] :: S)) : ValW P (Instr.buildSlice t n ps.toArray) S κ := by
  refine ⟨fun w hw => ?_⟩
  have hlen : ps.length = n := by have := congrArg List.length hi; simpa using this
  have hps : ps = ((ps.map (·.2)).zipIdx 0).map fun x => (x.2, x.1) := by
    apply List.ext_getElem?
    intro i
    have h1 := congrArg (fun l => l[i]?) hi
    simp only [List.getElem?_map, List.getElem?_range] at h1
    simp only [List.getElem?_map, List.getElem?_zipIdx]
    cases hp : ps[i]? with
    | none => simp
    | some p =>
      rw [hp] at h1
      have hlt := (List.getElem?_eq_some_iff.1 hp).1
      rw [List.getElem?_range (by omega)] at h1
      simp at h1
      obtain ⟨p1, p2⟩ := p
      simp at h1 ⊢
      exact h1
  have hf := fill_all (ps.map (·.2)) [] (List.replicate n z.cells[0]!) hc (by simp [hlen])
  simp only [List.nil_append, List.length_nil] at hf
  rw [← hps] at hf
  refine ⟨_, { w with heap := w.heap.push (.cells (ps.map (·.2)).toArray e) }, _, ?_, ext_push rfl, hw.new rfl, k _⟩
  have hmod : (Array.range n).map (fun x => z.cells[x % z.cells.size]!) = (List.replicate n z.cells[0]!).toArray := by
    apply Array.ext'
    simp [hz, Nat.mod_one]
    rw [List.map_const', List.length_range]
  by_cases h0 : n = 0
  · subst h0
    have : ps = [] := List.length_eq_zero_iff.1 hlen
    subst this
    simp [Instr.buildSlice, Sem.run_bind, run_und ht.und, run_size hs, Result.andThen, Instr.fill, newRow, newObj, Sem.run, show Array.range 0 = #[] from rfl]
  · simp [Instr.buildSlice, Sem.run_bind, run_und ht.und, run_size hs, run_zero hs, Result.andThen, newRow, newObj, Sem.run, h0, show ¬ 16777216 < n from by omega]
    rw [hmod, hf]
    rfl

/-! ### Elements -/

def elA (a : Option Addr) (i : Nat) : Addr := (a.getD ⟨0, 0, none⟩).add i
theorem index_rd {t e : TypeId} {z : Value} {by_ : Nat} {S : State} {a : Option Addr} {len cap : Nat} {us : List Value} {k : IntKind} {i : Int} {κ : Value → Prop} [h : TSlice P t e] [hs : TSized P e z 1 by_]
    (hr : Rd 1 S a len us) (h0 : 0 ≤ i) (h1 : i < len) : PureW P (Instr.indexAt t (.slice a len cap) (.int k i)) κ = κ (.pointer (some (elA a i.toNat))) := by
  obtain ⟨hl, hne⟩ := hr
  obtain ⟨b, o, cs, et, m, rfl, _, _⟩ := hne (by intro e; subst e; simp at hl; omega)
  rw [index_addr h0 h1]
  simp [elA, add_mk]
theorem rd_load {t : TypeId} {S : State} {a : Option Addr} {len : Nat} {us : List Value} {i : Nat} {v : Value} {κ : Value → Prop} [hf : TFlat P t]
    (hr : Rd 1 S a len us) (hv : us[i]? = some v) (k : κ v) : ReadW P (Instr.loadAt t (.pointer (some (elA a i)))) S κ := by
  have hi := (List.getElem?_eq_some_iff.1 hv).1
  obtain ⟨hl, hne⟩ := hr
  obtain ⟨b, o, cs, et, m, rfl, hb, hc⟩ := hne (by intro e; subst e; simp at hi)
  simp only [elA, Option.getD_some, add_mk]
  exact load_one hb (by rw [hc i hi]; exact hv) k

end Go.Ost

/- Words of 32 bits and bytes, as values, and the operations on them. Conditions: as each says. -/
set_option linter.unusedSimpArgs false
set_option linter.unusedVariables false
namespace Go.Ost
open Go

variable {P : Program}

abbrev W32 := BitVec 32
def b32 (x : BitVec 32) : Value := .int .u32 x.toNat
def b8 (x : UInt8) : Value := .int .u8 x.toNat
theorem b8_cell (x : UInt8) : Value.cell1 (b8 x) := trivial
theorem b32_cell (x : BitVec 32) : Value.cell1 (b32 x) := trivial

theorem wrap32_mod (n : Nat) : IntKind.u32.wrap (n : Int) = ((n % 4294967296 : Nat) : Int) := by
  show ((n : Int) % (2 ^ 32 : Int)) = _
  omega
theorem ofInt_nat {k : Nat} (x : BitVec k) : BitVec.ofInt k (x.toNat : Int) = x := by
  apply BitVec.eq_of_toNat_eq
  simp

section words
variable (t : TypeId) (x y : Operand) (a b : BitVec 32) (κ : Value → Prop)
theorem w_add : PureW P (do eqGuard .add t x y (b32 a) (b32 b); binOp .add t (b32 a) (b32 b)) κ = κ (b32 (a + b)) := by
  refine (bin_add t x y .u32 _ _ κ).trans ?_
  rw [← Int.natCast_add, wrap32_mod]; rfl
theorem w_sub : PureW P (do eqGuard .sub t x y (b32 a) (b32 b); binOp .sub t (b32 a) (b32 b)) κ = κ (b32 (a - b)) := by
  refine (bin_sub t x y .u32 _ _ κ).trans ?_
  congr 2
  have h1 := a.isLt
  have h2 := b.isLt
  rw [show ((a.toNat : Int) - b.toNat) = ((4294967296 - b.toNat + a.toNat : Nat) : Int) - 4294967296 from by omega]
  rw [BitVec.toNat_sub]
  show ((_ : Int) % (2 ^ 32 : Int)) = _
  omega
theorem w_bits {o : BinOp} {r : BitVec 32} (h : ∀ w, (Op.intBits o .u32 a.toNat b.toNat).run P w = .ok (.int .u32 (IntKind.u32.wrap r.toNat)) w) (hb : ∀ w, (do eqGuard o t x y (b32 a) (b32 b); binOp o t (b32 a) (b32 b) : Sem Value).run P w = (Op.intBits o .u32 a.toNat b.toNat).run P w) :
    PureW P (do eqGuard o t x y (b32 a) (b32 b); binOp o t (b32 a) (b32 b)) κ = κ (b32 r) :=
  pureW_eq (fun w => by
    rw [hb, h, wrap32_mod]
    have := r.isLt
    rw [Nat.mod_eq_of_lt (by simpa using this)]; rfl) κ
theorem w_and : PureW P (do eqGuard .and t x y (b32 a) (b32 b); binOp .and t (b32 a) (b32 b)) κ = κ (b32 (a &&& b)) :=
  w_bits t x y a b κ (fun w => by
    show Result.ok (Value.int .u32 (IntKind.u32.wrap ((BitVec.ofInt 32 (a.toNat : Int) &&& BitVec.ofInt 32 (b.toNat : Int)).toNat : Int))) w = _
    rw [ofInt_nat, ofInt_nat]) (fun w => by simp [eqGuard, binOp, b32])
theorem w_or : PureW P (do eqGuard .or t x y (b32 a) (b32 b); binOp .or t (b32 a) (b32 b)) κ = κ (b32 (a ||| b)) :=
  w_bits t x y a b κ (fun w => by
    show Result.ok (Value.int .u32 (IntKind.u32.wrap ((BitVec.ofInt 32 (a.toNat : Int) ||| BitVec.ofInt 32 (b.toNat : Int)).toNat : Int))) w = _
    rw [ofInt_nat, ofInt_nat]) (fun w => by simp [eqGuard, binOp, b32])
theorem w_xor : PureW P (do eqGuard .xor t x y (b32 a) (b32 b); binOp .xor t (b32 a) (b32 b)) κ = κ (b32 (a ^^^ b)) :=
  w_bits t x y a b κ (fun w => by
    show Result.ok (Value.int .u32 (IntKind.u32.wrap ((BitVec.ofInt 32 (a.toNat : Int) ^^^ BitVec.ofInt 32 (b.toNat : Int)).toNat : Int))) w = _
    rw [ofInt_nat, ofInt_nat]) (fun w => by simp [eqGuard, binOp, b32])
theorem w_not : PureW P (Op.unary .xor (b32 a)) κ = κ (b32 (~~~a)) :=
  pureW_eq (fun w => by
    have h : BitVec.ofInt 32 4294967295 = BitVec.allOnes 32 := by decide
    show Result.ok (Value.int .u32 (IntKind.u32.wrap ((BitVec.ofInt 32 4294967295 ^^^ BitVec.ofInt 32 (a.toNat : Int)).toNat : Int))) w = _
    rw [ofInt_nat, h, BitVec.allOnes_xor, wrap32_mod, Nat.mod_eq_of_lt (~~~a).isLt]
    rfl) κ
theorem w_shl {j : IntKind} {n : Int} (h0 : 0 ≤ n) (h1 : n ≤ 32) : PureW P (do eqGuard .shl t x y (b32 a) (.int j n); binOp .shl t (b32 a) (.int j n)) κ = κ (b32 (a <<< n.toNat)) :=
  pureW_eq (fun w => by
    have e : min n.toNat IntKind.u32.bits = n.toNat := by show min n.toNat 32 = n.toNat; omega
    have h3 : ¬ n < 0 := by omega
    show (Op.shift .shl .u32 (a.toNat : Int) j n).run P w = _
    rw [Op.shift, if_neg h3, e]
    show Result.ok (Value.int .u32 (IntKind.u32.wrap ((a.toNat : Int) * 2 ^ n.toNat))) w = _
    rw [show ((a.toNat : Int) * 2 ^ n.toNat) = ((a.toNat * 2 ^ n.toNat : Nat) : Int) from by simp, wrap32_mod, ← Nat.shiftLeft_eq]
    rfl) κ
theorem w_shr {j : IntKind} {n : Int} (h0 : 0 ≤ n) (h1 : n ≤ 32) : PureW P (do eqGuard .shr t x y (b32 a) (.int j n); binOp .shr t (b32 a) (.int j n)) κ = κ (b32 (a >>> n.toNat)) :=
  pureW_eq (fun w => by
    have e : min n.toNat IntKind.u32.bits = n.toNat := by show min n.toNat 32 = n.toNat; omega
    have h3 : ¬ n < 0 := by omega
    show (Op.shift .shr .u32 (a.toNat : Int) j n).run P w = _
    rw [Op.shift, if_neg h3, e]
    show Result.ok (Value.int .u32 (Int.fdiv (a.toNat : Int) (2 ^ n.toNat))) w = _
    rw [show Int.fdiv (a.toNat : Int) (2 ^ n.toNat) = ((a.toNat / 2 ^ n.toNat : Nat) : Int) from by
      rw [Int.fdiv_eq_ediv_of_nonneg _ (Int.le_of_lt (Int.pow_pos (by decide)))]
      simp, ← Nat.shiftRight_eq_div_pow]
    rfl) κ
end words

/-! ### Bytes and strings -/

def str (bs : List UInt8) : ByteArray := ⟨bs.toArray⟩
theorem str_inj {a b : List UInt8} (h : str a = str b) : a = b := by
  have := congrArg ByteArray.data h
  simpa [str] using this
theorem push_str (l : List UInt8) : ∀ (r : ByteArray), (l.map fun x => ((x.toNat : Nat) : Int)).foldl (fun r n => r.push (UInt8.ofNat n.toNat)) r = ⟨r.data ++ l.toArray⟩ := by
  induction l with
  | nil => intro r; cases r; simp
  | cons x l ih =>
    intro r
    simp only [List.map_cons, List.foldl_cons]
    rw [ih]
    simp [ByteArray.push]

/-- Bytes, as a string. -/
theorem conv_bytes_string {src dst e : TypeId} [hs : TSlice P src e] [he : TInt P e .u8] [hd : TStr P dst] {S : State} {κ : Value → State → Prop} {a : Option Addr} {len cap : Nat} {bs : List UInt8} (h : Rd 1 S a len (bs.map b8))
    (k : κ (.string (str bs)) S) : ConvW P src dst (.slice a len cap) S κ := by
  refine ⟨fun w hw => ⟨_, w, S, ?_, Ext.refl w, hw, k⟩⟩
  rw [run_convert_bytes_string w src dst e a len cap hs.und he.und hd.und]
  have f := rd_first (P := P) (c := cap) h hw
  cases a with
  | none =>
    have : bs = [] := by
      have h2 := h.2
      cases bs with
      | nil => rfl
      | cons x l => obtain ⟨_, _, _, _, _, h3, _⟩ := h2 (by simp); cases h3
    subst this; rfl
  | some a =>
    simp only [Builtin.firstCells, Nat.mul_one] at f
    rw [run_bytesToString w a len cap (bs.map fun x => ((x.toNat : Nat) : Int)) (by rw [f]; simp [b8, Function.comp_def])]
    rw [push_str]
    congr 2
    simp [str]

theorem run_mark {w : World} {b o : Nat} {cs : Array Value} {e : TypeId} {m : Nat × Nat} (h : w.heap[b]? = some (.cells cs e m)) (hm : Soft cs.size m) :
    ∃ w' m', (markStringish ⟨b, o, none⟩).run P w = .ok () w' ∧ Ext w w' ∧ Soft cs.size m' ∧ w'.heap[b]? = some (.cells cs e m') ∧ ∀ k, k ≠ b → w'.heap[k]? = w.heap[k]? := by
  obtain ⟨lo, hi⟩ := m
  refine ⟨w.freeze { block := b, off := cs.size } 1, if lo == hi then (cs.size, cs.size + 1) else (min lo cs.size, max hi (cs.size + 1)), ?_, ?_, ?_, ?_, ?_⟩
  · have hsh : w.shape? b = some (e, cs.size) := by simp [World.shape?, h]
    simp [markStringish, shape, freeze, Sem.run_bind, Sem.run, hsh, Result.andThen]
  · exact ⟨rfl, rfl, rfl, by simp [World.freeze]⟩
  · unfold Soft at hm ⊢
    split
    · exact .inr (Nat.le_refl _)
    · rename_i hne
      rcases hm with hm | hm
      · exact absurd hm (by simpa using hne)
      · right; simp only at hm ⊢; omega
  · simp only [World.freeze]
    rw [if_neg (by decide)]
    simp only [Array.getElem?_modify, if_true, h, Option.map_some]
  · intro k hk
    simp only [World.freeze]
    rw [if_neg (by decide)]
    simp only [Array.getElem?_modify]
    rw [if_neg (Ne.symm hk)]

/-- Bytes of one's own, named otherwise. -/
theorem conv_same {t e : TypeId} [ht : TSlice P t e] [he : TInt P e .u8] {S G : State} {κ : Value → State → Prop} {C : Chunk} {ad : Addr} {len cap : Nat} {us : List Value} (ho : Own 1 e C (some ad) len cap us) (hp : Pick C S G)
    (hpos : 0 < cap) (k : ∀ C', Own 1 e C' (some ad) len cap us → κ (.slice (some ad) len cap) (C' :: G)) : ConvW P t t (.slice (some ad) len cap) S κ := by
  refine ⟨fun w hw => ?_⟩
  obtain ⟨h1, h2, h3, h4⟩ := ho
  rcases h4 with ⟨h5, _⟩ | ⟨b, o, cs, m, h5, rfl, hs, hbig, hc⟩
  · omega
  · cases h5
    have hCG := hw.perm hp.perm
    obtain ⟨w', m', q1, q2, q3, q4, q5⟩ := run_mark (P := P) (o := o) (hCG.get b (.cells cs e m) (by simp)) hs
    refine ⟨_, w', _, ?_, q2, (Upd.one (S := G)).hold hCG q4 q5, k [(b, .cells cs e m')] ⟨h1, h2, h3, .inr ⟨b, o, cs, m', rfl, rfl, q3, hbig, hc⟩⟩⟩
    simp [convert, Sem.run_bind, run_und ht.und, run_und he.und, Result.andThen, q1]

/-- A string, as bytes of one's own. -/
theorem conv_string_bytes {src dst e : TypeId} [hs : TStr P src] [hd : TSlice P dst e] [he : TInt P e .u8] {S : State} {κ : Value → State → Prop} {bs : List UInt8} (hm : bs.length ≤ maxLen)
    (k : ∀ C a cap, Own 1 e C (some a) bs.length cap (bs.map b8) → κ (.slice (some a) bs.length cap) (C :: S)) : ConvW P src dst (.string (str bs)) S κ := by
  refine ⟨fun w hw => ?_⟩
  have hge := grownCap_ge w bs.length 0 e
  have hcm := grownCap_le_maxLen w bs.length 0 e hm
  obtain ⟨cells, hcells⟩ : ∃ cells : Array Value, cells = (bs.map b8).toArray ++ Array.replicate (grownCap w bs.length 0 e - bs.length) (.int .u8 0) := ⟨_, rfl⟩
  have hw1 : Hold (w.drew.alloc (.cells cells e)) ([(w.heap.size, .cells cells e (0, 0))] :: S) := Hold.new (w := w) hw rfl
  obtain ⟨w', m', q1, q2, q3, q4, q5⟩ := run_mark (P := P) (o := 0) (hw1.get w.heap.size (.cells cells e (0, 0)) (by simp)) (.inl rfl)
  refine ⟨.slice (some ⟨w.heap.size, 0, none⟩) bs.length (grownCap w bs.length 0 e), w', _, ?_, Ext.trans (a := w) (b := w.drew.alloc (.cells cells e)) ⟨rfl, rfl, rfl, by simp⟩ q2, (Upd.one (S := S)).hold hw1 q4 q5, k [(w.heap.size, .cells cells e m')] _ _ ⟨hge, hcm, by simp, .inr ⟨_, 0, cells, m', rfl, rfl, q3, ?_, ?_⟩⟩⟩
  · have e1 : (str bs).data.map (fun b => Value.int .u8 b.toNat) = (bs.map b8).toArray := by simp [str, b8, Function.comp_def]
    have e2 : (str bs).size = bs.length := by simp [str, ByteArray.size]
    have r : (convert src dst (.string (str bs))).run P w = (Conv.stringToBytes e (str bs)).run P w := by
      simp [convert, Sem.run_bind, run_und hs.und, run_und hd.und, run_und he.und, Result.andThen]
    rw [r]
    unfold Conv.stringToBytes
    simp only [Sem.run_bind, e1, e2]
    have c1 : (choose (Question.appendCap bs.length 0 e)).run P w = .ok (grownCap w bs.length 0 e) w.drew := by rw [run_choose_drew]; simp [Question.forced, grownCap]
    have c2 : (newRow e cells).run P w.drew = .ok ⟨w.heap.size, 0, none⟩ (w.drew.alloc (.cells cells e)) := rfl
    rw [c1]
    simp only [Result.andThen]
    rw [← hcells, c2]
    simp only [Result.andThen]
    rw [q1]
    rfl
  · rw [hcells]; simp; omega
  · intro i hi
    rw [hcells, Nat.zero_add, Array.getElem?_append_left (by simpa using hi)]
    simp

/-! ### Conversions of words -/

theorem cq_b8_32 {s d : TypeId} [hs : TInt P s .u8] [hd : TInt P d .u32] {x : UInt8} {κ : Value → Prop} : PureW P (convert s d (b8 x)) κ = κ (b32 (BitVec.ofNat 32 x.toNat)) := by
  show PureW P (convert s d (.int .u8 (x.toNat : Int))) κ = _
  rw [conv_int, wrap32_mod]
  rfl
theorem cq_b32_8 {s d : TypeId} [hs : TInt P s .u32] [hd : TInt P d .u8] {x : W32} {κ : Value → Prop} : PureW P (convert s d (b32 x)) κ = κ (b8 (UInt8.ofNat x.toNat)) := by
  show PureW P (convert s d (.int .u32 (x.toNat : Int))) κ = _
  rw [conv_int]
  have : IntKind.u8.wrap (x.toNat : Int) = ((UInt8.ofNat x.toNat).toNat : Int) := by
    show ((x.toNat : Int) % (2 ^ 8 : Int)) = _
    rw [UInt8.toNat_ofNat']
    omega
  rw [this]; rfl
theorem cq_b32_64 {s d : TypeId} [hs : TInt P s .u32] [hd : TInt P d .u64] {x : W32} {κ : Value → Prop} : PureW P (convert s d (b32 x)) κ = κ (.int .u64 x.toNat) := by
  show PureW P (convert s d (.int .u32 (x.toNat : Int))) κ = _
  rw [conv_int, wrap_u64 (by omega) (by have := x.isLt; omega)]


theorem conv_b8_32 {s d : TypeId} [hs : TInt P s .u8] [hd : TInt P d .u32] {x : UInt8} {S : State} {κ : Value → State → Prop} : ConvW P s d (b8 x) S κ = κ (b32 (BitVec.ofNat 32 x.toNat)) S := by
  show PureW P (convert s d (.int .u8 (x.toNat : Int))) (fun v => κ v S) = _
  rw [conv_int, wrap32_mod]
  rfl
theorem conv_b8_int {s d : TypeId} {k : IntKind} [hs : TInt P s .u8] [hd : TInt P d k] {x : UInt8} {S : State} {κ : Value → State → Prop} (h : k.wrap (x.toNat : Int) = x.toNat) : ConvW P s d (b8 x) S κ = κ (.int k x.toNat) S := by
  show PureW P (convert s d (.int .u8 (x.toNat : Int))) (fun v => κ v S) = _
  rw [conv_int, h]
theorem conv_b32_8 {s d : TypeId} [hs : TInt P s .u32] [hd : TInt P d .u8] {x : W32} {S : State} {κ : Value → State → Prop} : ConvW P s d (b32 x) S κ = κ (b8 (UInt8.ofNat x.toNat)) S := by
  show PureW P (convert s d (.int .u32 (x.toNat : Int))) (fun v => κ v S) = _
  rw [conv_int]
  have : IntKind.u8.wrap (x.toNat : Int) = ((UInt8.ofNat x.toNat).toNat : Int) := by
    show ((x.toNat : Int) % (2 ^ 8 : Int)) = _
    rw [UInt8.toNat_ofNat']
    omega
  rw [this]; rfl
theorem conv_b32_64 {s d : TypeId} [hs : TInt P s .u32] [hd : TInt P d .u64] {x : W32} {S : State} {κ : Value → State → Prop} : ConvW P s d (b32 x) S κ = κ (.int .u64 x.toNat) S := by
  show PureW P (convert s d (.int .u32 (x.toNat : Int))) (fun v => κ v S) = _
  rw [conv_int, wrap_u64 (by omega) (by have := x.isLt; omega)]
theorem conv_64_b32 {s d : TypeId} {j : IntKind} [hs : TInt P s j] [hd : TInt P d .u32] {n : Nat} {S : State} {κ : Value → State → Prop} : ConvW P s d (.int j (n : Int)) S κ = κ (b32 (BitVec.ofNat 32 n)) S := by
  show PureW P (convert s d (.int j (n : Int))) (fun v => κ v S) = _
  rw [conv_int, wrap32_mod]
  rfl

/-! ### Rows of words -/

def rowW (l : List W32) : Array Value := (l.map b32).toArray
theorem rowW_size (l : List W32) : (rowW l).size = l.length := by simp [rowW]
theorem rowW_get (l : List W32) (i : Nat) (h : i < l.length) : (rowW l)[i]? = some (b32 (l.getD i 0)) := by
  simp [rowW, List.getD, h]
theorem rowW_set (l : List W32) (i : Nat) (x : W32) : (rowW l).setIfInBounds i (b32 x) = rowW (l.set i x) := by
  simp [rowW, List.map_set]
theorem load_w {t e : TypeId} {S : State} {κ : Value → Prop} {b o : Nat} {l : List W32} {m : Nat × Nat} [hf : TFlat P t] (hl : Lies b (.cells (rowW l) e m) S) (ho : o < l.length) (k : κ (b32 (l.getD o 0))) :
    ReadW P (Instr.loadAt t (.pointer (some ⟨b, o, none⟩))) S κ := load_one hl (rowW_get l o ho) k
theorem store_w {t e : TypeId} {z : Value} {by_ : Nat} {S S' : State} {κ : State → Prop} {b o : Nat} {l : List W32} {x : W32} [hs : TSized P t z 1 by_] (hu : Upd b (.cells (rowW l) e (0, 0)) (.cells (rowW (l.set o x)) e (0, 0)) S S')
    (ho : o < l.length) (k : κ S') : UnitW P (Instr.storeAt t (.pointer (some ⟨b, o, none⟩)) (b32 x)) S κ :=
  store_one (cs := rowW l) (b32_cell x) (by rw [rowW_set]; exact hu) (by rw [rowW_size]; exact ho) k

theorem load_rw {t e : TypeId} {z : Value} {s by_ : Nat} {S : State} {κ : Value → Prop} {b : Nat} {l : List W32} {m : Nat × Nat} [hf : TDeep P t] [hs : TSized P t z s by_] (hl : Lies b (.cells (rowW l) e m) S) (h : l.length = s) (k : κ (.agg (rowW l))) :
    ReadW P (Instr.loadAt t (.pointer (some ⟨b, 0, none⟩))) S κ := by
  refine load_agg hl (by rw [rowW_size]; omega) ?_
  have : (rowW l).extract 0 (0 + s) = rowW l := by
    apply Array.ext'; simp [rowW, ← h, List.take_of_length_le]
  rw [this]; exact k
theorem setCells_all : ∀ (vs : List Value) (p u r : List Value), u.length = vs.length → setCells (p ++ (u ++ r)).toArray p.length vs = (p ++ (vs ++ r)).toArray
  | [], p, [], r, _ => rfl
  | v :: vs, p, x :: u, r, h => by
    have ih := setCells_all vs (p ++ [v]) u r (by simpa using h)
    rw [setCells]
    have e : (p ++ (x :: u ++ r)).toArray.setIfInBounds p.length v = (p ++ [v] ++ (u ++ r)).toArray := by
      apply Array.ext'; simp
    rw [e, show p.length + 1 = (p ++ [v]).length from by simp, ih]
    simp
theorem store_rw {t e : TypeId} {z : Value} {s by_ : Nat} {S S' : State} {κ : State → Prop} {b : Nat} {l l' : List W32} [hs : TSized P t z s by_] (hu : Upd b (.cells (rowW l) e (0, 0)) (.cells (rowW l') e (0, 0)) S S')
    (h : l.length = s) (h' : l'.length = s) (k : κ S') : UnitW P (Instr.storeAt t (.pointer (some ⟨b, 0, none⟩)) (.agg (rowW l'))) S κ := by
  refine store_agg (e := e) (cs := rowW l) (S' := S') (by rw [rowW_size]; exact h') (fun v hv => ?_) ?_ (by rw [rowW_size]; omega) k
  · simp only [rowW, List.mem_map] at hv
    obtain ⟨x, _, rfl⟩ := hv
    exact b32_cell x
  · have e := setCells_all (l'.map b32) [] (l.map b32) [] (by simp; omega)
    simp only [List.nil_append, List.append_nil, List.length_nil] at e
    have e2 : setCells (rowW l) 0 (rowW l').toList = rowW l' := e
    rw [e2]; exact hu

/-! ### Words, and something behind them -/

def rowX (l : List W32) (r : List Value) : Array Value := (l.map b32 ++ r).toArray
theorem rowX_size (l : List W32) (r : List Value) : (rowX l r).size = l.length + r.length := by simp [rowX]
theorem rowX_get (l : List W32) (r : List Value) (i : Nat) (h : i < l.length) : (rowX l r)[i]? = some (b32 (l.getD i 0)) := by
  simp only [rowX, List.getElem?_toArray]
  rw [List.getElem?_append_left (by simpa using h)]
  simp [List.getD, h]
theorem rowX_set (l : List W32) (r : List Value) (i : Nat) (h : i < l.length) (x : W32) : (rowX l r).setIfInBounds i (b32 x) = rowX (l.set i x) r := by
  simp only [rowX, List.setIfInBounds_toArray]
  rw [List.set_append_left _ _ (by simpa using h), List.map_set]
theorem load_x {t e : TypeId} {S : State} {κ : Value → Prop} {b o : Nat} {l : List W32} {r : List Value} {m : Nat × Nat} [hf : TFlat P t] (hl : Lies b (.cells (rowX l r) e m) S) (ho : o < l.length) (k : κ (b32 (l.getD o 0))) :
    ReadW P (Instr.loadAt t (.pointer (some ⟨b, o, none⟩))) S κ := load_one hl (rowX_get l r o ho) k
theorem store_x {t e : TypeId} {z : Value} {by_ : Nat} {S S' : State} {κ : State → Prop} {b o : Nat} {l : List W32} {r : List Value} {x : W32} [hs : TSized P t z 1 by_] (hu : Upd b (.cells (rowX l r) e (0, 0)) (.cells (rowX (l.set o x) r) e (0, 0)) S S')
    (ho : o < l.length) (k : κ S') : UnitW P (Instr.storeAt t (.pointer (some ⟨b, o, none⟩)) (b32 x)) S κ :=
  store_one (cs := rowX l r) (b32_cell x) (by rw [rowX_set _ _ _ ho]; exact hu) (by rw [rowX_size]; omega) k

theorem index_w {t e n : Nat} {z : Value} {by_ : Nat} {k : IntKind} {i : Int} {l : List W32} {κ : Value → Prop} [h : TArr P t n e] [hs : TSized P e z 1 by_] [hf : TFlat P e] (h0 : 0 ≤ i) (h1 : i < n) (hl : l.length = n) :
    PureW P (Instr.index t (.agg (rowW l)) (.int k i)) κ = κ (b32 (l.getD i.toNat 0)) := arr_index h0 h1 (rowW_get l _ (by omega))
theorem build_w8 {t e : Nat} {z z' : Value} {s by_ by' : Nat} {a b c d e' f g h' : W32} {κ : Value → Prop} [h : TArr P t 8 e] [hs : TSized P t z s by_] [he : TSized P e z' 1 by'] (hz : z.cells.size = 8) :
    PureW P (Instr.build t #[(0, b32 a), (1, b32 b), (2, b32 c), (3, b32 d), (4, b32 e'), (5, b32 f), (6, b32 g), (7, b32 h')]) κ = κ (.agg (rowW [a, b, c, d, e', f, g, h'])) := by
  refine build_arr (ps := [(0, b32 a), (1, b32 b), (2, b32 c), (3, b32 d), (4, b32 e'), (5, b32 f), (6, b32 g), (7, b32 h')]) ?_
  have q := fill_all [b32 a, b32 b, b32 c, b32 d, b32 e', b32 f, b32 g, b32 h'] [] z.cells.toList (fun v hv => by
    simp only [List.mem_cons, List.not_mem_nil, or_false] at hv
    rcases hv with rfl | rfl | rfl | rfl | rfl | rfl | rfl | rfl <;> exact b32_cell _) (by simpa using hz)
  simp only [List.nil_append, List.length_nil, List.zipIdx_cons, List.zipIdx_nil, List.map_cons, List.map_nil, Nat.zero_add, Nat.reduceAdd, Array.toArray_toList] at q
  simp only [Nat.mul_one]
  exact q

theorem rd_load8 {t : TypeId} {S : State} {a : Option Addr} {len : Nat} {bs : List UInt8} {i : Nat} {κ : Value → Prop} [hf : TFlat P t]
    (hr : Rd 1 S a len (bs.map b8)) (hv : i < bs.length) (k : κ (b8 (bs.getD i 0))) : ReadW P (Instr.loadAt t (.pointer (some (elA a i)))) S κ :=
  rd_load hr (v := b8 (bs.getD i 0)) (by simp [List.getD, hv]) k
theorem wrap64_mod (n : Nat) : IntKind.u64.wrap (n : Int) = ((n % 18446744073709551616 : Nat) : Int) := by
  show ((n : Int) % (2 ^ 64 : Int)) = _
  omega
theorem conv8_64 (x : UInt8) : IntKind.u64.wrap (x.toNat : Int) = x.toNat := by
  have := x.toNat_lt
  rw [wrap_u64 (by omega) (by omega)]
theorem conv8_i64 (x : UInt8) : IntKind.i64.wrap (x.toNat : Int) = x.toNat := by
  have := x.toNat_lt
  rw [wrap_i64 (by omega) (by omega)]
theorem cq_b8_64 {s d : TypeId} [hs : TInt P s .u8] [hd : TInt P d .u64] {x : UInt8} {κ : Value → Prop} : PureW P (convert s d (b8 x)) κ = κ (.int .u64 x.toNat) := by
  show PureW P (convert s d (.int .u8 (x.toNat : Int))) κ = _
  rw [conv_int, conv8_64]
theorem cq_b8_i64 {s d : TypeId} [hs : TInt P s .u8] [hd : TInt P d .i64] {x : UInt8} {κ : Value → Prop} : PureW P (convert s d (b8 x)) κ = κ (.int .i64 x.toNat) := by
  show PureW P (convert s d (.int .u8 (x.toNat : Int))) κ = _
  rw [conv_int, conv8_i64]
theorem conv_b8_64 {s d : TypeId} [hs : TInt P s .u8] [hd : TInt P d .u64] {x : UInt8} {S : State} {κ : Value → State → Prop} : ConvW P s d (b8 x) S κ = κ (.int .u64 x.toNat) S := by
  show PureW P (convert s d (.int .u8 (x.toNat : Int))) (fun v => κ v S) = _
  rw [conv_int, conv8_64]
theorem conv_b8_i64 {s d : TypeId} [hs : TInt P s .u8] [hd : TInt P d .i64] {x : UInt8} {S : State} {κ : Value → State → Prop} : ConvW P s d (b8 x) S κ = κ (.int .i64 x.toNat) S := by
  show PureW P (convert s d (.int .u8 (x.toNat : Int))) (fun v => κ v S) = _
  rw [conv_int, conv8_i64]

end Go.Ost

/- Slices of bytes and strings: the operations in words of lists of bytes. Conditions: as each says. -/
set_option linter.unusedSimpArgs false
set_option linter.unusedVariables false
namespace Go.Ost
open Go

variable {P : Program}

theorem Lies.sub {b : Nat} {o : Obj} {H : Chunk} {S : State} (h : Lies b o [H]) (hm : H ∈ S) : Lies b o S := by
  cases h with
  | here h => exact Lies.of_mem h hm
  | next h => cases h
theorem Lies.in {b : Nat} {o : Obj} {H : Chunk} (h : Lies b o [H]) : (b, o) ∈ H := by
  cases h with
  | here h => exact h
  | next h => cases h
theorem Rd.mem {s : Nat} {H : Chunk} {S : State} {a : Option Addr} {len : Nat} {us : List Value} (h : Rd s [H] a len us) (hm : H ∈ S) : Rd s S a len us :=
  ⟨h.1, fun hne => let ⟨b, o, cs, e, m, h1, h2, h3⟩ := h.2 hne; ⟨b, o, cs, e, m, h1, h2.sub hm, h3⟩⟩
theorem Rd.wide {s : Nat} {H D : Chunk} {a : Option Addr} {len : Nat} {us : List Value} (h : Rd s [H] a len us) (hm : ∀ x ∈ H, x ∈ D) : Rd s [D] a len us :=
  ⟨h.1, fun hne => let ⟨b, o, cs, e, m, h1, h2, h3⟩ := h.2 hne; ⟨b, o, cs, e, m, h1, .here (hm _ h2.in), h3⟩⟩
theorem cells8 (bs : List UInt8) : ∀ v ∈ bs.map b8, Value.cell1 v := fun v hv => by
  obtain ⟨x, _, rfl⟩ := List.mem_map.1 hv; exact b8_cell x

/-- append of bytes, onto one's own. -/
theorem app8 {t t2 ty e e2 : TypeId} [ht : TSlice P t e] [ht2 : TSlice P t2 e2] [hs : TSized P e (.int .u8 0) 1 1] {S G : State} {κ : Value → State → Prop} {C : Chunk} {a b : Option Addr} {len cap n c : Nat} {us vs : List UInt8}
    (ho : Own 1 e C a len cap (us.map b8)) (hC : Pick C S G) (hr : Rd 1 S b n (vs.map b8)) (hm : len + n ≤ 140737488355328)
    (k : ∀ C' a' cap', Own 1 e C' a' (len + n) cap' ((us ++ vs).map b8) → κ (.slice a' (len + n) cap') (C' :: G)) : ValW P (Builtin.append_ #[t, t2] ty #[.slice a len cap, .slice b n c]) S κ :=
  append_own (hs := hs) rfl (by decide) ho (.inr hC) hr (cells8 vs) (by simp only [maxLen]; omega) (by omega) (fun C' a' cap' h => k C' a' cap' (by rw [List.map_append]; exact h))
theorem own_nil {s : Nat} {e : TypeId} {a : Option Addr} : Own s e [] a 0 0 [] := ⟨Nat.le_refl _, Nat.zero_le _, by simp, .inl ⟨rfl, rfl⟩⟩
theorem app8_nil {t t2 ty e e2 : TypeId} [ht : TSlice P t e] [ht2 : TSlice P t2 e2] [hs : TSized P e (.int .u8 0) 1 1] {S : State} {κ : Value → State → Prop} {b : Option Addr} {n c : Nat} {vs : List UInt8}
    (hr : Rd 1 S b n (vs.map b8)) (hm : n ≤ 140737488355328)
    (k : ∀ C' a' cap', Own 1 e C' a' n cap' (vs.map b8) → κ (.slice a' n cap') (C' :: S)) : ValW P (Builtin.append_ #[t, t2] ty #[.slice none 0 0, .slice b n c]) S κ :=
  append_own (hs := hs) (us := []) rfl (by decide) own_nil (.inl ⟨rfl, rfl⟩) hr (cells8 vs) (by simp only [maxLen]; omega) (by omega) (fun C' a' cap' h => by
    rw [Nat.zero_add] at h ⊢
    exact k C' a' cap' h)
/-- Values of one cell, onto one's own. -/
theorem app1 {t t2 ty e e2 : TypeId} {z : Value} {by_ : Nat} [ht : TSlice P t e] [ht2 : TSlice P t2 e2] [hs : TSized P e z 1 by_] (hz : z.cells.size = 1) {S G : State} {κ : Value → State → Prop} {C : Chunk} {a b : Option Addr} {len cap n c : Nat} {us vs : List Value}
    (ho : Own 1 e C a len cap us) (hC : C = [] ∧ G = S ∨ Pick C S G) (hr : Rd 1 S b n vs) (h1 : ∀ v ∈ vs, Value.cell1 v) (hm : len + n ≤ 1000000) (hb : by_ ≤ 1000)
    (k : ∀ C' a' cap', Own 1 e C' a' (len + n) cap' (us ++ vs) → κ (.slice a' (len + n) cap') (C' :: G)) : ValW P (Builtin.append_ #[t, t2] ty #[.slice a len cap, .slice b n c]) S κ :=
  append_own (hs := hs) hz (by decide) ho hC hr h1 (by simp only [maxLen]; omega) (by
    have : (len + n) * by_ ≤ 1000000 * 1000 := Nat.mul_le_mul hm hb
    omega) k

theorem own_built {e : TypeId} {b : Nat} {vs : List Value} {n : Nat} (hn : vs.length = n) (hm : n ≤ 16777216) : Own 1 e [(b, .cells vs.toArray e (0, 0))] (some ⟨b, 0, none⟩) n n vs :=
  ⟨Nat.le_refl _, by simp only [maxLen]; omega, by simp [hn], .inr ⟨b, 0, _, _, rfl, rfl, .inl rfl, by simp [hn], fun i hi => by simp⟩⟩
/-- Bytes written out. -/
theorem build8 {t e : TypeId} {by_ : Nat} [ht : TSlice P t e] [hs : TSized P e (.int .u8 0) 1 by_] {n : Nat} {ps : List (Nat × Value)} {S : State} {κ : Value → State → Prop} (bs : List UInt8) (hn : n ≤ 16777216)
    (hi : ps.map (·.1) = List.range n) (hb : ps.map (·.2) = bs.map b8) (k : ∀ b C, Own 1 e C (some ⟨b, 0, none⟩) n n (bs.map b8) → κ (.slice (some ⟨b, 0, none⟩) n n) (C :: S)) : ValW P (Instr.buildSlice t n ps.toArray) S κ :=
  build_slice (hs := hs) rfl hn hi (by rw [hb]; exact cells8 bs) (fun b => k b _ (by
    rw [hb]
    exact own_built (by have := congrArg List.length hi; have h2 := congrArg List.length hb; simp only [List.length_map, List.length_range] at this h2 ⊢; omega) hn))
/-- Values of one cell written out. -/
theorem build1 {t e : TypeId} {z : Value} {by_ : Nat} [ht : TSlice P t e] [hs : TSized P e z 1 by_] (hz : z.cells.size = 1) {n : Nat} {ps : List (Nat × Value)} {S : State} {κ : Value → State → Prop} (vs : List Value) (hn : n ≤ 16777216)
    (hi : ps.map (·.1) = List.range n) (hb : ps.map (·.2) = vs) (hc : ∀ v ∈ vs, Value.cell1 v) (k : ∀ b C, Own 1 e C (some ⟨b, 0, none⟩) n n vs → κ (.slice (some ⟨b, 0, none⟩) n n) (C :: S)) : ValW P (Instr.buildSlice t n ps.toArray) S κ :=
  build_slice (hs := hs) hz hn hi (by rw [hb]; exact hc) (fun b => k b _ (by
    rw [hb]
    exact own_built (by have := congrArg List.length hi; have h2 := congrArg List.length hb; simp only [List.length_map, List.length_range] at this h2; omega) hn))

/-- A byte of one's own is set. -/
theorem own_store8 {t e : TypeId} {z : Value} {by_ : Nat} [hs : TSized P t z 1 by_] {S G : State} {κ : State → Prop} {C : Chunk} {a : Option Addr} {len cap i : Nat} {bs : List UInt8} {x : UInt8}
    (ho : Own 1 e C a len cap (bs.map b8)) (hp : Pick C S G) (hi : i < bs.length) (k : ∀ C', Own 1 e C' a len cap ((bs.set i x).map b8) → κ (C' :: G)) : UnitW P (Instr.storeAt t (.pointer (some (elA a i))) (b8 x)) S κ := by
  refine ⟨fun w hw => ?_⟩
  obtain ⟨h1, h2, h3, h4⟩ := ho
  simp only [List.length_map, Nat.mul_one] at h3
  rcases h4 with ⟨h5, _⟩ | ⟨b, o, cs, m, rfl, rfl, hsoft, hbig, hc⟩
  · omega
  · have hCG := hw.perm hp.perm
    obtain ⟨lo, hi'⟩ := m
    obtain ⟨w', q1, q2, q3, q4⟩ := run_storeCells (P := P) (b := b) (o := o + i) [b8 x] 0 w cs (hCG.get b (.cells cs e (lo, hi')) (by simp)) (fun u hm => by simp at hm; subst hm; exact b8_cell x) (by simp; omega) hsoft.or
    refine ⟨w', _, ?_, q2, (Upd.one (S := G)).hold hCG q3 q4, k [(b, .cells (setCells cs (o + i + 0) [b8 x]) e (lo, hi'))] ⟨h1, h2, by simp [h3], .inr ⟨b, o, _, (lo, hi'), rfl, rfl, by rw [setCells_size]; exact hsoft, by rw [setCells_size]; exact hbig, fun j hj => ?_⟩⟩⟩
    · have e1 : (Value.cells (b8 x)) = #[b8 x] := rfl
      simp only [elA, Option.getD_some, add_mk]
      simp [Instr.storeAt, Instr.sureAddr, storeVar, Sem.run_bind, run_size hs, Result.andThen, e1, q1]
    · simp only [List.length_map, List.length_set] at hj
      have hcj := hc j (by simpa using hj)
      simp only [setCells, Nat.add_zero]
      by_cases e2 : j = i
      · subst e2
        rw [Array.getElem?_setIfInBounds_self, if_pos (by omega)]
        simp [hj]
      · rw [Array.getElem?_setIfInBounds_ne (by omega), hcj]
        simp only [List.getElem?_map]
        rw [List.getElem?_set_ne (by omega)]
/-- make of bytes. -/
theorem make8 {t e : TypeId} [ht : TSlice P t e] [hs : TSized P e (.int .u8 0) 1 1] {n : Nat} {S : State} {κ : Value → State → Prop} (hn : n ≤ 1000000)
    (k : ∀ b C, Own 1 e C (some ⟨b, 0, none⟩) n n ((List.replicate n (0 : UInt8)).map b8) → κ (.slice (some ⟨b, 0, none⟩) n n) (C :: S)) : ValW P (Instr.makeSlice t (.int .i64 n) (.int .i64 n)) S κ := by
  refine ⟨fun w hw => ?_⟩
  obtain ⟨i, hi, hz1, hsz, hby⟩ := sized_parts hs.info
  have hr := run_makeSlice (P := P) w t e i (.int .u8 0) ht.und hi hz1 .i64 .i64 (n : Int) (n : Int) (by omega) (Int.le_refl _) (by rw [hsz]; omega) (by rw [hby]; omega) (by omega)
  simp only [Int.toNat_natCast, hsz, Nat.mul_one] at hr
  generalize hcells : madeCells (Value.int .u8 0).cells n = cells at hr
  have hlist : cells = ((List.replicate n (0 : UInt8)).map b8).toArray := by
    rw [← hcells]
    apply Array.ext'
    unfold madeCells
    apply List.ext_getElem
    · simp
    · intro j h1 h2
      simp [Nat.mod_one, b8, Value.cells]
  refine ⟨_, w.alloc (.cells cells e), [(w.heap.size, .cells cells e (0, 0))] :: S, hr, ⟨rfl, rfl, rfl, by simp⟩, Hold.new (w := w) hw rfl, k w.heap.size _ ?_⟩
  rw [hlist]
  exact own_built (by simp) (by omega)

/-! ### Numbers -/

theorem bin_shr64 {t : TypeId} {x y : Operand} {j : IntKind} {a n : Int} {κ : Value → Prop} (ha : 0 ≤ a) (h0 : 0 ≤ n) (h1 : n ≤ 64) : PureW P (do eqGuard .shr t x y (.int .u64 a) (.int j n); binOp .shr t (.int .u64 a) (.int j n)) κ = κ (.int .u64 (a / 2 ^ n.toNat)) :=
  pureW_eq (fun w => by
    have e : min n.toNat IntKind.u64.bits = n.toNat := by show min n.toNat 64 = n.toNat; omega
    have h3 : ¬ n < 0 := by omega
    show (Op.shift .shr .u64 a j n).run P w = _
    rw [Op.shift, if_neg h3, e]
    show Result.ok (Value.int .u64 (Int.fdiv a (2 ^ n.toNat))) w = _
    rw [Int.fdiv_eq_ediv_of_nonneg _ (Int.le_of_lt (Int.pow_pos (by decide)))]) κ
theorem b8_shr {t : TypeId} {x y : Operand} {j : IntKind} {b : UInt8} {κ : Value → Prop} : PureW P (do eqGuard .shr t x y (b8 b) (.int j 4); binOp .shr t (b8 b) (.int j 4)) κ = κ (.int .u8 ((b.toNat / 16 : Nat) : Int)) :=
  pureW_eq (fun w => by
    show (Op.shift .shr .u8 (b.toNat : Int) j 4).run P w = _
    show Result.ok (Value.int .u8 (Int.fdiv (b.toNat : Int) (2 ^ 4))) w = _
    rw [Int.fdiv_eq_ediv_of_nonneg _ (by decide)]
    rfl) κ
theorem b8_and15 {t : TypeId} {x y : Operand} {b : UInt8} {κ : Value → Prop} : PureW P (do eqGuard .and t x y (b8 b) (.int .u8 15); binOp .and t (b8 b) (.int .u8 15)) κ = κ (.int .u8 ((b.toNat % 16 : Nat) : Int)) :=
  pureW_eq (fun w => by
    show Result.ok (Value.int .u8 (IntKind.u8.wrap ((BitVec.ofInt 8 (b.toNat : Int) &&& BitVec.ofInt 8 15).toNat : Int))) w = _
    have h := b.toNat_lt
    have key : ∀ n : Fin 256, IntKind.u8.wrap ((BitVec.ofInt 8 (n.val : Int) &&& BitVec.ofInt 8 15).toNat : Int) = ((n.val % 16 : Nat) : Int) := by decide +kernel
    rw [key ⟨b.toNat, h⟩]) κ
theorem wrap8_mod (n : Nat) : IntKind.u8.wrap (n : Int) = ((UInt8.ofNat n).toNat : Int) := by
  show ((n : Int) % (2 ^ 8 : Int)) = _
  rw [UInt8.toNat_ofNat']
  omega

/-! ### Strings -/

theorem str_eql {t : TypeId} {x y : Operand} {a b : ByteArray} {κ : Value → Prop} [h : TStr P t] : PureW P (do eqGuard .eql t x y (.string a) (.string b); binOp .eql t (.string a) (.string b)) κ = κ (.bool (a.data.toList == b.data.toList)) :=
  pureW_eq (fun w => by rw [← ByteArray.toList_eq, ← ByteArray.toList_eq]; rfl) κ
theorem str_neq {t : TypeId} {x y : Operand} {a b : ByteArray} {κ : Value → Prop} [h : TStr P t] : PureW P (do eqGuard .neq t x y (.string a) (.string b); binOp .neq t (.string a) (.string b)) κ = κ (.bool (a.data.toList != b.data.toList)) :=
  pureW_eq (fun w => by rw [← ByteArray.toList_eq, ← ByteArray.toList_eq]; rfl) κ
theorem str_data (a : List UInt8) : (str a).data.toList = a := rfl
theorem str_add {t : TypeId} {x y : Operand} {a b : List UInt8} {κ : Value → Prop} (hm : a.length + b.length ≤ 9223372036854775807) : PureW P (do eqGuard .add t x y (.string (str a)) (.string (str b)); binOp .add t (.string (str a)) (.string (str b))) κ = κ (.string (str (a ++ b))) :=
  pureW_eq (fun w => by
    have e : (do eqGuard .add t x y (.string (str a)) (.string (str b)); binOp .add t (.string (str a)) (.string (str b)) : Sem Value) = Op.stringOp .add (str a) (str b) := rfl
    have hsz : ¬ (((str a).size + (str b).size : Nat) : Int) > IntKind.i64.max := by
      show ¬ ((a.length + b.length : Nat) : Int) > 9223372036854775807
      omega
    rw [e]
    simp only [Op.stringOp]
    rw [if_neg hsz]
    have h2 : str a ++ str b = str (a ++ b) := by
      apply ByteArray.ext
      simp [str]
    rw [h2]
    rfl) κ
theorem str_index {t : TypeId} {k : IntKind} {i : Int} {s : List UInt8} {κ : Value → Prop} [h : TStr P t] (h0 : 0 ≤ i) (h1 : i < s.length) : PureW P (Instr.index t (.string (str s)) (.int k i)) κ = κ (b8 (s.getD i.toNat 0)) :=
  pureW_eq (fun w => by
    have hlt : i.toNat < s.length := by omega
    have e : (str s)[i.toNat]? = some (s.getD i.toNat 0) := by
      have h2 : i.toNat < (str s).size := hlt
      rw [getElem?_pos (str s) i.toNat h2]
      simp [List.getD, hlt, str, ByteArray.getElem_eq_getElem_data]
    simp [Instr.index, asIntOf, Sem.run_bind, run_und h.und, Result.andThen, h0, e, b8]) κ
theorem str_cut {t : TypeId} {j k : IntKind} {l h' : Int} {s : List UInt8} {κ : Value → Prop} [h : TStr P t] (l0 : 0 ≤ l) (l1 : l ≤ h') (h1 : h' ≤ s.length) :
    PureW P (Instr.sliceAt t (.string (str s)) (some (.int j l)) (some (.int k h')) none) κ = κ (.string (str ((s.drop l.toNat).take (h'.toNat - l.toNat)))) :=
  pureW_eq (fun w => by
    have h0 : 0 ≤ h' := by omega
    have l1' : l ≤ max h' 0 := by omega
    have h1' : h' ≤ ((str s).size : Int) := h1
    have e : (str s).extract l.toNat h'.toNat = str ((s.drop l.toNat).take (h'.toNat - l.toNat)) := by
      apply ByteArray.ext
      simp [str, ByteArray.data_extract]
    simp only [Instr.sliceAt, Instr.slice, Sem.run_bind, run_und h.und, Result.andThen, Instr.sliceBounds, Instr.sliceBound, asIntOf, Sem.run_pure]
    simp [Sem.run_bind, h0, h1', l0, l1, l1', e, Result.andThen]) κ
theorem slc_eql_nil {t e : TypeId} {x y : Operand} {a : Option Addr} {n c : Nat} {κ : Value → Prop} [h : TSlice P t e] : PureW P (do eqGuard .eql t x y (.slice a n c) (.slice none 0 0); binOp .eql t (.slice a n c) (.slice none 0 0)) κ = κ (.bool a.isNone) :=
  pureW_eq (fun w => by
    have e : (do eqGuard .eql t x y (.slice a n c) (.slice none 0 0); binOp .eql t (.slice a n c) (.slice none 0 0) : Sem Value) = (do pure (.bool (← Op.equalIn (9999 + 1) t (.slice a n c) (.slice none 0 0)))) := by
      cases a <;> rfl
    rw [e, Sem.run_bind, Op.equalIn, Sem.run_bind, run_und h.und]
    cases a <;> rfl) κ

theorem ext2_0 {a b : Value} {κ : Value → Prop} : PureW P (Instr.extract (.tuple #[a, b]) 0) κ = κ a := pureW_eq (fun w => rfl) κ
theorem ext2_1 {a b : Value} {κ : Value → Prop} : PureW P (Instr.extract (.tuple #[a, b]) 1) κ = κ b := pureW_eq (fun w => rfl) κ

/-! ### Chunks put together -/

theorem code_glue {n : Nat} {ro : Option Nat} {c : Code} {K : Cont} {D : List Nat} {L : Env} {S : State} {A B : Chunk} (h : CodeW P n ro c K D L ((A ++ B) :: S)) : CodeW P n ro c K D L (A :: B :: S) :=
  ⟨fun a w ha hw => h.out a w ha (hw.perm (by simp))⟩
theorem code_nil {n : Nat} {ro : Option Nat} {c : Code} {K : Cont} {D : List Nat} {L : Env} {S : State} (h : CodeW P n ro c K D L ([] :: S)) : CodeW P n ro c K D L S :=
  ⟨fun a w ha hw => h.out a w ha (hw.perm (by simp))⟩

abbrev Own8 (e : TypeId) (C : Chunk) (a : Option Addr) (n cap : Nat) (bs : List UInt8) : Prop := Own 1 e C a n cap (bs.map b8)
/-- A new slice of bytes, beside R. -/
def New8 (e : TypeId) (bs : List UInt8) (R : State) (v : Value) (A : State) : Prop := ∃ C a cap, v = .slice a bs.length cap ∧ Own8 e C a bs.length cap bs ∧ A = C :: R

end Go.Ost
