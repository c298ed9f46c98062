/- Texts in a row: the walk's rules and contracts, as each says. Conditions: as each says. -/
import Derived.Test.YtfoppclmjmpjiaaM97ab6f2e
import Derived.Test.YtfoppclmjmpjiaaMe0df7f36
/- A region whose order of evaluation Go leaves open, over chunks of memory: the rule. Conditions: none. -/
set_option linter.unusedSimpArgs false
set_option linter.unusedVariables false
namespace Go.Ost
open Go

variable {P : Program} {n : Nat} {ro : Option Nat}

abbrev Entry := Nat × Bool × List Nat

def dstOf (ops : Array Oper) (j : Nat) : Option Tmp := (ops[j]?).bind (·.dst)
def looksOf (ops : Array Oper) (j : Nat) : List Tmp := match ops[j]? with | some o => o.looksAt ops | none => []
def readsOf (ops : Array Oper) (j : Nat) : Bool := match ops[j]? with | some o => readsB o.op | none => false
def afterOf (ops : Array Oper) (j : Nat) : List Nat := match ops[j]? with | some o => (o.after.toList.filter (Region.binds .any)).map (·.on) | none => []

/-- What must hold of one entry, those in pre having been taken before it. -/
def okAt (ops : Array Oper) (A : List (List Nat)) (n : Nat) (pre : List Entry) (x : Entry) : Bool :=
  (afterOf ops x.1).all (fun j => pre.any (·.1 == j)) &&
  pre.all (fun y => !y.2.1 || (A.getD x.1 []).contains y.1) &&
  !pre.any (·.1 == x.1) &&
  pre.all (fun y => y.2.1 ||
    ((match dstOf ops y.1 with | some d => !(looksOf ops x.1).contains d || (A.getD x.1 []).contains y.1 | none => true) &&
     (match dstOf ops x.1 with | some d => (!(looksOf ops y.1).contains d && dstOf ops y.1 != some d) || (x.2.1 && (A.getD x.1 []).contains y.1) | none => true) &&
     (!x.2.1 || !readsOf ops y.1 || (A.getD x.1 []).contains y.1 || x.2.2.contains y.1))) &&
  (x.2.1 || (match dstOf ops x.1 with | some d => decide (d < n) && !(looksOf ops x.1).contains d | none => false)) &&
  decide (x.1 < ops.size)

def okPairs (ops : Array Oper) (A : List (List Nat)) (n : Nat) : List Entry → List Entry → Bool
  | _, [] => true
  | pre, x :: l => okAt ops A n pre x && okPairs ops A n (pre ++ [x]) l

/-- The ancestors of the operations, as far as their edges show them. -/
def certB (ops : Array Oper) (A : List (List Nat)) : Bool :=
  (List.range ops.size).all fun i => (A.getD i []).all fun j => (afterOf ops i).any fun e => e == j || (A.getD e []).contains j

def okDraw (ops : Array Oper) (A : List (List Nat)) (n : Nat) (pl : List Entry) : Bool :=
  certB ops A && okPairs ops A n [] pl && (List.range ops.size).all fun i => pl.any (·.1 == i)

def quietW (P : Program) (ops : Array Oper) (o : Oper) (L : Env) (S : State) (κ : Value → Prop) : Prop :=
  guardW ops o L (stepQ P o.op o.type L S κ) (κ undef)

def stillAll (P : Program) (ops : Array Oper) : List Nat → Env → State → Prop → Prop
  | [], _, _, p => p
  | j :: js, L, S, p =>
    match ops[j]? with
    | some o => (match o.dst with | some d => withV (lookT L d) fun v => quietW P ops o L S fun u => u = v | none => False) ∧ stillAll P ops js L S p
    | none => False

/-- The walk of the region, in the order of the plan. -/
def drawW (P : Program) (n : Nat) (ops : Array Oper) (K : Env → State → Prop) : List Entry → Env → State → Prop
  | [], L, S => K L S
  | (i, false, _) :: l, L, S =>
    match ops[i]? with
    | some o => quietW P ops o L S fun v => drawW P n ops K l (putT n o.dst v L) S
    | none => False
  | (i, true, pend) :: l, L, S =>
    match ops[i]? with
    | some o => guardW ops o L (stepW P o.op o.type L S fun v S' => stillAll P ops pend (putT n o.dst v L) S' (drawW P n ops K l (putT n o.dst v L) S'))
        (stillAll P ops pend (putT n o.dst undef L) S (drawW P n ops K l (putT n o.dst undef L) S))
    | none => False

def Yielding (P : Program) (ops : Array Oper) (o : Oper) (a : Act) (w : World) (v : Value) : Prop :=
  (Region.wanted o (yielded ops a.tmps) = true ∧ (execOp a.eval o).run P w = .ok (.value v) w) ∨ (Region.wanted o (yielded ops a.tmps) = false ∧ v = undef)

/-- The temporaries at which an operation looks hold what is known of them. -/
def Agrees (ts : List Tmp) (L : Env) (a : Act) : Prop := ∀ t ∈ ts, ∀ u, lookT L t = some u → a.tmps[t]? = some u

theorem guard_agrees {ops : Array Oper} {o : Oper} {L : Env} {a : Act} {A B : Prop} (ha : Agrees (o.looksAt ops) L a) (h : guardW ops o L A B) :
    (Region.wanted o (yielded ops a.tmps) = true ∧ A) ∨ (Region.wanted o (yielded ops a.tmps) = false ∧ B) := by
  unfold guardW at h
  cases hg : o.guard with
  | none => rw [hg] at h; exact .inl ⟨by simp [Region.wanted, hg], h⟩
  | some g =>
    obtain ⟨j, want⟩ := g
    rw [hg] at h
    simp only at h
    cases hd : (ops[j]?).bind (·.dst) with
    | none => rw [hd] at h; exact h.elim
    | some d =>
      rw [hd] at h
      simp only at h
      have hmem : d ∈ o.looksAt ops := by simp [Oper.looksAt, hg, hd]
      cases hv : lookT L d with
      | none => rw [hv] at h; exact h.elim
      | some v =>
        rw [hv] at h
        have ht := ha d hmem v hv
        cases v <;> first | exact h.elim | skip
        case bool b =>
          simp only [withV] at h
          split at h
          · subst_vars; exact .inl ⟨by simp [Region.wanted, hg, yielded, hd, ht], h⟩
          · rename_i hne; exact .inr ⟨by simp [Region.wanted, hg, yielded, hd, ht, hne], h⟩
        case tuple vs => exact .inr ⟨by simp [Region.wanted, hg, yielded, hd, ht], h⟩

/-- An act that knows all, and is as the act on what the operation looks at. -/
theorem full_rho {ops : Array Oper} {o : Oper} {L : Env} {a : Act} (ha : Agrees (o.looksAt ops) L a) :
    ∃ ρ : Operand → Value, (∀ x v, evT L x = some v → ρ x = v) ∧ ∀ x ∈ o.op.operands, ρ x = a.eval x := by
  refine ⟨fun x => (evT L x).getD (a.eval x), fun x v h => by simp [h], fun x hx => ?_⟩
  simp only
  cases h : evT L x with
  | none => rfl
  | some v =>
    simp only [Option.getD_some]
    cases x with
    | tmp t =>
      have hmem : t ∈ o.looksAt ops := List.mem_append_left _ (List.mem_filterMap.2 ⟨.tmp t, by simpa using hx, rfl⟩)
      have := ha t hmem v h
      simp [Act.eval, this]
    | const u => cases h; rfl
    | global g => cases h; rfl
    | func f => cases h; rfl

theorem stepQ_not_select {op : Op} {t : TypeId} {L : Env} {S : State} {κ : Value → Prop} (h : stepQ P op t L S κ) : ∀ cs b, op ≠ .select cs b := by intro cs b e; subst e; exact h
theorem stepQ_not_defer {op : Op} {t : TypeId} {L : Env} {S : State} {κ : Value → Prop} (h : stepQ P op t L S κ) : ∀ c, op ≠ .defer c := by intro cs e; subst e; exact h
theorem stepW_not_select {op : Op} {t : TypeId} {L : Env} {S : State} {κ : Value → State → Prop} (h : stepW P op t L S κ) : ∀ cs b, op ≠ .select cs b := by intro cs b e; subst e; exact h

theorem quiet_out {ops : Array Oper} {o : Oper} {L : Env} {S : State} {κ : Value → Prop} (h : quietW P ops o L S κ) :
    ∃ v, κ v ∧ ((∀ c, o.op ≠ .defer c) ∨ o.guard ≠ none) ∧ ∀ a w, Agrees (o.looksAt ops) L a → (readsB o.op = true → Hold w S) → Yielding P ops o a w v ∧ ((∀ c, o.op ≠ .defer c) ∨ Region.wanted o (yielded ops a.tmps) = false) := by
  unfold quietW at h
  by_cases hd : ∃ a, Agrees (o.looksAt ops) L a ∧ Region.wanted o (yielded ops a.tmps) = true
  · obtain ⟨a0, h1, h2⟩ := hd
    rcases guard_agrees h1 h with ⟨_, hs⟩ | ⟨h3, _⟩
    · obtain ⟨v, hk, hr⟩ := stepQ_out hs
      refine ⟨v, hk, .inl (stepQ_not_defer hs), fun a w ha hw => ⟨?_, .inl (stepQ_not_defer hs)⟩⟩
      -- the guard says the same to every act
      have hwn : Region.wanted o (yielded ops a.tmps) = true := by
        unfold guardW at h
        cases hg : o.guard with
        | none => simp [Region.wanted, hg]
        | some g =>
          obtain ⟨j, want⟩ := g
          rw [hg] at h
          simp only at h
          cases hdd : (ops[j]?).bind (·.dst) with
          | none => rw [hdd] at h; exact h.elim
          | some d =>
            rw [hdd] at h
            simp only at h
            have hmem : d ∈ o.looksAt ops := by simp [Oper.looksAt, hg, hdd]
            cases hv : lookT L d with
            | none => rw [hv] at h; exact h.elim
            | some v' =>
              have e1 := h1 d hmem v' hv
              have e2 := ha d hmem v' hv
              simp only [Region.wanted, hg, yielded, hdd, e1, e2, Option.bind_some] at h2 ⊢
              exact h2
      obtain ⟨ρ, hρ, he⟩ := full_rho ha
      refine .inl ⟨hwn, ?_⟩
      rw [← execOp_congr o (stepQ_not_select hs) he]
      exact hr ρ hρ w hw
    · rw [h2] at h3; cases h3
  · refine ⟨undef, ?_, ?_, fun a w ha _ => ?_⟩
    · by_cases hg : o.guard = none
      · exfalso
        exact hd ⟨{ tmps := Array.ofFn (n := (L.map (·.1)).foldr max 0 + 1) (fun i => (lookT L i).getD undef), defers := [] }, by
          intro t _ u hu
          have hb : ∀ (L : Env) t u, lookT L t = some u → t ≤ (L.map (·.1)).foldr max 0 := by
            intro L
            induction L with
            | nil => intro t u h; simp [lookT] at h
            | cons x L ih =>
              obtain ⟨d, v⟩ := x
              intro t u h
              simp only [lookT] at h
              simp only [List.map_cons, List.foldr_cons]
              split at h
              · subst_vars; exact Nat.le_max_left _ _
              · exact Nat.le_trans (ih t u h) (Nat.le_max_right _ _)
          have := hb L t u hu
          rw [Array.getElem?_ofFn]
          rw [dif_pos (by omega)]
          simp [hu], by simp [Region.wanted, hg]⟩
      · -- a guard that no act meets: passed over
        unfold guardW at h
        cases hg' : o.guard with
        | none => exact absurd hg' hg
        | some g =>
          obtain ⟨j, want⟩ := g
          rw [hg'] at h
          simp only at h
          cases hdd : (ops[j]?).bind (·.dst) with
          | none => rw [hdd] at h; exact h.elim
          | some d =>
            rw [hdd] at h
            simp only at h
            cases hv : lookT L d with
            | none => rw [hv] at h; exact h.elim
            | some v =>
              rw [hv] at h
              cases v <;> first | exact h.elim | skip
              case tuple vs => exact h
              case bool b =>
                simp only [withV] at h
                split at h
                · rename_i hb
                  exfalso
                  exact hd ⟨{ tmps := Array.ofFn (n := (L.map (·.1)).foldr max 0 + 1) (fun i => (lookT L i).getD undef), defers := [] }, by
                    intro t _ u hu
                    have hb : ∀ (L : Env) t u, lookT L t = some u → t ≤ (L.map (·.1)).foldr max 0 := by
                      intro L
                      induction L with
                      | nil => intro t u h; simp [lookT] at h
                      | cons x L ih =>
                        obtain ⟨d, v⟩ := x
                        intro t u h
                        simp only [lookT] at h
                        simp only [List.map_cons, List.foldr_cons]
                        split at h
                        · subst_vars; exact Nat.le_max_left _ _
                        · exact Nat.le_trans (ih t u h) (Nat.le_max_right _ _)
                    have := hb L t u hu
                    rw [Array.getElem?_ofFn]
                    rw [dif_pos (by omega)]
                    simp [hu], by
                    have hb' : ∀ (L : Env) t u, lookT L t = some u → t ≤ (L.map (·.1)).foldr max 0 := by
                      intro L
                      induction L with
                      | nil => intro t u h; simp [lookT] at h
                      | cons x L ih =>
                        obtain ⟨d, v⟩ := x
                        intro t u h
                        simp only [lookT] at h
                        simp only [List.map_cons, List.foldr_cons]
                        split at h
                        · subst_vars; exact Nat.le_max_left _ _
                        · exact Nat.le_trans (ih t u h) (Nat.le_max_right _ _)
                    have := hb' L d _ hv
                    simp only [Region.wanted, hg', yielded, hdd, Option.bind_some]
                    rw [Array.getElem?_ofFn, dif_pos (by omega)]
                    simp [hv, hb]⟩
                · exact h
    · by_cases hg : o.guard = none
      · exact .inl (by
          unfold guardW at h
          rw [hg] at h
          exact stepQ_not_defer h)
      · exact .inr hg
    · have hf : Region.wanted o (yielded ops a.tmps) = false := by
        cases hx : Region.wanted o (yielded ops a.tmps) with
        | false => rfl
        | true => exact absurd ⟨a, ha, hx⟩ hd
      exact ⟨.inr ⟨hf, rfl⟩, .inr hf⟩

theorem yielding_in {ops : Array Oper} {i : Nat} {o : Oper} {a : Act} {w : World} {v : Value} {K : Act → World → Prop} {Q : Exit → Act → World → Prop} (ho : ops[i]? = some o)
    (hy : Yielding P ops o a w v) (hd : (∀ c, o.op ≠ .defer c) ∨ Region.wanted o (yielded ops a.tmps) = false) (h : K (a.put o.dst v) w) : wpOpIn (FW ro) 0 P ops Q i K a w := by
  unfold wpOpIn
  rw [ho]
  simp only
  rcases hy with ⟨hw, hr⟩ | ⟨hw, rfl⟩
  · rw [if_pos hw]
    refine ⟨fun _ _ => trivial, ?_⟩
    rw [Oper.semAt_eq _ _ _ (hd.resolve_right (by simp [hw])), hr]
    exact h
  · rw [if_neg (by simp [hw])]
    exact ⟨fun _ _ => trivial, h⟩


theorem filter_less {p q : Nat → Bool} {i : Nat} : ∀ (l : List Nat), (∀ x, q x = true → p x = true) → i ∈ l → p i = true → q i = false → (l.filter q).length < (l.filter p).length
  | [], _, h, _, _ => by cases h
  | x :: l, hpq, hi, hp, hq => by
    have le : ∀ l : List Nat, (l.filter q).length ≤ (l.filter p).length := by
      intro l
      induction l with
      | nil => simp
      | cons y l ih =>
        simp only [List.filter_cons]
        by_cases h1 : q y = true
        · rw [if_pos h1, if_pos (hpq y h1)]; simpa using ih
        · rw [if_neg h1]
          split
          · simp only [List.length_cons]; omega
          · exact ih
    simp only [List.filter_cons]
    rcases List.mem_cons.1 hi with rfl | hi
    · rw [if_neg (by simp [hq]), if_pos hp]
      have := le l
      simp only [List.length_cons]; omega
    · have ih := filter_less l hpq hi hp hq
      by_cases h1 : q x = true
      · rw [if_pos h1, if_pos (hpq x h1)]; simp only [List.length_cons]; omega
      · rw [if_neg h1]
        split
        · simp only [List.length_cons]; omega
        · exact ih

theorem lookT_put {m : Nat} {dst : Option Tmp} {v : Value} {L : Env} {t : Nat} {u : Value} (h : lookT (putT m dst v L) t = some u) : (dst = some t ∧ t < m ∧ u = v) ∨ (lookT L t = some u) := by
  cases dst with
  | none => exact .inr h
  | some d =>
    simp only [putT] at h
    split at h
    · simp only [lookT] at h
      split at h
      · cases h; subst_vars; exact .inl ⟨rfl, ‹_›, rfl⟩
      · exact .inr h
    · exact .inr h
theorem lookT_put_ne {m : Nat} {dst : Option Tmp} {v : Value} {L : Env} {t : Nat} (h : dst ≠ some t) : lookT (putT m dst v L) t = lookT L t := by
  cases dst with
  | none => rfl
  | some d =>
    simp only [putT]
    split
    · simp only [lookT]; rw [if_neg (fun e => h (by rw [e]))]
    · rfl

/-- Between two operations of the region. -/
structure DInv (P : Program) (n : Nat) (ops : Array Oper) (A : List (List Nat)) (K : Env → State → Prop) (D : List Nat) (w0 : World) (pre l : List Entry) (listed : Array Bool) (L : Env) (S : State) (a : Act) (w : World) : Prop where
  size : listed.size = ops.size
  inPre : ∀ i, listed.getD i false = true → ∃ x ∈ pre, x.1 = i
  effs : ∀ x ∈ pre, x.2.1 = true → listed.getD x.1 false = true
  clos : ∀ i, listed.getD i false = true → ∀ j ∈ A.getD i [], listed.getD j false = true
  tmps : ∀ t v, lookT L t = some v → (∃ x ∈ pre, listed.getD x.1 false = false ∧ dstOf ops x.1 = some t) ∨ a.tmps[t]? = some v
  facts : ∀ x ∈ pre, listed.getD x.1 false = false → ∃ o v, ops[x.1]? = some o ∧ (∃ d, o.dst = some d ∧ d < n ∧ lookT L d = some v) ∧
    ∀ a' w', Agrees (o.looksAt ops) L a' → (readsB o.op = true → Hold w' S) → Yielding P ops o a' w' v ∧ ((∀ c, o.op ≠ .defer c) ∨ Region.wanted o (yielded ops a'.tmps) = false)
  prs : ∀ x ∈ pre, ∀ y ∈ pre, x.2.1 = false → y.2.1 = false → ∀ d, dstOf ops y.1 = some d → d ∈ looksOf ops x.1 → y.1 ∈ A.getD x.1 []
  asz : a.tmps.size = n
  dfr : a.defers = D.map markD
  ext : Ext w0 w
  hold : Hold w S
  ok : okPairs ops A n pre l = true
  pres : okPairs ops A n [] pre = true
  all : ∀ i, i < ops.size → (∃ x ∈ pre, x.1 = i) ∨ ∃ x ∈ l, x.1 = i
  rest : drawW P n ops K l L S

theorem okAt_parts {ops : Array Oper} {A : List (List Nat)} {pre : List Entry} {x : Entry} (h : okAt ops A n pre x = true) :
    (∀ j ∈ afterOf ops x.1, ∃ y ∈ pre, y.1 = j) ∧ (∀ y ∈ pre, y.2.1 = true → y.1 ∈ A.getD x.1 []) ∧ (∀ y ∈ pre, y.1 ≠ x.1) ∧
    (∀ y ∈ pre, y.2.1 = false → (∀ d, dstOf ops y.1 = some d → d ∈ looksOf ops x.1 → y.1 ∈ A.getD x.1 []) ∧
      (∀ d, dstOf ops x.1 = some d → (d ∉ looksOf ops y.1 ∧ dstOf ops y.1 ≠ some d) ∨ (x.2.1 = true ∧ y.1 ∈ A.getD x.1 [])) ∧
      (x.2.1 = true → readsOf ops y.1 = true → y.1 ∈ A.getD x.1 [] ∨ y.1 ∈ x.2.2)) ∧
    (x.2.1 = false → ∃ d, dstOf ops x.1 = some d ∧ d < n ∧ d ∉ looksOf ops x.1) ∧ x.1 < ops.size := by
  simp only [okAt, Bool.and_eq_true, decide_eq_true_eq] at h
  obtain ⟨⟨⟨⟨⟨h1, h2⟩, h3⟩, h4⟩, h5⟩, h6⟩ := h
  refine ⟨fun j hj => ?_, fun y hy he => ?_, fun y hy he => ?_, fun y hy he => ⟨fun d hd hl => ?_, fun d hd => ?_, fun hx hr => ?_⟩, fun hx => ?_, h6⟩
  · have := List.all_eq_true.1 h1 j hj
    obtain ⟨y, hy, e⟩ := List.any_eq_true.1 this
    exact ⟨y, hy, by simpa using e⟩
  · have := List.all_eq_true.1 h2 y hy
    simpa [he] using this
  · simp only [Bool.not_eq_true', List.any_eq_false] at h3
    exact h3 y hy (by simpa using he)
  · have := List.all_eq_true.1 h4 y hy
    simp only [he, Bool.false_or, Bool.and_eq_true, hd] at this
    simpa [hl] using this.1.1
  · have := List.all_eq_true.1 h4 y hy
    simp only [he, Bool.false_or, Bool.and_eq_true, hd] at this
    have := this.1.2
    simp only [Bool.or_eq_true, Bool.and_eq_true, Bool.not_eq_true', List.contains_eq_mem, decide_eq_false_iff_not, bne_iff_ne, ne_eq, decide_eq_true_eq] at this
    exact this
  · have := List.all_eq_true.1 h4 y hy
    simp only [he, Bool.false_or, Bool.and_eq_true] at this
    have := this.2
    simpa [hx, hr] using this
  · simp only [hx, Bool.false_or] at h5
    cases hd : dstOf ops x.1 with
    | none => rw [hd] at h5; cases h5
    | some d =>
      rw [hd] at h5
      simp only [Bool.and_eq_true, decide_eq_true_eq, Bool.not_eq_true', List.contains_eq_mem, decide_eq_false_iff_not] at h5
      exact ⟨d, rfl, h5.1, h5.2⟩

theorem okPairs_snoc {ops : Array Oper} {A : List (List Nat)} {x : Entry} : ∀ (l pre : List Entry), okPairs ops A n pre l = true → okAt ops A n (pre ++ l) x = true → okPairs ops A n pre (l ++ [x]) = true
  | [], pre, _, h => by simpa [okPairs] using h
  | y :: l, pre, h, hx => by
    simp only [okPairs, Bool.and_eq_true, List.cons_append] at h ⊢
    exact ⟨h.1, okPairs_snoc l _ h.2 (by simpa using hx)⟩
theorem okPairs_get {ops : Array Oper} {A : List (List Nat)} {x : Entry} : ∀ (l pre : List Entry) (k : Nat), okPairs ops A n pre l = true → l[k]? = some x → okAt ops A n (pre ++ l.take k) x = true
  | [], _, _, _, h => by simp at h
  | y :: l, pre, 0, h, hx => by
    simp only [okPairs, Bool.and_eq_true] at h
    simp at hx; subst hx
    simpa using h.1
  | y :: l, pre, k + 1, h, hx => by
    simp only [okPairs, Bool.and_eq_true] at h
    simp only [List.getElem?_cons_succ] at hx
    have := okPairs_get l (pre ++ [y]) k h.2 hx
    simpa using this

theorem okPairs_mem {ops : Array Oper} {A : List (List Nat)} : ∀ (l pre : List Entry), okPairs ops A n pre l = true → ∀ x ∈ l, ∃ q, okAt ops A n (pre ++ q) x = true
  | [], _, _, x, hx => by cases hx
  | y :: l, pre, h, x, hx => by
    simp only [okPairs, Bool.and_eq_true] at h
    rcases List.mem_cons.1 hx with rfl | hx
    · exact ⟨[], by simpa using h.1⟩
    · obtain ⟨q, hq⟩ := okPairs_mem l (pre ++ [y]) h.2 x hx
      exact ⟨y :: q, by simpa using hq⟩

/-- What changes nothing is taken at once. -/
theorem DInv.norm {ops : Array Oper} {A : List (List Nat)} {K : Env → State → Prop} {D : List Nat} {w0 : World} : ∀ (l pre : List Entry) (listed : Array Bool) (L : Env) (S : State) (a : Act) (w : World),
    DInv P n ops A K D w0 pre l listed L S a w → ∃ pre' l' L', DInv P n ops A K D w0 pre' l' listed L' S a w ∧ (l' = [] ∨ ∃ i pend l'', l' = (i, true, pend) :: l'')
  | [], pre, listed, L, S, a, w, h => ⟨pre, [], L, h, .inl rfl⟩
  | (i, true, pend) :: l, pre, listed, L, S, a, w, h => ⟨pre, _, L, h, .inr ⟨i, pend, l, rfl⟩⟩
  | (i, false, pend) :: l, pre, listed, L, S, a, w, h => by
    have hok := h.ok
    simp only [okPairs, Bool.and_eq_true] at hok
    obtain ⟨o1, o2, o3, o4, o5, o6⟩ := okAt_parts hok.1
    obtain ⟨d, hd, hdn, hdl⟩ := o5 rfl
    have hr := h.rest
    simp only [drawW] at hr
    cases ho : ops[i]? with
    | none => rw [ho] at hr; exact hr.elim
    | some o =>
      rw [ho] at hr
      simp only at hr
      obtain ⟨v, hk, _, hq⟩ := quiet_out hr
      have hdo : o.dst = some d := by simpa [dstOf, ho] using hd
      have hlo : looksOf ops i = o.looksAt ops := by simp [looksOf, ho]
      have hunl : listed.getD i false = false := by
        cases hx : listed.getD i false with
        | false => rfl
        | true => obtain ⟨y, hy, e⟩ := h.inPre i hx; exact absurd e (o3 y hy)
      have hL : putT n o.dst v L = (d, v) :: L := by simp [putT, hdo, hdn]
      rw [hL] at hk
      have keepA : ∀ (ts : List Tmp) (a' : Act), d ∉ ts → Agrees ts ((d, v) :: L) a' → Agrees ts L a' := by
        intro ts a' hn ha t ht u hu
        refine ha t ht u ?_
        simp only [lookT]
        rw [if_neg (fun e => hn (by rw [← e]; exact ht))]
        exact hu
      refine DInv.norm l (pre ++ [(i, false, pend)]) listed ((d, v) :: L) S a w ⟨h.size, ?_, ?_, h.clos, ?_, ?_, ?_, h.asz, h.dfr, h.ext, h.hold, hok.2, okPairs_snoc _ _ h.pres (by simpa using hok.1), ?_, hk⟩
      · intro j hj; obtain ⟨x, hx, e⟩ := h.inPre j hj; exact ⟨x, List.mem_append_left _ hx, e⟩
      · intro x hx he
        rcases List.mem_append.1 hx with hx | hx
        · exact h.effs x hx he
        · simp at hx; subst hx; cases he
      · intro t u hu
        simp only [lookT] at hu
        split at hu
        · subst_vars; exact .inl ⟨(i, false, pend), by simp, hunl, hd⟩
        · rcases h.tmps t u hu with ⟨x, hx, h1, h2⟩ | h3
          · exact .inl ⟨x, List.mem_append_left _ hx, h1, h2⟩
          · exact .inr h3
      · intro x hx hxl
        rcases List.mem_append.1 hx with hx | hx
        · obtain ⟨o', v', h1, ⟨d', h2, h3, h4⟩, h5⟩ := h.facts x hx hxl
          have hxe : x.2.1 = false := by
            cases hh : x.2.1 with
            | false => rfl
            | true => rw [h.effs x hx hh] at hxl; cases hxl
          have hne := ((o4 x hx hxe).2.1 d hd).resolve_right (fun hh => by cases hh.1)
          have hd' : dstOf ops x.1 = some d' := by simp [dstOf, h1, h2]
          refine ⟨o', v', h1, ⟨d', h2, h3, ?_⟩, fun a' w' ha hw => h5 a' w' (keepA _ a' (by simpa [looksOf, h1] using hne.1) ha) hw⟩
          simp only [lookT]
          rw [if_neg (fun e => hne.2 (by rw [hd', e]))]
          exact h4
        · simp at hx; subst hx
          refine ⟨o, v, ho, ⟨d, hdo, hdn, by simp [lookT]⟩, fun a' w' ha hw => hq a' w' (keepA _ a' (by rw [← hlo]; exact hdl) ha) hw⟩
      · intro x hx y hy hxe hye d' hd' hl'
        rcases List.mem_append.1 hx with hx | hx
        · rcases List.mem_append.1 hy with hy | hy
          · exact h.prs x hx y hy hxe hye d' hd' hl'
          · simp at hy; subst hy
            rw [hd] at hd'; cases hd'
            exact absurd hl' (((o4 x hx hxe).2.1 d hd).resolve_right (fun hh => by cases hh.1)).1
        · simp at hx; subst hx
          rcases List.mem_append.1 hy with hy | hy
          · exact (o4 y hy hye).1 d' hd' hl'
          · simp at hy; subst hy
            rw [hd] at hd'; cases hd'
            exact absurd hl' hdl
      · intro j hj
        rcases h.all j hj with ⟨x, hx, e⟩ | ⟨x, hx, e⟩
        · exact .inl ⟨x, List.mem_append_left _ hx, e⟩
        · rcases List.mem_cons.1 hx with rfl | hx
          · exact .inl ⟨_, by simp, e⟩
          · exact .inr ⟨x, hx, e⟩


theorem getD_set {listed : Array Bool} {i j : Nat} (hi : i < listed.size) : (listed.setIfInBounds i true).getD j false = (if j = i then true else listed.getD j false) := by
  simp only [Array.getD_eq_getD_getElem?, Array.getElem?_setIfInBounds]
  by_cases h : i = j
  · subst h; simp [hi]
  · rw [if_neg h, if_neg (Ne.symm h)]

theorem still_out {ops : Array Oper} {L : Env} {S : State} {p : Prop} : ∀ (js : List Nat), stillAll P ops js L S p → p ∧ ∀ j ∈ js, ∃ o d v, ops[j]? = some o ∧ o.dst = some d ∧ lookT L d = some v ∧ quietW P ops o L S fun u => u = v
  | [], h => ⟨h, fun j hj => by cases hj⟩
  | j :: js, h => by
    simp only [stillAll] at h
    cases ho : ops[j]? with
    | none => rw [ho] at h; exact h.elim
    | some o =>
      rw [ho] at h
      obtain ⟨h1, h2⟩ := h
      obtain ⟨hp, hr⟩ := still_out js h2
      refine ⟨hp, fun k hk => ?_⟩
      rcases List.mem_cons.1 hk with rfl | hk
      · cases hd : o.dst with
        | none => rw [hd] at h1; exact h1.elim
        | some d =>
          rw [hd] at h1
          cases hv : lookT L d with
          | none => simp only [hv] at h1; exact h1.elim
          | some v => simp only [hv] at h1; exact ⟨o, d, v, ho, hd, hv, h1⟩
      · exact hr k hk

theorem draw_core {ops : Array Oper} {A : List (List Nat)} {K : Cont} {D : List Nat} {w0 : World} (hc : certB ops A = true) : ∀ (fuel : Nat) (pre l : List Entry) (listed : Array Bool) (L : Env) (S : State) (a : Act) (w : World),
    DInv P n ops A (K .normal D) D w0 pre l listed L S a w → ((List.range ops.size).filter fun i => !listed.getD i false).length ≤ fuel →
    wpAnyIn (FW ro) 0 P .any ops (KQ n K w0) fuel listed a w := by
  intro fuel
  -- at a moment at which nothing is ready, all is done
  have fin : ∀ (pre l : List Entry) (listed : Array Bool) (L : Env) (S : State) (a : Act) (w : World), DInv P n ops A (K .normal D) D w0 pre l listed L S a w → Region.ready .any ops listed = [] → KQ n K w0 .normal a w := by
    intro pre l listed L S a w h hr
    obtain ⟨pre, l, L, h, hl⟩ := h.norm
    -- an operation whose edges all lead to what is done is ready
    have ready : ∀ i, i < ops.size → (∀ j ∈ afterOf ops i, listed.getD j false = true) → listed.getD i false = true := by
      intro i hi hall
      cases hx : listed.getD i false with
      | true => rfl
      | false =>
        exfalso
        have : i ∈ Region.ready .any ops listed := by
          refine List.mem_filter.2 ⟨List.mem_range.2 hi, ?_⟩
          have hsz : i < listed.size := by rw [h.size]; exact hi
          have h1 : listed.getD i true = false := by simpa [Array.getD_eq_getD_getElem?, hsz] using hx
          have ho : ops[i]? = some ops[i] := by simp [hi]
          rw [h1, ho]
          simp only [Option.map_some, Option.getD_some, Bool.not_false, Bool.true_and]
          rw [Array.all_eq_true']
          intro e he
          by_cases hb : Region.binds .any e = true
          · have := hall e.on (by simp only [afterOf, ho]; exact List.mem_map.2 ⟨e, List.mem_filter.2 ⟨by simpa using he, hb⟩, rfl⟩)
            simp [this]
          · simp [hb]
        rw [hr] at this; cases this
    have pend : ∀ (k : Nat) (x : Entry), pre[k]? = some x → listed.getD x.1 false = true := by
      intro k
      induction k using Nat.strongRecOn with
      | _ k ih =>
        intro x hx
        obtain ⟨o1, _, _, _, _, o6⟩ := okAt_parts (okPairs_get pre [] k h.pres hx)
        refine ready x.1 o6 fun j hj => ?_
        obtain ⟨y, hy, e⟩ := o1 j hj
        rw [List.nil_append] at hy
        obtain ⟨k', hk'⟩ := List.mem_iff_getElem?.1 hy
        have hlt : k' < k := by
          have := (List.getElem?_eq_some_iff.1 hk').1
          simp at this; omega
        rw [← e]
        refine ih k' hlt y ?_
        rw [List.getElem?_take_of_lt hlt] at hk'
        exact hk'
    rcases hl with rfl | ⟨i, pd, l'', rfl⟩
    · refine ⟨D, L, S, h.rest, ⟨h.asz, fun t v ht => ?_, h.dfr⟩, h.ext, h.hold⟩
      rcases h.tmps t v ht with ⟨x, hx, h1, _⟩ | h3
      · obtain ⟨k, hk⟩ := List.mem_iff_getElem?.1 hx
        rw [pend k x hk] at h1; cases h1
      · exact h3
    · exfalso
      have hok := h.ok
      simp only [okPairs, Bool.and_eq_true] at hok
      obtain ⟨o1, _, o3, _, _, o6⟩ := okAt_parts hok.1
      have hi : listed.getD i false = true := by
        refine ready i o6 fun j hj => ?_
        obtain ⟨y, hy, e⟩ := o1 j hj
        obtain ⟨k, hk⟩ := List.mem_iff_getElem?.1 hy
        rw [← e]; exact pend k y hk
      obtain ⟨y, hy, e⟩ := h.inPre i hi
      exact o3 y hy e
  induction fuel with
  | zero =>
    intro pre l listed L S a w h hle
    have hr : Region.ready .any ops listed = [] := by
      have h0 : ((List.range ops.size).filter fun i => !listed.getD i false) = [] := List.eq_nil_of_length_eq_zero (Nat.le_zero.1 hle)
      unfold Region.ready
      rw [List.filter_eq_nil_iff] at h0 ⊢
      intro i hi
      have := h0 i hi
      have hsz : i < listed.size := by rw [h.size]; exact List.mem_range.1 hi
      simp only [Array.getD_eq_getD_getElem?, hsz, Array.getElem?_eq_getElem, Option.getD_some] at this ⊢
      simp only [Bool.not_eq_true', Bool.not_eq_false] at this
      simp [this]
    exact ⟨hr, fin pre l listed L S a w h hr⟩
  | succ fuel ih =>
    intro pre l listed L S a w h hle
    refine ⟨fun hr => fin pre l listed L S a w h hr, fun i hi => ?_⟩
    obtain ⟨pre, l, L, h, hl⟩ := h.norm
    obtain ⟨hi1, hi2⟩ := List.mem_filter.1 hi
    have him := List.mem_range.1 hi1
    have hsz : i < listed.size := by rw [h.size]; exact him
    have ho : ops[i]? = some ops[i] := by simp [him]
    rw [ho] at hi2
    simp only [Option.map_some, Option.getD_some, Bool.and_eq_true, Bool.not_eq_true'] at hi2
    have hun : listed.getD i false = false := by
      have := hi2.1
      simpa [Array.getD_eq_getD_getElem?, hsz] using this
    have hdep : ∀ j ∈ afterOf ops i, listed.getD j false = true := by
      intro j hj
      simp only [afterOf, ho] at hj
      obtain ⟨e, he, rfl⟩ := List.mem_map.1 hj
      obtain ⟨he1, he2⟩ := List.mem_filter.1 he
      have := hi2.2
      rw [Array.all_eq_true'] at this
      have := this e (by simpa using he1)
      simpa [he2] using this
    have hanc : ∀ j ∈ A.getD i [], listed.getD j false = true := by
      intro j hj
      have h1 := List.all_eq_true.1 hc i (List.mem_range.2 him)
      have h2 := List.all_eq_true.1 h1 j hj
      obtain ⟨e, he, h3⟩ := List.any_eq_true.1 h2
      simp only [Bool.or_eq_true, beq_iff_eq, List.contains_eq_mem, decide_eq_true_eq] at h3
      rcases h3 with rfl | h3
      · exact hdep _ he
      · exact h.clos e (hdep e he) j h3
    have hsize' : (listed.setIfInBounds i true).size = ops.size := by simp [h.size]
    have hclos' : ∀ k, (listed.setIfInBounds i true).getD k false = true → ∀ j ∈ A.getD k [], (listed.setIfInBounds i true).getD j false = true := by
      intro k hk j hj
      rw [getD_set hsz] at hk ⊢
      split
      · rfl
      · split at hk
        · subst_vars; exact hanc j hj
        · exact h.clos k hk j hj
    have hcount : ((List.range ops.size).filter fun k => !(listed.setIfInBounds i true).getD k false).length ≤ fuel := by
      have := filter_less (p := fun k => !listed.getD k false) (q := fun k => !(listed.setIfInBounds i true).getD k false) (i := i) (List.range ops.size) (fun x hx => by
        simp only [getD_set hsz] at hx
        split at hx
        · simp at hx
        · exact hx) hi1 (by simp [hun]) (by simp [getD_set hsz])
      omega
    by_cases hin : ∃ x ∈ pre, x.1 = i
    · -- it has been reckoned
      obtain ⟨x, hx, rfl⟩ := hin
      have hxe : x.2.1 = false := by
        cases hh : x.2.1 with
        | false => rfl
        | true => rw [h.effs x hx hh] at hun; cases hun
      obtain ⟨o, v, ho', ⟨d, hd, hdn, hv⟩, hf⟩ := h.facts x hx hun
      have hag : Agrees (o.looksAt ops) L a := by
        intro t ht u hu
        rcases h.tmps t u hu with ⟨y, hy, h1, h2⟩ | h3
        · exfalso
          have hye : y.2.1 = false := by
            cases hh : y.2.1 with
            | false => rfl
            | true => rw [h.effs y hy hh] at h1; cases h1
          have := hanc _ (h.prs x hx y hy hxe hye t h2 (by simpa [looksOf, ho'] using ht))
          rw [h1] at this; cases this
        · exact h3
      obtain ⟨hy, hnd⟩ := hf a w hag (fun _ => h.hold)
      refine yielding_in ho' hy hnd (ih pre l _ L S _ w ⟨hsize', ?_, ?_, hclos', ?_, ?_, h.prs, ?_, ?_, h.ext, h.hold, h.ok, h.pres, h.all, h.rest⟩ hcount)
      · intro k hk
        rw [getD_set hsz] at hk
        split at hk
        · exact ⟨x, hx, by subst_vars; rfl⟩
        · exact h.inPre k hk
      · intro y hy he
        rw [getD_set hsz]
        split
        · rfl
        · exact h.effs y hy he
      · intro t u hu
        by_cases htd : d = t
        · subst htd
          rw [hv] at hu; cases hu
          right
          simp [hd, Act.put, h.asz, hdn]
        · rcases h.tmps t u hu with ⟨y, hy, h1, h2⟩ | h3
          · refine .inl ⟨y, hy, ?_, h2⟩
            rw [getD_set hsz]
            rw [if_neg]
            · exact h1
            · intro e
              have : dstOf ops x.1 = some t := by rw [← e]; exact h2
              simp only [dstOf, ho', Option.bind_some, hd, Option.some.injEq] at this
              exact htd this
          · right
            simp only [hd, Act.put, Array.getElem?_setIfInBounds_ne htd]
            exact h3
      · intro y hy hyl
        refine h.facts y hy ?_
        rw [getD_set hsz] at hyl
        split at hyl
        · cases hyl
        · exact hyl
      · simp [hd, Act.put, h.asz]
      · simp only [hd, Act.put]; exact h.dfr
    · -- it is what comes next
      have hnx : ∃ pd l'', l = (i, true, pd) :: l'' := by
        rcases (h.all i him).resolve_left hin with ⟨x, hx, he⟩
        rcases hl with rfl | ⟨j, pd, l'', rfl⟩
        · cases hx
        · rcases List.mem_cons.1 hx with rfl | hx
          · cases he; exact ⟨pd, l'', rfl⟩
          · exfalso
            have hok := h.ok
            simp only [okPairs, Bool.and_eq_true] at hok
            obtain ⟨q, hq⟩ := okPairs_mem l'' _ hok.2 x hx
            obtain ⟨_, o2, _⟩ := okAt_parts hq
            have := hanc j (by rw [← he]; exact o2 (j, true, pd) (by simp) rfl)
            obtain ⟨y, hy, e⟩ := h.inPre j this
            obtain ⟨_, _, o3, _⟩ := okAt_parts hok.1
            exact o3 y hy e
      obtain ⟨pd, l'', rfl⟩ := hnx
      have hok := h.ok
      simp only [okPairs, Bool.and_eq_true] at hok
      obtain ⟨o1, o2, o3, o4, o5, o6⟩ := okAt_parts hok.1
      have hag : Agrees (ops[i].looksAt ops) L a := by
        intro t ht u hu
        rcases h.tmps t u hu with ⟨y, hy, h1, h2⟩ | h3
        · exfalso
          have hye : y.2.1 = false := by
            cases hh : y.2.1 with
            | false => rfl
            | true => rw [h.effs y hy hh] at h1; cases h1
          have := hanc _ ((o4 y hy hye).1 t h2 (by simpa [looksOf, ho] using ht))
          rw [h1] at this; cases this
        · exact h3
      have hrest := h.rest
      simp only [drawW, ho] at hrest
      -- behind it
      have next : ∀ (v : Value) (S' : State) (w' : World), Ext w w' → Hold w' S' → stillAll P ops pd (putT n (ops[i]).dst v L) S' (drawW P n ops (K .normal D) l'' (putT n (ops[i]).dst v L) S') →
          wpAnyIn (FW ro) 0 P .any ops (KQ n K w0) fuel (listed.setIfInBounds i true) (a.put (ops[i]).dst v) w' := by
        intro v S' w' he hh hst
        obtain ⟨hdraw, hstill⟩ := still_out pd hst
        have hdi : dstOf ops i = (ops[i]).dst := by simp [dstOf, ho]
        -- of an entry that is still to come to its place nothing has turned
        have away : ∀ y ∈ pre, (listed.setIfInBounds i true).getD y.1 false = false → y.2.1 = false ∧ listed.getD y.1 false = false ∧ y.1 ∉ A.getD i [] ∧
            ∀ d, (ops[i]).dst = some d → d ∉ looksOf ops y.1 ∧ dstOf ops y.1 ≠ some d := by
          intro y hy hyl
          rw [getD_set hsz] at hyl
          split at hyl
          · cases hyl
          · have hye : y.2.1 = false := by
              cases hh : y.2.1 with
              | false => rfl
              | true => rw [h.effs y hy hh] at hyl; cases hyl
            have hna : y.1 ∉ A.getD i [] := fun hm => by rw [hanc _ hm] at hyl; cases hyl
            exact ⟨hye, hyl, hna, fun d hd => ((o4 y hy hye).2.1 d (by rw [hdi]; exact hd)).resolve_right (fun hc => hna hc.2)⟩
        refine ih (pre ++ [(i, true, pd)]) l'' _ (putT n (ops[i]).dst v L) S' _ w' ⟨hsize', ?_, ?_, hclos', ?_, ?_, ?_, ?_, ?_, h.ext.trans he, hh, hok.2, okPairs_snoc _ _ h.pres (by simpa using hok.1), ?_, hdraw⟩ hcount
        · intro k hk
          rw [getD_set hsz] at hk
          split at hk
          · exact ⟨(i, true, pd), by simp, by subst_vars; rfl⟩
          · obtain ⟨y, hy, e⟩ := h.inPre k hk; exact ⟨y, List.mem_append_left _ hy, e⟩
        · intro y hy hye
          rw [getD_set hsz]
          split
          · rfl
          · rcases List.mem_append.1 hy with hy | hy
            · exact h.effs y hy hye
            · simp at hy; subst hy; exact absurd rfl ‹_›
        · intro t u hu
          rcases lookT_put hu with ⟨h1, h2, rfl⟩ | h1
          · right; simp [h1, Act.put, h.asz, h2]
          · by_cases hdt : (ops[i]).dst = some t ∧ t < n
            · have : lookT (putT n (ops[i]).dst v L) t = some v := by simp [hdt.1, putT, hdt.2, lookT]
              rw [this] at hu; cases hu
              right; simp [hdt.1, Act.put, h.asz, hdt.2]
            · have keep : a.tmps[t]? = some u → (a.put (ops[i]).dst v).tmps[t]? = some u := by
                intro hat
                cases hd : (ops[i]).dst with
                | none => exact hat
                | some d =>
                  simp only [Act.put]
                  by_cases e : d = t
                  · subst e
                    have := (Array.getElem?_eq_some_iff.1 hat).1
                    rw [h.asz] at this
                    exact absurd ⟨hd, this⟩ hdt
                  · rw [Array.getElem?_setIfInBounds_ne e]; exact hat
              rcases h.tmps t u h1 with ⟨y, hy, h2, h3⟩ | h3
              · by_cases hyi : (listed.setIfInBounds i true).getD y.1 false = false
                · exact .inl ⟨y, List.mem_append_left _ hy, hyi, h3⟩
                · exfalso
                  rw [getD_set hsz] at hyi
                  split at hyi
                  · exact hin ⟨y, hy, ‹_›⟩
                  · exact hyi h2
              · exact .inr (keep h3)
        · intro y hy hyl
          rcases List.mem_append.1 hy with hy | hy
          · obtain ⟨hye, hyl', hna, hnd⟩ := away y hy hyl
            obtain ⟨o, v', ho', ⟨d, hd, hdn, hv⟩, hf⟩ := h.facts y hy hyl'
            have hlk : ∀ t, t ∈ o.looksAt ops ∨ t = d → lookT (putT n (ops[i]).dst v L) t = lookT L t := by
              intro t ht
              refine lookT_put_ne fun e => ?_
              obtain ⟨n1, n2⟩ := hnd t e
              rcases ht with ht | rfl
              · exact n1 (by simpa [looksOf, ho'] using ht)
              · exact n2 (by simp [dstOf, ho', hd])
            by_cases hrd : readsB o.op = true
            · have hmem : y.1 ∈ pd := by
                have := (o4 y hy hye).2.2 rfl (by simp [readsOf, ho', hrd])
                exact this.resolve_left hna
              obtain ⟨o2, d2, v2, e1, e2, e3, hq⟩ := hstill y.1 hmem
              rw [ho'] at e1; cases e1
              rw [hd] at e2; cases e2
              obtain ⟨v3, rfl, _, hq'⟩ := quiet_out hq
              refine ⟨o, v3, ho', ⟨d, hd, hdn, e3⟩, fun a' w'' ha hw => hq' a' w'' ha hw⟩
            · refine ⟨o, v', ho', ⟨d, hd, hdn, by rw [hlk d (.inr rfl)]; exact hv⟩, fun a' w'' ha _ => hf a' w'' (fun t ht u hu => ha t ht u (by rw [hlk t (.inl ht)]; exact hu)) (fun hh => absurd hh hrd)⟩
          · simp at hy; subst hy
            rw [getD_set hsz] at hyl; simp at hyl
        · intro x hx y hy hxe hye d' hd' hl'
          rcases List.mem_append.1 hx with hx | hx
          · rcases List.mem_append.1 hy with hy | hy
            · exact h.prs x hx y hy hxe hye d' hd' hl'
            · simp at hy; subst hy; cases hye
          · simp at hx; subst hx; cases hxe
        · cases (ops[i]).dst <;> simp [Act.put, h.asz]
        · cases (ops[i]).dst <;> exact h.dfr
        · intro j hj
          rcases h.all j hj with ⟨x, hx, e⟩ | ⟨x, hx, e⟩
          · exact .inl ⟨x, List.mem_append_left _ hx, e⟩
          · rcases List.mem_cons.1 hx with rfl | hx
            · exact .inl ⟨_, by simp, e⟩
            · exact .inr ⟨x, hx, e⟩
      unfold wpOpIn
      rw [ho]
      simp only
      rcases guard_agrees hag hrest with ⟨hw1, hs⟩ | ⟨hw1, hs⟩
      · rw [if_pos hw1]
        obtain ⟨ρ, hρ, hρe⟩ := full_rho hag
        refine ⟨fun _ _ => trivial, ?_⟩
        rw [Oper.semAt_eq _ _ _ (step_not_defer hs), ← execOp_congr _ (stepW_not_select hs) hρe]
        exact upon_next (step_next hρ hs) h.hold fun v S' w' hk he hh => next v S' w' he hh hk
      · rw [if_neg (by simp [hw1])]
        exact ⟨fun _ _ => trivial, next undef S w (Ext.refl w) h.hold hs⟩

/-- The rule: a plan that fits the region, and its walk. -/
theorem code_draw {id : Nat} {ops : Array Oper} {K : Cont} {D : List Nat} {L : Env} {S : State} (A : List (List Nat)) (pl : List Entry) (hm : P.follows .mixedOrders = true)
    (hok : okDraw ops A n pl = true) (h : drawW P n ops (K .normal D) pl L S) : CodeW P n ro (.region id ops true) K D L S := by
  refine ⟨fun a w ha hw => ?_⟩
  refine wpIn_region_any hm ?_
  simp only [okDraw, Bool.and_eq_true] at hok
  have h0 : ∀ i, (Array.replicate ops.size false).getD i false = false := by
    intro i; simp only [Array.getD_eq_getD_getElem?, Array.getElem?_replicate]; split <;> rfl
  have hw' : Hold { w with drawn := w.drawn + 1 } S := ⟨hw.nd, hw.get⟩
  have he : Ext w { w with drawn := w.drawn + 1 } := ⟨rfl, rfl, rfl, Nat.le_refl _⟩
  refine draw_core hok.1.1 ops.size [] pl _ L S a _ ⟨by simp, ?_, ?_, ?_, ?_, ?_, ?_, ha.size, ha.marks, he, hw', hok.1.2, rfl, ?_, h⟩ ?_
  · intro i hi; rw [h0] at hi; cases hi
  · intro x hx; cases hx
  · intro i hi; rw [h0] at hi; cases hi
  · intro t v ht; exact .inr (ha.get t v ht)
  · intro x hx; cases hx
  · intro x hx; cases hx
  · intro i hi
    have := List.all_eq_true.1 hok.2 i (List.mem_range.2 hi)
    obtain ⟨x, hx, e⟩ := List.any_eq_true.1 this
    exact .inr ⟨x, hx, by simpa using e⟩
  · refine Nat.le_trans (List.length_filter_le _ _) (by simp)

theorem draw_quiet {ops : Array Oper} {K : Env → State → Prop} {o : Oper} {i : Nat} {pd : List Nat} {l : List Entry} {L : Env} {S : State} (ho : ops[i]? = some o)
    (h : ∀ N : Env → State → Prop, (∀ L S, drawW P n ops K l L S → N L S) → quietW P ops o L S fun v => N (putT n o.dst v L) S) : drawW P n ops K ((i, false, pd) :: l) L S := by
  simp only [drawW, ho]; exact h _ fun _ _ h => h
theorem draw_effect {ops : Array Oper} {K : Env → State → Prop} {o : Oper} {i : Nat} {pd : List Nat} {l : List Entry} {L : Env} {S : State} (ho : ops[i]? = some o)
    (h : ∀ N : Env → State → Prop, (∀ L S, drawW P n ops K l L S → N L S) → guardW ops o L (stepW P o.op o.type L S fun v S' => stillAll P ops pd (putT n o.dst v L) S' (N (putT n o.dst v L) S'))
      (stillAll P ops pd (putT n o.dst undef L) S (N (putT n o.dst undef L) S))) : drawW P n ops K ((i, true, pd) :: l) L S := by
  simp only [drawW, ho]; exact h _ fun _ _ h => h
theorem draw_nil {ops : Array Oper} {K : Env → State → Prop} {L : Env} {S : State} (h : K L S) : drawW P n ops K [] L S := h

end Go.Ost

/- The rules of the walk in one word each, for simp. Conditions: none. -/
set_option linter.defProp false
set_option linter.unusedSimpArgs false
namespace Go.Ost
open Go

def gos := And.intro (And.intro @Int.natCast_zero @Int.cast_ofNat_Int) <| And.intro (And.intro (@List.setIfInBounds_toArray.{0}) (And.intro (@List.set_cons_succ.{0}) (@List.set_cons_zero.{0}))) <| And.intro (And.intro @len_slice1 @len_string1) <| And.intro (@bne_self_eq_false.{0}) <| And.intro (@beq_self_eq_true.{0}) <| And.intro (@decide_false) <| And.intro (@decide_true) <| And.intro (@Bool.true_eq_false) <| And.intro (@Bool.false_eq_true) <| And.intro (And.intro (And.intro (And.intro (And.intro (And.intro (@guardW.eq_1) (And.intro (@stepW.eq_1) (@stepW.eq_2))) (And.intro (And.intro (@stepW.eq_3) (@stepW.eq_4)) (And.intro (@stepW.eq_5) (@stepW.eq_6)))) (And.intro (And.intro (And.intro (@stepW.eq_7) (@stepW.eq_8)) (And.intro (@stepW.eq_9) (@stepW.eq_10))) (And.intro (And.intro (@stepW.eq_11) (@stepW.eq_12)) (And.intro (@stepW.eq_13) (@stepW.eq_14))))) (And.intro (And.intro (And.intro (@stepW.eq_15) (And.intro (@stepW.eq_16) (@stepW.eq_17))) (And.intro (And.intro (@stepW.eq_18) (@stepW.eq_19)) (And.intro (@stepW.eq_20) (@stepW.eq_21)))) (And.intro (And.intro (And.intro (@stepW.eq_22) (@stepW.eq_23)) (And.intro (@stepW.eq_24) (@stepW.eq_25))) (And.intro (And.intro (@stepW.eq_26) (@stepW.eq_27)) (And.intro (@stepW.eq_28) (@stepW.eq_29)))))) (And.intro (And.intro (And.intro (And.intro (@stepW.eq_30) (And.intro (@stepW.eq_31) (@stepW.eq_32))) (And.intro (And.intro (@stepW.eq_33) (@stepW.eq_34)) (And.intro (@stepW.eq_35) (@putT.eq_1)))) (And.intro (And.intro (And.intro (@putT.eq_2) (@evT.eq_1)) (And.intro (@evT.eq_2) (@evT.eq_3))) (And.intro (And.intro (@evT.eq_4) (@argsL.eq_1)) (And.intro (@argsL.eq_2) (@withV.eq_1))))) (And.intro (And.intro (And.intro (@withV.eq_2) (And.intro (@withB.eq_1) (@withB.eq_2))) (And.intro (And.intro (@evL.eq_1) (@evL.eq_2)) (And.intro (@withL.eq_1) (@withL.eq_2)))) (And.intro (And.intro (And.intro (@evO.eq_1) (@evO.eq_2)) (And.intro (@withO.eq_1) (@withO.eq_2))) (And.intro (And.intro (@evP.eq_1) (@evP.eq_2)) (And.intro (@withP.eq_1) (@withP.eq_2))))))) (And.intro (And.intro (And.intro (And.intro (And.intro (@NilW.eq_1) (And.intro (@NilW.eq_2) (@NilW.eq_3))) (And.intro (And.intro (@NilW.eq_4) (@ConvW.eq_1)) (And.intro (@ConvW.eq_2) (@FnW.eq_1)))) (And.intro (And.intro (And.intro (@FnW.eq_2) (@FnW.eq_3)) (And.intro (@BuiltinW.eq_1) (@BuiltinW.eq_2))) (And.intro (And.intro (@BuiltinW.eq_3) (@BuiltinW.eq_4)) (And.intro (@BuiltinW.eq_5) (@BuiltinW.eq_6))))) (And.intro (And.intro (And.intro (@BuiltinW.eq_7) (And.intro (@BuiltinW.eq_8) (@BuiltinW.eq_9))) (And.intro (And.intro (@BuiltinW.eq_10) (And.intro (@BuiltinW.eq_11) (And.intro (@BuiltinW.eq_12) (@BuiltinW.eq_13)))) (And.intro (@undef.eq_1) (@lookT_hit)))) (And.intro (And.intro (And.intro (@lookT_miss) (@bin_add)) (And.intro (@bin_sub) (@bin_mul))) (And.intro (And.intro (@bin_eql) (@bin_neq)) (And.intro (@bin_lss) (@bin_leq)))))) (And.intro (And.intro (And.intro (And.intro (@bin_gtr) (And.intro (@bin_geq) (@un_not))) (And.intro (And.intro (@un_neg) (@min_two)) (And.intro (@max_two) (@conv_int)))) (And.intro (And.intro (And.intro (@nil_eql) (@nil_neq)) (And.intro (@bool_eql) (@bool_neq))) (And.intro (And.intro (@field_addr) (@List.toList_toArray.{0})) (And.intro (@Array.toList_empty.{0}) (@List.nil_append.{0}))))) (And.intro (And.intro (And.intro (@List.cons_append.{0}) (And.intro (@List.append_nil.{0}) (@Option.bind_some.{0, 0}))) (And.intro (And.intro (@List.getElem?_toArray.{0}) (@List.getElem?_cons_succ.{0})) (And.intro (@List.getElem?_cons_zero.{0}) (@List.getElem_toArray.{0})))) (And.intro (And.intro (And.intro (@List.getElem_cons_zero.{0}) (@List.getElem_cons_succ.{0})) (And.intro (@Option.isNone_some.{0}) (@Option.isNone_none.{0}))) (And.intro (And.intro (@Option.isSome_some.{0}) (@Option.isSome_none.{0})) (And.intro (@Bool.not_true) (@Bool.not_false)))))))
def goq := And.intro (And.intro (And.intro (And.intro (@quietW.eq_1) (And.intro (@stepQ.eq_1) (@stepQ.eq_2))) (And.intro (@stepQ.eq_3) (And.intro (@stepQ.eq_4) (@stepQ.eq_5)))) (And.intro (And.intro (@stepQ.eq_6) (And.intro (@stepQ.eq_7) (@stepQ.eq_8))) (And.intro (@stepQ.eq_9) (And.intro (@stepQ.eq_10) (@stepQ.eq_11))))) (And.intro (And.intro (And.intro (@stepQ.eq_12) (And.intro (@stepQ.eq_13) (@stepQ.eq_14))) (And.intro (@stepQ.eq_15) (And.intro (@stepQ.eq_16) (@stepQ.eq_17)))) (And.intro (And.intro (@stepQ.eq_18) (And.intro (@stepQ.eq_19) (@stepQ.eq_20))) (And.intro (And.intro (@stepQ.eq_21) (@stepQ.eq_22)) (And.intro (@stillAll.eq_1) (@stillAll.eq_2)))))
def gow := And.intro @index_addr <| And.intro (And.intro (And.intro @bin_quo_pos @bin_rem_pos) (And.intro @wrap_i64 @wrap_u64)) (And.intro (And.intro @wrap_u32 @wrap_u8) (And.intro @wrap_i32 @wrap_u16))

def gob := And.intro (And.intro (And.intro @u8_eql @u8_neq) (And.intro @u8n_eql @u8n_neq)) <| And.intro (And.intro (And.intro @u8n_lss @u8n_leq) (And.intro @u8n_gtr @u8n_geq)) <| And.intro (And.intro @u8_xor (And.intro @u8_or @u8_and)) <| And.intro (And.intro (And.intro @ext2_0 @ext2_1) (And.intro @ext3_0 (And.intro @ext3_1 @ext3_2))) <| And.intro (And.intro @b8_shr @b8_and15) <| And.intro (And.intro @slc_eql_nil (And.intro (And.intro @str_eql @str_neq) (And.intro @str_data (And.intro @str_size @u8_andNot)))) <| And.intro (And.intro (And.intro @cq_b8_64 @cq_b8_i64) (And.intro @conv_b8_64 @conv_b8_i64)) <| And.intro (And.intro @cq_b8_32 (And.intro @cq_b32_8 @cq_b32_64)) <| And.intro (And.intro (And.intro @w_add @w_sub) (And.intro @w_and @w_or)) (And.intro (And.intro @w_xor @w_not) (And.intro @conv_b8_32 (And.intro @conv_b32_8 @conv_b32_64)))
def gobw := And.intro (And.intro (And.intro @sidx @scut_hi) (And.intro @scut_lo @scut_lohi)) <| And.intro (And.intro @u8n_and (And.intro @u8n_andNot @u8n_or)) <| And.intro @bin_shr64 <| And.intro @w_shl (And.intro @w_shr (And.intro @cut_hi (And.intro @cut_lo (And.intro @cut_lohi (And.intro @cut_himax (And.intro @cut_lohimax @arr_addr))))))

end Go.Ost

/- Slices of structures: elements of several cells, as plain data. Conditions: as each says. -/
set_option linter.unusedSimpArgs false
set_option linter.unusedVariables false
namespace Go.Ost
open Go

variable {P : Program}

theorem add_add (a : Addr) (n m : Nat) : (a.add n).add m = a.add (n + m) := by
  unfold Addr.add
  by_cases h1 : n = 0
  · subst h1; simp
  · rw [if_neg h1, if_neg (show n + m ≠ 0 by omega)]
    by_cases h2 : m = 0
    · subst h2; simp
    · rw [if_neg h2]; simp [Nat.add_assoc]
theorem elA_add (a : Option Addr) (n m : Nat) : (elA a n).add m = elA a (n + m) := by unfold elA; exact add_add _ _ _

/-- A field's place, behind any place. -/
theorem field_at {s i off ft : Nat} {a : Addr} {κ : Value → Prop} [h : TField P s i off ft] : PureW P (Instr.fieldAt s (.pointer (some a)) i) κ = κ (.pointer (some (a.add off))) :=
  pureW_eq (fun w => by
    obtain ⟨fs, f, hu, hf, h1, h2, j, hj, hz⟩ := field_parts h.ok
    have hs : (sizeOf f.type).run P w = .ok j.size w := by
      rw [h2]; simp [sizeOf, typeInfo, program, Sem.run_bind, Sem.run, hj, Result.andThen]
    simp only [Instr.fieldAt, Sem.run_bind, run_und hu, Result.andThen, hf, Instr.sureAddr, Sem.run_pure, fieldPlace, hs]
    rw [if_neg hz]
    simp [h1, Result.andThen]) κ
theorem field_el {s i off ft : Nat} {a : Option Addr} {n : Nat} {κ : Value → Prop} [h : TField P s i off ft] : PureW P (Instr.fieldAt s (.pointer (some (elA a n))) i) κ = κ (.pointer (some (elA a (n + off)))) := by
  rw [field_at, elA_add]

section own
variable {s : Nat} {e : TypeId} {C : Chunk} {a : Option Addr} {len cap : Nat} {us : List Value} {S G : State}

theorem own_some (h : Own s e C a len cap us) (hl : 0 < us.length) : ∃ b o cs m, a = some ⟨b, o, none⟩ ∧ C = [(b, .cells cs e m)] ∧ Soft cs.size m ∧ o + cap * s ≤ cs.size ∧ ∀ i, i < us.length → cs[o + i]? = us[i]? := by
  obtain ⟨h1, h2, h3, h4 | h4⟩ := h
  · obtain ⟨h5, _⟩ := h4
    have : len = 0 := by omega
    subst this
    rw [Nat.zero_mul] at h3
    omega
  · exact h4
theorem rd_some (h : Rd s S a len us) (hl : 0 < us.length) : ∃ b o, a = some ⟨b, o, none⟩ := by
  obtain ⟨b, o, _, _, _, h1, _⟩ := h.2 (List.length_pos_iff.1 hl)
  exact ⟨b, o, h1⟩

/-- An element's place. -/
theorem el_at {t e : TypeId} {z : Value} {by_ : Nat} {k : IntKind} {i : Int} {κ : Value → Prop} [h : TSlice P t e] [hs : TSized P e z s by_] (hr : Rd s S a len us) (h0 : 0 ≤ i) (h1 : i < len) (hp : 0 < s) :
    PureW P (Instr.indexAt t (.slice a len cap) (.int k i)) κ = κ (.pointer (some (elA a (i.toNat * s)))) := by
  have hpos : 0 < us.length := by rw [hr.1]; exact Nat.mul_pos (by omega) hp
  obtain ⟨b, o, rfl⟩ := rd_some hr hpos
  rw [index_addr h0 h1]
  simp [elA, add_mk]
/-- A cell of an element. -/
theorem el_load {t : TypeId} {i : Nat} {v : Value} {κ : Value → Prop} [hf : TFlat P t] (hr : Rd s S a len us) (hv : us[i]? = some v) (k : κ v) : ReadW P (Instr.loadAt t (.pointer (some (elA a i)))) S κ := by
  have hi := (List.getElem?_eq_some_iff.1 hv).1
  obtain ⟨hl, hne⟩ := hr
  obtain ⟨b, o, cs, et, m, rfl, hb, hc⟩ := hne (by intro e; subst e; simp at hi)
  simp only [elA, Option.getD_some, add_mk]
  exact load_one hb (by rw [hc i hi]; exact hv) k
/-- Cells of an element, together. -/
theorem el_load_agg {t : TypeId} {z : Value} {n by_ i : Nat} {κ : Value → Prop} [hf : TDeep P t] [hs : TSized P t z n by_] (hr : Rd s S a len us) (hn : 0 < n) (hi : i + n ≤ us.length) (k : κ (.agg ((us.drop i).take n).toArray)) :
    ReadW P (Instr.loadAt t (.pointer (some (elA a i)))) S κ := by
  obtain ⟨hl, hne⟩ := hr
  obtain ⟨b, o, cs, et, m, rfl, hb, hc⟩ := hne (by intro e; subst e; simp at hi; omega)
  simp only [elA, Option.getD_some, add_mk]
  have hsz : o + us.length ≤ cs.size := by
    have := hc (us.length - 1) (by omega)
    rw [List.getElem?_eq_getElem (by omega)] at this
    have := (Array.getElem?_eq_some_iff.1 this).1
    omega
  refine load_agg hb (by omega) ?_
  have e : cs.extract (o + i) (o + i + n) = ((us.drop i).take n).toArray := by
    apply Array.ext_getElem?
    intro j
    rw [Array.getElem?_extract]
    simp only [List.getElem?_toArray]
    by_cases hj : j < n
    · rw [if_pos (by omega), show o + i + j = o + (i + j) from by omega, hc _ (by omega), List.getElem?_take_of_lt hj, List.getElem?_drop]
    · rw [if_neg (by omega), List.getElem?_eq_none (by rw [List.length_take]; omega)]
  rw [e]; exact k

def setL (us : List Value) (i : Nat) : List Value → List Value
  | [] => us
  | v :: l => setL (us.set i v) (i + 1) l
theorem setL_length : ∀ (vs us : List Value) (i : Nat), (setL us i vs).length = us.length
  | [], _, _ => rfl
  | v :: l, us, i => by simp [setL, setL_length l]
theorem setL_cells : ∀ (vs : List Value) (cs : Array Value) (us : List Value) (o i : Nat), o + us.length ≤ cs.size → (∀ j, j < us.length → cs[o + j]? = us[j]?) → i + vs.length ≤ us.length →
    ∀ j, j < us.length → (setCells cs (o + i) vs)[o + j]? = (setL us i vs)[j]?
  | [], cs, us, o, i, _, h, _, j, hj => h j hj
  | v :: vs, cs, us, o, i, hs, h, hi, j, hj => by
    simp only [List.length_cons] at hi
    rw [setCells, setL]
    refine setL_cells vs _ _ o (i + 1) (by simpa using hs) (fun q hq => ?_) (by simp; omega) j (by simpa using hj)
    simp only [List.length_set] at hq
    by_cases e : q = i
    · subst e
      rw [Array.getElem?_setIfInBounds_self, if_pos (by omega)]
      simp [hq]
    · rw [Array.getElem?_setIfInBounds_ne (by omega), h q hq, List.getElem?_set_ne (by omega)]

theorem own_store_gen {t : TypeId} {z : Value} {n by_ i : Nat} {v : Value} {κ : State → Prop} [hs : TSized P t z n by_] (ho : Own s e C a len cap us) (hp : Pick C S G) (hn : 0 < n) (hvs : v.cells.size = n) (hc1 : ∀ u ∈ v.cells.toList, Value.cell1 u) (hi : i + n ≤ us.length)
    (k : ∀ C', Own s e C' a len cap (setL us i v.cells.toList) → κ (C' :: G)) : UnitW P (Instr.storeAt t (.pointer (some (elA a i))) v) S κ := by
  refine ⟨fun w hw => ?_⟩
  obtain ⟨b, o, cs, m, rfl, rfl, hsoft, hbig, hc⟩ := own_some ho (by omega)
  have hCG := hw.perm hp.perm
  obtain ⟨lo, hi'⟩ := m
  have hsz : o + us.length ≤ cs.size := by
    have := hc (us.length - 1) (by omega)
    rw [List.getElem?_eq_getElem (by omega)] at this
    have := (Array.getElem?_eq_some_iff.1 this).1
    omega
  obtain ⟨w', q1, q2, q3, q4⟩ := run_storeCells (P := P) (b := b) (o := o + i) v.cells.toList 0 w cs (hCG.get b (.cells cs e (lo, hi')) (by simp)) hc1 (by simp [hvs]; omega) hsoft.or
  refine ⟨w', _, ?_, q2, (Upd.one (S := G)).hold hCG q3 q4, k [(b, .cells (setCells cs (o + i + 0) v.cells.toList) e (lo, hi'))] ⟨ho.1, ho.2.1, by rw [setL_length]; exact ho.2.2.1, .inr ⟨b, o, _, (lo, hi'), rfl, rfl, by rw [setCells_size]; exact hsoft, by rw [setCells_size]; exact hbig, fun j hj => ?_⟩⟩⟩
  · simp only [elA, Option.getD_some, add_mk]
    simp [Instr.storeAt, Instr.sureAddr, storeVar, Sem.run_bind, run_size hs, Result.andThen, hvs, q1]
  · rw [setL_length] at hj
    rw [Nat.add_zero]
    exact setL_cells _ cs us o i hsz hc (by simp [hvs]; omega) j hj
/-- A cell of an element of one's own is set. -/
theorem own_store1 {t : TypeId} {z : Value} {by_ i : Nat} {v : Value} {κ : State → Prop} [hs : TSized P t z 1 by_] (ho : Own s e C a len cap us) (hp : Pick C S G) (hc : Value.cell1 v) (hi : i < us.length)
    (k : ∀ C', Own s e C' a len cap (us.set i v) → κ (C' :: G)) : UnitW P (Instr.storeAt t (.pointer (some (elA a i))) v) S κ := by
  have hcs : v.cells = #[v] := by cases v <;> first | exact hc.elim | rfl
  exact own_store_gen (n := 1) ho hp (by omega) (by rw [hcs]; rfl) (by rw [hcs]; simpa using hc) (by omega) (by rw [hcs]; exact k)
theorem own_store_agg {t : TypeId} {z : Value} {n by_ i : Nat} {vs : List Value} {κ : State → Prop} [hs : TSized P t z n by_] (ho : Own s e C a len cap us) (hp : Pick C S G) (hn : 0 < n) (hvs : vs.length = n) (hc : ∀ u ∈ vs, Value.cell1 u) (hi : i + n ≤ us.length)
    (k : ∀ C', Own s e C' a len cap (setL us i vs) → κ (C' :: G)) : UnitW P (Instr.storeAt t (.pointer (some (elA a i))) (.agg vs.toArray)) S κ :=
  own_store_gen (v := .agg vs.toArray) ho hp hn (by simpa [Value.cells] using hvs) (by simpa [Value.cells] using hc) hi (by simpa [Value.cells] using k)
end own

/-! ### Rows of elements -/

theorem setL_app : ∀ (vs p u r : List Value), u.length = vs.length → setL (p ++ (u ++ r)) p.length vs = p ++ (vs ++ r)
  | [], p, [], r, _ => rfl
  | v :: vs, p, x :: u, r, h => by
    have ih := setL_app vs (p ++ [v]) u r (by simpa using h)
    rw [setL]
    have e : (p ++ (x :: u ++ r)).set p.length v = p ++ [v] ++ (u ++ r) := by simp
    rw [e, show p.length + 1 = (p ++ [v]).length from by simp, ih]
    simp
section rows
variable {α : Type} (enc : α → List Value) (s : Nat) (hs : ∀ x, (enc x).length = s)
include hs
theorem flat_len : ∀ l : List α, (l.flatMap enc).length = l.length * s
  | [] => by simp
  | x :: l => by rw [List.flatMap_cons, List.length_append, hs, flat_len l, List.length_cons, Nat.add_mul]; omega
theorem flat_drop : ∀ (l : List α) (i : Nat), (l.flatMap enc).drop (i * s) = (l.drop i).flatMap enc
  | l, 0 => by simp
  | [], i + 1 => by simp
  | x :: l, i + 1 => by
    rw [List.flatMap_cons, Nat.add_mul, Nat.one_mul, Nat.add_comm, ← List.drop_drop, List.drop_left' (hs x), flat_drop l i, List.drop_succ_cons]
theorem flat_el (l : List α) (i : Nat) (h : i < l.length) : ((l.flatMap enc).drop (i * s)).take s = enc l[i] := by
  rw [flat_drop enc s hs, List.drop_eq_getElem_cons h, List.flatMap_cons, List.take_left' (hs _)]
theorem flat_get (l : List α) (i j : Nat) (h : i < l.length) (hj : j < s) : (l.flatMap enc)[i * s + j]? = (enc l[i])[j]? := by
  rw [← List.getElem?_drop, ← flat_el enc s hs l i h, List.getElem?_take_of_lt hj]
theorem flat_set : ∀ (l : List α) (i j : Nat) (v : Value) (h : i < l.length) (x : α), (enc l[i]).set j v = enc x → j < s → (l.flatMap enc).set (i * s + j) v = (l.set i x).flatMap enc
  | [], i, j, v, h, x, _, _ => by simp at h
  | y :: l, 0, j, v, h, x, hx, hj => by
    simp only [List.getElem_cons_zero] at hx
    rw [Nat.zero_mul, Nat.zero_add, List.flatMap_cons, List.set_append_left _ _ (by rw [hs]; exact hj), hx]; rfl
  | y :: l, i + 1, j, v, h, x, hx, hj => by
    have ih := flat_set l i j v (by simpa using h) x (by simpa using hx) hj
    rw [List.flatMap_cons, List.set_append_right _ _ (by rw [hs, Nat.add_mul]; omega), hs, show (i + 1) * s + j - s = i * s + j from by rw [Nat.add_mul]; omega, ih]; rfl
theorem flat_setL (l : List α) (i : Nat) (h : i < l.length) (x : α) : setL (l.flatMap enc) (i * s) (enc x) = (l.set i x).flatMap enc := by
  have e1 : l.flatMap enc = (l.take i).flatMap enc ++ (enc l[i] ++ (l.drop (i + 1)).flatMap enc) := by
    conv => lhs; rw [← List.take_append_drop i l, List.flatMap_append, List.drop_eq_getElem_cons h, List.flatMap_cons]
  have e2 : ((l.take i).flatMap enc).length = i * s := by rw [flat_len enc s hs, List.length_take]; congr 1; omega
  rw [e1, ← e2, setL_app (enc x) _ (enc l[i]) _ (by rw [hs, hs]), List.set_eq_take_append_cons_drop, if_pos h, List.flatMap_append, List.flatMap_cons]
end rows

end Go.Ost

/- Maps that are keyed by texts: what is found, put and taken away. Conditions: as each says. -/
set_option linter.unusedSimpArgs false
set_option linter.unusedVariables false
namespace Go.Ost
open Go

variable {P : Program}

section plain
variable {α : Type} {β : Type}
def mget : List (List UInt8 × α) → List UInt8 → Option α
  | [], _ => none
  | (k, v) :: l, q => if q = k then some v else mget l q
def mput : List (List UInt8 × α) → List UInt8 → α → List (List UInt8 × α)
  | [], q, v => [(q, v)]
  | (k, u) :: l, q, v => if q = k then (q, v) :: l else (k, u) :: mput l q v
def mdel : List (List UInt8 × α) → List UInt8 → List (List UInt8 × α)
  | [], _ => []
  | (k, u) :: l, q => if q = k then l else (k, u) :: mdel l q
def mfind : List (List UInt8 × α) → List UInt8 → Nat → Option (Nat × α)
  | [], _, _ => none
  | (k, v) :: l, q, i => if q = k then some (i, v) else mfind l q (i + 1)
def mval (f : α → β) (m : List (List UInt8 × α)) : List (List UInt8 × β) := m.map fun p => (p.1, f p.2)

theorem mget_val (f : α → β) : ∀ (m : List (List UInt8 × α)) (q : List UInt8), mget (mval f m) q = (mget m q).map f
  | [], q => rfl
  | (k, v) :: l, q => by
    have ih := mget_val f l q
    simp only [mval, List.map_cons, mget] at ih ⊢
    split
    · rfl
    · exact ih
theorem mput_val (f : α → β) : ∀ (m : List (List UInt8 × α)) (q : List UInt8) (v : α), mput (mval f m) q (f v) = mval f (mput m q v)
  | [], q, v => rfl
  | (k, u) :: l, q, v => by
    have ih := mput_val f l q v
    simp only [mval, List.map_cons, mput] at ih ⊢
    split
    · simp
    · simp [ih]
theorem mdel_val (f : α → β) : ∀ (m : List (List UInt8 × α)) (q : List UInt8), mdel (mval f m) q = mval f (mdel m q)
  | [], q => rfl
  | (k, u) :: l, q => by
    have ih := mdel_val f l q
    simp only [mval, List.map_cons, mdel] at ih ⊢
    split
    · rfl
    · simp [ih]

theorem mfind_some {q : List UInt8} {j : Nat} {v : α} : ∀ (m : List (List UInt8 × α)) (i : Nat), mfind m q i = some (j, v) →
    ∃ pre post, m = pre ++ (q, v) :: post ∧ j = i + pre.length ∧ mget m q = some v ∧ (∀ u, mput m q u = pre ++ (q, u) :: post) ∧ mdel m q = pre ++ post
  | [], i, h => by cases h
  | (k, u) :: l, i, h => by
    simp only [mfind] at h
    split at h
    · rename_i hk
      subst hk
      cases h
      exact ⟨[], l, rfl, by simp, by simp [mget], fun w => by simp [mput], by simp [mdel]⟩
    · rename_i hk
      obtain ⟨pre, post, h1, h2, h3, h4, h5⟩ := mfind_some l (i + 1) h
      refine ⟨(k, u) :: pre, post, by rw [h1]; rfl, by simp; omega, ?_, fun w => ?_, ?_⟩
      · simp only [mget]; rw [if_neg hk]; exact h3
      · simp only [mput]; rw [if_neg hk, h4]; rfl
      · simp only [mdel]; rw [if_neg hk, h5]; rfl
theorem mfind_none {q : List UInt8} : ∀ (m : List (List UInt8 × α)) (i : Nat), mfind m q i = none → mget m q = none ∧ (∀ u, mput m q u = m ++ [(q, u)]) ∧ mdel m q = m
  | [], i, h => ⟨rfl, fun u => rfl, rfl⟩
  | (k, u) :: l, i, h => by
    simp only [mfind] at h
    split at h
    · cases h
    · rename_i hk
      obtain ⟨h1, h2, h3⟩ := mfind_none l (i + 1) h
      refine ⟨?_, fun w => ?_, ?_⟩
      · simp only [mget]; rw [if_neg hk]; exact h1
      · simp only [mput]; rw [if_neg hk, h2]; rfl
      · simp only [mdel]; rw [if_neg hk, h3]
end plain

theorem str_beq (a b : List UInt8) : (str a == str b) = decide (a = b) := by
  have e : (str a == str b) = (a == b) := by
    have h := ByteArray.toList_eq (str a)
    have h2 := ByteArray.toList_eq (str b)
    show ((str a).data == (str b).data) = _
    simp [str]
  rw [e]
  by_cases h : a = b <;> simp [h]

/-- The chunk is a map of these texts and values. -/
def IsMap (C : Chunk) (r : Nat) (m : List (List UInt8 × Value)) : Prop :=
  ∃ es clock, C = [(r, .map es clock)] ∧ es.toList.map (fun e => (e.key, e.val)) = m.map fun p => (Value.string (str p.1), p.2)

theorem find_now (q : List UInt8) : ∀ (es : List MapEntry) (m : List (List UInt8 × Value)) (i : Nat), es.map (fun e => (e.key, e.val)) = m.map (fun p => (Value.string (str p.1), p.2)) →
    Instr.findNow .string (.string (str q)) es i = some (mfind m q i)
  | [], [], i, _ => rfl
  | [], _ :: _, i, h => by simp at h
  | _ :: _, [], i, h => by simp at h
  | e :: es, (k, v) :: m, i, h => by
    simp only [List.map_cons, List.cons.injEq, Prod.mk.injEq] at h
    obtain ⟨⟨h1, h2⟩, h3⟩ := h
    simp only [Instr.findNow, mfind, h1, Instr.sameNow, str_beq]
    by_cases hk : q = k
    · simp [hk, h2]
    · simp only [hk, decide_false, if_false]
      exact find_now q es m (i + 1) h3

theorem run_find {kt : TypeId} (hk : P.underlying kt = some .string) (q : List UInt8) {es : List MapEntry} {m : List (List UInt8 × Value)} (h : es.map (fun e => (e.key, e.val)) = m.map (fun p => (Value.string (str p.1), p.2))) (w : World) :
    (Instr.findKey kt (.string (str q)) es).run P w = .ok (mfind m q 0) w := by
  unfold Instr.findKey
  rw [Sem.run_bind, run_und hk]
  simp only [Result.andThen, find_now q es m 0 h]
  rfl
theorem run_check {kt : TypeId} (hk : P.underlying kt = some .string) (b : Bool) (q : List UInt8) (w : World) : (Instr.checkKey b 10000 kt (.string (str q))).run P w = .ok () w := by
  rw [Instr.checkKey, Sem.run_bind, run_und hk]
  rfl
theorem run_obj {w : World} {r : Nat} {es : Array MapEntry} {c : Nat} (h : w.heap[r]? = some (.map es c)) : (getObj r).run P w = .ok (.map es c) w := by
  simp [getObj, Sem.run, h]

theorem look_run {t kt et : TypeId} {z : Value} {s b : Nat} [ht : TMap P t kt et] [hk : TStr P kt] [hz : TSized P et z s b] {C : Chunk} {r : Nat} {m : List (List UInt8 × Value)} (hm : IsMap C r m) (q : List UInt8) (ok : Bool) {w : World} {S : State} (hC : C ∈ S) (hw : Hold w S) :
    (Instr.lookup t (.map (some r)) (.string (str q)) ok).run P w = .ok (if ok then .tuple #[(mget m q).getD z, .bool (mget m q).isSome] else (mget m q).getD z) w := by
  obtain ⟨es, clock, rfl, he⟩ := hm
  have hb := (Lies.of_mem (b := r) (o := .map es clock) (List.mem_singleton.2 rfl) hC).get hw
  unfold Instr.lookup
  rw [Sem.run_bind, run_und ht.und]
  simp only [Result.andThen]
  simp only [Sem.run_bind, run_obj hb, Result.andThen, Sem.run_pure, run_check hk.und, run_find hk.und q he]
  cases hf : mfind m q 0 with
  | none =>
    have h1 := (mfind_none m 0 hf).1
    simp only [h1, Sem.run_bind, run_zero hz, Result.andThen, Sem.run_pure, Option.getD_none, Option.isSome_none]
  | some p =>
    obtain ⟨j, v⟩ := p
    obtain ⟨_, _, _, _, h1, _⟩ := mfind_some m 0 hf
    simp only [h1, Sem.run_bind, Sem.run_pure, Result.andThen, Option.getD_some, Option.isSome_some]
theorem map_look2 {t kt et : TypeId} {z : Value} {s b : Nat} [ht : TMap P t kt et] [hk : TStr P kt] [hz : TSized P et z s b] {C : Chunk} {r : Nat} {m : List (List UInt8 × Value)} {q : List UInt8} {S : State} {κ : Value → Prop} (hm : IsMap C r m) (hC : C ∈ S)
    (k : κ (.tuple #[(mget m q).getD z, .bool (mget m q).isSome])) : ReadW P (Instr.lookup t (.map (some r)) (.string (str q)) true) S κ :=
  ⟨_, fun w hw => look_run hm q true hC hw, k⟩
theorem map_look1 {t kt et : TypeId} {z : Value} {s b : Nat} [ht : TMap P t kt et] [hk : TStr P kt] [hz : TSized P et z s b] {C : Chunk} {r : Nat} {m : List (List UInt8 × Value)} {q : List UInt8} {S : State} {κ : Value → Prop} (hm : IsMap C r m) (hC : C ∈ S)
    (k : κ ((mget m q).getD z)) : ReadW P (Instr.lookup t (.map (some r)) (.string (str q)) false) S κ :=
  ⟨_, fun w hw => look_run hm q false hC hw, k⟩

theorem run_setObj {w : World} {r : Nat} {es : Array MapEntry} {c : Nat} {o' : Obj} (h : w.heap[r]? = some (.map es c)) : (setObj r o').run P w = .ok () (w.putObj r o') := by
  simp [setObj, Sem.run, h, World.putObj]

theorem stay_same (q : List UInt8) (w : World) : (Instr.keyThatStays (.string (str q)) (.string (str q))).run P w = .ok (.string (str q)) w := by
  unfold Instr.keyThatStays
  have : Instr.sameBits 10000 (.string (str q)) (.string (str q)) = true := by simp [Instr.sameBits, str_beq]
  rw [if_pos this]; rfl

theorem map_put {t kt et : TypeId} [ht : TMap P t kt et] [hk : TStr P kt] {C : Chunk} {r : Nat} {m : List (List UInt8 × Value)} {q : List UInt8} {v : Value} {S G : State} {κ : State → Prop} (hm : IsMap C r m) (hp : Pick C S G)
    (k : ∀ C', IsMap C' r (mput m q v) → κ (C' :: G)) : UnitW P (Instr.mapUpdate t (.map (some r)) (.string (str q)) v) S κ := by
  refine ⟨fun w hw => ?_⟩
  obtain ⟨es, clock, rfl, he⟩ := hm
  have hCG := hw.perm hp.perm
  have hb := hCG.get r (.map es clock) (by simp)
  have hlen : es.size = m.length := by have := congrArg List.length he; simpa using this
  cases hf : mfind m q 0 with
  | none =>
    obtain ⟨_, h2, _⟩ := mfind_none m 0 hf
    refine ⟨w.putObj r (.map (es.push { key := .string (str q), val := v, born := clock }) (clock + 1)), _, ?_, put_ext _ _ _, put_hold hCG, k [(r, .map (es.push { key := .string (str q), val := v, born := clock }) (clock + 1))] ⟨_, _, rfl, ?_⟩⟩
    · unfold Instr.mapUpdate
      rw [Sem.run_bind, run_und ht.und]
      simp only [Result.andThen, Sem.run_bind, run_obj hb, run_check hk.und, run_find hk.und q he, hf, run_setObj hb]
    · rw [h2]; simp [he]
  | some p =>
    obtain ⟨j, u⟩ := p
    obtain ⟨pre, post, h1, h2, h3, h4, h5⟩ := mfind_some m 0 hf
    have hj : j < es.size := by rw [hlen, h1]; simp; omega
    have hkey : es[j].key = .string (str q) := by
      have e := congrArg (fun l => l[j]?) he
      simp only [List.getElem?_map, h1] at e
      rw [List.getElem?_append_right (by omega), show j - pre.length = 0 from by omega] at e
      have e2 : es.toList[j]? = some es[j] := by simp [hj]
      rw [e2] at e
      simp only [Option.map_some, List.getElem?_cons_zero, Option.some.injEq, Prod.mk.injEq] at e
      exact e.1
    refine ⟨w.putObj r (.map (es.modify j fun e => { e with key := .string (str q), val := v }) clock), _, ?_, put_ext _ _ _, put_hold hCG, k [(r, .map (es.modify j fun e => { e with key := .string (str q), val := v }) clock)] ⟨_, _, rfl, ?_⟩⟩
    · unfold Instr.mapUpdate
      rw [Sem.run_bind, run_und ht.und]
      have hg : ((es[j]?).map (·.key)).getD (.string (str q)) = .string (str q) := by simp [hj, hkey]
      simp only [Result.andThen, Sem.run_bind, run_obj hb, run_check hk.und, run_find hk.und q he, hf, hg, stay_same, run_setObj hb]
    · rw [h4]
      have e := he
      rw [h1] at e
      apply List.ext_getElem?
      intro i
      have ei := congrArg (fun l => l[i]?) e
      simp only [List.getElem?_map, Array.getElem?_toList, Array.getElem?_modify] at ei ⊢
      by_cases hij : j = i
      · subst hij
        rw [if_pos rfl, List.getElem?_append_right (by omega), h2, show 0 + pre.length - pre.length = 0 from by omega, Array.getElem?_eq_getElem (by rw [← h2]; exact hj)]
        rfl
      · rw [if_neg hij, ei]
        congr 1
        rcases Nat.lt_or_ge i pre.length with hlt | hge
        · rw [List.getElem?_append_left hlt, List.getElem?_append_left hlt]
        · rw [List.getElem?_append_right hge, List.getElem?_append_right hge]
          obtain ⟨n, hn⟩ : ∃ n, i - pre.length = n + 1 := ⟨i - pre.length - 1, by omega⟩
          rw [hn]; rfl

theorem map_del {t kt et ty kt2 : TypeId} [ht : TMap P t kt et] [hk : TStr P kt] {C : Chunk} {r : Nat} {m : List (List UInt8 × Value)} {q : List UInt8} {S G : State} {κ : Value → State → Prop} (hm : IsMap C r m) (hp : Pick C S G)
    (k : ∀ C', IsMap C' r (mdel m q) → κ (.tuple #[]) (C' :: G)) : ValW P (Builtin.delete_ #[t, kt2] ty #[.map (some r), .string (str q)]) S κ := by
  refine ⟨fun w hw => ?_⟩
  obtain ⟨es, clock, rfl, he⟩ := hm
  have hCG := hw.perm hp.perm
  have hb := hCG.get r (.map es clock) (by simp)
  have hlen : es.size = m.length := by have := congrArg List.length he; simpa using this
  cases hf : mfind m q 0 with
  | none =>
    obtain ⟨_, _, h2⟩ := mfind_none m 0 hf
    refine ⟨.tuple #[], w.putObj r (.map es clock), _, ?_, put_ext _ _ _, put_hold hCG, k [(r, .map es clock)] ⟨_, _, rfl, by rw [h2]; exact he⟩⟩
    simp only [Builtin.delete_, List.getElem?_toArray, List.getElem?_cons_zero, List.getElem?_cons_succ, Sem.run_bind, run_und ht.und, Result.andThen, run_obj hb, run_check hk.und, run_find hk.und q he, hf, run_setObj hb, Sem.run_pure]
  | some p =>
    obtain ⟨j, u⟩ := p
    obtain ⟨pre, post, h1, h2, h3, h4, h5⟩ := mfind_some m 0 hf
    have hj : j < es.size := by rw [hlen, h1]; simp; omega
    refine ⟨.tuple #[], w.putObj r (.map (es.eraseIdxIfInBounds j) clock), _, ?_, put_ext _ _ _, put_hold hCG, k [(r, .map (es.eraseIdxIfInBounds j) clock)] ⟨_, _, rfl, ?_⟩⟩
    · simp only [Builtin.delete_, List.getElem?_toArray, List.getElem?_cons_zero, List.getElem?_cons_succ, Sem.run_bind, run_und ht.und, Result.andThen, run_obj hb, run_check hk.und, run_find hk.und q he, hf, run_setObj hb, Sem.run_pure]
    · rw [h5]
      have e3 : j = 0 + pre.length := h2
      have e4 : (es.eraseIdxIfInBounds j).toList = es.toList.eraseIdx j := by simp [Array.eraseIdxIfInBounds, hj]
      have e5 : ∀ (l : List MapEntry) (f : MapEntry → Value × Value) (i : Nat), (l.eraseIdx i).map f = (l.map f).eraseIdx i := by
        intro l f
        induction l with
        | nil => intro i; simp
        | cons x l ih => intro i; cases i <;> simp [ih]
      rw [e4, e5, he, h1, e3]
      simp [List.eraseIdx_append_of_length_le]

theorem map_len {t kt et ty : TypeId} [ht : TMap P t kt et] {C : Chunk} {r : Nat} {m : List (List UInt8 × Value)} {S : State} {κ : Value → Prop} (hm : IsMap C r m) (hC : C ∈ S) (k : κ (.int .i64 m.length)) :
    ReadW P (Builtin.len_ #[t] ty #[.map (some r)]) S κ := by
  obtain ⟨es, clock, rfl, he⟩ := hm
  have hlen : es.size = m.length := by have := congrArg List.length he; simpa using this
  refine ⟨_, fun w hw => ?_, k⟩
  have hb := (Lies.of_mem (b := r) (o := .map es clock) (List.mem_singleton.2 rfl) hC).get hw
  simp [Builtin.len_, Sem.run_bind, run_und ht.und, Result.andThen, run_obj hb, goInt, hlen]

theorem map_new {t : TypeId} {S : State} {κ : Value → State → Prop} (k : ∀ r C, IsMap C r [] → κ (.map (some r)) (C :: S)) : ValW P (Instr.makeMap t none) S κ := by
  refine ⟨fun w hw => ?_⟩
  refine ⟨.map (some w.heap.size), { w with heap := w.heap.push (.map #[] 0) }, _, ?_, ext_push rfl, hw.new rfl, k _ _ ⟨#[], 0, rfl, rfl⟩⟩
  simp [Instr.makeMap, Sem.run_bind, Result.andThen, newObj, Sem.run]

end Go.Ost

/- The walk's steps in one word each: their side conditions are found by themselves. Conditions: none. -/
set_option linter.unusedSimpArgs false
set_option linter.unusedVariables false
namespace Go.Ost
open Go

variable {P : Program} {n : Nat} {ro : Option Nat}

/-! ### Rules whose facts lie among the hypotheses -/

section facts
variable {S : State} {a : Option Addr} {len cap : Nat} {us : List Value} {bs : List UInt8} {H : Chunk} {κ : Value → Prop} {t e : TypeId} {z : Value} {s by_ : Nat} {k : IntKind} {i : Int}
theorem index_rda [TSlice P t e] [TSized P e z 1 by_] (hr : Rd 1 [H] a len us) (h0 : 0 ≤ i) (h1 : i < len) (q : κ (.pointer (some (elA a i.toNat)))) : PureW P (Instr.indexAt t (.slice a len cap) (.int k i)) κ := by rw [index_rd hr h0 h1]; exact q
theorem index_owa [TSlice P t e] [TSized P e z 1 by_] {e' : TypeId} {cap' : Nat} (ho : Own 1 e' H a len cap' us) (h0 : 0 ≤ i) (h1 : i < len) (q : κ (.pointer (some (elA a i.toNat)))) : PureW P (Instr.indexAt t (.slice a len cap) (.int k i)) κ := by
  rw [index_rd (ho.rd (S := [H]) (List.mem_cons_self ..)) h0 h1]; exact q
theorem load_rda8 {i : Nat} [TFlat P t] (hr : Rd 1 [H] a len (bs.map b8)) (hH : H ∈ S) (hi : i < bs.length) (q : κ (b8 (bs.getD i 0))) : ReadW P (Instr.loadAt t (.pointer (some (elA a i)))) S κ := rd_load8 (hr.mem hH) hi q
theorem load_owa8 {i : Nat} [TFlat P t] {e' : TypeId} (hr : Own 1 e' H a len cap (bs.map b8)) (hH : H ∈ S) (hi : i < bs.length) (q : κ (b8 (bs.getD i 0))) : ReadW P (Instr.loadAt t (.pointer (some (elA a i)))) S κ := rd_load8 (hr.rd hH) hi q
theorem load_rda {i : Nat} {v : Value} [TFlat P t] (hr : Rd 1 [H] a len us) (hv : us[i]? = some v) (hH : H ∈ S) (q : κ v) : ReadW P (Instr.loadAt t (.pointer (some (elA a i)))) S κ := rd_load (hr.mem hH) hv q
theorem load_owa {i : Nat} {v : Value} [TFlat P t] {e' : TypeId} (hr : Own 1 e' H a len cap us) (hv : us[i]? = some v) (hH : H ∈ S) (q : κ v) : ReadW P (Instr.loadAt t (.pointer (some (elA a i)))) S κ := rd_load (hr.rd hH) hv q
end facts

/-- From a list of operations to what is left of it. -/
structure Runs (P : Program) (n : Nat) (ops : Array Oper) (l : List Oper) (L : Env) (S : State) (l' : List Oper) (L' : Env) (S' : State) : Prop where
  out : ∀ K : Env → State → Prop, runW P n ops K l' L' S' → runW P n ops K l L S
structure Draws (P : Program) (n : Nat) (ops : Array Oper) (l : List Entry) (L : Env) (S : State) (l' : List Entry) (L' : Env) (S' : State) : Prop where
  out : ∀ K : Env → State → Prop, drawW P n ops K l' L' S' → drawW P n ops K l L S

section steps
variable {ops : Array Oper} {K : Env → State → Prop} {o : Oper} {l l' : List Oper} {L L' : Env} {S S' : State}

theorem run_to (k : runW P n ops K l' L' S') (h : Runs P n ops l L S l' L' S' := by exact ⟨fun K0 hK0 => by (repeat ((with_reducible refine run_cons fun K hK => ?_); (try simp only [gos, gob, Nat.reduceBEq, if_true, reduceIte, reduceCtorEq, Nat.reduceLT, Nat.reduceEqDiff, Nat.reduceAdd, Nat.reduceSub, Int.reduceLT, Int.reduceLE, Int.reduceBEq, Int.reduceBNe, Int.reduceToNat, Int.reduceAdd, Int.reduceSub, Int.reduceMul, Int.reduceDiv, Int.reduceMod, Int.reducePow, Int.toNat_natCast, Nat.sub_zero]); (try (simp (disch := omega) only [gow, gobw]; try simp only [gos, gob, Nat.reduceBEq, if_true, reduceIte, reduceCtorEq, Nat.reduceLT, Nat.reduceEqDiff, Nat.reduceAdd, Nat.reduceSub, Int.reduceLT, Int.reduceLE, Int.reduceBEq, Int.reduceBNe, Int.reduceToNat, Int.reduceAdd, Int.reduceSub, Int.reduceMul, Int.reduceDiv, Int.reduceMod, Int.reducePow, Int.toNat_natCast, Nat.sub_zero])); (first | (with_reducible refine hK _ _ ?_) | ((with_reducible apply load_box); (· (repeat (first | with_reducible exact Lies.one | with_reducible apply Lies.next))); (with_reducible refine hK _ _ ?_)) | ((with_reducible apply load_one); (· (repeat (first | with_reducible exact Lies.one | with_reducible apply Lies.next))); (· exact rfl); (with_reducible refine hK _ _ ?_)) | ((with_reducible apply store_box); (· exact trivial); (· (repeat (first | with_reducible exact Upd.one | with_reducible apply Upd.next))); (with_reducible refine hK _ _ ?_)) | ((with_reducible apply store_one); (· exact trivial); (· (repeat (first | with_reducible exact Upd.one | with_reducible apply Upd.next))); (· simp); (with_reducible refine hK _ _ ?_)) | (first | ((with_reducible apply index_rda); (· assumption); (· (first | omega | assumption | (simp only [List.length_append, List.length_take, List.length_drop, List.length_map, List.length_replicate, List.length_range, List.length_set, List.length_cons, List.length_nil]; omega))); (· (first | omega | assumption | (simp only [List.length_append, List.length_take, List.length_drop, List.length_map, List.length_replicate, List.length_range, List.length_set, List.length_cons, List.length_nil]; omega))); (with_reducible refine hK _ _ ?_)) | ((with_reducible apply index_owa); (· assumption); (· (first | omega | assumption | (simp only [List.length_append, List.length_take, List.length_drop, List.length_map, List.length_replicate, List.length_range, List.length_set, List.length_cons, List.length_nil]; omega))); (· (first | omega | assumption | (simp only [List.length_append, List.length_take, List.length_drop, List.length_map, List.length_replicate, List.length_range, List.length_set, List.length_cons, List.length_nil]; omega))); (with_reducible refine hK _ _ ?_)) | ((with_reducible apply load_rda8); (· assumption); (· (repeat (first | with_reducible assumption | with_reducible exact List.mem_cons_self .. | with_reducible apply List.mem_cons_of_mem))); (· (first | omega | assumption | (simp only [List.length_append, List.length_take, List.length_drop, List.length_map, List.length_replicate, List.length_range, List.length_set, List.length_cons, List.length_nil]; omega))); (with_reducible refine hK _ _ ?_)) | ((with_reducible apply load_owa8); (· assumption); (· (repeat (first | with_reducible assumption | with_reducible exact List.mem_cons_self .. | with_reducible apply List.mem_cons_of_mem))); (· (first | omega | assumption | (simp only [List.length_append, List.length_take, List.length_drop, List.length_map, List.length_replicate, List.length_range, List.length_set, List.length_cons, List.length_nil]; omega))); (with_reducible refine hK _ _ ?_)) | ((with_reducible apply load_rda); (· assumption); (· assumption); (· (repeat (first | with_reducible assumption | with_reducible exact List.mem_cons_self .. | with_reducible apply List.mem_cons_of_mem))); (with_reducible refine hK _ _ ?_)) | ((with_reducible apply load_owa); (· assumption); (· assumption); (· (repeat (first | with_reducible assumption | with_reducible exact List.mem_cons_self .. | with_reducible apply List.mem_cons_of_mem))); (with_reducible refine hK _ _ ?_)))); clear hK K)); exact hK0⟩) : runW P n ops K l L S := h.out K k
theorem run_one {l1 : List Oper} (k : runW P n ops K l1 L' S') (h : Runs P n ops (o :: l) L S l1 L' S' := by exact ⟨fun K0 hK0 => by ((with_reducible refine run_cons fun K hK => ?_); (try simp only [gos, gob, Nat.reduceBEq, if_true, reduceIte, reduceCtorEq, Nat.reduceLT, Nat.reduceEqDiff, Nat.reduceAdd, Nat.reduceSub, Int.reduceLT, Int.reduceLE, Int.reduceBEq, Int.reduceBNe, Int.reduceToNat, Int.reduceAdd, Int.reduceSub, Int.reduceMul, Int.reduceDiv, Int.reduceMod, Int.reducePow, Int.toNat_natCast, Nat.sub_zero]); (try (simp (disch := omega) only [gow, gobw]; try simp only [gos, gob, Nat.reduceBEq, if_true, reduceIte, reduceCtorEq, Nat.reduceLT, Nat.reduceEqDiff, Nat.reduceAdd, Nat.reduceSub, Int.reduceLT, Int.reduceLE, Int.reduceBEq, Int.reduceBNe, Int.reduceToNat, Int.reduceAdd, Int.reduceSub, Int.reduceMul, Int.reduceDiv, Int.reduceMod, Int.reducePow, Int.toNat_natCast, Nat.sub_zero])); (first | (with_reducible refine hK _ _ ?_) | ((with_reducible apply load_box); (· (repeat (first | with_reducible exact Lies.one | with_reducible apply Lies.next))); (with_reducible refine hK _ _ ?_)) | ((with_reducible apply load_one); (· (repeat (first | with_reducible exact Lies.one | with_reducible apply Lies.next))); (· exact rfl); (with_reducible refine hK _ _ ?_)) | ((with_reducible apply store_box); (· exact trivial); (· (repeat (first | with_reducible exact Upd.one | with_reducible apply Upd.next))); (with_reducible refine hK _ _ ?_)) | ((with_reducible apply store_one); (· exact trivial); (· (repeat (first | with_reducible exact Upd.one | with_reducible apply Upd.next))); (· simp); (with_reducible refine hK _ _ ?_)) | (first | ((with_reducible apply index_rda); (· assumption); (· (first | omega | assumption | (simp only [List.length_append, List.length_take, List.length_drop, List.length_map, List.length_replicate, List.length_range, List.length_set, List.length_cons, List.length_nil]; omega))); (· (first | omega | assumption | (simp only [List.length_append, List.length_take, List.length_drop, List.length_map, List.length_replicate, List.length_range, List.length_set, List.length_cons, List.length_nil]; omega))); (with_reducible refine hK _ _ ?_)) | ((with_reducible apply index_owa); (· assumption); (· (first | omega | assumption | (simp only [List.length_append, List.length_take, List.length_drop, List.length_map, List.length_replicate, List.length_range, List.length_set, List.length_cons, List.length_nil]; omega))); (· (first | omega | assumption | (simp only [List.length_append, List.length_take, List.length_drop, List.length_map, List.length_replicate, List.length_range, List.length_set, List.length_cons, List.length_nil]; omega))); (with_reducible refine hK _ _ ?_)) | ((with_reducible apply load_rda8); (· assumption); (· (repeat (first | with_reducible assumption | with_reducible exact List.mem_cons_self .. | with_reducible apply List.mem_cons_of_mem))); (· (first | omega | assumption | (simp only [List.length_append, List.length_take, List.length_drop, List.length_map, List.length_replicate, List.length_range, List.length_set, List.length_cons, List.length_nil]; omega))); (with_reducible refine hK _ _ ?_)) | ((with_reducible apply load_owa8); (· assumption); (· (repeat (first | with_reducible assumption | with_reducible exact List.mem_cons_self .. | with_reducible apply List.mem_cons_of_mem))); (· (first | omega | assumption | (simp only [List.length_append, List.length_take, List.length_drop, List.length_map, List.length_replicate, List.length_range, List.length_set, List.length_cons, List.length_nil]; omega))); (with_reducible refine hK _ _ ?_)) | ((with_reducible apply load_rda); (· assumption); (· assumption); (· (repeat (first | with_reducible assumption | with_reducible exact List.mem_cons_self .. | with_reducible apply List.mem_cons_of_mem))); (with_reducible refine hK _ _ ?_)) | ((with_reducible apply load_owa); (· assumption); (· assumption); (· (repeat (first | with_reducible assumption | with_reducible exact List.mem_cons_self .. | with_reducible apply List.mem_cons_of_mem))); (with_reducible refine hK _ _ ?_)))); clear hK K); exact hK0⟩) : runW P n ops K (o :: l) L S := h.out K k
theorem run_end {q : Prop} (k : q) (e : K L S = q := by ((try simp only [Cont.then, Cont.block, Cont.noGoto, reduceIte, Nat.reduceEqDiff]); (first | done | exact rfl))) : runW P n ops K [] L S := run_nil (e ▸ k)
theorem run_op {X : (Env → State → Prop) → Prop} (h : ∀ N : Env → State → Prop, (∀ L S, runW P n ops K l L S → N L S) → X N)
    (e : ∀ N : Env → State → Prop, guardW ops o L (stepW P o.op o.type L S fun v S' => N (putT n o.dst v L) S') (N (putT n o.dst undef L) S) = X N := by (intro N; (try simp only [gos, gob, Nat.reduceBEq, if_true, reduceIte, reduceCtorEq, Nat.reduceLT, Nat.reduceEqDiff, Nat.reduceAdd, Nat.reduceSub, Int.reduceLT, Int.reduceLE, Int.reduceBEq, Int.reduceBNe, Int.reduceToNat, Int.reduceAdd, Int.reduceSub, Int.reduceMul, Int.reduceDiv, Int.reduceMod, Int.reducePow, Int.toNat_natCast, Nat.sub_zero]); (try (simp (disch := omega) only [gow, gobw]; try simp only [gos, gob, Nat.reduceBEq, if_true, reduceIte, reduceCtorEq, Nat.reduceLT, Nat.reduceEqDiff, Nat.reduceAdd, Nat.reduceSub, Int.reduceLT, Int.reduceLE, Int.reduceBEq, Int.reduceBNe, Int.reduceToNat, Int.reduceAdd, Int.reduceSub, Int.reduceMul, Int.reduceDiv, Int.reduceMod, Int.reducePow, Int.toNat_natCast, Nat.sub_zero])); (first | done | exact rfl))) : runW P n ops K (o :: l) L S :=
  run_cons fun N hN => (e N) ▸ h N hN

variable {i : Nat} {pd : List Nat} {p p' : List Entry}
theorem draw_to (k : drawW P n ops K p' L' S') (h : Draws P n ops p L S p' L' S' := by exact ⟨fun K0 hK0 => by (repeat (refine draw_quiet (by simp only [List.getElem?_toArray, List.getElem?_cons_succ, List.getElem?_cons_zero]; rfl) fun K hK => ?_; (try simp only [gos, gob, Nat.reduceBEq, if_true, reduceIte, reduceCtorEq, Nat.reduceLT, Nat.reduceEqDiff, Nat.reduceAdd, Nat.reduceSub, Int.reduceLT, Int.reduceLE, Int.reduceBEq, Int.reduceBNe, Int.reduceToNat, Int.reduceAdd, Int.reduceSub, Int.reduceMul, Int.reduceDiv, Int.reduceMod, Int.reducePow, Int.toNat_natCast, Nat.sub_zero, goq]); (try (simp (disch := omega) only [gow, gobw]; try simp only [gos, gob, Nat.reduceBEq, if_true, reduceIte, reduceCtorEq, Nat.reduceLT, Nat.reduceEqDiff, Nat.reduceAdd, Nat.reduceSub, Int.reduceLT, Int.reduceLE, Int.reduceBEq, Int.reduceBNe, Int.reduceToNat, Int.reduceAdd, Int.reduceSub, Int.reduceMul, Int.reduceDiv, Int.reduceMod, Int.reducePow, Int.toNat_natCast, Nat.sub_zero, goq])); (first | (with_reducible refine hK _ _ ?_) | ((with_reducible apply load_box); (· (repeat (first | with_reducible exact Lies.one | with_reducible apply Lies.next))); (with_reducible refine hK _ _ ?_)) | ((with_reducible apply load_one); (· (repeat (first | with_reducible exact Lies.one | with_reducible apply Lies.next))); (· exact rfl); (with_reducible refine hK _ _ ?_)) | ((with_reducible apply store_box); (· exact trivial); (· (repeat (first | with_reducible exact Upd.one | with_reducible apply Upd.next))); (with_reducible refine hK _ _ ?_)) | ((with_reducible apply store_one); (· exact trivial); (· (repeat (first | with_reducible exact Upd.one | with_reducible apply Upd.next))); (· simp); (with_reducible refine hK _ _ ?_)) | (first | ((with_reducible apply index_rda); (· assumption); (· (first | omega | assumption | (simp only [List.length_append, List.length_take, List.length_drop, List.length_map, List.length_replicate, List.length_range, List.length_set, List.length_cons, List.length_nil]; omega))); (· (first | omega | assumption | (simp only [List.length_append, List.length_take, List.length_drop, List.length_map, List.length_replicate, List.length_range, List.length_set, List.length_cons, List.length_nil]; omega))); (with_reducible refine hK _ _ ?_)) | ((with_reducible apply index_owa); (· assumption); (· (first | omega | assumption | (simp only [List.length_append, List.length_take, List.length_drop, List.length_map, List.length_replicate, List.length_range, List.length_set, List.length_cons, List.length_nil]; omega))); (· (first | omega | assumption | (simp only [List.length_append, List.length_take, List.length_drop, List.length_map, List.length_replicate, List.length_range, List.length_set, List.length_cons, List.length_nil]; omega))); (with_reducible refine hK _ _ ?_)) | ((with_reducible apply load_rda8); (· assumption); (· (repeat (first | with_reducible assumption | with_reducible exact List.mem_cons_self .. | with_reducible apply List.mem_cons_of_mem))); (· (first | omega | assumption | (simp only [List.length_append, List.length_take, List.length_drop, List.length_map, List.length_replicate, List.length_range, List.length_set, List.length_cons, List.length_nil]; omega))); (with_reducible refine hK _ _ ?_)) | ((with_reducible apply load_owa8); (· assumption); (· (repeat (first | with_reducible assumption | with_reducible exact List.mem_cons_self .. | with_reducible apply List.mem_cons_of_mem))); (· (first | omega | assumption | (simp only [List.length_append, List.length_take, List.length_drop, List.length_map, List.length_replicate, List.length_range, List.length_set, List.length_cons, List.length_nil]; omega))); (with_reducible refine hK _ _ ?_)) | ((with_reducible apply load_rda); (· assumption); (· assumption); (· (repeat (first | with_reducible assumption | with_reducible exact List.mem_cons_self .. | with_reducible apply List.mem_cons_of_mem))); (with_reducible refine hK _ _ ?_)) | ((with_reducible apply load_owa); (· assumption); (· assumption); (· (repeat (first | with_reducible assumption | with_reducible exact List.mem_cons_self .. | with_reducible apply List.mem_cons_of_mem))); (with_reducible refine hK _ _ ?_)))); clear hK K)); exact hK0⟩) : drawW P n ops K p L S := h.out K k
theorem draw_end {q : Prop} (k : q) (e : K L S = q := by ((try simp only [Cont.then, Cont.block, Cont.noGoto, reduceIte, Nat.reduceEqDiff]); (first | done | exact rfl))) : drawW P n ops K [] L S := draw_nil (e ▸ k)
theorem draw_op {X : (Env → State → Prop) → Prop} (h : ∀ N : Env → State → Prop, (∀ L S, drawW P n ops K p L S → N L S) → X N)
    (ho : ops[i]? = some o := by (simp only [List.getElem?_toArray, List.getElem?_cons_succ, List.getElem?_cons_zero]; exact rfl))
    (e : ∀ N : Env → State → Prop, guardW ops o L (stepW P o.op o.type L S fun v S' => stillAll P ops pd (putT n o.dst v L) S' (N (putT n o.dst v L) S')) (stillAll P ops pd (putT n o.dst undef L) S (N (putT n o.dst undef L) S)) = X N := by (intro N; (try simp only [gos, gob, Nat.reduceBEq, if_true, reduceIte, reduceCtorEq, Nat.reduceLT, Nat.reduceEqDiff, Nat.reduceAdd, Nat.reduceSub, Int.reduceLT, Int.reduceLE, Int.reduceBEq, Int.reduceBNe, Int.reduceToNat, Int.reduceAdd, Int.reduceSub, Int.reduceMul, Int.reduceDiv, Int.reduceMod, Int.reducePow, Int.toNat_natCast, Nat.sub_zero, goq]); (try (simp (disch := omega) only [gow, gobw]; try simp only [gos, gob, Nat.reduceBEq, if_true, reduceIte, reduceCtorEq, Nat.reduceLT, Nat.reduceEqDiff, Nat.reduceAdd, Nat.reduceSub, Int.reduceLT, Int.reduceLE, Int.reduceBEq, Int.reduceBNe, Int.reduceToNat, Int.reduceAdd, Int.reduceSub, Int.reduceMul, Int.reduceDiv, Int.reduceMod, Int.reducePow, Int.toNat_natCast, Nat.sub_zero, goq])); (first | done | exact rfl))) :
    drawW P n ops K ((i, true, pd) :: p) L S := draw_effect ho fun N hN => (e N) ▸ h N hN

variable {K : Cont} {D : List Nat} {id : Nat}
theorem reg_to (k : runW P n l.toArray (K .normal D) l' L' S') (h : Runs P n l.toArray l L S l' L' S' := by exact ⟨fun K0 hK0 => by (repeat ((with_reducible refine run_cons fun K hK => ?_); (try simp only [gos, gob, Nat.reduceBEq, if_true, reduceIte, reduceCtorEq, Nat.reduceLT, Nat.reduceEqDiff, Nat.reduceAdd, Nat.reduceSub, Int.reduceLT, Int.reduceLE, Int.reduceBEq, Int.reduceBNe, Int.reduceToNat, Int.reduceAdd, Int.reduceSub, Int.reduceMul, Int.reduceDiv, Int.reduceMod, Int.reducePow, Int.toNat_natCast, Nat.sub_zero]); (try (simp (disch := omega) only [gow, gobw]; try simp only [gos, gob, Nat.reduceBEq, if_true, reduceIte, reduceCtorEq, Nat.reduceLT, Nat.reduceEqDiff, Nat.reduceAdd, Nat.reduceSub, Int.reduceLT, Int.reduceLE, Int.reduceBEq, Int.reduceBNe, Int.reduceToNat, Int.reduceAdd, Int.reduceSub, Int.reduceMul, Int.reduceDiv, Int.reduceMod, Int.reducePow, Int.toNat_natCast, Nat.sub_zero])); (first | (with_reducible refine hK _ _ ?_) | ((with_reducible apply load_box); (· (repeat (first | with_reducible exact Lies.one | with_reducible apply Lies.next))); (with_reducible refine hK _ _ ?_)) | ((with_reducible apply load_one); (· (repeat (first | with_reducible exact Lies.one | with_reducible apply Lies.next))); (· exact rfl); (with_reducible refine hK _ _ ?_)) | ((with_reducible apply store_box); (· exact trivial); (· (repeat (first | with_reducible exact Upd.one | with_reducible apply Upd.next))); (with_reducible refine hK _ _ ?_)) | ((with_reducible apply store_one); (· exact trivial); (· (repeat (first | with_reducible exact Upd.one | with_reducible apply Upd.next))); (· simp); (with_reducible refine hK _ _ ?_)) | (first | ((with_reducible apply index_rda); (· assumption); (· (first | omega | assumption | (simp only [List.length_append, List.length_take, List.length_drop, List.length_map, List.length_replicate, List.length_range, List.length_set, List.length_cons, List.length_nil]; omega))); (· (first | omega | assumption | (simp only [List.length_append, List.length_take, List.length_drop, List.length_map, List.length_replicate, List.length_range, List.length_set, List.length_cons, List.length_nil]; omega))); (with_reducible refine hK _ _ ?_)) | ((with_reducible apply index_owa); (· assumption); (· (first | omega | assumption | (simp only [List.length_append, List.length_take, List.length_drop, List.length_map, List.length_replicate, List.length_range, List.length_set, List.length_cons, List.length_nil]; omega))); (· (first | omega | assumption | (simp only [List.length_append, List.length_take, List.length_drop, List.length_map, List.length_replicate, List.length_range, List.length_set, List.length_cons, List.length_nil]; omega))); (with_reducible refine hK _ _ ?_)) | ((with_reducible apply load_rda8); (· assumption); (· (repeat (first | with_reducible assumption | with_reducible exact List.mem_cons_self .. | with_reducible apply List.mem_cons_of_mem))); (· (first | omega | assumption | (simp only [List.length_append, List.length_take, List.length_drop, List.length_map, List.length_replicate, List.length_range, List.length_set, List.length_cons, List.length_nil]; omega))); (with_reducible refine hK _ _ ?_)) | ((with_reducible apply load_owa8); (· assumption); (· (repeat (first | with_reducible assumption | with_reducible exact List.mem_cons_self .. | with_reducible apply List.mem_cons_of_mem))); (· (first | omega | assumption | (simp only [List.length_append, List.length_take, List.length_drop, List.length_map, List.length_replicate, List.length_range, List.length_set, List.length_cons, List.length_nil]; omega))); (with_reducible refine hK _ _ ?_)) | ((with_reducible apply load_rda); (· assumption); (· assumption); (· (repeat (first | with_reducible assumption | with_reducible exact List.mem_cons_self .. | with_reducible apply List.mem_cons_of_mem))); (with_reducible refine hK _ _ ?_)) | ((with_reducible apply load_owa); (· assumption); (· assumption); (· (repeat (first | with_reducible assumption | with_reducible exact List.mem_cons_self .. | with_reducible apply List.mem_cons_of_mem))); (with_reducible refine hK _ _ ?_)))); clear hK K)); exact hK0⟩) : CodeW P n ro (.region id l.toArray false) K D L S :=
  code_reg (h.out _ k)
end steps

section control
variable {K : Cont} {D : List Nat} {L : Env} {S : State}
theorem code_if {c : Operand} {x y : Code} {b : Bool} (ht : b = true → CodeW P n ro x K D L S) (hf : b = false → CodeW P n ro y K D L S) (hc : evT L c = some (.bool b) := by (try simp only [evT, lookT_hit, lookT_miss, Nat.reduceBEq]); (first | done | exact rfl)) : CodeW P n ro (.cond c x y) K D L S := code_cond hc ht hf
theorem code_then {c : Operand} {x y : Code} (k : CodeW P n ro x K D L S) (hc : evT L c = some (.bool true) := by (try simp only [evT, lookT_hit, lookT_miss, Nat.reduceBEq]); (first | done | exact rfl)) : CodeW P n ro (.cond c x y) K D L S := code_true hc k
theorem code_else {c : Operand} {x y : Code} (k : CodeW P n ro y K D L S) (hc : evT L c = some (.bool false) := by (try simp only [evT, lookT_hit, lookT_miss, Nat.reduceBEq]); (first | done | exact rfl)) : CodeW P n ro (.cond c x y) K D L S := code_false hc k
theorem code_back {q : Prop} (k : q) (e : K .ret D L S = q := by ((try simp -implicitDefEqProofs only [Cont.then, Cont.block, Cont.noGoto, reduceIte]); (first | done | exact rfl))) : CodeW P n ro .ret K D L S := code_ret (e ▸ k)
theorem code_leave {q : Prop} {id : Nat} (k : q) (e : K (.exit id) D L S = q := by ((try simp only [Cont.then, Cont.block, Cont.noGoto, reduceIte, Nat.reduceEqDiff]); (first | done | exact rfl))) : CodeW P n ro (.exit id) K D L S := code_exit (e ▸ k)
theorem calls_to {f : FuncId} {args : List Value} {A G : State} {R κ : Value → State → Prop} (h : Meets P f args A R) (k : ∀ v A', R v A' → κ v (A' ++ G)) (ht : Take A S G := by (repeat (first | with_reducible exact Take.nil _ | with_reducible exact Pick.head _ _ | with_reducible apply Pick.tail | with_reducible apply Take.cons))) : CallsW P f args.toArray S κ := calls_spec h ht k
theorem back_tmp {R : Value → State → Prop} {F : Chunk} {t : Nat} {v : Value} (A' : State) (hR : R v A') (hv : lookT L t = some v := by (try simp only [evT, lookT_hit, lookT_miss, Nat.reduceBEq]); (first | done | exact rfl)) (hs : Among (F :: A') S := by first | ((repeat (first | with_reducible exact Among.nil _ | with_reducible exact Pick.head _ _ | with_reducible apply Pick.tail | with_reducible apply Among.cons)); done) | ((repeat (first | exact Among.nil _ | exact Pick.head _ _ | apply Pick.tail | apply Among.cons)); done)) : RetK P [.tmp t] R F .ret [] L S := ret_tmp A' hv hR hs
theorem back_tmp_n {R : Value → State → Prop} {F : Chunk} {t : Nat} {v : Value} (A' : State) (hR : R v A') (hv : lookT L t = some v := by (try simp only [evT, lookT_hit, lookT_miss, Nat.reduceBEq]); (first | done | exact rfl)) (hs : Among (F :: A') S := by first | ((repeat (first | with_reducible exact Among.nil _ | with_reducible exact Pick.head _ _ | with_reducible apply Pick.tail | with_reducible apply Among.cons)); done) | ((repeat (first | exact Among.nil _ | exact Pick.head _ _ | apply Pick.tail | apply Among.cons)); done)) : RetK P [.tmp t] R F .normal [] L S := ret_tmp_n A' hv hR hs
theorem back_none {R : Value → State → Prop} {F : Chunk} (A' : State) (hR : R (.tuple #[]) A') (hs : Among (F :: A') S := by first | ((repeat (first | with_reducible exact Among.nil _ | with_reducible exact Pick.head _ _ | with_reducible apply Pick.tail | with_reducible apply Among.cons)); done) | ((repeat (first | exact Among.nil _ | exact Pick.head _ _ | apply Pick.tail | apply Among.cons)); done)) : RetK P [] R F .ret [] L S := ret_none A' hR hs
theorem back_none_n {R : Value → State → Prop} {F : Chunk} (A' : State) (hR : R (.tuple #[]) A') (hs : Among (F :: A') S := by first | ((repeat (first | with_reducible exact Among.nil _ | with_reducible exact Pick.head _ _ | with_reducible apply Pick.tail | with_reducible apply Among.cons)); done) | ((repeat (first | exact Among.nil _ | exact Pick.head _ _ | apply Pick.tail | apply Among.cons)); done)) : RetK P [] R F .normal [] L S := ret_none_n A' hR hs
theorem again {I : Nat → List Nat → Env → State → Prop} {m m' : Nat} {L'' : Env} {S'' : State} (hI : I m' D L'' S'') (hm : m' < m := by omega) (hL : Knows L'' L := by (repeat (first | exact True.intro | (refine And.intro ?_ ?_; (· (try simp only [evT, lookT_hit, lookT_miss, Nat.reduceBEq]); (first | done | exact rfl)))))) (hS : Among S'' S := by first | ((repeat (first | with_reducible exact Among.nil _ | with_reducible exact Pick.head _ _ | with_reducible apply Pick.tail | with_reducible apply Among.cons)); done) | ((repeat (first | exact Among.nil _ | exact Pick.head _ _ | apply Pick.tail | apply Among.cons)); done)) : Again I m D L S := ⟨m', L'', S'', hm, hI, hL, hS⟩
theorem loop0 {I : Nat → List Nat → Env → State → Prop} {m : Nat} {L0 : Env} {S0 : State} (hI : I m D L0 S0) (hL : Knows L0 L := by (repeat (first | exact True.intro | (refine And.intro ?_ ?_; (· (try simp only [evT, lookT_hit, lookT_miss, Nat.reduceBEq]); (first | done | exact rfl)))))) (hS : Among S0 S := by first | ((repeat (first | with_reducible exact Among.nil _ | with_reducible exact Pick.head _ _ | with_reducible apply Pick.tail | with_reducible apply Among.cons)); done) | ((repeat (first | exact Among.nil _ | exact Pick.head _ _ | apply Pick.tail | apply Among.cons)); done)) : ∃ m L0 S0, I m D L0 S0 ∧ Knows L0 L ∧ Among S0 S := ⟨m, L0, S0, hI, hL, hS⟩
theorem pend {a b : Prop} (k : b) (h : a := by (first | exact trivial | ((with_reducible apply load_box); (· (repeat (first | with_reducible exact Lies.one | with_reducible apply Lies.next))); (· exact rfl)) | ((with_reducible apply load_one); (· (repeat (first | with_reducible exact Lies.one | with_reducible apply Lies.next))); (· exact rfl); (· exact rfl)) | (first | ((with_reducible apply load_rda8); (· assumption); (· (repeat (first | with_reducible assumption | with_reducible exact List.mem_cons_self .. | with_reducible apply List.mem_cons_of_mem))); (· (first | omega | assumption | (simp only [List.length_append, List.length_take, List.length_drop, List.length_map, List.length_replicate, List.length_range, List.length_set, List.length_cons, List.length_nil]; omega))); exact rfl) | ((with_reducible apply load_owa8); (· assumption); (· (repeat (first | with_reducible assumption | with_reducible exact List.mem_cons_self .. | with_reducible apply List.mem_cons_of_mem))); (· (first | omega | assumption | (simp only [List.length_append, List.length_take, List.length_drop, List.length_map, List.length_replicate, List.length_range, List.length_set, List.length_cons, List.length_nil]; omega))); exact rfl) | ((with_reducible apply load_rda); (· assumption); (· assumption); (· (repeat (first | with_reducible assumption | with_reducible exact List.mem_cons_self .. | with_reducible apply List.mem_cons_of_mem))); exact rfl) | ((with_reducible apply load_owa); (· assumption); (· assumption); (· (repeat (first | with_reducible assumption | with_reducible exact List.mem_cons_self .. | with_reducible apply List.mem_cons_of_mem))); exact rfl)))) : a ∧ b := ⟨h, k⟩
theorem less {c : Code} {L' : Env} {S' : State} (h : CodeW P n ro c K D L' S') (hL : Knows L' L := by (repeat (first | exact True.intro | (refine And.intro ?_ ?_; (· (try simp only [evT, lookT_hit, lookT_miss, Nat.reduceBEq]); (first | done | exact rfl)))))) (hS : Among S' S := by first | ((repeat (first | with_reducible exact Among.nil _ | with_reducible exact Pick.head _ _ | with_reducible apply Pick.tail | with_reducible apply Among.cons)); done) | ((repeat (first | exact Among.nil _ | exact Pick.head _ _ | apply Pick.tail | apply Among.cons)); done)) : CodeW P n ro c K D L S := code_less hL hS h
end control

/-- The results of a function that has rounds of loops to shut, or cells to read. -/
theorem back_cells {rs : List ResultVar} {R : Value → State → Prop} {F : Chunk} {D : List Nat} {L : Env} {S S1 : State} {vs : List Value} (A' : State) (hR : R (tupled vs) A')
    (ht : Take (marksOf D) S S1 := by (simp only [marksOf, List.map_cons, List.map_nil]; (repeat (first | with_reducible exact Take.nil _ | with_reducible exact Pick.head _ _ | with_reducible apply Pick.tail | with_reducible apply Take.cons))))
    (hr : ∀ κ : List Value → Prop, κ vs → resW P rs L S1 κ := by (intro κ hκ; simp only [resW, withV, lookT_hit, lookT_miss, Nat.reduceBEq]; (repeat (first | refine load_box (by (repeat (first | with_reducible exact Lies.one | with_reducible apply Lies.next))) ?_ | refine load_one (by (repeat (first | with_reducible exact Lies.one | with_reducible apply Lies.next))) rfl ?_)); exact hκ))
    (hs : Among (F :: A') S1 := by first | ((repeat (first | with_reducible exact Among.nil _ | with_reducible exact Pick.head _ _ | with_reducible apply Pick.tail | with_reducible apply Among.cons)); done) | ((repeat (first | exact Among.nil _ | exact Pick.head _ _ | apply Pick.tail | apply Among.cons)); done)) : RetK P rs R F .ret D L S := ⟨S1, ht, hr _ ⟨A', hR, hs⟩⟩
theorem back_cells_n {rs : List ResultVar} {R : Value → State → Prop} {F : Chunk} {D : List Nat} {L : Env} {S S1 : State} {vs : List Value} (A' : State) (hR : R (tupled vs) A')
    (ht : Take (marksOf D) S S1 := by (simp only [marksOf, List.map_cons, List.map_nil]; (repeat (first | with_reducible exact Take.nil _ | with_reducible exact Pick.head _ _ | with_reducible apply Pick.tail | with_reducible apply Take.cons))))
    (hr : ∀ κ : List Value → Prop, κ vs → resW P rs L S1 κ := by (intro κ hκ; simp only [resW, withV, lookT_hit, lookT_miss, Nat.reduceBEq]; (repeat (first | refine load_box (by (repeat (first | with_reducible exact Lies.one | with_reducible apply Lies.next))) ?_ | refine load_one (by (repeat (first | with_reducible exact Lies.one | with_reducible apply Lies.next))) rfl ?_)); exact hκ))
    (hs : Among (F :: A') S1 := by first | ((repeat (first | with_reducible exact Among.nil _ | with_reducible exact Pick.head _ _ | with_reducible apply Pick.tail | with_reducible apply Among.cons)); done) | ((repeat (first | exact Among.nil _ | exact Pick.head _ _ | apply Pick.tail | apply Among.cons)); done)) : RetK P rs R F .normal D L S := ⟨S1, ht, hr _ ⟨A', hR, hs⟩⟩

end Go.Ost
