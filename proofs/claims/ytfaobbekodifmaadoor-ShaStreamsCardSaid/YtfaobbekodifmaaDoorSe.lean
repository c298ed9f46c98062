/- A region whose order of evaluation Go leaves open, over chunks of memory: the rule. Conditions: none. -/
import Derived.Test.YtfaobbekodifmaaDoorSd
set_option linter.unusedSimpArgs false
set_option linter.unusedVariables false
namespace Go.Ost
open Go

variable {P : Program} {n : Nat} {ro : Option Nat}

abbrev Entry := Nat × Bool × List Nat

def dstOf (ops : Array Oper) (j : Nat) : Option Tmp := (ops[j]?).bind (·.dst)
def looksOf (ops : Array Oper) (j : Nat) : List Tmp := match ops[j]? with | some o => o.looksAt ops | none => []
def readsOf (ops : Array Oper) (j : Nat) : Bool := match ops[j]? with | some o => readsB o.op | none => false
def afterOf (ops : Array Oper) (j : Nat) : List Nat := match ops[j]? with | some o => (o.after.toList.filter (Region.binds .any)).map (·.on) | none => []

/-- What must hold of one entry, those in pre having been taken before it. -/
def okAt (ops : Array Oper) (A : List (List Nat)) (n : Nat) (pre : List Entry) (x : Entry) : Bool :=
  (afterOf ops x.1).all (fun j => pre.any (·.1 == j)) &&
  pre.all (fun y => !y.2.1 || (A.getD x.1 []).contains y.1) &&
  !pre.any (·.1 == x.1) &&
  pre.all (fun y => y.2.1 ||
    ((match dstOf ops y.1 with | some d => !(looksOf ops x.1).contains d || (A.getD x.1 []).contains y.1 | none => true) &&
     (match dstOf ops x.1 with | some d => (!(looksOf ops y.1).contains d && dstOf ops y.1 != some d) || (x.2.1 && (A.getD x.1 []).contains y.1) | none => true) &&
     (!x.2.1 || !readsOf ops y.1 || (A.getD x.1 []).contains y.1 || x.2.2.contains y.1))) &&
  (x.2.1 || (match dstOf ops x.1 with | some d => decide (d < n) && !(looksOf ops x.1).contains d | none => false)) &&
  decide (x.1 < ops.size)

def okPairs (ops : Array Oper) (A : List (List Nat)) (n : Nat) : List Entry → List Entry → Bool
  | _, [] => true
  | pre, x :: l => okAt ops A n pre x && okPairs ops A n (pre ++ [x]) l

/-- The ancestors of the operations, as far as their edges show them. -/
def certB (ops : Array Oper) (A : List (List Nat)) : Bool :=
  (List.range ops.size).all fun i => (A.getD i []).all fun j => (afterOf ops i).any fun e => e == j || (A.getD e []).contains j

def okDraw (ops : Array Oper) (A : List (List Nat)) (n : Nat) (pl : List Entry) : Bool :=
  certB ops A && okPairs ops A n [] pl && (List.range ops.size).all fun i => pl.any (·.1 == i)

def quietW (P : Program) (ops : Array Oper) (o : Oper) (L : Env) (S : State) (κ : Value → Prop) : Prop :=
  guardW ops o L (stepQ P o.op o.type L S κ) (κ undef)

def stillAll (P : Program) (ops : Array Oper) : List Nat → Env → State → Prop → Prop
  | [], _, _, p => p
  | j :: js, L, S, p =>
    match ops[j]? with
    | some o => (match o.dst with | some d => withV (lookT L d) fun v => quietW P ops o L S fun u => u = v | none => False) ∧ stillAll P ops js L S p
    | none => False

/-- The walk of the region, in the order of the plan. -/
def drawW (P : Program) (n : Nat) (ops : Array Oper) (K : Env → State → Prop) : List Entry → Env → State → Prop
  | [], L, S => K L S
  | (i, false, _) :: l, L, S =>
    match ops[i]? with
    | some o => quietW P ops o L S fun v => drawW P n ops K l (putT n o.dst v L) S
    | none => False
  | (i, true, pend) :: l, L, S =>
    match ops[i]? with
    | some o => guardW ops o L (stepW P o.op o.type L S fun v S' => stillAll P ops pend (putT n o.dst v L) S' (drawW P n ops K l (putT n o.dst v L) S'))
        (stillAll P ops pend (putT n o.dst undef L) S (drawW P n ops K l (putT n o.dst undef L) S))
    | none => False

def Yielding (P : Program) (ops : Array Oper) (o : Oper) (a : Act) (w : World) (v : Value) : Prop :=
  (Region.wanted o (yielded ops a.tmps) = true ∧ (execOp a.eval o).run P w = .ok (.value v) w) ∨ (Region.wanted o (yielded ops a.tmps) = false ∧ v = undef)

/-- The temporaries at which an operation looks hold what is known of them. -/
def Agrees (ts : List Tmp) (L : Env) (a : Act) : Prop := ∀ t ∈ ts, ∀ u, lookT L t = some u → a.tmps[t]? = some u

theorem guard_agrees {ops : Array Oper} {o : Oper} {L : Env} {a : Act} {A B : Prop} (ha : Agrees (o.looksAt ops) L a) (h : guardW ops o L A B) :
    (Region.wanted o (yielded ops a.tmps) = true ∧ A) ∨ (Region.wanted o (yielded ops a.tmps) = false ∧ B) := by
  unfold guardW at h
  cases hg : o.guard with
  | none => rw [hg] at h; exact .inl ⟨by simp [Region.wanted, hg], h⟩
  | some g =>
    obtain ⟨j, want⟩ := g
    rw [hg] at h
    simp only at h
    cases hd : (ops[j]?).bind (·.dst) with
    | none => rw [hd] at h; exact h.elim
    | some d =>
      rw [hd] at h
      simp only at h
      have hmem : d ∈ o.looksAt ops := by simp [Oper.looksAt, hg, hd]
      cases hv : lookT L d with
      | none => rw [hv] at h; exact h.elim
      | some v =>
        rw [hv] at h
        have ht := ha d hmem v hv
        cases v <;> first | exact h.elim | skip
        case bool b =>
          simp only [withV] at h
          split at h
          · subst_vars; exact .inl ⟨by simp [Region.wanted, hg, yielded, hd, ht], h⟩
          · rename_i hne; exact .inr ⟨by simp [Region.wanted, hg, yielded, hd, ht, hne], h⟩
        case tuple vs => exact .inr ⟨by simp [Region.wanted, hg, yielded, hd, ht], h⟩

/-- An act that knows all, and is as the act on what the operation looks at. -/
theorem full_rho {ops : Array Oper} {o : Oper} {L : Env} {a : Act} (ha : Agrees (o.looksAt ops) L a) :
    ∃ ρ : Operand → Value, (∀ x v, evT L x = some v → ρ x = v) ∧ ∀ x ∈ o.op.operands, ρ x = a.eval x := by
  refine ⟨fun x => (evT L x).getD (a.eval x), fun x v h => by simp [h], fun x hx => ?_⟩
  simp only
  cases h : evT L x with
  | none => rfl
  | some v =>
    simp only [Option.getD_some]
    cases x with
    | tmp t =>
      have hmem : t ∈ o.looksAt ops := List.mem_append_left _ (List.mem_filterMap.2 ⟨.tmp t, by simpa using hx, rfl⟩)
      have := ha t hmem v h
      simp [Act.eval, this]
    | const u => cases h; rfl
    | global g => cases h; rfl
    | func f => cases h; rfl

theorem stepQ_not_select {op : Op} {t : TypeId} {L : Env} {S : State} {κ : Value → Prop} (h : stepQ P op t L S κ) : ∀ cs b, op ≠ .select cs b := by intro cs b e; subst e; exact h
theorem stepQ_not_defer {op : Op} {t : TypeId} {L : Env} {S : State} {κ : Value → Prop} (h : stepQ P op t L S κ) : ∀ c, op ≠ .defer c := by intro cs e; subst e; exact h
theorem stepW_not_select {op : Op} {t : TypeId} {L : Env} {S : State} {κ : Value → State → Prop} (h : stepW P op t L S κ) : ∀ cs b, op ≠ .select cs b := by intro cs b e; subst e; exact h

theorem quiet_out {ops : Array Oper} {o : Oper} {L : Env} {S : State} {κ : Value → Prop} (h : quietW P ops o L S κ) :
    ∃ v, κ v ∧ ((∀ c, o.op ≠ .defer c) ∨ o.guard ≠ none) ∧ ∀ a w, Agrees (o.looksAt ops) L a → (readsB o.op = true → Hold w S) → Yielding P ops o a w v ∧ ((∀ c, o.op ≠ .defer c) ∨ Region.wanted o (yielded ops a.tmps) = false) := by
  unfold quietW at h
  by_cases hd : ∃ a, Agrees (o.looksAt ops) L a ∧ Region.wanted o (yielded ops a.tmps) = true
  · obtain ⟨a0, h1, h2⟩ := hd
    rcases guard_agrees h1 h with ⟨_, hs⟩ | ⟨h3, _⟩
    · obtain ⟨v, hk, hr⟩ := stepQ_out hs
      refine ⟨v, hk, .inl (stepQ_not_defer hs), fun a w ha hw => ⟨?_, .inl (stepQ_not_defer hs)⟩⟩
      -- the guard says the same to every act
      have hwn : Region.wanted o (yielded ops a.tmps) = true := by
        unfold guardW at h
        cases hg : o.guard with
        | none => simp [Region.wanted, hg]
        | some g =>
          obtain ⟨j, want⟩ := g
          rw [hg] at h
          simp only at h
          cases hdd : (ops[j]?).bind (·.dst) with
          | none => rw [hdd] at h; exact h.elim
          | some d =>
            rw [hdd] at h
            simp only at h
            have hmem : d ∈ o.looksAt ops := by simp [Oper.looksAt, hg, hdd]
            cases hv : lookT L d with
            | none => rw [hv] at h; exact h.elim
            | some v' =>
              have e1 := h1 d hmem v' hv
              have e2 := ha d hmem v' hv
              simp only [Region.wanted, hg, yielded, hdd, e1, e2, Option.bind_some] at h2 ⊢
              exact h2
      obtain ⟨ρ, hρ, he⟩ := full_rho ha
      refine .inl ⟨hwn, ?_⟩
      rw [← execOp_congr o (stepQ_not_select hs) he]
      exact hr ρ hρ w hw
    · rw [h2] at h3; cases h3
  · refine ⟨undef, ?_, ?_, fun a w ha _ => ?_⟩
    · by_cases hg : o.guard = none
      · exfalso
        exact hd ⟨{ tmps := Array.ofFn (n := (L.map (·.1)).foldr max 0 + 1) (fun i => (lookT L i).getD undef), defers := [] }, by
          intro t _ u hu
          have hb : ∀ (L : Env) t u, lookT L t = some u → t ≤ (L.map (·.1)).foldr max 0 := by
            intro L
            induction L with
            | nil => intro t u h; simp [lookT] at h
            | cons x L ih =>
              obtain ⟨d, v⟩ := x
              intro t u h
              simp only [lookT] at h
              simp only [List.map_cons, List.foldr_cons]
              split at h
              · subst_vars; exact Nat.le_max_left _ _
              · exact Nat.le_trans (ih t u h) (Nat.le_max_right _ _)
          have := hb L t u hu
          rw [Array.getElem?_ofFn]
          rw [dif_pos (by omega)]
          simp [hu], by simp [Region.wanted, hg]⟩
      · -- a guard that no act meets: passed over
        unfold guardW at h
        cases hg' : o.guard with
        | none => exact absurd hg' hg
        | some g =>
          obtain ⟨j, want⟩ := g
          rw [hg'] at h
          simp only at h
          cases hdd : (ops[j]?).bind (·.dst) with
          | none => rw [hdd] at h; exact h.elim
          | some d =>
            rw [hdd] at h
            simp only at h
            cases hv : lookT L d with
            | none => rw [hv] at h; exact h.elim
            | some v =>
              rw [hv] at h
              cases v <;> first | exact h.elim | skip
              case tuple vs => exact h
              case bool b =>
                simp only [withV] at h
                split at h
                · rename_i hb
                  exfalso
                  exact hd ⟨{ tmps := Array.ofFn (n := (L.map (·.1)).foldr max 0 + 1) (fun i => (lookT L i).getD undef), defers := [] }, by
                    intro t _ u hu
                    have hb : ∀ (L : Env) t u, lookT L t = some u → t ≤ (L.map (·.1)).foldr max 0 := by
                      intro L
                      induction L with
                      | nil => intro t u h; simp [lookT] at h
                      | cons x L ih =>
                        obtain ⟨d, v⟩ := x
                        intro t u h
                        simp only [lookT] at h
                        simp only [List.map_cons, List.foldr_cons]
                        split at h
                        · subst_vars; exact Nat.le_max_left _ _
                        · exact Nat.le_trans (ih t u h) (Nat.le_max_right _ _)
                    have := hb L t u hu
                    rw [Array.getElem?_ofFn]
                    rw [dif_pos (by omega)]
                    simp [hu], by
                    have hb' : ∀ (L : Env) t u, lookT L t = some u → t ≤ (L.map (·.1)).foldr max 0 := by
                      intro L
                      induction L with
                      | nil => intro t u h; simp [lookT] at h
                      | cons x L ih =>
                        obtain ⟨d, v⟩ := x
                        intro t u h
                        simp only [lookT] at h
                        simp only [List.map_cons, List.foldr_cons]
                        split at h
                        · subst_vars; exact Nat.le_max_left _ _
                        · exact Nat.le_trans (ih t u h) (Nat.le_max_right _ _)
                    have := hb' L d _ hv
                    simp only [Region.wanted, hg', yielded, hdd, Option.bind_some]
                    rw [Array.getElem?_ofFn, dif_pos (by omega)]
                    simp [hv, hb]⟩
                · exact h
    · by_cases hg : o.guard = none
      · exact .inl (by
          unfold guardW at h
          rw [hg] at h
          exact stepQ_not_defer h)
      · exact .inr hg
    · have hf : Region.wanted o (yielded ops a.tmps) = false := by
        cases hx : Region.wanted o (yielded ops a.tmps) with
        | false => rfl
        | true => exact absurd ⟨a, ha, hx⟩ hd
      exact ⟨.inr ⟨hf, rfl⟩, .inr hf⟩

theorem yielding_in {ops : Array Oper} {i : Nat} {o : Oper} {a : Act} {w : World} {v : Value} {K : Act → World → Prop} {Q : Exit → Act → World → Prop} (ho : ops[i]? = some o)
    (hy : Yielding P ops o a w v) (hd : (∀ c, o.op ≠ .defer c) ∨ Region.wanted o (yielded ops a.tmps) = false) (h : K (a.put o.dst v) w) : wpOpIn (FW ro) 0 P ops Q i K a w := by
  unfold wpOpIn
  rw [ho]
  simp only
  rcases hy with ⟨hw, hr⟩ | ⟨hw, rfl⟩
  · rw [if_pos hw]
    refine ⟨fun _ _ => trivial, ?_⟩
    rw [Oper.semAt_eq _ _ _ (hd.resolve_right (by simp [hw])), hr]
    exact h
  · rw [if_neg (by simp [hw])]
    exact ⟨fun _ _ => trivial, h⟩


theorem filter_less {p q : Nat → Bool} {i : Nat} : ∀ (l : List Nat), (∀ x, q x = true → p x = true) → i ∈ l → p i = true → q i = false → (l.filter q).length < (l.filter p).length
  | [], _, h, _, _ => by cases h
  | x :: l, hpq, hi, hp, hq => by
    have le : ∀ l : List Nat, (l.filter q).length ≤ (l.filter p).length := by
      intro l
      induction l with
      | nil => simp
      | cons y l ih =>
        simp only [List.filter_cons]
        by_cases h1 : q y = true
        · rw [if_pos h1, if_pos (hpq y h1)]; simpa using ih
        · rw [if_neg h1]
          split
          · simp only [List.length_cons]; omega
          · exact ih
    simp only [List.filter_cons]
    rcases List.mem_cons.1 hi with rfl | hi
    · rw [if_neg (by simp [hq]), if_pos hp]
      have := le l
      simp only [List.length_cons]; omega
    · have ih := filter_less l hpq hi hp hq
      by_cases h1 : q x = true
      · rw [if_pos h1, if_pos (hpq x h1)]; simp only [List.length_cons]; omega
      · rw [if_neg h1]
        split
        · simp only [List.length_cons]; omega
        · exact ih

theorem lookT_put {m : Nat} {dst : Option Tmp} {v : Value} {L : Env} {t : Nat} {u : Value} (h : lookT (putT m dst v L) t = some u) : (dst = some t ∧ t < m ∧ u = v) ∨ (lookT L t = some u) := by
  cases dst with
  | none => exact .inr h
  | some d =>
    simp only [putT] at h
    split at h
    · simp only [lookT] at h
      split at h
      · cases h; subst_vars; exact .inl ⟨rfl, ‹_›, rfl⟩
      · exact .inr h
    · exact .inr h
theorem lookT_put_ne {m : Nat} {dst : Option Tmp} {v : Value} {L : Env} {t : Nat} (h : dst ≠ some t) : lookT (putT m dst v L) t = lookT L t := by
  cases dst with
  | none => rfl
  | some d =>
    simp only [putT]
    split
    · simp only [lookT]; rw [if_neg (fun e => h (by rw [e]))]
    · rfl

/-- Between two operations of the region. -/
structure DInv (P : Program) (n : Nat) (ops : Array Oper) (A : List (List Nat)) (K : Env → State → Prop) (D : List Nat) (w0 : World) (pre l : List Entry) (listed : Array Bool) (L : Env) (S : State) (a : Act) (w : World) : Prop where
  size : listed.size = ops.size
  inPre : ∀ i, listed.getD i false = true → ∃ x ∈ pre, x.1 = i
  effs : ∀ x ∈ pre, x.2.1 = true → listed.getD x.1 false = true
  clos : ∀ i, listed.getD i false = true → ∀ j ∈ A.getD i [], listed.getD j false = true
  tmps : ∀ t v, lookT L t = some v → (∃ x ∈ pre, listed.getD x.1 false = false ∧ dstOf ops x.1 = some t) ∨ a.tmps[t]? = some v
  facts : ∀ x ∈ pre, listed.getD x.1 false = false → ∃ o v, ops[x.1]? = some o ∧ (∃ d, o.dst = some d ∧ d < n ∧ lookT L d = some v) ∧
    ∀ a' w', Agrees (o.looksAt ops) L a' → (readsB o.op = true → Hold w' S) → Yielding P ops o a' w' v ∧ ((∀ c, o.op ≠ .defer c) ∨ Region.wanted o (yielded ops a'.tmps) = false)
  prs : ∀ x ∈ pre, ∀ y ∈ pre, x.2.1 = false → y.2.1 = false → ∀ d, dstOf ops y.1 = some d → d ∈ looksOf ops x.1 → y.1 ∈ A.getD x.1 []
  asz : a.tmps.size = n
  dfr : a.defers = D.map markD
  ext : Ext w0 w
  hold : Hold w S
  ok : okPairs ops A n pre l = true
  pres : okPairs ops A n [] pre = true
  all : ∀ i, i < ops.size → (∃ x ∈ pre, x.1 = i) ∨ ∃ x ∈ l, x.1 = i
  rest : drawW P n ops K l L S

theorem okAt_parts {ops : Array Oper} {A : List (List Nat)} {pre : List Entry} {x : Entry} (h : okAt ops A n pre x = true) :
    (∀ j ∈ afterOf ops x.1, ∃ y ∈ pre, y.1 = j) ∧ (∀ y ∈ pre, y.2.1 = true → y.1 ∈ A.getD x.1 []) ∧ (∀ y ∈ pre, y.1 ≠ x.1) ∧
    (∀ y ∈ pre, y.2.1 = false → (∀ d, dstOf ops y.1 = some d → d ∈ looksOf ops x.1 → y.1 ∈ A.getD x.1 []) ∧
      (∀ d, dstOf ops x.1 = some d → (d ∉ looksOf ops y.1 ∧ dstOf ops y.1 ≠ some d) ∨ (x.2.1 = true ∧ y.1 ∈ A.getD x.1 [])) ∧
      (x.2.1 = true → readsOf ops y.1 = true → y.1 ∈ A.getD x.1 [] ∨ y.1 ∈ x.2.2)) ∧
    (x.2.1 = false → ∃ d, dstOf ops x.1 = some d ∧ d < n ∧ d ∉ looksOf ops x.1) ∧ x.1 < ops.size := by
  simp only [okAt, Bool.and_eq_true, decide_eq_true_eq] at h
  obtain ⟨⟨⟨⟨⟨h1, h2⟩, h3⟩, h4⟩, h5⟩, h6⟩ := h
  refine ⟨fun j hj => ?_, fun y hy he => ?_, fun y hy he => ?_, fun y hy he => ⟨fun d hd hl => ?_, fun d hd => ?_, fun hx hr => ?_⟩, fun hx => ?_, h6⟩
  · have := List.all_eq_true.1 h1 j hj
    obtain ⟨y, hy, e⟩ := List.any_eq_true.1 this
    exact ⟨y, hy, by simpa using e⟩
  · have := List.all_eq_true.1 h2 y hy
    simpa [he] using this
  · simp only [Bool.not_eq_true', List.any_eq_false] at h3
    exact h3 y hy (by simpa using he)
  · have := List.all_eq_true.1 h4 y hy
    simp only [he, Bool.false_or, Bool.and_eq_true, hd] at this
    simpa [hl] using this.1.1
  · have := List.all_eq_true.1 h4 y hy
    simp only [he, Bool.false_or, Bool.and_eq_true, hd] at this
    have := this.1.2
    simp only [Bool.or_eq_true, Bool.and_eq_true, Bool.not_eq_true', List.contains_eq_mem, decide_eq_false_iff_not, bne_iff_ne, ne_eq, decide_eq_true_eq] at this
    exact this
  · have := List.all_eq_true.1 h4 y hy
    simp only [he, Bool.false_or, Bool.and_eq_true] at this
    have := this.2
    simpa [hx, hr] using this
  · simp only [hx, Bool.false_or] at h5
    cases hd : dstOf ops x.1 with
    | none => rw [hd] at h5; cases h5
    | some d =>
      rw [hd] at h5
      simp only [Bool.and_eq_true, decide_eq_true_eq, Bool.not_eq_true', List.contains_eq_mem, decide_eq_false_iff_not] at h5
      exact ⟨d, rfl, h5.1, h5.2⟩

theorem okPairs_snoc {ops : Array Oper} {A : List (List Nat)} {x : Entry} : ∀ (l pre : List Entry), okPairs ops A n pre l = true → okAt ops A n (pre ++ l) x = true → okPairs ops A n pre (l ++ [x]) = true
  | [], pre, _, h => by simpa [okPairs] using h
  | y :: l, pre, h, hx => by
    simp only [okPairs, Bool.and_eq_true, List.cons_append] at h ⊢
    exact ⟨h.1, okPairs_snoc l _ h.2 (by simpa using hx)⟩
theorem okPairs_get {ops : Array Oper} {A : List (List Nat)} {x : Entry} : ∀ (l pre : List Entry) (k : Nat), okPairs ops A n pre l = true → l[k]? = some x → okAt ops A n (pre ++ l.take k) x = true
  | [], _, _, _, h => by simp at h
  | y :: l, pre, 0, h, hx => by
    simp only [okPairs, Bool.and_eq_true] at h
    simp at hx; subst hx
    simpa using h.1
  | y :: l, pre, k + 1, h, hx => by
    simp only [okPairs, Bool.and_eq_true] at h
    simp only [List.getElem?_cons_succ] at hx
    have := okPairs_get l (pre ++ [y]) k h.2 hx
    simpa using this

theorem okPairs_mem {ops : Array Oper} {A : List (List Nat)} : ∀ (l pre : List Entry), okPairs ops A n pre l = true → ∀ x ∈ l, ∃ q, okAt ops A n (pre ++ q) x = true
  | [], _, _, x, hx => by cases hx
  | y :: l, pre, h, x, hx => by
    simp only [okPairs, Bool.and_eq_true] at h
    rcases List.mem_cons.1 hx with rfl | hx
    · exact ⟨[], by simpa using h.1⟩
    · obtain ⟨q, hq⟩ := okPairs_mem l (pre ++ [y]) h.2 x hx
      exact ⟨y :: q, by simpa using hq⟩

/-- What changes nothing is taken at once. -/
theorem DInv.norm {ops : Array Oper} {A : List (List Nat)} {K : Env → State → Prop} {D : List Nat} {w0 : World} : ∀ (l pre : List Entry) (listed : Array Bool) (L : Env) (S : State) (a : Act) (w : World),
    DInv P n ops A K D w0 pre l listed L S a w → ∃ pre' l' L', DInv P n ops A K D w0 pre' l' listed L' S a w ∧ (l' = [] ∨ ∃ i pend l'', l' = (i, true, pend) :: l'')
  | [], pre, listed, L, S, a, w, h => ⟨pre, [], L, h, .inl rfl⟩
  | (i, true, pend) :: l, pre, listed, L, S, a, w, h => ⟨pre, _, L, h, .inr ⟨i, pend, l, rfl⟩⟩
  | (i, false, pend) :: l, pre, listed, L, S, a, w, h => by
    have hok := h.ok
    simp only [okPairs, Bool.and_eq_true] at hok
    obtain ⟨o1, o2, o3, o4, o5, o6⟩ := okAt_parts hok.1
    obtain ⟨d, hd, hdn, hdl⟩ := o5 rfl
    have hr := h.rest
    simp only [drawW] at hr
    cases ho : ops[i]? with
    | none => rw [ho] at hr; exact hr.elim
    | some o =>
      rw [ho] at hr
      simp only at hr
      obtain ⟨v, hk, _, hq⟩ := quiet_out hr
      have hdo : o.dst = some d := by simpa [dstOf, ho] using hd
      have hlo : looksOf ops i = o.looksAt ops := by simp [looksOf, ho]
      have hunl : listed.getD i false = false := by
        cases hx : listed.getD i false with
        | false => rfl
        | true => obtain ⟨y, hy, e⟩ := h.inPre i hx; exact absurd e (o3 y hy)
      have hL : putT n o.dst v L = (d, v) :: L := by simp [putT, hdo, hdn]
      rw [hL] at hk
      have keepA : ∀ (ts : List Tmp) (a' : Act), d ∉ ts → Agrees ts ((d, v) :: L) a' → Agrees ts L a' := by
        intro ts a' hn ha t ht u hu
        refine ha t ht u ?_
        simp only [lookT]
        rw [if_neg (fun e => hn (by rw [← e]; exact ht))]
        exact hu
      refine DInv.norm l (pre ++ [(i, false, pend)]) listed ((d, v) :: L) S a w ⟨h.size, ?_, ?_, h.clos, ?_, ?_, ?_, h.asz, h.dfr, h.ext, h.hold, hok.2, okPairs_snoc _ _ h.pres (by simpa using hok.1), ?_, hk⟩
      · intro j hj; obtain ⟨x, hx, e⟩ := h.inPre j hj; exact ⟨x, List.mem_append_left _ hx, e⟩
      · intro x hx he
        rcases List.mem_append.1 hx with hx | hx
        · exact h.effs x hx he
        · simp at hx; subst hx; cases he
      · intro t u hu
        simp only [lookT] at hu
        split at hu
        · subst_vars; exact .inl ⟨(i, false, pend), by simp, hunl, hd⟩
        · rcases h.tmps t u hu with ⟨x, hx, h1, h2⟩ | h3
          · exact .inl ⟨x, List.mem_append_left _ hx, h1, h2⟩
          · exact .inr h3
      · intro x hx hxl
        rcases List.mem_append.1 hx with hx | hx
        · obtain ⟨o', v', h1, ⟨d', h2, h3, h4⟩, h5⟩ := h.facts x hx hxl
          have hxe : x.2.1 = false := by
            cases hh : x.2.1 with
            | false => rfl
            | true => rw [h.effs x hx hh] at hxl; cases hxl
          have hne := ((o4 x hx hxe).2.1 d hd).resolve_right (fun hh => by cases hh.1)
          have hd' : dstOf ops x.1 = some d' := by simp [dstOf, h1, h2]
          refine ⟨o', v', h1, ⟨d', h2, h3, ?_⟩, fun a' w' ha hw => h5 a' w' (keepA _ a' (by simpa [looksOf, h1] using hne.1) ha) hw⟩
          simp only [lookT]
          rw [if_neg (fun e => hne.2 (by rw [hd', e]))]
          exact h4
        · simp at hx; subst hx
          refine ⟨o, v, ho, ⟨d, hdo, hdn, by simp [lookT]⟩, fun a' w' ha hw => hq a' w' (keepA _ a' (by rw [← hlo]; exact hdl) ha) hw⟩
      · intro x hx y hy hxe hye d' hd' hl'
        rcases List.mem_append.1 hx with hx | hx
        · rcases List.mem_append.1 hy with hy | hy
          · exact h.prs x hx y hy hxe hye d' hd' hl'
          · simp at hy; subst hy
            rw [hd] at hd'; cases hd'
            exact absurd hl' (((o4 x hx hxe).2.1 d hd).resolve_right (fun hh => by cases hh.1)).1
        · simp at hx; subst hx
          rcases List.mem_append.1 hy with hy | hy
          · exact (o4 y hy hye).1 d' hd' hl'
          · simp at hy; subst hy
            rw [hd] at hd'; cases hd'
            exact absurd hl' hdl
      · intro j hj
        rcases h.all j hj with ⟨x, hx, e⟩ | ⟨x, hx, e⟩
        · exact .inl ⟨x, List.mem_append_left _ hx, e⟩
        · rcases List.mem_cons.1 hx with rfl | hx
          · exact .inl ⟨_, by simp, e⟩
          · exact .inr ⟨x, hx, e⟩


theorem getD_set {listed : Array Bool} {i j : Nat} (hi : i < listed.size) : (listed.setIfInBounds i true).getD j false = (if j = i then true else listed.getD j false) := by
  simp only [Array.getD_eq_getD_getElem?, Array.getElem?_setIfInBounds]
  by_cases h : i = j
  · subst h; simp [hi]
  · rw [if_neg h, if_neg (Ne.symm h)]

theorem still_out {ops : Array Oper} {L : Env} {S : State} {p : Prop} : ∀ (js : List Nat), stillAll P ops js L S p → p ∧ ∀ j ∈ js, ∃ o d v, ops[j]? = some o ∧ o.dst = some d ∧ lookT L d = some v ∧ quietW P ops o L S fun u => u = v
  | [], h => ⟨h, fun j hj => by cases hj⟩
  | j :: js, h => by
    simp only [stillAll] at h
    cases ho : ops[j]? with
    | none => rw [ho] at h; exact h.elim
    | some o =>
      rw [ho] at h
      obtain ⟨h1, h2⟩ := h
      obtain ⟨hp, hr⟩ := still_out js h2
      refine ⟨hp, fun k hk => ?_⟩
      rcases List.mem_cons.1 hk with rfl | hk
      · cases hd : o.dst with
        | none => rw [hd] at h1; exact h1.elim
        | some d =>
          rw [hd] at h1
          cases hv : lookT L d with
          | none => simp only [hv] at h1; exact h1.elim
          | some v => simp only [hv] at h1; exact ⟨o, d, v, ho, hd, hv, h1⟩
      · exact hr k hk

theorem draw_core {ops : Array Oper} {A : List (List Nat)} {K : Cont} {D : List Nat} {w0 : World} (hc : certB ops A = true) : ∀ (fuel : Nat) (pre l : List Entry) (listed : Array Bool) (L : Env) (S : State) (a : Act) (w : World),
    DInv P n ops A (K .normal D) D w0 pre l listed L S a w → ((List.range ops.size).filter fun i => !listed.getD i false).length ≤ fuel →
    wpAnyIn (FW ro) 0 P .any ops (KQ n K w0) fuel listed a w := by
  intro fuel
  -- at a moment at which nothing is ready, all is done
  have fin : ∀ (pre l : List Entry) (listed : Array Bool) (L : Env) (S : State) (a : Act) (w : World), DInv P n ops A (K .normal D) D w0 pre l listed L S a w → Region.ready .any ops listed = [] → KQ n K w0 .normal a w := by
    intro pre l listed L S a w h hr
    obtain ⟨pre, l, L, h, hl⟩ := h.norm
    -- an operation whose edges all lead to what is done is ready
    have ready : ∀ i, i < ops.size → (∀ j ∈ afterOf ops i, listed.getD j false = true) → listed.getD i false = true := by
      intro i hi hall
      cases hx : listed.getD i false with
      | true => rfl
      | false =>
        exfalso
        have : i ∈ Region.ready .any ops listed := by
          refine List.mem_filter.2 ⟨List.mem_range.2 hi, ?_⟩
          have hsz : i < listed.size := by rw [h.size]; exact hi
          have h1 : listed.getD i true = false := by simpa [Array.getD_eq_getD_getElem?, hsz] using hx
          have ho : ops[i]? = some ops[i] := by simp [hi]
          rw [h1, ho]
          simp only [Option.map_some, Option.getD_some, Bool.not_false, Bool.true_and]
          rw [Array.all_eq_true']
          intro e he
          by_cases hb : Region.binds .any e = true
          · have := hall e.on (by simp only [afterOf, ho]; exact List.mem_map.2 ⟨e, List.mem_filter.2 ⟨by simpa using he, hb⟩, rfl⟩)
            simp [this]
          · simp [hb]
        rw [hr] at this; cases this
    have pend : ∀ (k : Nat) (x : Entry), pre[k]? = some x → listed.getD x.1 false = true := by
      intro k
      induction k using Nat.strongRecOn with
      | _ k ih =>
        intro x hx
        obtain ⟨o1, _, _, _, _, o6⟩ := okAt_parts (okPairs_get pre [] k h.pres hx)
        refine ready x.1 o6 fun j hj => ?_
        obtain ⟨y, hy, e⟩ := o1 j hj
        rw [List.nil_append] at hy
        obtain ⟨k', hk'⟩ := List.mem_iff_getElem?.1 hy
        have hlt : k' < k := by
          have := (List.getElem?_eq_some_iff.1 hk').1
          simp at this; omega
        rw [← e]
        refine ih k' hlt y ?_
        rw [List.getElem?_take_of_lt hlt] at hk'
        exact hk'
    rcases hl with rfl | ⟨i, pd, l'', rfl⟩
    · refine ⟨D, L, S, h.rest, ⟨h.asz, fun t v ht => ?_, h.dfr⟩, h.ext, h.hold⟩
      rcases h.tmps t v ht with ⟨x, hx, h1, _⟩ | h3
      · obtain ⟨k, hk⟩ := List.mem_iff_getElem?.1 hx
        rw [pend k x hk] at h1; cases h1
      · exact h3
    · exfalso
      have hok := h.ok
      simp only [okPairs, Bool.and_eq_true] at hok
      obtain ⟨o1, _, o3, _, _, o6⟩ := okAt_parts hok.1
      have hi : listed.getD i false = true := by
        refine ready i o6 fun j hj => ?_
        obtain ⟨y, hy, e⟩ := o1 j hj
        obtain ⟨k, hk⟩ := List.mem_iff_getElem?.1 hy
        rw [← e]; exact pend k y hk
      obtain ⟨y, hy, e⟩ := h.inPre i hi
      exact o3 y hy e
  induction fuel with
  | zero =>
    intro pre l listed L S a w h hle
    have hr : Region.ready .any ops listed = [] := by
      have h0 : ((List.range ops.size).filter fun i => !listed.getD i false) = [] := List.eq_nil_of_length_eq_zero (Nat.le_zero.1 hle)
      unfold Region.ready
      rw [List.filter_eq_nil_iff] at h0 ⊢
      intro i hi
      have := h0 i hi
      have hsz : i < listed.size := by rw [h.size]; exact List.mem_range.1 hi
      simp only [Array.getD_eq_getD_getElem?, hsz, Array.getElem?_eq_getElem, Option.getD_some] at this ⊢
      simp only [Bool.not_eq_true', Bool.not_eq_false] at this
      simp [this]
    exact ⟨hr, fin pre l listed L S a w h hr⟩
  | succ fuel ih =>
    intro pre l listed L S a w h hle
    refine ⟨fun hr => fin pre l listed L S a w h hr, fun i hi => ?_⟩
    obtain ⟨pre, l, L, h, hl⟩ := h.norm
    obtain ⟨hi1, hi2⟩ := List.mem_filter.1 hi
    have him := List.mem_range.1 hi1
    have hsz : i < listed.size := by rw [h.size]; exact him
    have ho : ops[i]? = some ops[i] := by simp [him]
    rw [ho] at hi2
    simp only [Option.map_some, Option.getD_some, Bool.and_eq_true, Bool.not_eq_true'] at hi2
    have hun : listed.getD i false = false := by
      have := hi2.1
      simpa [Array.getD_eq_getD_getElem?, hsz] using this
    have hdep : ∀ j ∈ afterOf ops i, listed.getD j false = true := by
      intro j hj
      simp only [afterOf, ho] at hj
      obtain ⟨e, he, rfl⟩ := List.mem_map.1 hj
      obtain ⟨he1, he2⟩ := List.mem_filter.1 he
      have := hi2.2
      rw [Array.all_eq_true'] at this
      have := this e (by simpa using he1)
      simpa [he2] using this
    have hanc : ∀ j ∈ A.getD i [], listed.getD j false = true := by
      intro j hj
      have h1 := List.all_eq_true.1 hc i (List.mem_range.2 him)
      have h2 := List.all_eq_true.1 h1 j hj
      obtain ⟨e, he, h3⟩ := List.any_eq_true.1 h2
      simp only [Bool.or_eq_true, beq_iff_eq, List.contains_eq_mem, decide_eq_true_eq] at h3
      rcases h3 with rfl | h3
      · exact hdep _ he
      · exact h.clos e (hdep e he) j h3
    have hsize' : (listed.setIfInBounds i true).size = ops.size := by simp [h.size]
    have hclos' : ∀ k, (listed.setIfInBounds i true).getD k false = true → ∀ j ∈ A.getD k [], (listed.setIfInBounds i true).getD j false = true := by
      intro k hk j hj
      rw [getD_set hsz] at hk ⊢
      split
      · rfl
      · split at hk
        · subst_vars; exact hanc j hj
        · exact h.clos k hk j hj
    have hcount : ((List.range ops.size).filter fun k => !(listed.setIfInBounds i true).getD k false).length ≤ fuel := by
      have := filter_less (p := fun k => !listed.getD k false) (q := fun k => !(listed.setIfInBounds i true).getD k false) (i := i) (List.range ops.size) (fun x hx => by
        simp only [getD_set hsz] at hx
        split at hx
        · simp at hx
        · exact hx) hi1 (by simp [hun]) (by simp [getD_set hsz])
      omega
    by_cases hin : ∃ x ∈ pre, x.1 = i
    · -- it has been reckoned
      obtain ⟨x, hx, rfl⟩ := hin
      have hxe : x.2.1 = false := by
        cases hh : x.2.1 with
        | false => rfl
        | true => rw [h.effs x hx hh] at hun; cases hun
      obtain ⟨o, v, ho', ⟨d, hd, hdn, hv⟩, hf⟩ := h.facts x hx hun
      have hag : Agrees (o.looksAt ops) L a := by
        intro t ht u hu
        rcases h.tmps t u hu with ⟨y, hy, h1, h2⟩ | h3
        · exfalso
          have hye : y.2.1 = false := by
            cases hh : y.2.1 with
            | false => rfl
            | true => rw [h.effs y hy hh] at h1; cases h1
          have := hanc _ (h.prs x hx y hy hxe hye t h2 (by simpa [looksOf, ho'] using ht))
          rw [h1] at this; cases this
        · exact h3
      obtain ⟨hy, hnd⟩ := hf a w hag (fun _ => h.hold)
      refine yielding_in ho' hy hnd (ih pre l _ L S _ w ⟨hsize', ?_, ?_, hclos', ?_, ?_, h.prs, ?_, ?_, h.ext, h.hold, h.ok, h.pres, h.all, h.rest⟩ hcount)
      · intro k hk
        rw [getD_set hsz] at hk
        split at hk
        · exact ⟨x, hx, by subst_vars; rfl⟩
        · exact h.inPre k hk
      · intro y hy he
        rw [getD_set hsz]
        split
        · rfl
        · exact h.effs y hy he
      · intro t u hu
        by_cases htd : d = t
        · subst htd
          rw [hv] at hu; cases hu
          right
          simp [hd, Act.put, h.asz, hdn]
        · rcases h.tmps t u hu with ⟨y, hy, h1, h2⟩ | h3
          · refine .inl ⟨y, hy, ?_, h2⟩
            rw [getD_set hsz]
            rw [if_neg]
            · exact h1
            · intro e
              have : dstOf ops x.1 = some t := by rw [← e]; exact h2
              simp only [dstOf, ho', Option.bind_some, hd, Option.some.injEq] at this
              exact htd this
          · right
            simp only [hd, Act.put, Array.getElem?_setIfInBounds_ne htd]
            exact h3
      · intro y hy hyl
        refine h.facts y hy ?_
        rw [getD_set hsz] at hyl
        split at hyl
        · cases hyl
        · exact hyl
      · simp [hd, Act.put, h.asz]
      · simp only [hd, Act.put]; exact h.dfr
    · -- it is what comes next
      have hnx : ∃ pd l'', l = (i, true, pd) :: l'' := by
        rcases (h.all i him).resolve_left hin with ⟨x, hx, he⟩
        rcases hl with rfl | ⟨j, pd, l'', rfl⟩
        · cases hx
        · rcases List.mem_cons.1 hx with rfl | hx
          · cases he; exact ⟨pd, l'', rfl⟩
          · exfalso
            have hok := h.ok
            simp only [okPairs, Bool.and_eq_true] at hok
            obtain ⟨q, hq⟩ := okPairs_mem l'' _ hok.2 x hx
            obtain ⟨_, o2, _⟩ := okAt_parts hq
            have := hanc j (by rw [← he]; exact o2 (j, true, pd) (by simp) rfl)
            obtain ⟨y, hy, e⟩ := h.inPre j this
            obtain ⟨_, _, o3, _⟩ := okAt_parts hok.1
            exact o3 y hy e
      obtain ⟨pd, l'', rfl⟩ := hnx
      have hok := h.ok
      simp only [okPairs, Bool.and_eq_true] at hok
      obtain ⟨o1, o2, o3, o4, o5, o6⟩ := okAt_parts hok.1
      have hag : Agrees (ops[i].looksAt ops) L a := by
        intro t ht u hu
        rcases h.tmps t u hu with ⟨y, hy, h1, h2⟩ | h3
        · exfalso
          have hye : y.2.1 = false := by
            cases hh : y.2.1 with
            | false => rfl
            | true => rw [h.effs y hy hh] at h1; cases h1
          have := hanc _ ((o4 y hy hye).1 t h2 (by simpa [looksOf, ho] using ht))
          rw [h1] at this; cases this
        · exact h3
      have hrest := h.rest
      simp only [drawW, ho] at hrest
      -- behind it
      have next : ∀ (v : Value) (S' : State) (w' : World), Ext w w' → Hold w' S' → stillAll P ops pd (putT n (ops[i]).dst v L) S' (drawW P n ops (K .normal D) l'' (putT n (ops[i]).dst v L) S') →
          wpAnyIn (FW ro) 0 P .any ops (KQ n K w0) fuel (listed.setIfInBounds i true) (a.put (ops[i]).dst v) w' := by
        intro v S' w' he hh hst
        obtain ⟨hdraw, hstill⟩ := still_out pd hst
        have hdi : dstOf ops i = (ops[i]).dst := by simp [dstOf, ho]
        -- of an entry that is still to come to its place nothing has turned
        have away : ∀ y ∈ pre, (listed.setIfInBounds i true).getD y.1 false = false → y.2.1 = false ∧ listed.getD y.1 false = false ∧ y.1 ∉ A.getD i [] ∧
            ∀ d, (ops[i]).dst = some d → d ∉ looksOf ops y.1 ∧ dstOf ops y.1 ≠ some d := by
          intro y hy hyl
          rw [getD_set hsz] at hyl
          split at hyl
          · cases hyl
          · have hye : y.2.1 = false := by
              cases hh : y.2.1 with
              | false => rfl
              | true => rw [h.effs y hy hh] at hyl; cases hyl
            have hna : y.1 ∉ A.getD i [] := fun hm => by rw [hanc _ hm] at hyl; cases hyl
            exact ⟨hye, hyl, hna, fun d hd => ((o4 y hy hye).2.1 d (by rw [hdi]; exact hd)).resolve_right (fun hc => hna hc.2)⟩
        refine ih (pre ++ [(i, true, pd)]) l'' _ (putT n (ops[i]).dst v L) S' _ w' ⟨hsize', ?_, ?_, hclos', ?_, ?_, ?_, ?_, ?_, h.ext.trans he, hh, hok.2, okPairs_snoc _ _ h.pres (by simpa using hok.1), ?_, hdraw⟩ hcount
        · intro k hk
          rw [getD_set hsz] at hk
          split at hk
          · exact ⟨(i, true, pd), by simp, by subst_vars; rfl⟩
          · obtain ⟨y, hy, e⟩ := h.inPre k hk; exact ⟨y, List.mem_append_left _ hy, e⟩
        · intro y hy hye
          rw [getD_set hsz]
          split
          · rfl
          · rcases List.mem_append.1 hy with hy | hy
            · exact h.effs y hy hye
            · simp at hy; subst hy; exact absurd rfl ‹_›
        · intro t u hu
          rcases lookT_put hu with ⟨h1, h2, rfl⟩ | h1
          · right; simp [h1, Act.put, h.asz, h2]
          · by_cases hdt : (ops[i]).dst = some t ∧ t < n
            · have : lookT (putT n (ops[i]).dst v L) t = some v := by simp [hdt.1, putT, hdt.2, lookT]
              rw [this] at hu; cases hu
              right; simp [hdt.1, Act.put, h.asz, hdt.2]
            · have keep : a.tmps[t]? = some u → (a.put (ops[i]).dst v).tmps[t]? = some u := by
                intro hat
                cases hd : (ops[i]).dst with
                | none => exact hat
                | some d =>
                  simp only [Act.put]
                  by_cases e : d = t
                  · subst e
                    have := (Array.getElem?_eq_some_iff.1 hat).1
                    rw [h.asz] at this
                    exact absurd ⟨hd, this⟩ hdt
                  · rw [Array.getElem?_setIfInBounds_ne e]; exact hat
              rcases h.tmps t u h1 with ⟨y, hy, h2, h3⟩ | h3
              · by_cases hyi : (listed.setIfInBounds i true).getD y.1 false = false
                · exact .inl ⟨y, List.mem_append_left _ hy, hyi, h3⟩
                · exfalso
                  rw [getD_set hsz] at hyi
                  split at hyi
                  · exact hin ⟨y, hy, ‹_›⟩
                  · exact hyi h2
              · exact .inr (keep h3)
        · intro y hy hyl
          rcases List.mem_append.1 hy with hy | hy
          · obtain ⟨hye, hyl', hna, hnd⟩ := away y hy hyl
            obtain ⟨o, v', ho', ⟨d, hd, hdn, hv⟩, hf⟩ := h.facts y hy hyl'
            have hlk : ∀ t, t ∈ o.looksAt ops ∨ t = d → lookT (putT n (ops[i]).dst v L) t = lookT L t := by
              intro t ht
              refine lookT_put_ne fun e => ?_
              obtain ⟨n1, n2⟩ := hnd t e
              rcases ht with ht | rfl
              · exact n1 (by simpa [looksOf, ho'] using ht)
              · exact n2 (by simp [dstOf, ho', hd])
            by_cases hrd : readsB o.op = true
            · have hmem : y.1 ∈ pd := by
                have := (o4 y hy hye).2.2 rfl (by simp [readsOf, ho', hrd])
                exact this.resolve_left hna
              obtain ⟨o2, d2, v2, e1, e2, e3, hq⟩ := hstill y.1 hmem
              rw [ho'] at e1; cases e1
              rw [hd] at e2; cases e2
              obtain ⟨v3, rfl, _, hq'⟩ := quiet_out hq
              refine ⟨o, v3, ho', ⟨d, hd, hdn, e3⟩, fun a' w'' ha hw => hq' a' w'' ha hw⟩
            · refine ⟨o, v', ho', ⟨d, hd, hdn, by rw [hlk d (.inr rfl)]; exact hv⟩, fun a' w'' ha _ => hf a' w'' (fun t ht u hu => ha t ht u (by rw [hlk t (.inl ht)]; exact hu)) (fun hh => absurd hh hrd)⟩
          · simp at hy; subst hy
            rw [getD_set hsz] at hyl; simp at hyl
        · intro x hx y hy hxe hye d' hd' hl'
          rcases List.mem_append.1 hx with hx | hx
          · rcases List.mem_append.1 hy with hy | hy
            · exact h.prs x hx y hy hxe hye d' hd' hl'
            · simp at hy; subst hy; cases hye
          · simp at hx; subst hx; cases hxe
        · cases (ops[i]).dst <;> simp [Act.put, h.asz]
        · cases (ops[i]).dst <;> exact h.dfr
        · intro j hj
          rcases h.all j hj with ⟨x, hx, e⟩ | ⟨x, hx, e⟩
          · exact .inl ⟨x, List.mem_append_left _ hx, e⟩
          · rcases List.mem_cons.1 hx with rfl | hx
            · exact .inl ⟨_, by simp, e⟩
            · exact .inr ⟨x, hx, e⟩
      unfold wpOpIn
      rw [ho]
      simp only
      rcases guard_agrees hag hrest with ⟨hw1, hs⟩ | ⟨hw1, hs⟩
      · rw [if_pos hw1]
        obtain ⟨ρ, hρ, hρe⟩ := full_rho hag
        refine ⟨fun _ _ => trivial, ?_⟩
        rw [Oper.semAt_eq _ _ _ (step_not_defer hs), ← execOp_congr _ (stepW_not_select hs) hρe]
        exact upon_next (step_next hρ hs) h.hold fun v S' w' hk he hh => next v S' w' he hh hk
      · rw [if_neg (by simp [hw1])]
        exact ⟨fun _ _ => trivial, next undef S w (Ext.refl w) h.hold hs⟩

/-- The rule: a plan that fits the region, and its walk. -/
theorem code_draw {id : Nat} {ops : Array Oper} {K : Cont} {D : List Nat} {L : Env} {S : State} (A : List (List Nat)) (pl : List Entry) (hm : P.follows .mixedOrders = true)
    (hok : okDraw ops A n pl = true) (h : drawW P n ops (K .normal D) pl L S) : CodeW P n ro (.region id ops true) K D L S := by
  refine ⟨fun a w ha hw => ?_⟩
  refine wpIn_region_any hm ?_
  simp only [okDraw, Bool.and_eq_true] at hok
  have h0 : ∀ i, (Array.replicate ops.size false).getD i false = false := by
    intro i; simp only [Array.getD_eq_getD_getElem?, Array.getElem?_replicate]; split <;> rfl
  have hw' : Hold { w with drawn := w.drawn + 1 } S := ⟨hw.nd, hw.get⟩
  have he : Ext w { w with drawn := w.drawn + 1 } := ⟨rfl, rfl, rfl, Nat.le_refl _⟩
  refine draw_core hok.1.1 ops.size [] pl _ L S a _ ⟨by simp, ?_, ?_, ?_, ?_, ?_, ?_, ha.size, ha.marks, he, hw', hok.1.2, rfl, ?_, h⟩ ?_
  · intro i hi; rw [h0] at hi; cases hi
  · intro x hx; cases hx
  · intro i hi; rw [h0] at hi; cases hi
  · intro t v ht; exact .inr (ha.get t v ht)
  · intro x hx; cases hx
  · intro x hx; cases hx
  · intro i hi
    have := List.all_eq_true.1 hok.2 i (List.mem_range.2 hi)
    obtain ⟨x, hx, e⟩ := List.any_eq_true.1 this
    exact .inr ⟨x, hx, by simpa using e⟩
  · refine Nat.le_trans (List.length_filter_le _ _) (by simp)

theorem draw_quiet {ops : Array Oper} {K : Env → State → Prop} {o : Oper} {i : Nat} {pd : List Nat} {l : List Entry} {L : Env} {S : State} (ho : ops[i]? = some o)
    (h : ∀ N : Env → State → Prop, (∀ L S, drawW P n ops K l L S → N L S) → quietW P ops o L S fun v => N (putT n o.dst v L) S) : drawW P n ops K ((i, false, pd) :: l) L S := by
  simp only [drawW, ho]; exact h _ fun _ _ h => h
theorem draw_effect {ops : Array Oper} {K : Env → State → Prop} {o : Oper} {i : Nat} {pd : List Nat} {l : List Entry} {L : Env} {S : State} (ho : ops[i]? = some o)
    (h : ∀ N : Env → State → Prop, (∀ L S, drawW P n ops K l L S → N L S) → guardW ops o L (stepW P o.op o.type L S fun v S' => stillAll P ops pd (putT n o.dst v L) S' (N (putT n o.dst v L) S'))
      (stillAll P ops pd (putT n o.dst undef L) S (N (putT n o.dst undef L) S))) : drawW P n ops K ((i, true, pd) :: l) L S := by
  simp only [drawW, ho]; exact h _ fun _ _ h => h
theorem draw_nil {ops : Array Oper} {K : Env → State → Prop} {L : Env} {S : State} (h : K L S) : drawW P n ops K [] L S := h

end Go.Ost
