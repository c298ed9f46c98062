/- Functions, their contracts, and ranges over functions, over chunks of memory. Conditions: none. -/
import Derived.Test.YtfaobbekodifmaaDoorSc
import Derived.RangeFuncNested
set_option linter.unusedSimpArgs false
set_option linter.unusedVariables false
namespace Go.Ost
open Go

variable {P : Program} {n : Nat} {ro : Option Nat}

def callable (P : Program) (f : FuncId) : Bool := match P.funcs[f]? with | some fn => fn.name != "runtime.NumGoroutine" && fn.body.isSome | none => false

/-- A function's contract: from the chunks A, whatever else there is, to a result and chunks of which R holds, and all else as it was. -/
structure Meets (P : Program) (f : FuncId) (args : List Value) (A : State) (R : Value → State → Prop) : Prop where
  able : callable P f = true
  out : ∀ (F : Chunk) (w : World), Hold w (F :: A) → CallsIn (FW none) 0 P f args.toArray w
    (EndsW w fun v S => ∃ A', S = F :: A' ∧ R v A')

theorem Meets.mono {f : FuncId} {args : List Value} {A : State} {R R' : Value → State → Prop} (h : Meets P f args A R) (hr : ∀ v A', R v A' → R' v A') : Meets P f args A R' :=
  ⟨h.1, fun F w hw => (h.2 F w hw).mono fun e w' ⟨v, S, a, b, c, A', d, r⟩ => ⟨v, S, a, b, c, A', d, hr _ _ r⟩⟩

theorem calls_spec {f : FuncId} {args : List Value} {S A G : State} {R κ : Value → State → Prop} (h : Meets P f args A R) (ht : Take A S G)
    (k : ∀ v A', R v A' → κ v (A' ++ G)) : CallsW P f args.toArray S κ := by
  refine ⟨h.1, fun w hw => (h.2 G.flatten w (hw.perm (ht.perm.trans ?_))).mono ?_⟩
  · simp only [List.flatten_append, List.flatten_cons]; exact List.perm_append_comm
  · rintro e w' ⟨v, S', rfl, he, hh, A', rfl, r⟩
    refine ⟨v, A' ++ G, rfl, he, hh.perm ?_, k v A' r⟩
    simp only [List.flatten_append, List.flatten_cons]; exact List.perm_append_comm

/-- The blocks for the rounds' deferred calls. -/
def marksOf (D : List Nat) : State := D.map fun r => [(r, Obj.deferred (some []))]

def resW (P : Program) : List ResultVar → Env → State → (List Value → Prop) → Prop
  | [], _, _, κ => κ []
  | .tmp t :: r, L, S, κ => withV (lookT L t) fun v => resW P r L S fun vs => κ (v :: vs)
  | .cell a t :: r, L, S, κ => withV (lookT L a) fun p => ReadW P (Instr.loadAt t p) S fun v => resW P r L S fun vs => κ (v :: vs)

def tupled : List Value → Value
  | [v] => v
  | vs => .tuple vs.toArray

def RetK (P : Program) (rs : List ResultVar) (R : Value → State → Prop) (F : Chunk) : Cont
  | .normal, D, L, S | .ret, D, L, S => ∃ S1, Take (marksOf D) S S1 ∧ resW P rs L S1 fun vs => ∃ A', R (tupled vs) A' ∧ Among (F :: A') S1
  | _, _, _, _ => False

def argsL : Nat → List Value → Env
  | _, [] => []
  | i, v :: l => (i, v) :: argsL (i + 1) l

theorem ret_tmp {P : Program} {R : Value → State → Prop} {F : Chunk} {t : Nat} {L : Env} {S : State} {v : Value} (A' : State) (hv : lookT L t = some v) (hR : R v A') (hs : Among (F :: A') S) :
    RetK P [.tmp t] R F .ret [] L S := ⟨S, .nil S, by simp only [resW, hv, withV]; exact ⟨A', hR, hs⟩⟩
theorem ret_tmp_n {P : Program} {R : Value → State → Prop} {F : Chunk} {t : Nat} {L : Env} {S : State} {v : Value} (A' : State) (hv : lookT L t = some v) (hR : R v A') (hs : Among (F :: A') S) :
    RetK P [.tmp t] R F .normal [] L S := ⟨S, .nil S, by simp only [resW, hv, withV]; exact ⟨A', hR, hs⟩⟩
theorem ret_none {P : Program} {R : Value → State → Prop} {F : Chunk} {L : Env} {S : State} (A' : State) (hR : R (.tuple #[]) A') (hs : Among (F :: A') S) :
    RetK P [] R F .ret [] L S := ⟨S, .nil S, A', hR, hs⟩
theorem ret_none_n {P : Program} {R : Value → State → Prop} {F : Chunk} {L : Env} {S : State} (A' : State) (hR : R (.tuple #[]) A') (hs : Among (F :: A') S) :
    RetK P [] R F .normal [] L S := ⟨S, .nil S, A', hR, hs⟩

theorem look_argsL : ∀ (l : List Value) (i t : Nat) (v : Value), lookT (argsL i l) t = some v → i ≤ t ∧ l[t - i]? = some v
  | [], i, t, v, h => by simp [argsL, lookT] at h
  | u :: l, i, t, v, h => by
    simp only [argsL, lookT] at h
    split at h
    · subst_vars; cases h; simp
    · have := look_argsL l (i + 1) t v h
      refine ⟨by omega, ?_⟩
      rw [show t - i = (t - (i + 1)) + 1 from by omega, List.getElem?_cons_succ]
      exact this.2

def resOne (tmps : Array Value) : ResultVar → Sem Value
  | .tmp t => pure (tmps.getD t undef)
  | .cell b t => do loadVar t (← asAddr (tmps.getD b undef))

theorem resW_run {a : Act} {L : Env} {D : List Nat} {S : State} (ha : Agree n L D a) : ∀ (rs : List ResultVar) (κ : List Value → Prop), resW P rs L S κ →
    ∃ vs, (∀ w, Hold w S → (rs.mapM (resOne a.tmps)).run P w = .ok vs w) ∧ κ vs
  | [], κ, h => ⟨[], fun w _ => rfl, h⟩
  | .tmp t :: r, κ, h => by
    simp only [resW] at h
    cases hv : lookT L t with
    | none => rw [hv] at h; exact h.elim
    | some v =>
      rw [hv] at h
      obtain ⟨vs, h1, h2⟩ := resW_run ha r _ h
      refine ⟨v :: vs, fun w hw => ?_, h2⟩
      have h3 := ha.get t v hv
      have hg : a.tmps.getD t undef = v := by simp [h3]
      rw [List.mapM_cons]
      simp only [Sem.run_bind, resOne, hg, Sem.run_pure, Result.andThen, h1 w hw]
  | .cell b t :: r, κ, h => by
    simp only [resW] at h
    cases hp : lookT L b with
    | none => rw [hp] at h; exact h.elim
    | some p =>
      rw [hp] at h
      obtain ⟨v, h3, h⟩ := h.out
      obtain ⟨vs, h1, h2⟩ := resW_run ha r _ h
      refine ⟨v :: vs, fun w hw => ?_, h2⟩
      have hb := ha.get b p hp
      have h4 := h3 w hw
      have e : (asAddr p).run P w = (Instr.sureAddr p).run P w ∨ ∃ h w', (Instr.sureAddr p).run P w = .halt h w' := by
        unfold Instr.sureAddr asAddr
        cases p <;> first | exact .inr ⟨_, _, rfl⟩ | skip
        rename_i a; cases a <;> first | exact .inr ⟨_, _, rfl⟩ | exact .inl rfl
      have hg : a.tmps.getD b undef = p := by simp [hb]
      rw [List.mapM_cons]
      simp only [Sem.run_bind, resOne, hg]
      unfold Instr.loadAt at h4
      rw [Sem.run_bind] at h4
      rcases e with e | ⟨x, w', e⟩
      · rw [e]
        cases hs : (Instr.sureAddr p).run P w with
        | ok ad w1 =>
          rw [hs] at h4
          simp only [Result.andThen] at h4 ⊢
          rw [h4]
          simp only [Result.andThen, h1 w hw, Sem.run_pure]
        | halt x w1 => rw [hs] at h4; simp [Result.andThen] at h4
      · rw [e] at h4; simp [Result.andThen] at h4

theorem marks_shut {F : Fence} {m : Nat} {fn : Func} {tmps : Array Value} {R : Ending → World → Prop} : ∀ (D : List Nat) (T : State) (w0 w : World), Ext w0 w → Hold w (marksOf D ++ T) →
    (∀ w', Ext w0 w' → Hold w' T → ∃ v, (results fn tmps).run P w' = .ok v w' ∧ R (.returned v) w') → LeavesInM F m P fn tmps R (D.map markD) .returning w
  | [], T, w0, w, he, hw, h => by
    simp only [List.map_nil, LeavesInM, LeavesIn]
    exact h w he (by simpa [marksOf] using hw)
  | r :: D, T, w0, w, he, hw, h => by
    simp only [List.map_cons, LeavesInM]
    refine ⟨by simp, .inl ⟨r, w.putObj r (.deferred none), rfl, ?_, ?_⟩⟩
    · exact run_takeDeferred (hw.get r _ (by simp [marksOf]))
    · have hlt : r < w.heap.size := hw.lt (b := r) (o := .deferred (some [])) (by simp [marksOf])
      have hw' : Hold (w.putObj r (.deferred none)) ([(r, .deferred none)] :: (marksOf D ++ T)) :=
        (Upd.one (S := marksOf D ++ T)).hold (w := w) (by simpa [marksOf] using hw) (World.putObj_heap_same hlt) (fun k hk => World.putObj_heap_other hk)
      exact marks_shut D T w0 _ (he.trans ⟨rfl, rfl, rfl, by simp⟩) (hw'.sub (by simp)) h

theorem tupled_size (vs : List Value) : (if h : vs.toArray.size = 1 then vs.toArray[0] else .tuple vs.toArray) = tupled vs := by
  match vs with
  | [] => simp [tupled]
  | [v] => simp [tupled]
  | u :: v :: l => simp [tupled]

/-- A function's contract, from its body. -/
theorem spec_intro {f : FuncId} {fn : Func} {c : Code} {args : List Value} {A : State} {R : Value → State → Prop} (hf : P.funcs[f]? = some fn) (hb : fn.body = some c)
    (hn : (fn.name != "runtime.NumGoroutine") = true) (hl : args.length ≤ fn.ntmps) (h : ∀ F : Chunk, CodeW P fn.ntmps none c (RetK P fn.results.toList R F) [] (argsL 0 args) (F :: A)) : Meets P f args A R := by
  refine ⟨by simp [callable, hf, hb]; simpa using hn, fun F w hw => ?_⟩
  refine callsIn_of_wp_marks hf hb trivial (wpIn_mono ((h F).out { tmps := args.toArray ++ Array.replicate (fn.ntmps - args.toArray.size) undef, defers := [] } w ?_ hw) ?_)
  · refine ⟨by simp; omega, fun t v ht => ?_, rfl⟩
    have := look_argsL args 0 t v ht
    simp only [Nat.sub_zero] at this
    have hlt := (List.getElem?_eq_some_iff.1 this.2).1
    rw [Array.getElem?_append_left (by simpa using hlt)]
    simpa using this.2
  · intro e a w' hq
    obtain ⟨D, L, S, hk, hag, he, hh⟩ := hq
    have fin : (∃ S1, Take (marksOf D) S S1 ∧ resW P fn.results.toList L S1 fun vs => ∃ A', R (tupled vs) A' ∧ Among (F :: A') S1) →
        LeavesInM (FW none) 0 P fn a.tmps (EndsW w fun v S => ∃ A', S = F :: A' ∧ R v A') a.defers .returning w' := by
      rintro ⟨S1, ht, hr⟩
      rw [hag.marks]
      obtain ⟨vs, h1, A', hR, hs⟩ := resW_run hag _ _ hr
      refine marks_shut D S1 w w' he (hh.perm ht.perm) fun w'' he' hw'' => ⟨tupled vs, ?_, tupled vs, F :: A', rfl, he', hs.hold hw'', A', rfl, hR⟩
      have e0 : results fn a.tmps = (do let vs ← fn.results.mapM (resOne a.tmps); pure (if h : vs.size = 1 then vs[0] else .tuple vs)) := by
        unfold results
        have e : (fun (x : ResultVar) => (match x with | .tmp t => pure (a.tmps.getD t undef) | .cell b t => do loadVar t (← asAddr (a.tmps.getD b undef)) : Sem Value)) = resOne a.tmps := by
          funext x; cases x <;> rfl
        rw [← e]
        rfl
      rw [e0]
      have e1 : ∀ g : ResultVar → Sem Value, (fn.results.mapM g).run P w'' = ((fn.results.toList.mapM g).run P w'').andThen (fun l w => .ok l.toArray w) := by
        intro g
        rw [← Array.toArray_toList (xs := fn.results)]
        simp only [List.mapM_toArray]
        cases hx : (fn.results.toList.mapM g).run P w'' <;> simp_all [Result.andThen, Sem.run_map]
      simp only [Sem.run_bind]
      rw [e1, h1 w'' hw'']
      simp only [Result.andThen]
      rw [← tupled_size]
      rfl
    cases e with
    | normal => exact fin hk
    | ret => exact fin hk
    | exit id => exact hk.elim
    | goto l => exact hk.elim
    | panic ch => exact hk.elim
    | outgrown => exact hk.elim

end Go.Ost
