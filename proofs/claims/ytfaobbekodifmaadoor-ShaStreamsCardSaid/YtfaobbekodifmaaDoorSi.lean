/- Ranges over functions, over chunks of memory: the iterator's contract and the loop's rule. Conditions: none. -/
import Derived.Test.YtfaobbekodifmaaDoorSf
set_option linter.unusedSimpArgs false
set_option linter.unusedVariables false
namespace Go.Ost
open Go

variable {P : Program} {n : Nat} {α : Type}

/-- How a call of a loop's body ends: it goes on (true), or it wants no more (false). -/
structure YMeets (P : Program) (l : Nat) (args : List Value) (Jin Jout Jstop : Chunk → Prop) : Prop where
  out : ∀ C, Jin C → ∀ (F : Chunk) (w : World), Hold w [F, C] → YieldAt (FW none) 0 P l args.toArray w
    (EndsW w fun v S => ∃ (b : Bool) (C' : Chunk), v = .bool b ∧ S = [F, C'] ∧ (b = true → Jout C') ∧ (b = false → Jstop C'))

/-- An iterator's contract: Next pre x: behind pre comes x; Done pre: behind pre there is no more. -/
structure IMeets (P : Program) (f : FuncId) (first captured : List Value) (encs : α → List Value) (A : State) (Next : List α → α → Prop) (Done : List α → Prop) (inf : Bool) : Prop where
  able : callable P f = true
  out : ∀ (l : Nat) (J Jx : List α → Chunk → Prop), (inf = true → ∃ N, ∀ pre C, J pre C → pre.length ≤ N) →
    (∀ pre x, Next pre x → YMeets P l (encs x) (J pre) (J (pre ++ [x])) (Jx (pre ++ [x]))) →
    ∀ C, J [] C → ∀ (F : Chunk) (w : World), Hold w (F :: C :: A) → CallsIn (FW none) 0 P f (first ++ [Value.func (.yield l) #[] #[]] ++ captured).toArray w
      (EndsW w fun _ S => ∃ C', S = F :: C' :: A ∧ ((∃ pre, Done pre ∧ J pre C') ∨ (∃ pre x, Next pre x ∧ Jx (pre ++ [x]) C')))

/-- An iterator's contract, from its function's at each loop's body. -/
theorem iter_intro {f : FuncId} {first captured : List Value} {encs : α → List Value} {A : State} {Next : List α → α → Prop} {Done : List α → Prop} {inf : Bool} (ha : callable P f = true)
    (h : ∀ (l : Nat) (J Jx : List α → Chunk → Prop), (inf = true → ∃ N, ∀ pre C, J pre C → pre.length ≤ N) → (∀ pre x, Next pre x → YMeets P l (encs x) (J pre) (J (pre ++ [x])) (Jx (pre ++ [x]))) →
      ∀ C, J [] C → Meets P f (first ++ [Value.func (.yield l) #[] #[]] ++ captured) (C :: A) fun _ S => ∃ C', S = C' :: A ∧ ((∃ pre, Done pre ∧ J pre C') ∨ (∃ pre x, Next pre x ∧ Jx (pre ++ [x]) C'))) :
    IMeets P f first captured encs A Next Done inf :=
  ⟨ha, fun l J Jx hN hY C hC F w hw => ((h l J Jx hN hY C hC).out F w hw).mono fun e w' ⟨v, S, a, b, c, A', d, C', e', r⟩ => ⟨v, S, a, b, c, C', by rw [d, e'], r⟩⟩

/-- In the iterator's own walk: yield is called. -/
theorem yield_meets {l : Nat} {args : List Value} {Jin Jout Jstop : Chunk → Prop} {S G : State} {C : Chunk} {κ : Value → State → Prop} (h : YMeets P l args Jin Jout Jstop) (hC : Jin C) (ht : Take [C] S G)
    (k1 : ∀ C', Jout C' → κ (.bool true) (C' :: G)) (k2 : ∀ C', Jstop C' → κ (.bool false) (C' :: G)) : YieldW P l args.toArray S κ := by
  refine ⟨fun w hw => ?_⟩
  have h1 := h.out C hC G.flatten w (hw.perm (ht.perm.trans (by simp only [List.flatten_append, List.flatten_cons, List.flatten_nil, List.append_nil]; exact List.perm_append_comm)))
  obtain ⟨fn, tm, as, bd, hr, hR⟩ := h1
  refine ⟨fn, tm, as, bd, hr, hR.mono ?_⟩
  rintro e w' ⟨v, S', rfl, he, hh, b, C', rfl, rfl, j1, j2⟩
  refine ⟨.bool b, C' :: G, rfl, he, hh.perm (by simp only [List.flatten_cons, List.flatten_nil, List.append_nil]; exact List.perm_append_comm), ?_⟩
  cases b
  · exact k2 C' (j2 rfl)
  · exact k1 C' (j1 rfl)

def putAll (n : Nat) : List Tmp → List Value → Env → Env
  | p :: ps, v :: vs, L => putAll n ps vs (putT n (some p) v L)
  | _, _, L => L

theorem agree_all {D : List Nat} : ∀ (ps : List Tmp) (vs : List Value) (L : Env) (t : Array Value), Agree n L D { tmps := t, defers := D.map markD } →
    Agree n (putAll n ps vs L) D { tmps := (ps.zip vs).foldl (fun t (p, v) => t.setIfInBounds p v) t, defers := D.map markD }
  | [], vs, L, t, h => by cases vs <;> exact h
  | p :: ps, [], L, t, h => h
  | p :: ps, v :: vs, L, t, h => by
    simp only [putAll, List.zip_cons_cons, List.foldl_cons]
    exact agree_all ps vs _ _ (h.put (some p) v)

/-- What the body of a loop must come to. -/
def bodyK (l : Nat) (r : Loop) (F : Chunk) (I : State → Prop) (Ix : Code → State → Prop) : Cont
  | .normal, _, _, S => ∃ C', I C' ∧ Among ([(l, .loop r)] :: F :: C') S
  | .exit id, _, _, S => ∃ C', Ix (.exit id) C' ∧ Among ([(l, .loop r)] :: F :: C') S
  | .goto t, _, _, S => ∃ C', Ix (.goto t) C' ∧ Among ([(l, .loop r)] :: F :: C') S
  | .ret, _, _, S => ∃ C', Ix .ret C' ∧ Among ([(l, .loop r)] :: F :: C') S
  | _, _, _, _ => False
def assignK (P : Program) (n : Nat) (l : Nat) (r : Loop) (body : Code) (F : Chunk) (I : State → Prop) (Ix : Code → State → Prop) : Cont
  | .normal, D, L, S => ∃ T, Among ([(l, .loop r)] :: T) S ∧ ∀ r', r'.defers = r.defers → CodeW P n (some l) body (bodyK l r' F I Ix) D L ([(l, .loop r')] :: T)
  | _, _, _, _ => False

theorem put_hold {w : World} {l : Nat} {o o' : Obj} {T : State} (hw : Hold w ([(l, o)] :: T)) : Hold (w.putObj l o') ([(l, o')] :: T) :=
  (Upd.one (S := T)).hold hw (World.putObj_heap_same (hw.lt (b := l) (o := o) (by simp))) (fun k hk => World.putObj_heap_other hk)
theorem put_ext (w : World) (l : Nat) (o : Obj) : Ext w (w.putObj l o) := ⟨rfl, rfl, rfl, by simp⟩

/-- One round, from what the loop's code does. -/
theorem round_meets {l : Nat} {fn : FuncId} {t : Array Value} {ps : Array Tmp} {assign body : Code} {dB : Nat} {L : Env} {vs : List Value} {I Iout : State → Prop} {Ix : Code → State → Prop}
    (hag : Agree n L [] { tmps := t, defers := [] }) (hps : vs.length = ps.size)
    (h : ∀ (F : Chunk) (C : State) (r : Loop), r.defers = dB → I C → CodeW P n (some l) assign (assignK P n l r body F Iout Ix) [] (putAll n ps.toList vs L) ([(l, .loop r)] :: F :: C)) :
    YMeets P l vs (fun C => ∃ C0 : State, C = (l, .loop { state := .ready, pending := none, fn, tmps := t, params := ps, assign, body, defers := dB }) :: C0.flatten ∧ I C0)
      (fun C => ∃ C0 : State, C = (l, .loop { state := .ready, pending := none, fn, tmps := t, params := ps, assign, body, defers := dB }) :: C0.flatten ∧ Iout C0)
      (fun C => ∃ (c : Code) (C0 : State), C = (l, .loop { state := .done, pending := some c, fn, tmps := t, params := ps, assign, body, defers := dB }) :: C0.flatten ∧ Ix c C0) := by
  refine ⟨?_⟩
  rintro C ⟨C0, rfl, hI⟩ F w hw
  obtain ⟨r0, hr0⟩ : ∃ r0 : Loop, r0 = { state := .ready, pending := none, fn, tmps := t, params := ps, assign, body, defers := dB } := ⟨_, rfl⟩
  rw [← hr0] at hw ⊢
  have hw' : Hold w ([(l, .loop r0)] :: F :: C0) := hw.perm (by simp only [List.flatten_cons, List.flatten_nil, List.append_nil, List.cons_append, List.nil_append]; exact List.perm_middle)
  have hl : w.heap[l]? = some (.loop r0) := hw'.get l _ (by simp)
  have hy := run_yield (P := P) (args := vs.toArray) hl (by rw [hr0]; simpa using hps)
  refine ⟨_, _, _, _, hy, roundIn_of_wpIn trivial ?_⟩
  have hag' : Agree n (putAll n ps.toList vs L) [] { tmps := (r0.params.zip vs.toArray).foldl (fun t (p, v) => t.setIfInBounds p v) r0.tmps, defers := [] } := by
    have := agree_all ps.toList vs L t hag
    rw [hr0]
    simp only
    rw [← Array.foldl_toList, Array.toList_zip]
    exact this
  have ha := (h F C0 r0 (by rw [hr0]) hI).out _ w hag' hw'
  rw [show r0.assign = assign from by rw [hr0]]
  refine wpIn_mono ha ?_
  rintro e a1 w1 ⟨D1, L1, S1, hk, hag1, he1, hh1⟩
  cases e <;> first | exact hk.elim | skip
  obtain ⟨T, hT, hbody⟩ := hk
  have hw1 := hT.hold hh1
  have hl1 : w1.heap[l]? = some (.loop r0) := hw1.get l _ (by simp)
  refine ⟨_, run_beginRound hl1 (by rw [hr0]), ?_⟩
  obtain ⟨rb, hrb⟩ : ∃ rb : Loop, rb = { r0 with state := .busy } := ⟨_, rfl⟩
  rw [← hrb]
  have hb := (hbody rb (by rw [hrb])).out a1 _ hag1 (put_hold hw1)
  rw [show r0.body = body from by rw [hr0]]
  refine wpIn_mono hb ?_
  have fin : ∀ (jump : Option Code) (S2 : State) (w2 : World) (C' : State), Ext (w1.putObj l (.loop rb)) w2 → Hold w2 S2 → Among ([(l, .loop rb)] :: F :: C') S2 →
      ∃ w3, (Instr.endRound l jump).run P w2 = .ok (.bool jump.isNone) w3 ∧ Ext w w3 ∧
        Hold w3 [F, (l, .loop { state := if jump.isNone then .ready else .done, pending := jump, fn, tmps := t, params := ps, assign, body, defers := dB }) :: C'.flatten] := by
    intro jump S2 w2 C' he hh hS
    have hw2 := hS.hold hh
    have hl2 : w2.heap[l]? = some (.loop rb) := hw2.get l _ (by simp)
    refine ⟨_, run_endRound (P := P) jump hl2, ((he1.trans (put_ext _ _ _)).trans he).trans (put_ext _ _ _), ?_⟩
    have := put_hold (o' := .loop { rb with state := if jump.isNone then .ready else .done, pending := jump }) hw2
    rw [hrb, hr0] at this
    rw [hrb, hr0]
    exact this.perm (by simp only [List.flatten_cons, List.flatten_nil, List.append_nil, List.cons_append, List.nil_append]; exact List.perm_middle.symm)
  rintro e a2 w2 ⟨D2, L2, S2, hk, hag2, he2, hh2⟩
  cases e with
  | normal =>
    obtain ⟨C', hI', hS⟩ := hk
    obtain ⟨w3, hr, he, hh⟩ := fin none S2 w2 C' he2 hh2 hS
    exact ⟨_, w3, hr, _, _, rfl, he, hh, true, _, rfl, rfl, fun _ => ⟨C', by rw [hr0]; rfl, hI'⟩, fun h => by cases h⟩
  | ret =>
    obtain ⟨C', hI', hS⟩ := hk
    obtain ⟨w3, hr, he, hh⟩ := fin (some .ret) S2 w2 C' he2 hh2 hS
    exact ⟨_, w3, hr, _, _, rfl, he, hh, false, _, rfl, rfl, fun h => (by cases h), fun _ => ⟨.ret, C', by simp, hI'⟩⟩
  | exit id =>
    obtain ⟨C', hI', hS⟩ := hk
    obtain ⟨w3, hr, he, hh⟩ := fin (some (.exit id)) S2 w2 C' he2 hh2 hS
    exact ⟨_, w3, hr, _, _, rfl, he, hh, false, _, rfl, rfl, fun h => (by cases h), fun _ => ⟨.exit id, C', by simp, hI'⟩⟩
  | goto t =>
    obtain ⟨C', hI', hS⟩ := hk
    obtain ⟨w3, hr, he, hh⟩ := fin (some (.goto t)) S2 w2 C' he2 hh2 hS
    exact ⟨_, w3, hr, _, _, rfl, he, hh, false, _, rfl, rfl, fun h => (by cases h), fun _ => ⟨.goto t, C', by simp, hI'⟩⟩
  | panic ch => exact hk.elim
  | outgrown => exact hk.elim

/-- The core of both rules: the record l (and whatever else is new) lies; the iterator is called. -/
theorem range_core {ro : Option Nat} {fn : FuncId} {t : Array Value} {ps : Array Tmp} {assign body : Code} {dB l : Nat} {L : Env} {f : FuncId} {first captured : List Value} {encs : α → List Value} {A C0 M : State}
    {Next : List α → α → Prop} {Done : List α → Prop} {inf : Bool} {Q : Exit → Act → World → Prop} {a' : Act} {w w1 : World}
    (hit : IMeets P f first captured encs A Next Done inf) (I : List α → State → Prop) (Ix : Code → List α → State → Prop)
    (hinf : inf = true → ∃ N, ∀ pre C, I pre C → pre.length ≤ N) (hag : Agree n L [] { tmps := t, defers := [] }) (hps : ∀ x, (encs x).length = ps.size) (h0 : I [] C0) (he : Ext w w1)
    (hw1 : Hold w1 ([(l, .loop { state := .ready, pending := none, fn, tmps := t, params := ps, assign, body, defers := dB })] :: M ++ C0 ++ A))
    (hround : ∀ (F : Chunk) (C : State) (r : Loop) (pre : List α) (x : α), Next pre x → I pre C → CodeW P n (some l) assign (assignK P n l r body F (I (pre ++ [x])) (fun c => Ix c (pre ++ [x]))) [] (putAll n ps.toList (encs x) L) ([(l, .loop r)] :: F :: C))
    (hdone : ∀ (pre : List α) (C : State) (w2 : World), Done pre → I pre C → Ext w w2 → Hold w2 (M ++ C ++ A) → Q .normal a' w2)
    (hstop : ∀ (c : Code) (pre : List α) (x : α) (C : State) (w2 : World), Next pre x → Ix c (pre ++ [x]) C → Ext w w2 → Hold w2 (M ++ C ++ A) → c.wpIn (FW ro) 0 P Q a' w2) :
    CallsIn (FW none) 0 P f (first ++ [Value.func (.yield l) #[] #[]] ++ captured).toArray w1 (rangePost (FW ro) 0 P l Q a') := by
  have h1 := hit.out l (fun pre C => ∃ C1 : State, C = (l, .loop { state := .ready, pending := none, fn, tmps := t, params := ps, assign, body, defers := dB }) :: C1.flatten ∧ I pre C1)
    (fun pre C => ∃ (c : Code) (C1 : State), C = (l, .loop { state := .done, pending := some c, fn, tmps := t, params := ps, assign, body, defers := dB }) :: C1.flatten ∧ Ix c pre C1)
    (fun h => let ⟨N, hN⟩ := hinf h; ⟨N, fun pre C ⟨C1, _, hI⟩ => hN pre C1 hI⟩)
    (fun pre x hx => round_meets hag (hps x) fun F C r _ hI => hround F C r pre x hx hI) _ ⟨C0, rfl, h0⟩ M.flatten w1
    (hw1.perm (by
      simp only [List.flatten_append, List.flatten_cons, List.cons_append, List.append_assoc, List.nil_append]
      exact List.perm_middle.symm))
  refine h1.mono ?_
  rintro e w2 ⟨v, S, rfl, he2, hh, C', rfl, (⟨pre, hd, C1, rfl, hI⟩ | ⟨pre, x, hx, c, C1, rfl, hI⟩)⟩
  · have hw2 : Hold w2 ([(l, .loop { state := .ready, pending := none, fn, tmps := t, params := ps, assign, body, defers := dB })] :: (M ++ C1 ++ A)) := hh.perm (by
      simp only [List.flatten_append, List.flatten_cons, List.cons_append, List.append_assoc, List.nil_append]
      exact List.perm_middle)
    have hl2 : w2.heap[l]? = some (.loop { state := .ready, pending := none, fn, tmps := t, params := ps, assign, body, defers := dB }) := hw2.get l _ (by simp)
    refine ⟨none, _, run_endLoop (P := P) hl2 (by simp), hdone pre C1 _ hd hI ((he.trans he2).trans (put_ext _ _ _)) ?_⟩
    exact (put_hold hw2).sub (by simp)
  · have hw2 : Hold w2 ([(l, .loop { state := .done, pending := some c, fn, tmps := t, params := ps, assign, body, defers := dB })] :: (M ++ C1 ++ A)) := hh.perm (by
      simp only [List.flatten_append, List.flatten_cons, List.cons_append, List.append_assoc, List.nil_append]
      exact List.perm_middle)
    have hl2 : w2.heap[l]? = some (.loop { state := .done, pending := some c, fn, tmps := t, params := ps, assign, body, defers := dB }) := hw2.get l _ (by simp)
    refine ⟨some c, _, run_endLoop (P := P) hl2 (by simp), hstop c pre x C1 _ hx hI ((he.trans he2).trans (put_ext _ _ _)) ?_⟩
    exact (put_hold hw2).sub (by simp)

theorem enters_able {f : FuncId} (h : callable P f = true) (args : Array Value) (w : World) : (callFunc f args).run P w = .ok (.enter f args) w := by
  unfold callable at h
  split at h
  · rename_i fn hf
    simp only [Bool.and_eq_true, bne_iff_ne, ne_eq] at h
    obtain ⟨hn, hb⟩ := h
    obtain ⟨c, hc⟩ := Option.isSome_iff_exists.1 hb
    simp [callFunc, program, Sem.run_bind, Sem.run, hf, hn, hc, Result.andThen]
  · cases h

theorem zip_size {x y : List Value} : True := trivial

/-- 'for .. := range f { .. }', in no other such loop's body. -/
theorem code_range {g : Operand} {ps : Array Tmp} {assign body : Code} {K : Cont} {D : List Nat} {L : Env} {S A C0 : State} {f : FuncId} {first captured : Array Value} {encs : α → List Value}
    {Next : List α → α → Prop} {Done : List α → Prop} {inf : Bool} (hg : evT L g = some (.func (.func f) first captured)) (hit : IMeets P f first.toList captured.toList encs A Next Done inf)
    (ht : Take A S C0) (I : List α → State → Prop) (Ix : Code → List α → State → Prop) (hinf : inf = true → ∃ N, ∀ pre C, I pre C → pre.length ≤ N) (hps : ∀ x, (encs x).length = ps.size) (h0 : I [] C0)
    (hround : ∀ (l : Nat) (F : Chunk) (C : State) (r : Loop) (pre : List α) (x : α), Next pre x → I pre C → CodeW P n (some l) assign (assignK P n l r body F (I (pre ++ [x])) (fun c => Ix c (pre ++ [x]))) [] (putAll n ps.toList (encs x) L) ([(l, .loop r)] :: F :: C))
    (hdone : ∀ (d : Nat) (pre : List α) (C : State), Done pre → I pre C → K .normal (d :: D) L ([(d, .deferred (some []))] :: (C ++ A)))
    (hstop : ∀ (d : Nat) (c : Code) (pre : List α) (x : α) (C : State), Next pre x → Ix c (pre ++ [x]) C → CodeW P n none c K (d :: D) L ([(d, .deferred (some []))] :: (C ++ A))) :
    CodeW P n none (.rangeFunc g ps assign body) K D L S := by
  refine ⟨fun a w ha hw => wpIn_rangeFunc fun fn _ => ?_⟩
  obtain ⟨W1, hW1⟩ : ∃ W1 : World, W1 = (w.alloc (.deferred (some []))).alloc (.loop { state := .ready, pending := none, fn, tmps := a.tmps, params := ps, assign, body, defers := w.heap.size }) := ⟨_, rfl⟩
  refine ⟨w.heap.size + 1, [markD w.heap.size], W1,
    { target := .fn (.func f) captured, args := first ++ #[.func (.yield (w.heap.size + 1)) #[] #[]] }, W1, f, (first.toList ++ [Value.func (.yield (w.heap.size + 1)) #[] #[]] ++ captured.toList).toArray, W1,
    by rw [hW1]; exact run_enterLoop_outer fn a.tmps ps assign body, ?_, fun _ _ => trivial, ?_, fun h => (by cases h), ?_⟩
  · simp only [resolve, ha.ev hg]
    simp [Deferred.ofValue, Act.eval]
  · simp only [invoke]
    rw [enters_able hit.able]
    congr 2
    apply Array.ext'; simp
  · have e1 : (w.alloc (.deferred (some []))).heap = w.heap.push (.deferred (some [])) := rfl
    have hw1 := hw.new (w' := w.alloc (.deferred (some []))) (o := .deferred (some [])) rfl
    have hw2 := hw1.new (w' := (w.alloc (.deferred (some []))).alloc (.loop { state := .ready, pending := none, fn, tmps := a.tmps, params := ps, assign, body, defers := w.heap.size })) rfl
    rw [World.size_alloc, ← hW1] at hw2
    refine range_core (n := n) (L := L) (dB := w.heap.size) (t := a.tmps) (fn := fn) (C0 := C0) (M := [[(w.heap.size, .deferred (some []))]]) (w := w) hit I Ix hinf ⟨ha.size, ha.get, rfl⟩ hps h0
      (by rw [hW1]; exact ⟨rfl, rfl, rfl, by simp only [World.size_alloc]; omega⟩) ?_ (fun F C r pre x hx hI => hround _ F C r pre x hx hI) ?_ ?_
    · refine hw2.perm ?_
      simp only [List.flatten_append, List.flatten_cons, List.cons_append, List.append_assoc, List.nil_append, List.flatten_nil]
      refine List.Perm.cons _ (List.Perm.cons _ ?_)
      have := ht.perm
      rw [List.flatten_append] at this
      exact this.trans List.perm_append_comm
    · intro pre C w2 hd hI he hh
      exact ⟨_, L, _, hdone w.heap.size pre C hd hI, ⟨ha.size, ha.get, by simp [ha.marks]⟩, he, hh.perm (by simp)⟩
    · intro c pre x C w2 hx hI he hh
      refine wpIn_mono ((hstop w.heap.size c pre x C hx hI).out { a with defers := [markD w.heap.size] ++ a.defers } w2 ⟨ha.size, ha.get, by simp [ha.marks]⟩ (hh.perm (by simp))) fun _ _ _ hq => hq.ext he

/-- The same in the body of such a loop (of the record l₀). -/
theorem code_range_in {l₀ : Nat} {r₀ : Loop} {g : Operand} {ps : Array Tmp} {assign body : Code} {K : Cont} {D : List Nat} {L : Env} {S A C0 : State} {f : FuncId} {first captured : Array Value} {encs : α → List Value}
    {Next : List α → α → Prop} {Done : List α → Prop} {inf : Bool} (hg : evT L g = some (.func (.func f) first captured)) (hl : Lies l₀ (.loop r₀) S) (hit : IMeets P f first.toList captured.toList encs A Next Done inf)
    (ht : Take A S C0) (I : List α → State → Prop) (Ix : Code → List α → State → Prop) (hinf : inf = true → ∃ N, ∀ pre C, I pre C → pre.length ≤ N) (hps : ∀ x, (encs x).length = ps.size) (h0 : I [] C0)
    (hround : ∀ (l : Nat) (F : Chunk) (C : State) (r : Loop) (pre : List α) (x : α), Next pre x → I pre C → CodeW P n (some l) assign (assignK P n l r body F (I (pre ++ [x])) (fun c => Ix c (pre ++ [x]))) [] (putAll n ps.toList (encs x) L) ([(l, .loop r)] :: F :: C))
    (hdone : ∀ (pre : List α) (C : State), Done pre → I pre C → K .normal D L (C ++ A))
    (hstop : ∀ (c : Code) (pre : List α) (x : α) (C : State), Next pre x → Ix c (pre ++ [x]) C → CodeW P n (some l₀) c K D L (C ++ A)) :
    CodeW P n (some l₀) (.rangeFunc g ps assign body) K D L S := by
  refine ⟨fun a w ha hw => wpIn_rangeFunc fun fn _ => ?_⟩
  have hr := hl.get hw
  obtain ⟨W1, hW1⟩ : ∃ W1 : World, W1 = w.alloc (.loop { state := .ready, pending := none, fn, tmps := a.tmps, params := ps, assign, body, defers := r₀.defers }) := ⟨_, rfl⟩
  refine ⟨w.heap.size, [], W1,
    { target := .fn (.func f) captured, args := first ++ #[.func (.yield w.heap.size) #[] #[]] }, W1, f, (first.toList ++ [Value.func (.yield w.heap.size) #[] #[]] ++ captured.toList).toArray, W1,
    by rw [hW1]; exact run_enterLoop_inner hr fn a.tmps ps assign body, ?_, fun _ _ => trivial, ?_, fun h => (by cases h), ?_⟩
  · simp only [resolve, ha.ev hg]
    simp [Deferred.ofValue, Act.eval]
  · simp only [invoke]
    rw [enters_able hit.able]
    congr 2
    apply Array.ext'; simp
  · have hw1 := hw.new (w' := w.alloc (.loop { state := .ready, pending := none, fn, tmps := a.tmps, params := ps, assign, body, defers := r₀.defers })) rfl
    rw [← hW1] at hw1
    refine range_core (n := n) (L := L) (dB := r₀.defers) (t := a.tmps) (fn := fn) (C0 := C0) (M := []) (w := w) hit I Ix hinf ⟨ha.size, ha.get, rfl⟩ hps h0
      (by rw [hW1]; exact ⟨rfl, rfl, rfl, by simp only [World.size_alloc]; omega⟩) ?_ (fun F C r pre x hx hI => hround _ F C r pre x hx hI) ?_ ?_
    · refine hw1.perm ?_
      simp only [List.flatten_append, List.flatten_cons, List.cons_append, List.append_assoc, List.nil_append, List.flatten_nil]
      refine List.Perm.cons _ ?_
      have := ht.perm
      rw [List.flatten_append] at this
      exact this.trans List.perm_append_comm
    · intro pre C w2 hd hI he hh
      exact ⟨_, L, _, hdone pre C hd hI, ⟨ha.size, ha.get, by simp [ha.marks]⟩, he, hh.perm (by simp)⟩
    · intro c pre x C w2 hx hI he hh
      refine wpIn_mono ((hstop c pre x C hx hI).out { a with defers := [] ++ a.defers } w2 ⟨ha.size, ha.get, by simp [ha.marks]⟩ (hh.perm (by simp))) fun _ _ _ hq => hq.ext he

end Go.Ost
