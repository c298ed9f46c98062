/- Texts in a row: the walk's rules and contracts, as each says. Conditions: as each says. -/
import Derived.Test.YtdeenhhfafeanaaDoorM2d428461
import Derived.Test.YtdeenhhfafeanaaDoorMe6ff7bc8
import Derived.OrdersIn
/- A slice of one structure, written out. Conditions: as each says. -/
set_option linter.unusedSimpArgs false
set_option linter.unusedVariables false
namespace Go.Ost
open Go

variable {P : Program}

theorem foldl_set (vs : List Value) : ∀ (l p r : List Value), r.length = l.length → vs = p ++ l →
    (l.zipIdx p.length).foldl (fun (cs : Array Value) (x : Value × Nat) => cs.setIfInBounds x.2 x.1) (p ++ r).toArray = vs.toArray
  | [], p, [], _, h => by simp at h; simp [h]
  | v :: l, p, x :: r, hl, h => by
    rw [List.zipIdx_cons, List.foldl_cons]
    have ih := foldl_set vs l (p ++ [v]) r (by simpa using hl) (by rw [h]; simp)
    rw [List.length_append, List.length_cons, List.length_nil] at ih
    have e : (p ++ x :: r).toArray.setIfInBounds p.length v = (p ++ [v] ++ r).toArray := by
      apply Array.ext'; simp
    rw [e]; exact ih

theorem build_el1 {t e : TypeId} {z : Value} {s by_ : Nat} [ht : TSlice P t e] [hs : TSized P e z s by_] (hz : z.cells.size = s) (h0 : 0 < s) (hs2 : s ≤ 1000) {vs : List Value} (hv : vs.length = s) {S : State} {κ : Value → State → Prop}
    (k : ∀ b C, Own s e C (some ⟨b, 0, none⟩) 1 1 vs → κ (.slice (some ⟨b, 0, none⟩) 1 1) (C :: S)) : ValW P (Instr.buildSlice t 1 #[(0, .agg vs.toArray)]) S κ := by
  refine ⟨fun w hw => ?_⟩
  refine ⟨_, { w with heap := w.heap.push (.cells vs.toArray e) }, _, ?_, ext_push rfl, hw.new rfl, k _ _ ⟨Nat.le_refl _, by simp [maxLen], by omega, .inr ⟨_, 0, _, (0, 0), rfl, rfl, .inl rfl, by simp [hv], fun i hi => by simp⟩⟩⟩
  have hfill : ∀ cells : Array Value, cells.size = s → Instr.fill (fun i => some (i * s, s)) cells [(0, .agg vs.toArray)] = some vs.toArray := by
    intro cells hc
    have e1 : (Value.agg vs.toArray).cells = vs.toArray := rfl
    simp only [Instr.fill, e1]
    rw [if_neg (by simp [hv, hc])]
    congr 1
    have := foldl_set vs vs [] cells.toList (by simp [hc, hv]) rfl
    simp only [List.nil_append, List.length_nil, Array.toArray_toList] at this
    refine Eq.trans ?_ this
    simp
  have hne : ¬ (1 * s = 0) := by omega
  have hle : ¬ 16777216 < 1 * s := by omega
  simp only [Instr.buildSlice, Sem.run_bind, run_und ht.und, run_size hs, run_zero hs, Result.andThen]
  rw [show (2 : Nat) ^ 24 = 16777216 from rfl, if_neg hle, if_neg hne]
  simp only [Sem.run_bind, Sem.run_pure, Result.andThen, run_zero hs]
  rw [hfill _ (by simp)]
  simp [newRow, newObj, Sem.run_bind, Sem.run, Result.andThen]

theorem build_el0 {t e : TypeId} {z : Value} {s by_ : Nat} [ht : TSlice P t e] [hs : TSized P e z s by_] {S : State} {κ : Value → State → Prop}
    (k : ∀ b C, Own s e C (some ⟨b, 0, none⟩) 0 0 [] → κ (.slice (some ⟨b, 0, none⟩) 0 0) (C :: S)) : ValW P (Instr.buildSlice t 0 #[]) S κ := by
  refine ⟨fun w hw => ?_⟩
  refine ⟨_, { w with heap := w.heap.push (.cells #[] e) }, _, ?_, ext_push rfl, hw.new rfl, k _ _ ⟨Nat.le_refl _, by simp [maxLen], by simp, .inr ⟨_, 0, _, (0, 0), rfl, rfl, .inl rfl, by simp, fun i hi => by simp at hi⟩⟩⟩
  simp [Instr.buildSlice, Sem.run_bind, run_und ht.und, run_size hs, Result.andThen, Instr.fill, newRow, newObj, Sem.run, show Array.range 0 = #[] from rfl]

theorem flat_take {α : Type} (enc : α → List Value) (s : Nat) (hs : ∀ x, (enc x).length = s) : ∀ (l : List α) (i : Nat), (l.flatMap enc).take (i * s) = (l.take i).flatMap enc
  | l, 0 => by simp
  | [], i + 1 => by simp
  | x :: l, i + 1 => by
    rw [List.flatMap_cons, Nat.add_mul, Nat.one_mul, Nat.add_comm, List.take_add, List.take_left' (hs x), List.drop_left' (hs x), flat_take enc s hs l i, List.take_succ_cons, List.flatMap_cons]
theorem rd_cutF {α : Type} {enc : α → List Value} {s : Nat} (hs : ∀ x, (enc x).length = s) {S : State} {a : Option Addr} {len : Nat} {us : List α} (h : Rd s S a len (us.flatMap enc)) {l h' m : Nat} (h1 : l ≤ h') (h2 : h' ≤ len) (h3 : h' ≤ m) :
    Rd s S (cutA s a l m) (h' - l) (((us.drop l).take (h' - l)).flatMap enc) := by
  have q := rd_cut h h1 h2 h3
  rwa [flat_drop enc s hs, flat_take enc s hs] at q

end Go.Ost

/- Ranges over functions whose elements lie in the iterator's own memory, which the loop's body may read. Conditions: none. -/
set_option linter.unusedSimpArgs false
set_option linter.unusedVariables false
namespace Go.Ost
open Go

variable {P : Program} {n : Nat} {α : Type}

def Sh (H : Chunk) (J : Chunk → Prop) (C : Chunk) : Prop := ∃ C0, C = C0 ++ H ∧ J C0
def ShS (H : Chunk) (I : State → Prop) (C : State) : Prop := ∃ C0, C = C0 ++ [H] ∧ I C0

/-- An iterator's contract: as before, and what the element x points to lies in the chunk sh x. -/
structure IMeetsS (P : Program) (f : FuncId) (first captured : List Value) (encs : α → List Value) (sh : α → Chunk) (A : State) (Next : List α → α → Prop) (Done : List α → Prop) (inf : Bool) : Prop where
  able : callable P f = true
  out : ∀ (l : Nat) (J Jx : List α → Chunk → Prop), (inf = true → ∃ N, N ≤ 4611686018427387904 ∧ ∀ pre C, J pre C → pre.length ≤ N) →
    (∀ pre x, Next pre x → YMeets P l (encs x) (Sh (sh x) (J pre)) (Sh (sh x) (J (pre ++ [x]))) (Sh (sh x) (Jx (pre ++ [x])))) →
    ∀ C, J [] C → ∀ (F : Chunk) (w : World), Hold w (F :: C :: A) → CallsIn (FW none) 0 P f (first ++ [Value.func (.yield l) #[] #[]] ++ captured).toArray w
      (EndsW w fun _ S => ∃ C', S = F :: C' :: A ∧ ((∃ pre, Done pre ∧ J pre C') ∨ (∃ pre x, Next pre x ∧ Jx (pre ++ [x]) C')))

theorem iter_introS {f : FuncId} {first captured : List Value} {encs : α → List Value} {sh : α → Chunk} {A : State} {Next : List α → α → Prop} {Done : List α → Prop} {inf : Bool} (ha : callable P f = true)
    (h : ∀ (l : Nat) (J Jx : List α → Chunk → Prop), (inf = true → ∃ N, N ≤ 4611686018427387904 ∧ ∀ pre C, J pre C → pre.length ≤ N) → (∀ pre x, Next pre x → YMeets P l (encs x) (Sh (sh x) (J pre)) (Sh (sh x) (J (pre ++ [x]))) (Sh (sh x) (Jx (pre ++ [x])))) →
      ∀ C, J [] C → Meets P f (first ++ [Value.func (.yield l) #[] #[]] ++ captured) (C :: A) fun _ S => ∃ C', S = C' :: A ∧ ((∃ pre, Done pre ∧ J pre C') ∨ (∃ pre x, Next pre x ∧ Jx (pre ++ [x]) C'))) :
    IMeetsS P f first captured encs sh A Next Done inf :=
  ⟨ha, fun l J Jx hN hY C hC F w hw => ((h l J Jx hN hY C hC).out F w hw).mono fun e w' ⟨v, S, a, b, c, A', d, C', e', r⟩ => ⟨v, S, a, b, c, C', by rw [d, e'], r⟩⟩

theorem yield_meetsS {l : Nat} {args : List Value} {Jin Jout Jstop : Chunk → Prop} {S G : State} {C H : Chunk} {κ : Value → State → Prop} (h : YMeets P l args (Sh H Jin) (Sh H Jout) (Sh H Jstop)) (hC : Jin C) (ht : Take [C, H] S G)
    (k1 : ∀ C', Jout C' → κ (.bool true) (C' :: H :: G)) (k2 : ∀ C', Jstop C' → κ (.bool false) (C' :: H :: G)) : YieldW P l args.toArray S κ := by
  refine ⟨fun w hw => ?_⟩
  have h1 := h.out (C ++ H) ⟨C, rfl, hC⟩ G.flatten w (hw.perm (ht.perm.trans (by simp only [List.flatten_append, List.flatten_cons, List.flatten_nil, List.append_nil]; exact List.perm_append_comm)))
  obtain ⟨fn, tm, asg, bd, hr, hR⟩ := h1
  refine ⟨fn, tm, asg, bd, hr, hR.mono ?_⟩
  rintro e w' ⟨v, S', rfl, he, hh, b, C', rfl, rfl, j1, j2⟩
  cases b
  · obtain ⟨C0, rfl, hJ⟩ := j2 rfl
    exact ⟨.bool false, C0 :: H :: G, rfl, he, hh.perm (by simp only [List.flatten_cons, List.flatten_nil, List.append_nil]; rw [← List.append_assoc C0 H]; exact List.perm_append_comm), k2 C0 hJ⟩
  · obtain ⟨C0, rfl, hJ⟩ := j1 rfl
    exact ⟨.bool true, C0 :: H :: G, rfl, he, hh.perm (by simp only [List.flatten_cons, List.flatten_nil, List.append_nil]; rw [← List.append_assoc C0 H]; exact List.perm_append_comm), k1 C0 hJ⟩

theorem YMeets.swap {l : Nat} {args : List Value} {Ji Jo Jx Ki Ko Kx : Chunk → Prop} (h : YMeets P l args Ji Jo Jx) (h1 : ∀ C, Ki C → Ji C) (h2 : ∀ C, Jo C → Ko C) (h3 : ∀ C, Jx C → Kx C) : YMeets P l args Ki Ko Kx := by
  refine ⟨fun C hC F w hw => ?_⟩
  obtain ⟨fn, tm, asg, bd, hr, hR⟩ := h.out C (h1 C hC) F w hw
  refine ⟨fn, tm, asg, bd, hr, hR.mono ?_⟩
  rintro e w' ⟨v, S', rfl, he, hh, b, C', hv, hS, j1, j2⟩
  exact ⟨_, _, rfl, he, hh, b, C', hv, hS, fun hb => h2 _ (j1 hb), fun hb => h3 _ (j2 hb)⟩

/-- The core of both rules: the record l (and whatever else is new) lies; the iterator is called. -/
theorem range_coreS {ro : Option Nat} {fn : FuncId} {t : Array Value} {ps : Array Tmp} {assign body : Code} {dB l : Nat} {L : Env} {f : FuncId} {first captured : List Value} {encs : α → List Value} {sh : α → Chunk} {A C0 M : State}
    {Next : List α → α → Prop} {Done : List α → Prop} {inf : Bool} {Q : Exit → Act → World → Prop} {a' : Act} {w w1 : World}
    (hit : IMeetsS P f first captured encs sh A Next Done inf) (I : List α → State → Prop) (Ix : Code → List α → State → Prop)
    (hinf : inf = true → ∃ N, N ≤ 4611686018427387904 ∧ ∀ pre C, I pre C → pre.length ≤ N) (hag : Agree n L [] { tmps := t, defers := [] }) (hps : ∀ x, (encs x).length = ps.size) (h0 : I [] C0) (he : Ext w w1)
    (hw1 : Hold w1 ([(l, .loop { state := .ready, pending := none, fn, tmps := t, params := ps, assign, body, defers := dB })] :: M ++ C0 ++ A))
    (hround : ∀ (F : Chunk) (C : State) (r : Loop) (pre : List α) (x : α), Next pre x → I pre C → CodeW P n (some l) assign (assignK P n l r body F (ShS (sh x) (I (pre ++ [x]))) (fun c => ShS (sh x) (Ix c (pre ++ [x])))) [] (putAll n ps.toList (encs x) L) ([(l, .loop r)] :: F :: (C ++ [sh x])))
    (hdone : ∀ (pre : List α) (C : State) (w2 : World), Done pre → I pre C → Ext w w2 → Hold w2 (M ++ C ++ A) → Q .normal a' w2)
    (hstop : ∀ (c : Code) (pre : List α) (x : α) (C : State) (w2 : World), Next pre x → Ix c (pre ++ [x]) C → Ext w w2 → Hold w2 (M ++ C ++ A) → c.wpIn (FW ro) 0 P Q a' w2) :
    CallsIn (FW none) 0 P f (first ++ [Value.func (.yield l) #[] #[]] ++ captured).toArray w1 (rangePost (FW ro) 0 P l Q a') := by
  have h1 := hit.out l (fun pre C => ∃ C1 : State, C = (l, .loop { state := .ready, pending := none, fn, tmps := t, params := ps, assign, body, defers := dB }) :: C1.flatten ∧ I pre C1)
    (fun pre C => ∃ (c : Code) (C1 : State), C = (l, .loop { state := .done, pending := some c, fn, tmps := t, params := ps, assign, body, defers := dB }) :: C1.flatten ∧ Ix c pre C1)
    (fun h => let ⟨N, hN0, hN⟩ := hinf h; ⟨N, hN0, fun pre C ⟨C1, _, hI⟩ => hN pre C1 hI⟩)
    (fun pre x hx => (round_meets (fn := fn) (t := t) (ps := ps) (assign := assign) (body := body) (dB := dB) (I := ShS (sh x) (I pre)) (Iout := ShS (sh x) (I (pre ++ [x]))) (Ix := fun c => ShS (sh x) (Ix c (pre ++ [x]))) hag (hps x) fun F C r _ ⟨C0, hC0, hI⟩ => by rw [hC0]; exact hround F C0 r pre x hx hI).swap
      (fun C hC => by obtain ⟨C0, h1, C1, h2, h3⟩ := hC; exact ⟨C1 ++ [sh x], by rw [h1, h2]; simp, C1, rfl, h3⟩)
      (fun C hC => by obtain ⟨C0, h1, C1, h2, h3⟩ := hC; exact ⟨_, by rw [h1, h2, List.flatten_append, ← List.cons_append]; simp only [List.flatten_cons, List.flatten_nil, List.append_nil], C1, rfl, h3⟩)
      (fun C hC => by obtain ⟨c, C0, h1, C1, h2, h3⟩ := hC; exact ⟨_, by rw [h1, h2, List.flatten_append, ← List.cons_append]; simp only [List.flatten_cons, List.flatten_nil, List.append_nil], c, C1, rfl, h3⟩)) _ ⟨C0, rfl, h0⟩ M.flatten w1
    (hw1.perm (by
      simp only [List.flatten_append, List.flatten_cons, List.cons_append, List.append_assoc, List.nil_append]
      exact List.perm_middle.symm))
  refine h1.mono ?_
  rintro e w2 ⟨v, S, rfl, he2, hh, C', rfl, (⟨pre, hd, C1, rfl, hI⟩ | ⟨pre, x, hx, c, C1, rfl, hI⟩)⟩
  · have hw2 : Hold w2 ([(l, .loop { state := .ready, pending := none, fn, tmps := t, params := ps, assign, body, defers := dB })] :: (M ++ C1 ++ A)) := hh.perm (by
      simp only [List.flatten_append, List.flatten_cons, List.cons_append, List.append_assoc, List.nil_append]
      exact List.perm_middle)
    have hl2 : w2.heap[l]? = some (.loop { state := .ready, pending := none, fn, tmps := t, params := ps, assign, body, defers := dB }) := hw2.get l _ (by simp)
    refine ⟨none, _, run_endLoop (P := P) hl2 (by simp), hdone pre C1 _ hd hI ((he.trans he2).trans (put_ext _ _ _)) ?_⟩
    exact (put_hold hw2).sub (by simp)
  · have hw2 : Hold w2 ([(l, .loop { state := .done, pending := some c, fn, tmps := t, params := ps, assign, body, defers := dB })] :: (M ++ C1 ++ A)) := hh.perm (by
      simp only [List.flatten_append, List.flatten_cons, List.cons_append, List.append_assoc, List.nil_append]
      exact List.perm_middle)
    have hl2 : w2.heap[l]? = some (.loop { state := .done, pending := some c, fn, tmps := t, params := ps, assign, body, defers := dB }) := hw2.get l _ (by simp)
    refine ⟨some c, _, run_endLoop (P := P) hl2 (by simp), hstop c pre x C1 _ hx hI ((he.trans he2).trans (put_ext _ _ _)) ?_⟩
    exact (put_hold hw2).sub (by simp)

/-- 'for .. := range f { .. }', in no other such loop's body. -/
theorem code_rangeS {g : Operand} {ps : Array Tmp} {assign body : Code} {K : Cont} {D : List Nat} {L : Env} {S A C0 : State} {f : FuncId} {first captured : Array Value} {encs : α → List Value} {sh : α → Chunk}
    {Next : List α → α → Prop} {Done : List α → Prop} {inf : Bool} (hg : evT L g = some (.func (.func f) first captured)) (hit : IMeetsS P f first.toList captured.toList encs sh A Next Done inf)
    (ht : Take A S C0) (I : List α → State → Prop) (Ix : Code → List α → State → Prop) (hinf : inf = true → ∃ N, N ≤ 4611686018427387904 ∧ ∀ pre C, I pre C → pre.length ≤ N) (hps : ∀ x, (encs x).length = ps.size) (h0 : I [] C0)
    (hround : ∀ (l : Nat) (F : Chunk) (C : State) (r : Loop) (pre : List α) (x : α), Next pre x → I pre C → CodeW P n (some l) assign (assignK P n l r body F (ShS (sh x) (I (pre ++ [x]))) (fun c => ShS (sh x) (Ix c (pre ++ [x])))) [] (putAll n ps.toList (encs x) L) ([(l, .loop r)] :: F :: (C ++ [sh x])))
    (hdone : ∀ (d : Nat) (pre : List α) (C : State), Done pre → I pre C → K .normal (d :: D) L ([(d, .deferred (some []))] :: (C ++ A)))
    (hstop : ∀ (d : Nat) (c : Code) (pre : List α) (x : α) (C : State), Next pre x → Ix c (pre ++ [x]) C → CodeW P n none c K (d :: D) L ([(d, .deferred (some []))] :: (C ++ A))) :
    CodeW P n none (.rangeFunc g ps assign body) K D L S := by
  refine ⟨fun a w ha hw => wpIn_rangeFunc fun fn _ => ?_⟩
  obtain ⟨W1, hW1⟩ : ∃ W1 : World, W1 = (w.alloc (.deferred (some []))).alloc (.loop { state := .ready, pending := none, fn, tmps := a.tmps, params := ps, assign, body, defers := w.heap.size }) := ⟨_, rfl⟩
  refine ⟨w.heap.size + 1, [markD w.heap.size], W1,
    { target := .fn (.func f) captured, args := first ++ #[.func (.yield (w.heap.size + 1)) #[] #[]] }, W1, f, (first.toList ++ [Value.func (.yield (w.heap.size + 1)) #[] #[]] ++ captured.toList).toArray, W1,
    by rw [hW1]; exact run_enterLoop_outer fn a.tmps ps assign body, ?_, fun _ _ => trivial, ?_, fun h => (by cases h), ?_⟩
  · simp only [resolve, ha.ev hg]
    simp [Deferred.ofValue, Act.eval]
  · simp only [invoke]
    rw [enters_able hit.able]
    congr 2
    apply Array.ext'; simp
  · have e1 : (w.alloc (.deferred (some []))).heap = w.heap.push (.deferred (some [])) := rfl
    have hw1 := hw.new (w' := w.alloc (.deferred (some []))) (o := .deferred (some [])) rfl
    have hw2 := hw1.new (w' := (w.alloc (.deferred (some []))).alloc (.loop { state := .ready, pending := none, fn, tmps := a.tmps, params := ps, assign, body, defers := w.heap.size })) rfl
    rw [World.size_alloc, ← hW1] at hw2
    refine range_coreS (n := n) (L := L) (dB := w.heap.size) (t := a.tmps) (fn := fn) (C0 := C0) (M := [[(w.heap.size, .deferred (some []))]]) (w := w) hit I Ix hinf ⟨ha.size, ha.get, rfl⟩ hps h0
      (by rw [hW1]; exact ⟨rfl, rfl, rfl, by simp only [World.size_alloc]; omega⟩) ?_ (fun F C r pre x hx hI => hround _ F C r pre x hx hI) ?_ ?_
    · refine hw2.perm ?_
      simp only [List.flatten_append, List.flatten_cons, List.cons_append, List.append_assoc, List.nil_append, List.flatten_nil]
      refine List.Perm.cons _ (List.Perm.cons _ ?_)
      have := ht.perm
      rw [List.flatten_append] at this
      exact this.trans List.perm_append_comm
    · intro pre C w2 hd hI he hh
      exact ⟨_, L, _, hdone w.heap.size pre C hd hI, ⟨ha.size, ha.get, by simp [ha.marks]⟩, he, hh.perm (by simp)⟩
    · intro c pre x C w2 hx hI he hh
      refine wpIn_mono ((hstop w.heap.size c pre x C hx hI).out { a with defers := [markD w.heap.size] ++ a.defers } w2 ⟨ha.size, ha.get, by simp [ha.marks]⟩ (hh.perm (by simp))) fun _ _ _ hq => hq.ext he


end Go.Ost

/- Ranges over functions, in full: what the loop's memory holds when the range begins, what goes from the iterator to the loop's body with an element and back, what the iterator's own memory has become. Conditions: none. -/
set_option linter.unusedSimpArgs false
set_option linter.unusedVariables false
namespace Go.Ost
open Go

variable {P : Program} {n : Nat} {α : Type}

/-- A chunk of two parts. -/
def Gv (H : State → Prop) (J : Chunk → Prop) (C : Chunk) : Prop := ∃ (C0 : Chunk) (H0 : State), C = C0 ++ H0.flatten ∧ J C0 ∧ H H0
def GvS (H : State → Prop) (I : State → Prop) (C : State) : Prop := ∃ C0 H0 : State, C = C0 ++ H0 ∧ I C0 ∧ H H0

/-- An iterator's contract, in full. T0: what lies in the loop's memory at the beginning. Hin: what goes with an element; Hout, Hst: what comes back (as the loop goes on, or stops). E: what the iterator's memory has become. -/
structure IMeetsG (P : Program) (f : FuncId) (first captured : List Value) (encs : α → List Value) (A : State) (T0 : Chunk → Prop) (Hin Hout Hst : List α → α → State → Prop) (Next : List α → α → Prop) (Done : List α → Prop) (E Es : List α → State → Prop) (inf : Bool) : Prop where
  able : callable P f = true
  out : ∀ (l : Nat) (J Jx : List α → Chunk → Prop), (inf = true → ∃ N, N ≤ 4611686018427387904 ∧ ∀ pre C, J pre C → pre.length ≤ N) → (∀ C, J [] C → ∃ T R, T0 T ∧ C.Perm (T ++ R)) →
    (∀ pre x, Next pre x → YMeets P l (encs x) (Gv (Hin pre x) (J pre)) (Gv (Hout pre x) (J (pre ++ [x]))) (Gv (Hst pre x) (Jx (pre ++ [x])))) →
    ∀ C, J [] C → ∀ (F : Chunk) (w : World), Hold w (F :: C :: A) → CallsIn (FW none) 0 P f (first ++ [Value.func (.yield l) #[] #[]] ++ captured).toArray w
      (EndsW w fun _ S => ∃ C' A', S = F :: C' :: A' ∧ ((∃ pre, Done pre ∧ J pre C' ∧ E pre A') ∨ (∃ pre x, Next pre x ∧ Jx (pre ++ [x]) C' ∧ Es (pre ++ [x]) A')))

theorem iter_introG {f : FuncId} {first captured : List Value} {encs : α → List Value} {A : State} {T0 : Chunk → Prop} {Hin Hout Hst : List α → α → State → Prop} {Next : List α → α → Prop} {Done : List α → Prop} {E Es : List α → State → Prop} {inf : Bool} (ha : callable P f = true)
    (h : ∀ (l : Nat) (J Jx : List α → Chunk → Prop), (inf = true → ∃ N, N ≤ 4611686018427387904 ∧ ∀ pre C, J pre C → pre.length ≤ N) → (∀ C, J [] C → ∃ T R, T0 T ∧ C.Perm (T ++ R)) →
      (∀ pre x, Next pre x → YMeets P l (encs x) (Gv (Hin pre x) (J pre)) (Gv (Hout pre x) (J (pre ++ [x]))) (Gv (Hst pre x) (Jx (pre ++ [x])))) →
      ∀ C, J [] C → Meets P f (first ++ [Value.func (.yield l) #[] #[]] ++ captured) (C :: A) fun _ S => ∃ C' A', S = C' :: A' ∧ ((∃ pre, Done pre ∧ J pre C' ∧ E pre A') ∨ (∃ pre x, Next pre x ∧ Jx (pre ++ [x]) C' ∧ Es (pre ++ [x]) A'))) :
    IMeetsG P f first captured encs A T0 Hin Hout Hst Next Done E Es inf :=
  ⟨ha, fun l J Jx hN hT hY C hC F w hw => ((h l J Jx hN hT hY C hC).out F w hw).mono fun e w' ⟨v, S, a, b, c, A', d, C', A'', e', r⟩ => ⟨v, S, a, b, c, C', A'', by rw [d, e'], r⟩⟩

/-- In the iterator's own walk: yield is called. -/
theorem yield_meetsG {l : Nat} {args : List Value} {Jin Jout Jstop : Chunk → Prop} {Hi Ho Hs : State → Prop} {S G H : State} {C : Chunk} {κ : Value → State → Prop} (h : YMeets P l args (Gv Hi Jin) (Gv Ho Jout) (Gv Hs Jstop)) (hC : Jin C) (hH : Hi H) (ht : Take (C :: H) S G)
    (k1 : ∀ C' H', Jout C' → Ho H' → κ (.bool true) (C' :: (H' ++ G))) (k2 : ∀ C' H', Jstop C' → Hs H' → κ (.bool false) (C' :: (H' ++ G))) : YieldW P l args.toArray S κ := by
  refine ⟨fun w hw => ?_⟩
  have h1 := h.out (C ++ H.flatten) ⟨C, H, rfl, hC, hH⟩ G.flatten w (hw.perm (ht.perm.trans (by simp only [List.cons_append, List.flatten_append, List.flatten_cons, List.flatten_nil, List.append_nil]; rw [← List.append_assoc]; exact List.perm_append_comm)))
  obtain ⟨fn, tm, asg, bd, hr, hR⟩ := h1
  refine ⟨fn, tm, asg, bd, hr, hR.mono ?_⟩
  rintro e w' ⟨v, S', rfl, he, hh, b, C', rfl, rfl, j1, j2⟩
  cases b
  · obtain ⟨C0, H0, rfl, hJ, hH0⟩ := j2 rfl
    exact ⟨.bool false, C0 :: (H0 ++ G), rfl, he, hh.perm (by simp only [List.flatten_append, List.flatten_cons, List.flatten_nil, List.append_nil]; rw [← List.append_assoc C0]; exact List.perm_append_comm), k2 C0 H0 hJ hH0⟩
  · obtain ⟨C0, H0, rfl, hJ, hH0⟩ := j1 rfl
    exact ⟨.bool true, C0 :: (H0 ++ G), rfl, he, hh.perm (by simp only [List.flatten_append, List.flatten_cons, List.flatten_nil, List.append_nil]; rw [← List.append_assoc C0]; exact List.perm_append_comm), k1 C0 H0 hJ hH0⟩

/-- The core of both rules: the record l (and whatever else is new) lies; the iterator is called. -/
theorem range_coreG {ro : Option Nat} {fn : FuncId} {t : Array Value} {ps : Array Tmp} {assign body : Code} {dB l : Nat} {L : Env} {f : FuncId} {first captured : List Value} {encs : α → List Value} {A C0 M : State}
    {T0 : Chunk → Prop} {Hin Hout Hst : List α → α → State → Prop} {Next : List α → α → Prop} {Done : List α → Prop} {E Es : List α → State → Prop} {inf : Bool} {Q : Exit → Act → World → Prop} {a' : Act} {w w1 : World}
    (hit : IMeetsG P f first captured encs A T0 Hin Hout Hst Next Done E Es inf) (I : List α → State → Prop) (Ix : Code → List α → State → Prop)
    (hinf : inf = true → ∃ N, N ≤ 4611686018427387904 ∧ ∀ pre C, I pre C → pre.length ≤ N) (hT : ∀ C, I [] C → ∃ T R, T0 T ∧ C.flatten.Perm (T ++ R)) (hag : Agree n L [] { tmps := t, defers := [] }) (hps : ∀ x, (encs x).length = ps.size) (h0 : I [] C0) (he : Ext w w1)
    (hw1 : Hold w1 ([(l, .loop { state := .ready, pending := none, fn, tmps := t, params := ps, assign, body, defers := dB })] :: M ++ C0 ++ A))
    (hround : ∀ (F : Chunk) (C H : State) (r : Loop) (pre : List α) (x : α), Next pre x → I pre C → Hin pre x H → CodeW P n (some l) assign (assignK P n l r body F (GvS (Hout pre x) (I (pre ++ [x]))) (fun c => GvS (Hst pre x) (Ix c (pre ++ [x])))) [] (putAll n ps.toList (encs x) L) ([(l, .loop r)] :: F :: (C ++ H)))
    (hdone : ∀ (pre : List α) (C A : State) (w2 : World), Done pre → I pre C → E pre A → Ext w w2 → Hold w2 (M ++ C ++ A) → Q .normal a' w2)
    (hstop : ∀ (c : Code) (pre : List α) (x : α) (C A : State) (w2 : World), Next pre x → Ix c (pre ++ [x]) C → Es (pre ++ [x]) A → Ext w w2 → Hold w2 (M ++ C ++ A) → c.wpIn (FW ro) 0 P Q a' w2) :
    CallsIn (FW none) 0 P f (first ++ [Value.func (.yield l) #[] #[]] ++ captured).toArray w1 (rangePost (FW ro) 0 P l Q a') := by
  have h1 := hit.out l (fun pre C => ∃ C1 : State, C = (l, .loop { state := .ready, pending := none, fn, tmps := t, params := ps, assign, body, defers := dB }) :: C1.flatten ∧ I pre C1)
    (fun pre C => ∃ (c : Code) (C1 : State), C = (l, .loop { state := .done, pending := some c, fn, tmps := t, params := ps, assign, body, defers := dB }) :: C1.flatten ∧ Ix c pre C1)
    (fun h => let ⟨N, hN0, hN⟩ := hinf h; ⟨N, hN0, fun pre C ⟨C1, _, hI⟩ => hN pre C1 hI⟩)
    (fun C ⟨C1, hC, hI⟩ => by
      obtain ⟨T, R, h1, h2⟩ := hT C1 hI
      exact ⟨T, _ :: R, h1, by rw [hC]; exact (List.Perm.cons _ h2).trans List.perm_middle.symm⟩)
    (fun pre x hx => (round_meets (fn := fn) (t := t) (ps := ps) (assign := assign) (body := body) (dB := dB) (I := GvS (Hin pre x) (I pre)) (Iout := GvS (Hout pre x) (I (pre ++ [x]))) (Ix := fun c => GvS (Hst pre x) (Ix c (pre ++ [x]))) hag (hps x) fun F C r _ ⟨C0, H0, hC0, hI, hH⟩ => by rw [hC0]; exact hround F C0 H0 r pre x hx hI hH).swap
      (fun C hC => by obtain ⟨C0, H0, h1, ⟨C1, h2, h3⟩, h4⟩ := hC; exact ⟨C1 ++ H0, by rw [h1, h2]; simp, C1, H0, rfl, h3, h4⟩)
      (fun C hC => by obtain ⟨C0, h1, C1, H0, h2, h3, h4⟩ := hC; exact ⟨_, H0, by rw [h1, h2, List.flatten_append, ← List.cons_append], ⟨C1, rfl, h3⟩, h4⟩)
      (fun C hC => by obtain ⟨c, C0, h1, C1, H0, h2, h3, h4⟩ := hC; exact ⟨_, H0, by rw [h1, h2, List.flatten_append, ← List.cons_append], ⟨c, C1, rfl, h3⟩, h4⟩)) _ ⟨C0, rfl, h0⟩ M.flatten w1
    (hw1.perm (by
      simp only [List.flatten_append, List.flatten_cons, List.cons_append, List.append_assoc, List.nil_append]
      exact List.perm_middle.symm))
  refine h1.mono ?_
  rintro e w2 ⟨v, S, rfl, he2, hh, C', A, rfl, (⟨pre, hd, ⟨C1, rfl, hI⟩, hE⟩ | ⟨pre, x, hx, ⟨c, C1, rfl, hI⟩, hE⟩)⟩
  · have hw2 : Hold w2 ([(l, .loop { state := .ready, pending := none, fn, tmps := t, params := ps, assign, body, defers := dB })] :: (M ++ C1 ++ A)) := hh.perm (by
      simp only [List.flatten_append, List.flatten_cons, List.cons_append, List.append_assoc, List.nil_append]
      exact List.perm_middle)
    have hl2 : w2.heap[l]? = some (.loop { state := .ready, pending := none, fn, tmps := t, params := ps, assign, body, defers := dB }) := hw2.get l _ (by simp)
    refine ⟨none, _, run_endLoop (P := P) hl2 (by simp), hdone pre C1 A _ hd hI hE ((he.trans he2).trans (put_ext _ _ _)) ?_⟩
    exact (put_hold hw2).sub (by simp)
  · have hw2 : Hold w2 ([(l, .loop { state := .done, pending := some c, fn, tmps := t, params := ps, assign, body, defers := dB })] :: (M ++ C1 ++ A)) := hh.perm (by
      simp only [List.flatten_append, List.flatten_cons, List.cons_append, List.append_assoc, List.nil_append]
      exact List.perm_middle)
    have hl2 : w2.heap[l]? = some (.loop { state := .done, pending := some c, fn, tmps := t, params := ps, assign, body, defers := dB }) := hw2.get l _ (by simp)
    refine ⟨some c, _, run_endLoop (P := P) hl2 (by simp), hstop c pre x C1 A _ hx hI hE ((he.trans he2).trans (put_ext _ _ _)) ?_⟩
    exact (put_hold hw2).sub (by simp)

/-- 'for .. := range f { .. }', in no other such loop's body. -/
theorem code_rangeG {g : Operand} {ps : Array Tmp} {assign body : Code} {K : Cont} {D : List Nat} {L : Env} {S A C0 : State} {f : FuncId} {first captured : Array Value} {encs : α → List Value}
    {T0 : Chunk → Prop} {Hin Hout Hst : List α → α → State → Prop} {Next : List α → α → Prop} {Done : List α → Prop} {E Es : List α → State → Prop} {inf : Bool} (hg : evT L g = some (.func (.func f) first captured)) (hit : IMeetsG P f first.toList captured.toList encs A T0 Hin Hout Hst Next Done E Es inf)
    (ht : Take A S C0) (I : List α → State → Prop) (Ix : Code → List α → State → Prop) (hinf : inf = true → ∃ N, N ≤ 4611686018427387904 ∧ ∀ pre C, I pre C → pre.length ≤ N) (hT : ∀ C, I [] C → ∃ T R, T0 T ∧ C.flatten.Perm (T ++ R)) (hps : ∀ x, (encs x).length = ps.size) (h0 : I [] C0)
    (hround : ∀ (l : Nat) (F : Chunk) (C H : State) (r : Loop) (pre : List α) (x : α), Next pre x → I pre C → Hin pre x H → CodeW P n (some l) assign (assignK P n l r body F (GvS (Hout pre x) (I (pre ++ [x]))) (fun c => GvS (Hst pre x) (Ix c (pre ++ [x])))) [] (putAll n ps.toList (encs x) L) ([(l, .loop r)] :: F :: (C ++ H)))
    (hdone : ∀ (d : Nat) (pre : List α) (C A : State), Done pre → I pre C → E pre A → K .normal (d :: D) L ([(d, .deferred (some []))] :: (C ++ A)))
    (hstop : ∀ (d : Nat) (c : Code) (pre : List α) (x : α) (C A : State), Next pre x → Ix c (pre ++ [x]) C → Es (pre ++ [x]) A → CodeW P n none c K (d :: D) L ([(d, .deferred (some []))] :: (C ++ A))) :
    CodeW P n none (.rangeFunc g ps assign body) K D L S := by
  refine ⟨fun a w ha hw => wpIn_rangeFunc fun fn _ => ?_⟩
  obtain ⟨W1, hW1⟩ : ∃ W1 : World, W1 = (w.alloc (.deferred (some []))).alloc (.loop { state := .ready, pending := none, fn, tmps := a.tmps, params := ps, assign, body, defers := w.heap.size }) := ⟨_, rfl⟩
  refine ⟨w.heap.size + 1, [markD w.heap.size], W1,
    { target := .fn (.func f) captured, args := first ++ #[.func (.yield (w.heap.size + 1)) #[] #[]] }, W1, f, (first.toList ++ [Value.func (.yield (w.heap.size + 1)) #[] #[]] ++ captured.toList).toArray, W1,
    by rw [hW1]; exact run_enterLoop_outer fn a.tmps ps assign body, ?_, fun _ _ => trivial, ?_, fun h => (by cases h), ?_⟩
  · simp only [resolve, ha.ev hg]
    simp [Deferred.ofValue, Act.eval]
  · simp only [invoke]
    rw [enters_able hit.able]
    congr 2
    apply Array.ext'; simp
  · have e1 : (w.alloc (.deferred (some []))).heap = w.heap.push (.deferred (some [])) := rfl
    have hw1 := hw.new (w' := w.alloc (.deferred (some []))) (o := .deferred (some [])) rfl
    have hw2 := hw1.new (w' := (w.alloc (.deferred (some []))).alloc (.loop { state := .ready, pending := none, fn, tmps := a.tmps, params := ps, assign, body, defers := w.heap.size })) rfl
    rw [World.size_alloc, ← hW1] at hw2
    refine range_coreG (n := n) (L := L) (dB := w.heap.size) (t := a.tmps) (fn := fn) (C0 := C0) (M := [[(w.heap.size, .deferred (some []))]]) (w := w) hit I Ix hinf hT ⟨ha.size, ha.get, rfl⟩ hps h0
      (by rw [hW1]; exact ⟨rfl, rfl, rfl, by simp only [World.size_alloc]; omega⟩) ?_ (fun F C H r pre x hx hI hH => hround _ F C H r pre x hx hI hH) ?_ ?_
    · refine hw2.perm ?_
      simp only [List.flatten_append, List.flatten_cons, List.cons_append, List.append_assoc, List.nil_append, List.flatten_nil]
      refine List.Perm.cons _ (List.Perm.cons _ ?_)
      have := ht.perm
      rw [List.flatten_append] at this
      exact this.trans List.perm_append_comm
    · intro pre C A w2 hd hI hE he hh
      exact ⟨_, L, _, hdone w.heap.size pre C A hd hI hE, ⟨ha.size, ha.get, by simp [ha.marks]⟩, he, hh.perm (by simp)⟩
    · intro c pre x C A w2 hx hI hE he hh
      refine wpIn_mono ((hstop w.heap.size c pre x C A hx hI hE).out { a with defers := [markD w.heap.size] ++ a.defers } w2 ⟨ha.size, ha.get, by simp [ha.marks]⟩ (hh.perm (by simp))) fun _ _ _ hq => hq.ext he

/-- The same in the body of such a loop (of the record l₀). -/
theorem code_rangeG_in {l₀ : Nat} {r₀ : Loop} {g : Operand} {ps : Array Tmp} {assign body : Code} {K : Cont} {D : List Nat} {L : Env} {S A C0 : State} {f : FuncId} {first captured : Array Value} {encs : α → List Value}
    {T0 : Chunk → Prop} {Hin Hout Hst : List α → α → State → Prop} {Next : List α → α → Prop} {Done : List α → Prop} {E Es : List α → State → Prop} {inf : Bool} (hg : evT L g = some (.func (.func f) first captured)) (hl : Lies l₀ (.loop r₀) S) (hit : IMeetsG P f first.toList captured.toList encs A T0 Hin Hout Hst Next Done E Es inf)
    (ht : Take A S C0) (I : List α → State → Prop) (Ix : Code → List α → State → Prop) (hinf : inf = true → ∃ N, N ≤ 4611686018427387904 ∧ ∀ pre C, I pre C → pre.length ≤ N) (hT : ∀ C, I [] C → ∃ T R, T0 T ∧ C.flatten.Perm (T ++ R)) (hps : ∀ x, (encs x).length = ps.size) (h0 : I [] C0)
    (hround : ∀ (l : Nat) (F : Chunk) (C H : State) (r : Loop) (pre : List α) (x : α), Next pre x → I pre C → Hin pre x H → CodeW P n (some l) assign (assignK P n l r body F (GvS (Hout pre x) (I (pre ++ [x]))) (fun c => GvS (Hst pre x) (Ix c (pre ++ [x])))) [] (putAll n ps.toList (encs x) L) ([(l, .loop r)] :: F :: (C ++ H)))
    (hdone : ∀ (pre : List α) (C A : State), Done pre → I pre C → E pre A → K .normal D L (C ++ A))
    (hstop : ∀ (c : Code) (pre : List α) (x : α) (C A : State), Next pre x → Ix c (pre ++ [x]) C → Es (pre ++ [x]) A → CodeW P n (some l₀) c K D L (C ++ A)) :
    CodeW P n (some l₀) (.rangeFunc g ps assign body) K D L S := by
  refine ⟨fun a w ha hw => wpIn_rangeFunc fun fn _ => ?_⟩
  have hr := hl.get hw
  obtain ⟨W1, hW1⟩ : ∃ W1 : World, W1 = w.alloc (.loop { state := .ready, pending := none, fn, tmps := a.tmps, params := ps, assign, body, defers := r₀.defers }) := ⟨_, rfl⟩
  refine ⟨w.heap.size, [], W1,
    { target := .fn (.func f) captured, args := first ++ #[.func (.yield w.heap.size) #[] #[]] }, W1, f, (first.toList ++ [Value.func (.yield w.heap.size) #[] #[]] ++ captured.toList).toArray, W1,
    by rw [hW1]; exact run_enterLoop_inner hr fn a.tmps ps assign body, ?_, fun _ _ => trivial, ?_, fun h => (by cases h), ?_⟩
  · simp only [resolve, ha.ev hg]
    simp [Deferred.ofValue, Act.eval]
  · simp only [invoke]
    rw [enters_able hit.able]
    congr 2
    apply Array.ext'; simp
  · have hw1 := hw.new (w' := w.alloc (.loop { state := .ready, pending := none, fn, tmps := a.tmps, params := ps, assign, body, defers := r₀.defers })) rfl
    rw [← hW1] at hw1
    refine range_coreG (n := n) (L := L) (dB := r₀.defers) (t := a.tmps) (fn := fn) (C0 := C0) (M := []) (w := w) hit I Ix hinf hT ⟨ha.size, ha.get, rfl⟩ hps h0
      (by rw [hW1]; exact ⟨rfl, rfl, rfl, by simp only [World.size_alloc]; omega⟩) ?_ (fun F C H r pre x hx hI hH => hround _ F C H r pre x hx hI hH) ?_ ?_
    · refine hw1.perm ?_
      simp only [List.flatten_append, List.flatten_cons, List.cons_append, List.append_assoc, List.nil_append, List.flatten_nil]
      refine List.Perm.cons _ ?_
      have := ht.perm
      rw [List.flatten_append] at this
      exact this.trans List.perm_append_comm
    · intro pre C A w2 hd hI hE he hh
      exact ⟨_, L, _, hdone pre C A hd hI hE, ⟨ha.size, ha.get, by simp [ha.marks]⟩, he, hh.perm (by simp)⟩
    · intro c pre x C A w2 hx hI hE he hh
      refine wpIn_mono ((hstop c pre x C A hx hI hE).out { a with defers := [] ++ a.defers } w2 ⟨ha.size, ha.get, by simp [ha.marks]⟩ (hh.perm (by simp))) fun _ _ _ hq => hq.ext he


/-- The same blocks, in other chunks. -/
theorem code_perm {ro : Option Nat} {c : Code} {K : Cont} {D : List Nat} {L : Env} {S S' : State} (hp : S.flatten.Perm S'.flatten) (h : CodeW P n ro c K D L S') : CodeW P n ro c K D L S :=
  ⟨fun a w ha hw => h.out a w ha (hw.perm hp)⟩
theorem T0_in {T R Cj : Chunk} {T0 : Chunk → Prop} {S G : State} (h : T0 T) (hp : Pick Cj S G) (hc : Cj.Perm (T ++ R)) : ∃ T R, T0 T ∧ S.flatten.Perm (T ++ R) :=
  ⟨T, R ++ G.flatten, h, hp.perm.trans (by rw [List.flatten_cons, ← List.append_assoc]; exact List.Perm.append_right _ hc)⟩
theorem T0_pick {T : Chunk} {T0 : Chunk → Prop} {S G : State} (h : T0 T) (hp : Pick T S G) : ∃ T R, T0 T ∧ S.flatten.Perm (T ++ R) := ⟨T, G.flatten, h, hp.perm⟩
/-- A whole block is written anew. -/
theorem store_all {b : Nat} {e t : TypeId} {z : Value} {s by_ : Nat} {cs : Array Value} {vs : List Value} {S S' : State} {κ : State → Prop} [hs : TSized P t z s by_] (hz : vs.length = s) (hc : ∀ v ∈ vs, Value.cell1 v)
    (hu : Upd b (.cells cs e (0, 0)) (.cells vs.toArray e (0, 0)) S S') (hcs : cs.size = s) (k : κ S') : UnitW P (Instr.storeAt t (.pointer (some ⟨b, 0, none⟩)) (.agg vs.toArray)) S κ := by
  have e1 : setCells cs 0 vs = vs.toArray := by
    have := setCells_all vs [] cs.toList [] (by simp [hcs, hz])
    simpa using this
  have e2 : vs.toArray.toList = vs := by simp
  exact store_agg (e := e) (cs := cs) (by simpa using hz) (by simpa using hc) (by rw [e2, e1]; exact hu) (by omega) k
/-- A whole block is read. -/
theorem load_all {b : Nat} {e t : TypeId} {z : Value} {s by_ : Nat} {vs : List Value} {m : Nat × Nat} {S : State} {κ : Value → Prop} [hf : TDeep P t] [hs : TSized P t z s by_] (hl : Lies b (.cells vs.toArray e m) S) (hz : vs.length = s) (k : κ (.agg vs.toArray)) :
    ReadW P (Instr.loadAt t (.pointer (some ⟨b, 0, none⟩))) S κ := by
  refine load_agg hl (by simp [hz]) ?_
  have e1 : vs.toArray.extract 0 (0 + s) = vs.toArray := by
    apply Array.ext'
    simp [List.extract_eq_take_drop, ← hz]
  rw [e1]; exact k
/-- A part of a block is read. -/
theorem load_sub {b : Nat} {e t : TypeId} {z : Value} {s by_ : Nat} {vs ws : List Value} {o : Nat} {m : Nat × Nat} {S : State} {κ : Value → Prop} [hf : TDeep P t] [hs : TSized P t z s by_] (hl : Lies b (.cells vs.toArray e m) S) (ho : o + s ≤ vs.length) (hw : (vs.drop o).take s = ws) (k : κ (.agg ws.toArray)) :
    ReadW P (Instr.loadAt t (.pointer (some ⟨b, o, none⟩))) S κ := by
  refine load_agg hl (by simpa using ho) ?_
  have e1 : vs.toArray.extract o (o + s) = ws.toArray := by
    apply Array.ext'
    simp [List.extract_eq_take_drop, ← hw]
  rw [e1]; exact k
/-- A block of one cell. -/
abbrev bx (p : Nat) (v : Value) (t : TypeId) : Chunk := [(p, .cells #[v] t (0, 0))]
/-- What goes along with no element. -/
abbrev noH {α : Type} (_ : List α) (_ : α) (H : State) : Prop := H = []
end Go.Ost

/- Parts of elements: a structure within a structure. Conditions: as each says. -/
set_option linter.unusedSimpArgs false
set_option linter.unusedVariables false
namespace Go.Ost
open Go

variable {P : Program}

section rows
variable {α : Type} (enc : α → List Value) (s : Nat) (hs : ∀ x, (enc x).length = s)
include hs
theorem flat_parts (l : List α) (i : Nat) (h : i < l.length) : l.flatMap enc = (l.take i).flatMap enc ++ (enc l[i] ++ (l.drop (i + 1)).flatMap enc) ∧ ((l.take i).flatMap enc).length = i * s := by
  refine ⟨?_, ?_⟩
  · conv => lhs; rw [← List.take_append_drop i l, List.flatMap_append, List.drop_eq_getElem_cons h, List.flatMap_cons]
  · rw [flat_len enc s hs, List.length_take]; congr 1; omega
theorem flat_sub (l : List α) (i off n : Nat) (h : i < l.length) (hn : off + n ≤ s) : ((l.flatMap enc).drop (i * s + off)).take n = ((enc l[i]).drop off).take n := by
  obtain ⟨e1, e2⟩ := flat_parts enc s hs l i h
  rw [e1, ← e2, ← List.drop_drop, List.drop_left' rfl, List.drop_append_of_le_length (by rw [hs]; omega), List.take_append_of_le_length (by rw [List.length_drop, hs]; omega)]
theorem flat_setL_sub (l : List α) (i off : Nat) (vs : List Value) (h : i < l.length) (hn : off + vs.length ≤ s) (x' : α) (hx : (enc l[i]).take off ++ (vs ++ (enc l[i]).drop (off + vs.length)) = enc x') :
    setL (l.flatMap enc) (i * s + off) vs = (l.set i x').flatMap enc := by
  obtain ⟨e1, e2⟩ := flat_parts enc s hs l i h
  have e3 : enc l[i] = (enc l[i]).take off ++ (((enc l[i]).drop off).take vs.length ++ (enc l[i]).drop (off + vs.length)) := by
    conv => lhs; rw [← List.take_append_drop off (enc l[i]), ← List.take_append_drop vs.length ((enc l[i]).drop off), List.drop_drop]
  have e4 : l.flatMap enc = ((l.take i).flatMap enc ++ (enc l[i]).take off) ++ (((enc l[i]).drop off).take vs.length ++ ((enc l[i]).drop (off + vs.length) ++ (l.drop (i + 1)).flatMap enc)) := by
    rw [e1]; conv => lhs; rw [e3]
    simp only [List.append_assoc]
  have e5 : ((l.take i).flatMap enc ++ (enc l[i]).take off).length = i * s + off := by
    rw [List.length_append, e2, List.length_take, hs]; omega
  rw [e4, ← e5, setL_app vs _ _ _ (by rw [List.length_take, List.length_drop, hs]; omega), List.set_eq_take_append_cons_drop, if_pos h, List.flatMap_append, List.flatMap_cons, ← hx]
  simp only [List.append_assoc]
end rows

section facts
variable {a : Option Addr} {len cap : Nat} {H : Chunk} {κ : Value → Prop} {t e' : TypeId} {z : Value} {s n b2 : Nat} {α : Type} {enc : α → List Value} {l : List α} {x x' : α} {i off : Nat} {S G : State} {vs : List Value}
theorem load_el_sub [TDeep P t] [TSized P t z n b2] (ho : Own s e' H a len cap (l.flatMap enc)) (hs : ∀ x, (enc x).length = s) (hx : l[i]? = some x) (h0 : 0 < n) (hn : off + n ≤ s) (hw : ((enc x).drop off).take n = vs) (hH : H ∈ S) (q : κ (.agg vs.toArray)) :
    ReadW P (Instr.loadAt t (.pointer (some (elA a (i * s + off))))) S κ := by
  have hi := (List.getElem?_eq_some_iff.1 hx).1
  refine el_load_agg (ho.rd hH) h0 ?_ ?_
  · rw [flat_len enc s hs]
    have : (i + 1) * s ≤ l.length * s := Nat.mul_le_mul_right s hi
    rw [Nat.add_mul] at this; omega
  · rw [flat_sub enc s hs l i off n hi hn, List.getElem?_eq_some_iff.1 hx |>.2, hw]; exact q
theorem store_el_sub {κ : State → Prop} [TSized P t z n b2] (ho : Own s e' H a len cap (l.flatMap enc)) (hp : Pick H S G) (hs : ∀ x, (enc x).length = s) (hx : l[i]? = some x) (h0 : 0 < n) (hvs : vs.length = n) (hc : ∀ u ∈ vs, Value.cell1 u) (hn : off + n ≤ s)
    (hv : (enc x).take off ++ (vs ++ (enc x).drop (off + n)) = enc x') (q : ∀ C', Own s e' C' a len cap ((l.set i x').flatMap enc) → κ (C' :: G)) : UnitW P (Instr.storeAt t (.pointer (some (elA a (i * s + off)))) (.agg vs.toArray)) S κ := by
  have hi := (List.getElem?_eq_some_iff.1 hx).1
  refine own_store_agg ho hp h0 hvs hc ?_ (fun C' h => q C' ?_)
  · rw [flat_len enc s hs]
    have : (i + 1) * s ≤ l.length * s := Nat.mul_le_mul_right s hi
    rw [Nat.add_mul] at this; omega
  · rw [flat_setL_sub enc s hs l i off vs hi (by omega) x' (by rw [List.getElem?_eq_some_iff.1 hx |>.2, hvs]; exact hv)] at h
    exact h
theorem load_rd_agg [TDeep P t] [TSized P t z s b2]
    (hr : Rd s [H] a len (l.flatMap enc)) (hs : ∀ x, (enc x).length = s) (hx : l[i]? = some x) (hp : 0 < s) (hH : H ∈ S) (q : κ (.agg (enc x).toArray)) : ReadW P (Instr.loadAt t (.pointer (some (elA a (i * s))))) S κ := by
  have hi := (List.getElem?_eq_some_iff.1 hx).1
  refine el_load_agg (hr.mem hH) hp ?_ ?_
  · rw [flat_len enc s hs]
    have : (i + 1) * s ≤ l.length * s := Nat.mul_le_mul_right s hi
    rw [Nat.add_mul] at this; omega
  · rw [flat_el enc s hs l i hi, List.getElem?_eq_some_iff.1 hx |>.2]; exact q
theorem alloc_as {κ : Value → State → Prop} {by_ : Nat} [hs : TSized P t z s by_] (cs : Array Value) (hz : z.cells = cs) (k : ∀ b : Nat, κ (.pointer (some ⟨b, 0, none⟩)) ([(b, .cells cs t (0, 0))] :: S)) : ValW P (Instr.alloc t true (.tuple #[])) S κ :=
  alloc_new fun b => by rw [hz]; exact k b
end facts

end Go.Ost

/- Bytes as values: comparing them, their bits. Conditions: none. -/
set_option linter.unusedSimpArgs false
set_option linter.unusedVariables false
namespace Go.Ost
open Go

variable {P : Program}

section bytes
variable (t : TypeId) (x y : Operand) (a b : UInt8) (n : Int) (κ : Value → Prop)
theorem beq8 : ((a.toNat : Int) == b.toNat) = (a == b) := by
  by_cases h : a = b
  · subst h; rw [beq_self_eq_true, beq_self_eq_true]
  · have h2 : ¬ ((a.toNat : Int) = b.toNat) := fun e => h (UInt8.toNat_inj.1 (by omega))
    rw [beq_eq_false_iff_ne.2 h, beq_eq_false_iff_ne.2 h2]
theorem u8_eql : PureW P (do eqGuard .eql t x y (b8 a) (b8 b); binOp .eql t (b8 a) (b8 b)) κ = κ (.bool (a == b)) := by
  refine (bin_eql t x y .u8 _ _ κ).trans ?_
  rw [beq8]
theorem u8_neq : PureW P (do eqGuard .neq t x y (b8 a) (b8 b); binOp .neq t (b8 a) (b8 b)) κ = κ (.bool (a != b)) := by
  refine (bin_neq t x y .u8 _ _ κ).trans ?_
  rw [bne, beq8, bne]
theorem u8n_eql : PureW P (do eqGuard .eql t x y (b8 a) (.int .u8 n); binOp .eql t (b8 a) (.int .u8 n)) κ = κ (.bool ((a.toNat : Int) == n)) := bin_eql t x y .u8 _ _ κ
theorem u8n_neq : PureW P (do eqGuard .neq t x y (b8 a) (.int .u8 n); binOp .neq t (b8 a) (.int .u8 n)) κ = κ (.bool ((a.toNat : Int) != n)) := bin_neq t x y .u8 _ _ κ
theorem u8n_lss : PureW P (do eqGuard .lss t x y (b8 a) (.int .u8 n); binOp .lss t (b8 a) (.int .u8 n)) κ = κ (.bool (decide ((a.toNat : Int) < n))) := bin_lss t x y .u8 _ _ κ
theorem u8n_leq : PureW P (do eqGuard .leq t x y (b8 a) (.int .u8 n); binOp .leq t (b8 a) (.int .u8 n)) κ = κ (.bool (decide ((a.toNat : Int) ≤ n))) := bin_leq t x y .u8 _ _ κ
theorem u8n_gtr : PureW P (do eqGuard .gtr t x y (b8 a) (.int .u8 n); binOp .gtr t (b8 a) (.int .u8 n)) κ = κ (.bool (decide (n < (a.toNat : Int)))) := bin_gtr t x y .u8 _ _ κ
theorem u8n_geq : PureW P (do eqGuard .geq t x y (b8 a) (.int .u8 n); binOp .geq t (b8 a) (.int .u8 n)) κ = κ (.bool (decide (n ≤ (a.toNat : Int)))) := bin_geq t x y .u8 _ _ κ
theorem wrap8_self : IntKind.u8.wrap (a.toNat : Int) = a.toNat := by
  have := a.toNat_lt
  exact wrap_u8 (by omega) (by omega)
theorem u8_xor : PureW P (do eqGuard .xor t x y (b8 a) (b8 b); binOp .xor t (b8 a) (b8 b)) κ = κ (b8 (a ^^^ b)) :=
  pureW_eq (fun w => by
    show Result.ok (Value.int .u8 (IntKind.u8.wrap ((BitVec.ofInt 8 (a.toNat : Int) ^^^ BitVec.ofInt 8 (b.toNat : Int)).toNat : Int))) w = _
    have e : (BitVec.ofInt 8 (a.toNat : Int) ^^^ BitVec.ofInt 8 (b.toNat : Int)).toNat = (a ^^^ b).toNat := by simp
    rw [e, wrap8_self]; rfl) κ
theorem u8_or : PureW P (do eqGuard .or t x y (b8 a) (b8 b); binOp .or t (b8 a) (b8 b)) κ = κ (b8 (a ||| b)) :=
  pureW_eq (fun w => by
    show Result.ok (Value.int .u8 (IntKind.u8.wrap ((BitVec.ofInt 8 (a.toNat : Int) ||| BitVec.ofInt 8 (b.toNat : Int)).toNat : Int))) w = _
    have e : (BitVec.ofInt 8 (a.toNat : Int) ||| BitVec.ofInt 8 (b.toNat : Int)).toNat = (a ||| b).toNat := by simp
    rw [e, wrap8_self]; rfl) κ
theorem u8_and : PureW P (do eqGuard .and t x y (b8 a) (b8 b); binOp .and t (b8 a) (b8 b)) κ = κ (b8 (a &&& b)) :=
  pureW_eq (fun w => by
    show Result.ok (Value.int .u8 (IntKind.u8.wrap ((BitVec.ofInt 8 (a.toNat : Int) &&& BitVec.ofInt 8 (b.toNat : Int)).toNat : Int))) w = _
    have e : (BitVec.ofInt 8 (a.toNat : Int) &&& BitVec.ofInt 8 (b.toNat : Int)).toNat = (a &&& b).toNat := by simp
    rw [e, wrap8_self]; rfl) κ
end bytes

end Go.Ost

/- Texts: a byte, a part; bytes' bits with numbers written out. Conditions: none. -/
set_option linter.unusedSimpArgs false
set_option linter.unusedVariables false
namespace Go.Ost
open Go

variable {P : Program}

section strings
variable {t : TypeId} {bs : List UInt8} {j k : IntKind} {l h i : Int} {κ : Value → Prop}
theorem str_ext (bs : List UInt8) (l h : Nat) : (str bs).extract l h = str ((bs.take h).drop l) := by
  apply ByteArray.ext
  rw [ByteArray.data_extract]
  apply Array.ext'
  simp [str, List.extract_eq_take_drop, List.drop_take]
theorem sidx [ht : TStr P t] (h0 : 0 ≤ i) (h1 : i < bs.length) : PureW P (Instr.index t (.string (str bs)) (.int k i)) κ = κ (b8 (bs.getD i.toNat 0)) :=
  pureW_eq (fun w => by
    have e : (str bs)[i.toNat]? = some (bs.getD i.toNat 0) := by
      have h2 : i.toNat < bs.length := by omega
      have h3 : i.toNat < (str bs).size := h2
      rw [getElem?_pos (str bs) i.toNat h3]
      congr 1
      show (bs.toArray)[i.toNat] = _
      rw [List.getD, List.getElem?_eq_getElem h2, Option.getD_some]
      rfl
    simp [Instr.index, asIntOf, Sem.run_bind, run_und ht.und, Result.andThen, h0, e, b8]) κ
theorem scut_hi [ht : TStr P t] (h0 : 0 ≤ h) (h1 : h ≤ bs.length) : PureW P (Instr.sliceAt t (.string (str bs)) none (some (.int k h)) none) κ = κ (.string (str (bs.take h.toNat))) :=
  pureW_eq (fun w => by
    have hz : (str bs).size = bs.length := rfl
    simp only [Instr.sliceAt, Instr.slice, Sem.run_bind, run_und ht.und, Result.andThen, Instr.sliceBounds, Instr.sliceBound, asIntOf, Sem.run_pure]
    simp [Sem.run_bind, Result.andThen, hz, h0, h1, str_ext]) κ
theorem scut_lo [ht : TStr P t] (l0 : 0 ≤ l) (l1 : l ≤ bs.length) : PureW P (Instr.sliceAt t (.string (str bs)) (some (.int j l)) none none) κ = κ (.string (str (bs.drop l.toNat))) :=
  pureW_eq (fun w => by
    have hz : (str bs).size = bs.length := rfl
    simp only [Instr.sliceAt, Instr.slice, Sem.run_bind, run_und ht.und, Result.andThen, Instr.sliceBounds, Instr.sliceBound, asIntOf, Sem.run_pure]
    simp [Sem.run_bind, Result.andThen, hz, l0, l1, str_ext]) κ
theorem scut_lohi [ht : TStr P t] (h0 : 0 ≤ h) (h1 : h ≤ bs.length) (l0 : 0 ≤ l) (l1 : l ≤ h) : PureW P (Instr.sliceAt t (.string (str bs)) (some (.int j l)) (some (.int k h)) none) κ = κ (.string (str ((bs.take h.toNat).drop l.toNat))) :=
  pureW_eq (fun w => by
    have hz : (str bs).size = bs.length := rfl
    have l1' : l ≤ max h 0 := by omega
    simp only [Instr.sliceAt, Instr.slice, Sem.run_bind, run_und ht.und, Result.andThen, Instr.sliceBounds, Instr.sliceBound, asIntOf, Sem.run_pure]
    simp [Sem.run_bind, Result.andThen, hz, h0, h1, l0, l1, l1', str_ext]) κ
theorem str_size (bs : List UInt8) : (str bs).size = bs.length := rfl
end strings

theorem ext3_0 {a b c : Value} {κ : Value → Prop} : PureW P (Instr.extract (.tuple #[a, b, c]) 0) κ = κ a := pureW_eq (fun w => rfl) κ
theorem ext3_1 {a b c : Value} {κ : Value → Prop} : PureW P (Instr.extract (.tuple #[a, b, c]) 1) κ = κ b := pureW_eq (fun w => rfl) κ
theorem ext3_2 {a b c : Value} {κ : Value → Prop} : PureW P (Instr.extract (.tuple #[a, b, c]) 2) κ = κ c := pureW_eq (fun w => rfl) κ

section bits
variable (t : TypeId) (x y : Operand) (a b : UInt8) (n : Int) (κ : Value → Prop)
theorem b8_num {n : Int} (h0 : 0 ≤ n) (h1 : n < 256) : Value.int .u8 n = b8 (UInt8.ofNat n.toNat) := by
  unfold b8
  congr 1
  rw [UInt8.toNat_ofNat']
  omega
theorem u8_andNot : PureW P (do eqGuard .andNot t x y (b8 a) (b8 b); binOp .andNot t (b8 a) (b8 b)) κ = κ (b8 (a &&& ~~~b)) :=
  pureW_eq (fun w => by
    show Result.ok (Value.int .u8 (IntKind.u8.wrap ((BitVec.ofInt 8 (a.toNat : Int) &&& ~~~(BitVec.ofInt 8 (b.toNat : Int))).toNat : Int))) w = _
    have e0 : ∀ x : UInt8, BitVec.ofInt 8 (x.toNat : Int) = x.toBitVec := fun x => by simp
    have e : (BitVec.ofInt 8 (a.toNat : Int) &&& ~~~(BitVec.ofInt 8 (b.toNat : Int))).toNat = (a &&& ~~~b).toNat := by
      rw [e0, e0]; rfl
    rw [e, wrap8_self]; rfl) κ
theorem u8n_and (h0 : 0 ≤ n) (h1 : n < 256) : PureW P (do eqGuard .and t x y (b8 a) (.int .u8 n); binOp .and t (b8 a) (.int .u8 n)) κ = κ (b8 (a &&& UInt8.ofNat n.toNat)) := by
  rw [b8_num h0 h1]; exact u8_and t x y a _ κ
theorem u8n_andNot (h0 : 0 ≤ n) (h1 : n < 256) : PureW P (do eqGuard .andNot t x y (b8 a) (.int .u8 n); binOp .andNot t (b8 a) (.int .u8 n)) κ = κ (b8 (a &&& ~~~(UInt8.ofNat n.toNat))) := by
  rw [b8_num h0 h1]; exact u8_andNot t x y a _ κ
theorem u8n_or (h0 : 0 ≤ n) (h1 : n < 256) : PureW P (do eqGuard .or t x y (.int .u8 n) (b8 a); binOp .or t (.int .u8 n) (b8 a)) κ = κ (b8 (UInt8.ofNat n.toNat ||| a)) := by
  rw [b8_num h0 h1]; exact u8_or t x y _ a κ
end bits

end Go.Ost

/- Rules for signs of texts: numbers of 32 bits, structures in arrays, arrays as slices. Conditions: as each says. -/
set_option linter.unusedSimpArgs false
set_option linter.unusedVariables false
namespace Go.Ost
open Go

variable {P : Program}

section bits
variable {t : TypeId} {x y : Operand} {a b n : Int} {j : IntKind} {κ : Value → Prop}
theorem i32_and (a0 : 0 ≤ a) (a1 : a ≤ 2147483647) (b0 : 0 ≤ b) (b1 : b ≤ 2147483647) : PureW P (do eqGuard .and t x y (.int .i32 a) (.int .i32 b); binOp .and t (.int .i32 a) (.int .i32 b)) κ = κ (.int .i32 ((a.toNat &&& b.toNat : Nat) : Int)) :=
  pureW_eq (fun w => by
    obtain ⟨m, rfl⟩ : ∃ m : Nat, a = m := ⟨a.toNat, by omega⟩
    obtain ⟨k, rfl⟩ : ∃ k : Nat, b = k := ⟨b.toNat, by omega⟩
    have hle : m &&& k ≤ m := Nat.and_le_left
    show Result.ok (Value.int .i32 (IntKind.i32.wrap ((BitVec.ofInt 32 (m : Int) &&& BitVec.ofInt 32 (k : Int)).toNat : Int))) w = _
    rw [BitVec.ofInt_natCast, BitVec.ofInt_natCast, BitVec.toNat_and, BitVec.toNat_ofNat, BitVec.toNat_ofNat, Nat.mod_eq_of_lt (by omega), Nat.mod_eq_of_lt (by omega), wrap_i32 (by omega) (by omega)]
    rfl) κ
theorem i32_or (a0 : 0 ≤ a) (a1 : a ≤ 2147483647) (b0 : 0 ≤ b) (b1 : b ≤ 2147483647) : PureW P (do eqGuard .or t x y (.int .i32 a) (.int .i32 b); binOp .or t (.int .i32 a) (.int .i32 b)) κ = κ (.int .i32 ((a.toNat ||| b.toNat : Nat) : Int)) :=
  pureW_eq (fun w => by
    obtain ⟨m, rfl⟩ : ∃ m : Nat, a = m := ⟨a.toNat, by omega⟩
    obtain ⟨k, rfl⟩ : ∃ k : Nat, b = k := ⟨b.toNat, by omega⟩
    have hle : m ||| k < 2 ^ 31 := Nat.or_lt_two_pow (by omega) (by omega)
    show Result.ok (Value.int .i32 (IntKind.i32.wrap ((BitVec.ofInt 32 (m : Int) ||| BitVec.ofInt 32 (k : Int)).toNat : Int))) w = _
    rw [BitVec.ofInt_natCast, BitVec.ofInt_natCast, BitVec.toNat_or, BitVec.toNat_ofNat, BitVec.toNat_ofNat, Nat.mod_eq_of_lt (by omega), Nat.mod_eq_of_lt (by omega), wrap_i32 (by omega) (by omega)]
    rfl) κ
theorem i32_shl6 (a0 : 0 ≤ a) (a1 : a ≤ 33554431) : PureW P (do eqGuard .shl t x y (.int .i32 a) (.int j 6); binOp .shl t (.int .i32 a) (.int j 6)) κ = κ (.int .i32 (a * 64)) :=
  pureW_eq (fun w => by
    have e : min (6 : Int).toNat IntKind.i32.bits = 6 := rfl
    show (Op.shift .shl .i32 a j 6).run P w = _
    rw [Op.shift, if_neg (by decide), e]
    show Result.ok (Value.int .i32 (IntKind.i32.wrap (a * 2 ^ 6))) w = _
    rw [show (2 : Int) ^ 6 = 64 from rfl, wrap_i32 (by omega) (by omega)]) κ
theorem i32_shr (a0 : 0 ≤ a) (h0 : 0 ≤ n) (h1 : n ≤ 32) : PureW P (do eqGuard .shr t x y (.int .i32 a) (.int j n); binOp .shr t (.int .i32 a) (.int j n)) κ = κ (.int .i32 ((a.toNat / 2 ^ n.toNat : Nat) : Int)) :=
  pureW_eq (fun w => by
    obtain ⟨m, rfl⟩ : ∃ m : Nat, a = m := ⟨a.toNat, by omega⟩
    have e : min n.toNat IntKind.i32.bits = n.toNat := by show min n.toNat 32 = n.toNat; omega
    have h3 : ¬ n < 0 := by omega
    show (Op.shift .shr .i32 m j n).run P w = _
    rw [Op.shift, if_neg h3, e]
    show Result.ok (Value.int .i32 (Int.fdiv m (2 ^ n.toNat))) w = _
    rw [Int.fdiv_eq_ediv_of_nonneg _ (Int.le_of_lt (Int.pow_pos (by decide)))]
    simp) κ
theorem u8_wrap (m : Nat) : Value.int .u8 (IntKind.u8.wrap (m : Int)) = b8 (UInt8.ofNat m) := by rw [wrap8_mod]; rfl
theorem cq_b8_i32 {s d : TypeId} [hs : TInt P s .u8] [hd : TInt P d .i32] {x : UInt8} {κ : Value → Prop} : PureW P (convert s d (b8 x)) κ = κ (.int .i32 x.toNat) := by
  have hx := x.toNat_lt
  show PureW P (convert s d (.int .u8 (x.toNat : Int))) κ = _
  rw [conv_int, wrap_i32 (by omega) (by omega)]
theorem conv_b8_i32 {s d : TypeId} [hs : TInt P s .u8] [hd : TInt P d .i32] {x : UInt8} {S : State} {κ : Value → State → Prop} : ConvW P s d (b8 x) S κ = κ (.int .i32 x.toNat) S := by
  have hx := x.toNat_lt
  exact conv_b8_int (wrap_i32 (by omega) (by omega))
theorem u8_sub128 {c : UInt8} {m : Nat} (h : c.toNat = m) (h1 : 128 ≤ m) (h2 : m ≤ 255) : PureW P (do eqGuard .sub t x y (b8 c) (.int .u8 128); binOp .sub t (b8 c) (.int .u8 128)) κ = κ (.int .u8 ((m - 128 : Nat) : Int)) := by
  show PureW P (do eqGuard .sub t x y (.int .u8 (c.toNat : Int)) (.int .u8 128); binOp .sub t (.int .u8 (c.toNat : Int)) (.int .u8 128)) κ = _
  rw [bin_sub, wrap_u8 (by omega) (by omega), h]
  congr 2; omega
end bits

/-- A structure in an array. -/
theorem arr_el {t e n s by_ : Nat} {z : Value} {cs : Array Value} {k : IntKind} {i : Int} {κ : Value → Prop} [h : TArr P t n e] [hs : TSized P e z s by_] [hd : TDeep P e] (h0 : 0 ≤ i) (h1 : i < n) :
    PureW P (Instr.index t (.agg cs) (.int k i)) κ = κ (.agg (cs.extract (i.toNat * s) (i.toNat * s + s))) :=
  pureW_eq (fun w => by
    simp [Instr.index, asIntOf, Sem.run_bind, run_und h.und, Result.andThen, run_size hs, h0, h1, part, run_isAgg_deep hd]) κ
/-- An array as a slice. -/
theorem arr_cut {t e n s by_ : Nat} {z : Value} {b o : Nat} {κ : Value → Prop} [h : TArr P t n e] [hs : TSized P e z s by_] :
    PureW P (Instr.sliceAt t (.pointer (some ⟨b, o, none⟩)) none none none) κ = κ (.slice (some ⟨b, o, none⟩) n n) :=
  pureW_eq (fun w => by
    simp only [Instr.sliceAt, Sem.run_bind, run_und h.und, Result.andThen, Instr.sureAddr, Instr.sliceBounds, Sem.run_pure, run_size hs]
    by_cases hn : n = 0 <;> simp [hn, add_mk]) κ
/-- What a block holds, as a slice. -/
theorem rd_block {C : Chunk} {b : Nat} {vs : List Value} {t : TypeId} {m : Nat × Nat} {s len : Nat} (h : (b, Obj.cells vs.toArray t m) ∈ C) (hl : vs.length = len * s) : Rd s [C] (some ⟨b, 0, none⟩) len vs :=
  ⟨hl, fun _ => ⟨b, 0, vs.toArray, t, m, rfl, .here h, fun i hi => by simp⟩⟩
theorem lies_mem {b : Nat} {o : Obj} {C : Chunk} {S : State} (h : (b, o) ∈ C) (hm : C ∈ S) : Lies b o S := Lies.sub (.here h) hm

/-- What remains to be told of a list, by an iterator. -/
def NextL {α : Type} (L pre : List α) (x : α) : Prop := ∃ post, L = pre ++ x :: post

end Go.Ost

/- A region whose order of evaluation Go leaves open, over chunks of memory: one walk, in an order that takes what changes nothing as early as may be, serves every order. Conditions: none. -/
set_option linter.unusedSimpArgs false
set_option linter.unusedVariables false
namespace Go.Ost
open Go

variable {P : Program} {n : Nat} {ro : Option Nat}

/-- Does an operation's value hang on memory? (Of those that change nothing.) -/
def readsB : Op → Bool
  | .load .. | .lookup .. => true
  | .call { callee := .builtin .len, .. } => true
  | _ => false

/-- One operation that changes nothing. -/
def stepQ (P : Program) (op : Op) (t : TypeId) (L : Env) (S : State) (κ : Value → Prop) : Prop :=
  match op with
  | .move x | .assign x => withV (evT L x) fun v => κ v
  | .pick c a b => withV (evT L c) fun v => withB v fun g => withV (evT L (if g then a else b)) fun u => κ u
  | .build u ps => withP (evP L ps.toList) fun vs => PureW P (Instr.build u vs.toArray) fun v => κ v
  | .load u x => withV (evT L x) fun a => ReadW P (Instr.loadAt u a) S fun v => κ v
  | .nilCheck x => withV (evT L x) fun v => NilW v fun v => κ v
  | .binOp o u x y _ => withV (evT L x) fun a => withV (evT L y) fun b => PureW P (do eqGuard o u x y a b; binOp o u a b) fun v => κ v
  | .unOp o _ x => withV (evT L x) fun a => PureW P (Op.unary o a) fun v => κ v
  | .convert s d x => withV (evT L x) fun v => PureW P (convert s d v) fun v => κ v
  | .makeInterface u x => withV (evT L x) fun v => PureW P (Instr.makeInterface u v) fun v => κ v
  | .makeFunc fn a b => withL (evL L a.toList) fun va => withL (evL L b.toList) fun vb => κ (.func fn va.toArray vb.toArray)
  | .slice u x lo hi mx => withV (evT L x) fun v => withO (evO L lo) fun a => withO (evO L hi) fun b => withO (evO L mx) fun c => PureW P (Instr.sliceAt u v a b c) fun v => κ v
  | .sliceToArrayPointer u x => withV (evT L x) fun v => PureW P (Instr.arrayAt u v) fun v => κ v
  | .fieldAddr u x f => withV (evT L x) fun v => PureW P (Instr.fieldAt u v f) fun v => κ v
  | .field u x f => withV (evT L x) fun v => PureW P (Instr.field u v f) fun v => κ v
  | .indexAddr u x i => withV (evT L x) fun v => withV (evT L i) fun j => PureW P (Instr.indexAt u v j) fun v => κ v
  | .index u x i => withV (evT L x) fun v => withV (evT L i) fun j => PureW P (Instr.index u v j) fun v => κ v
  | .lookup u x i ok => withV (evT L x) fun v => withV (evT L i) fun j => ReadW P (Instr.lookup u v j ok) S fun v => κ v
  | .typeAssert x u v ok => withV (evT L x) fun a => PureW P (Instr.typeAssert a u v ok) fun v => κ v
  | .extract x i => withV (evT L x) fun a => PureW P (Instr.extract a i) fun v => κ v
  | .call c => withL (evL L c.args.toList) fun vs =>
    match c.callee, vs with
    | .builtin .min, _ => PureW P (Builtin.min_ c.argTypes t vs.toArray) fun v => κ v
    | .builtin .max, _ => PureW P (Builtin.max_ c.argTypes t vs.toArray) fun v => κ v
    | .builtin .cap, _ => PureW P (Builtin.cap_ c.argTypes t vs.toArray) fun v => κ v
    | .builtin .len, [.slice a n c'] => PureW P (Builtin.len_ c.argTypes t #[.slice a n c']) fun v => κ v
    | .builtin .len, [.string s] => PureW P (Builtin.len_ c.argTypes t #[.string s]) fun v => κ v
    | .builtin .len, [.map r] => ReadW P (Builtin.len_ c.argTypes t #[.map r]) S fun v => κ v
    | _, _ => False
  | _ => False

theorem pure_val {m : Sem Value} {κ : Value → Prop} (h : PureW P m κ) : ∃ v, κ v ∧ ∀ w, (do pure (.value (← m)) : Sem Next).run P w = .ok (.value v) w := by
  obtain ⟨v, h1, h2⟩ := h.out
  exact ⟨v, h2, fun w => by simp [Sem.run_bind, h1 w, Result.andThen]⟩
theorem read_val {m : Sem Value} {S : State} {κ : Value → Prop} (h : ReadW P m S κ) : ∃ v, κ v ∧ ∀ w, Hold w S → (do pure (.value (← m)) : Sem Next).run P w = .ok (.value v) w := by
  obtain ⟨v, h1, h2⟩ := h.out
  exact ⟨v, h2, fun w hw => by simp [Sem.run_bind, h1 w hw, Result.andThen]⟩

/-- An operation that changes nothing: one value, in every world in which the state lies (where it reads no memory: in every world). -/
theorem stepQ_out {o : Oper} {L : Env} {S : State} {κ : Value → Prop} (h : stepQ P o.op o.type L S κ) :
    ∃ v, κ v ∧ ∀ (ρ : Operand → Value), (∀ x v, evT L x = some v → ρ x = v) → ∀ w, (readsB o.op = true → Hold w S) → (execOp ρ o).run P w = .ok (.value v) w := by
  obtain ⟨dst, op, t, pos, after, guard⟩ := o
  have viaPure : ∀ {m : (Operand → Value) → Sem Value} {m0 : Sem Value}, PureW P m0 κ → (∀ ρ : Operand → Value, (∀ x v, evT L x = some v → ρ x = v) → m ρ = m0) →
      ∃ v, κ v ∧ ∀ (ρ : Operand → Value), (∀ x v, evT L x = some v → ρ x = v) → ∀ w, (do pure (.value (← m ρ)) : Sem Next).run P w = .ok (.value v) w := by
    intro m m0 hp he
    obtain ⟨v, hk, hr⟩ := pure_val hp
    exact ⟨v, hk, fun ρ hρ w => by rw [he ρ hρ]; exact hr w⟩
  have viaRead : ∀ {m : (Operand → Value) → Sem Value} {m0 : Sem Value}, ReadW P m0 S κ → (∀ ρ : Operand → Value, (∀ x v, evT L x = some v → ρ x = v) → m ρ = m0) →
      ∃ v, κ v ∧ ∀ (ρ : Operand → Value), (∀ x v, evT L x = some v → ρ x = v) → ∀ w, Hold w S → (do pure (.value (← m ρ)) : Sem Next).run P w = .ok (.value v) w := by
    intro m m0 hp he
    obtain ⟨v, hk, hr⟩ := read_val hp
    exact ⟨v, hk, fun ρ hρ w hw => by rw [he ρ hρ]; exact hr w hw⟩
  cases op <;> simp only [stepQ] at h <;> simp only [execOp, readsB]
  case move x => obtain ⟨v, hx, h⟩ := withV_out h; exact ⟨v, h, fun ρ hρ w _ => by rw [hρ x v hx]; rfl⟩
  case assign x => obtain ⟨v, hx, h⟩ := withV_out h; exact ⟨v, h, fun ρ hρ w _ => by rw [hρ x v hx]; rfl⟩
  case pick c a b =>
    obtain ⟨v, hx, h⟩ := withV_out h
    cases v <;> first | exact h.elim | skip
    rename_i g
    simp only [withB] at h
    obtain ⟨u, hu, h⟩ := withV_out h
    refine ⟨u, h, fun ρ hρ w _ => ?_⟩
    have h1 := hρ _ _ hu
    rw [hρ c _ hx]
    cases g <;> simp_all [asBool, Sem.run_bind, Result.andThen]
  case build u ps =>
    cases hp : evP L ps.toList with
    | none => rw [hp] at h; exact h.elim
    | some vs =>
      rw [hp] at h
      obtain ⟨v, hk, hr⟩ := viaPure (m := fun ρ => Instr.build u (ps.map fun (i, x) => (i, ρ x))) h (fun ρ hρ => by
        have e : (ps.map fun (i, x) => (i, ρ x)) = vs.toArray := Array.ext' (by simpa using evP_out hρ _ _ hp)
        rw [e])
      exact ⟨v, hk, fun ρ hρ w _ => hr ρ hρ w⟩
  case load u x =>
    obtain ⟨a, hx, h⟩ := withV_out h
    obtain ⟨v, hk, hr⟩ := viaRead (m := fun ρ => Instr.loadAt u (ρ x)) h (fun ρ hρ => by simp only [hρ x a hx])
    exact ⟨v, hk, fun ρ hρ w hw => hr ρ hρ w (hw trivial)⟩
  case nilCheck x =>
    obtain ⟨v, hx, h⟩ := withV_out h
    unfold NilW at h
    split at h
    · exact ⟨_, h, fun ρ hρ w _ => by rw [hρ x _ hx]; rfl⟩
    · exact ⟨_, h, fun ρ hρ w _ => by rw [hρ x _ hx]; rfl⟩
    · exact ⟨_, h, fun ρ hρ w _ => by rw [hρ x _ hx]; rfl⟩
    · exact h.elim
  case binOp o u x y yt =>
    obtain ⟨a, hx, h⟩ := withV_out h; obtain ⟨b, hy, h⟩ := withV_out h
    obtain ⟨v, hk, hr⟩ := viaPure (m := fun ρ => do eqGuard o u x y (ρ x) (ρ y); binOp o u (ρ x) (ρ y)) h (fun ρ hρ => by simp only [hρ x a hx, hρ y b hy])
    exact ⟨v, hk, fun ρ hρ w _ => hr ρ hρ w⟩
  case unOp o u x =>
    obtain ⟨a, hx, h⟩ := withV_out h
    obtain ⟨v, hk, hr⟩ := viaPure (m := fun ρ => Op.unary o (ρ x)) h (fun ρ hρ => by simp only [hρ x a hx])
    exact ⟨v, hk, fun ρ hρ w _ => hr ρ hρ w⟩
  case convert s d x =>
    obtain ⟨a, hx, h⟩ := withV_out h
    obtain ⟨v, hk, hr⟩ := viaPure (m := fun ρ => convert s d (ρ x)) h (fun ρ hρ => by simp only [hρ x _ hx])
    exact ⟨v, hk, fun ρ hρ w _ => hr ρ hρ w⟩
  case sliceToArrayPointer u x =>
    obtain ⟨a, hx, h⟩ := withV_out h
    obtain ⟨v, hk, hr⟩ := viaPure (m := fun ρ => Instr.arrayAt u (ρ x)) h (fun ρ hρ => by simp only [hρ x a hx])
    exact ⟨v, hk, fun ρ hρ w _ => hr ρ hρ w⟩
  case makeInterface u x =>
    obtain ⟨a, hx, h⟩ := withV_out h
    obtain ⟨v, hk, hr⟩ := viaPure (m := fun ρ => Instr.makeInterface u (ρ x)) h (fun ρ hρ => by simp only [hρ x a hx])
    exact ⟨v, hk, fun ρ hρ w _ => hr ρ hρ w⟩
  case makeFunc fn a b =>
    cases ha : evL L a.toList with
    | none => rw [ha] at h; exact h.elim
    | some va =>
      rw [ha] at h
      simp only [withL] at h
      cases hb : evL L b.toList with
      | none => rw [hb] at h; exact h.elim
      | some vb =>
        rw [hb] at h
        refine ⟨_, h, fun ρ hρ w _ => ?_⟩
        have ea : a.map ρ = va.toArray := Array.ext' (by simpa using evL_out hρ _ _ ha)
        have eb : b.map ρ = vb.toArray := Array.ext' (by simpa using evL_out hρ _ _ hb)
        rw [ea, eb]; rfl
  case slice u x lo hi mx =>
    obtain ⟨a, hx, h⟩ := withV_out h
    have h2 : ∃ v, κ v ∧ ∀ (ρ : Operand → Value), (∀ x v, evT L x = some v → ρ x = v) → ∀ w, (do pure (.value (← Instr.sliceAt u (ρ x) (lo.map ρ) (hi.map ρ) (mx.map ρ))) : Sem Next).run P w = .ok (.value v) w := by
      cases h1 : evO L lo with
      | none => rw [h1] at h; exact h.elim
      | some lo' =>
        rw [h1] at h
        simp only [withO] at h
        cases h2 : evO L hi with
        | none => rw [h2] at h; exact h.elim
        | some hi' =>
          rw [h2] at h
          simp only at h
          cases h3 : evO L mx with
          | none => rw [h3] at h; exact h.elim
          | some mx' =>
            rw [h3] at h
            simp only at h
            have out : ∀ {y : Option Operand} {y' : Option Value} {ρ : Operand → Value}, (∀ x v, evT L x = some v → ρ x = v) → evO L y = some y' → y.map ρ = y' := by
              intro y y' ρ hρ he
              have := withO_out (κ := fun z => z = y') hρ (x := y) (by rw [he]; exact rfl)
              exact this
            exact viaPure (m := fun ρ => Instr.sliceAt u (ρ x) (lo.map ρ) (hi.map ρ) (mx.map ρ)) h (fun ρ hρ => by simp only [hρ x a hx, out hρ h1, out hρ h2, out hρ h3])
    obtain ⟨v, hk, hr⟩ := h2
    exact ⟨v, hk, fun ρ hρ w _ => hr ρ hρ w⟩
  case fieldAddr u x f =>
    obtain ⟨a, hx, h⟩ := withV_out h
    obtain ⟨v, hk, hr⟩ := viaPure (m := fun ρ => Instr.fieldAt u (ρ x) f) h (fun ρ hρ => by simp only [hρ x a hx])
    exact ⟨v, hk, fun ρ hρ w _ => hr ρ hρ w⟩
  case field u x f =>
    obtain ⟨a, hx, h⟩ := withV_out h
    obtain ⟨v, hk, hr⟩ := viaPure (m := fun ρ => Instr.field u (ρ x) f) h (fun ρ hρ => by simp only [hρ x a hx])
    exact ⟨v, hk, fun ρ hρ w _ => hr ρ hρ w⟩
  case indexAddr u x y =>
    obtain ⟨a, hx, h⟩ := withV_out h; obtain ⟨b, hy, h⟩ := withV_out h
    obtain ⟨v, hk, hr⟩ := viaPure (m := fun ρ => Instr.indexAt u (ρ x) (ρ y)) h (fun ρ hρ => by simp only [hρ x a hx, hρ y b hy])
    exact ⟨v, hk, fun ρ hρ w _ => hr ρ hρ w⟩
  case index u x y =>
    obtain ⟨a, hx, h⟩ := withV_out h; obtain ⟨b, hy, h⟩ := withV_out h
    obtain ⟨v, hk, hr⟩ := viaPure (m := fun ρ => Instr.index u (ρ x) (ρ y)) h (fun ρ hρ => by simp only [hρ x a hx, hρ y b hy])
    exact ⟨v, hk, fun ρ hρ w _ => hr ρ hρ w⟩
  case lookup u x y ok =>
    obtain ⟨a, hx, h⟩ := withV_out h; obtain ⟨b, hy, h⟩ := withV_out h
    obtain ⟨v, hk, hr⟩ := viaRead (m := fun ρ => Instr.lookup u (ρ x) (ρ y) ok) h (fun ρ hρ => by simp only [hρ x a hx, hρ y b hy])
    exact ⟨v, hk, fun ρ hρ w hw => hr ρ hρ w (hw trivial)⟩
  case typeAssert x u v' ok =>
    obtain ⟨a, hx, h⟩ := withV_out h
    obtain ⟨v, hk, hr⟩ := viaPure (m := fun ρ => Instr.typeAssert (ρ x) u v' ok) h (fun ρ hρ => by simp only [hρ x a hx])
    exact ⟨v, hk, fun ρ hρ w _ => hr ρ hρ w⟩
  case extract x i =>
    obtain ⟨a, hx, h⟩ := withV_out h
    obtain ⟨v, hk, hr⟩ := viaPure (m := fun ρ => Instr.extract (ρ x) i) h (fun ρ hρ => by simp only [hρ x a hx])
    exact ⟨v, hk, fun ρ hρ w _ => hr ρ hρ w⟩
  case call c =>
    obtain ⟨callee, args, ats⟩ := c
    cases hp : evL L args.toList with
    | none => rw [hp] at h; exact h.elim
    | some vs =>
      rw [hp] at h
      simp only [withL] at h
      have e : ∀ ρ : Operand → Value, (∀ x v, evT L x = some v → ρ x = v) → args.map ρ = vs.toArray := fun ρ hρ => Array.ext' (by simpa using evL_out hρ _ _ hp)
      split at h
      · subst_vars
        obtain ⟨v, hk, hr⟩ := viaPure (m := fun ρ => Builtin.min_ ats t (args.map ρ)) h (fun ρ hρ => by simp only [e ρ hρ])
        exact ⟨v, hk, fun ρ hρ w _ => hr ρ hρ w⟩
      · subst_vars
        obtain ⟨v, hk, hr⟩ := viaPure (m := fun ρ => Builtin.max_ ats t (args.map ρ)) h (fun ρ hρ => by simp only [e ρ hρ])
        exact ⟨v, hk, fun ρ hρ w _ => hr ρ hρ w⟩
      · subst_vars
        obtain ⟨v, hk, hr⟩ := viaPure (m := fun ρ => Builtin.cap_ ats t (args.map ρ)) h (fun ρ hρ => by simp only [e ρ hρ])
        exact ⟨v, hk, fun ρ hρ w _ => hr ρ hρ w⟩
      · subst_vars
        obtain ⟨v, hk, hr⟩ := viaPure (m := fun ρ => Builtin.len_ ats t (args.map ρ)) h (fun ρ hρ => by simp only [e ρ hρ])
        exact ⟨v, hk, fun ρ hρ w _ => hr ρ hρ w⟩
      · subst_vars
        obtain ⟨v, hk, hr⟩ := viaPure (m := fun ρ => Builtin.len_ ats t (args.map ρ)) h (fun ρ hρ => by simp only [e ρ hρ])
        exact ⟨v, hk, fun ρ hρ w _ => hr ρ hρ w⟩
      · subst_vars
        obtain ⟨v, hk, hr⟩ := viaRead (m := fun ρ => Builtin.len_ ats t (args.map ρ)) h (fun ρ hρ => by simp only [e ρ hρ])
        exact ⟨v, hk, fun ρ hρ w hw => hr ρ hρ w (hw rfl)⟩
      · exact h.elim
  all_goals exact h.elim

end Go.Ost

/- A region whose order of evaluation Go leaves open, over chunks of memory: the rule. Conditions: none. -/
set_option linter.unusedSimpArgs false
set_option linter.unusedVariables false
namespace Go.Ost
open Go

variable {P : Program} {n : Nat} {ro : Option Nat}

abbrev Entry := Nat × Bool × List Nat

def dstOf (ops : Array Oper) (j : Nat) : Option Tmp := (ops[j]?).bind (·.dst)
def looksOf (ops : Array Oper) (j : Nat) : List Tmp := match ops[j]? with | some o => o.looksAt ops | none => []
def readsOf (ops : Array Oper) (j : Nat) : Bool := match ops[j]? with | some o => readsB o.op | none => false
def afterOf (ops : Array Oper) (j : Nat) : List Nat := match ops[j]? with | some o => (o.after.toList.filter (Region.binds .any)).map (·.on) | none => []

/-- What must hold of one entry, those in pre having been taken before it. -/
def okAt (ops : Array Oper) (A : List (List Nat)) (n : Nat) (pre : List Entry) (x : Entry) : Bool :=
  (afterOf ops x.1).all (fun j => pre.any (·.1 == j)) &&
  pre.all (fun y => !y.2.1 || (A.getD x.1 []).contains y.1) &&
  !pre.any (·.1 == x.1) &&
  pre.all (fun y => y.2.1 ||
    ((match dstOf ops y.1 with | some d => !(looksOf ops x.1).contains d || (A.getD x.1 []).contains y.1 | none => true) &&
     (match dstOf ops x.1 with | some d => (!(looksOf ops y.1).contains d && dstOf ops y.1 != some d) || (x.2.1 && (A.getD x.1 []).contains y.1) | none => true) &&
     (!x.2.1 || !readsOf ops y.1 || (A.getD x.1 []).contains y.1 || x.2.2.contains y.1))) &&
  (x.2.1 || (match dstOf ops x.1 with | some d => decide (d < n) && !(looksOf ops x.1).contains d | none => false)) &&
  decide (x.1 < ops.size)

def okPairs (ops : Array Oper) (A : List (List Nat)) (n : Nat) : List Entry → List Entry → Bool
  | _, [] => true
  | pre, x :: l => okAt ops A n pre x && okPairs ops A n (pre ++ [x]) l

/-- The ancestors of the operations, as far as their edges show them. -/
def certB (ops : Array Oper) (A : List (List Nat)) : Bool :=
  (List.range ops.size).all fun i => (A.getD i []).all fun j => (afterOf ops i).any fun e => e == j || (A.getD e []).contains j

def okDraw (ops : Array Oper) (A : List (List Nat)) (n : Nat) (pl : List Entry) : Bool :=
  certB ops A && okPairs ops A n [] pl && (List.range ops.size).all fun i => pl.any (·.1 == i)

def quietW (P : Program) (ops : Array Oper) (o : Oper) (L : Env) (S : State) (κ : Value → Prop) : Prop :=
  guardW ops o L (stepQ P o.op o.type L S κ) (κ undef)

def stillAll (P : Program) (ops : Array Oper) : List Nat → Env → State → Prop → Prop
  | [], _, _, p => p
  | j :: js, L, S, p =>
    match ops[j]? with
    | some o => (match o.dst with | some d => withV (lookT L d) fun v => quietW P ops o L S fun u => u = v | none => False) ∧ stillAll P ops js L S p
    | none => False

/-- The walk of the region, in the order of the plan. -/
def drawW (P : Program) (n : Nat) (ops : Array Oper) (K : Env → State → Prop) : List Entry → Env → State → Prop
  | [], L, S => K L S
  | (i, false, _) :: l, L, S =>
    match ops[i]? with
    | some o => quietW P ops o L S fun v => drawW P n ops K l (putT n o.dst v L) S
    | none => False
  | (i, true, pend) :: l, L, S =>
    match ops[i]? with
    | some o => guardW ops o L (stepW P o.op o.type L S fun v S' => stillAll P ops pend (putT n o.dst v L) S' (drawW P n ops K l (putT n o.dst v L) S'))
        (stillAll P ops pend (putT n o.dst undef L) S (drawW P n ops K l (putT n o.dst undef L) S))
    | none => False

def Yielding (P : Program) (ops : Array Oper) (o : Oper) (a : Act) (w : World) (v : Value) : Prop :=
  (Region.wanted o (yielded ops a.tmps) = true ∧ (execOp a.eval o).run P w = .ok (.value v) w) ∨ (Region.wanted o (yielded ops a.tmps) = false ∧ v = undef)

/-- The temporaries at which an operation looks hold what is known of them. -/
def Agrees (ts : List Tmp) (L : Env) (a : Act) : Prop := ∀ t ∈ ts, ∀ u, lookT L t = some u → a.tmps[t]? = some u

theorem guard_agrees {ops : Array Oper} {o : Oper} {L : Env} {a : Act} {A B : Prop} (ha : Agrees (o.looksAt ops) L a) (h : guardW ops o L A B) :
    (Region.wanted o (yielded ops a.tmps) = true ∧ A) ∨ (Region.wanted o (yielded ops a.tmps) = false ∧ B) := by
  unfold guardW at h
  cases hg : o.guard with
  | none => rw [hg] at h; exact .inl ⟨by simp [Region.wanted, hg], h⟩
  | some g =>
    obtain ⟨j, want⟩ := g
    rw [hg] at h
    simp only at h
    cases hd : (ops[j]?).bind (·.dst) with
    | none => rw [hd] at h; exact h.elim
    | some d =>
      rw [hd] at h
      simp only at h
      have hmem : d ∈ o.looksAt ops := by simp [Oper.looksAt, hg, hd]
      cases hv : lookT L d with
      | none => rw [hv] at h; exact h.elim
      | some v =>
        rw [hv] at h
        have ht := ha d hmem v hv
        cases v <;> first | exact h.elim | skip
        case bool b =>
          simp only [withV] at h
          split at h
          · subst_vars; exact .inl ⟨by simp [Region.wanted, hg, yielded, hd, ht], h⟩
          · rename_i hne; exact .inr ⟨by simp [Region.wanted, hg, yielded, hd, ht, hne], h⟩
        case tuple vs => exact .inr ⟨by simp [Region.wanted, hg, yielded, hd, ht], h⟩

/-- An act that knows all, and is as the act on what the operation looks at. -/
theorem full_rho {ops : Array Oper} {o : Oper} {L : Env} {a : Act} (ha : Agrees (o.looksAt ops) L a) :
    ∃ ρ : Operand → Value, (∀ x v, evT L x = some v → ρ x = v) ∧ ∀ x ∈ o.op.operands, ρ x = a.eval x := by
  refine ⟨fun x => (evT L x).getD (a.eval x), fun x v h => by simp [h], fun x hx => ?_⟩
  simp only
  cases h : evT L x with
  | none => rfl
  | some v =>
    simp only [Option.getD_some]
    cases x with
    | tmp t =>
      have hmem : t ∈ o.looksAt ops := List.mem_append_left _ (List.mem_filterMap.2 ⟨.tmp t, by simpa using hx, rfl⟩)
      have := ha t hmem v h
      simp [Act.eval, this]
    | const u => cases h; rfl
    | global g => cases h; rfl
    | func f => cases h; rfl

theorem stepQ_not_select {op : Op} {t : TypeId} {L : Env} {S : State} {κ : Value → Prop} (h : stepQ P op t L S κ) : ∀ cs b, op ≠ .select cs b := by intro cs b e; subst e; exact h
theorem stepQ_not_defer {op : Op} {t : TypeId} {L : Env} {S : State} {κ : Value → Prop} (h : stepQ P op t L S κ) : ∀ c, op ≠ .defer c := by intro cs e; subst e; exact h
theorem stepW_not_select {op : Op} {t : TypeId} {L : Env} {S : State} {κ : Value → State → Prop} (h : stepW P op t L S κ) : ∀ cs b, op ≠ .select cs b := by intro cs b e; subst e; exact h

theorem quiet_out {ops : Array Oper} {o : Oper} {L : Env} {S : State} {κ : Value → Prop} (h : quietW P ops o L S κ) :
    ∃ v, κ v ∧ ((∀ c, o.op ≠ .defer c) ∨ o.guard ≠ none) ∧ ∀ a w, Agrees (o.looksAt ops) L a → (readsB o.op = true → Hold w S) → Yielding P ops o a w v ∧ ((∀ c, o.op ≠ .defer c) ∨ Region.wanted o (yielded ops a.tmps) = false) := by
  unfold quietW at h
  by_cases hd : ∃ a, Agrees (o.looksAt ops) L a ∧ Region.wanted o (yielded ops a.tmps) = true
  · obtain ⟨a0, h1, h2⟩ := hd
    rcases guard_agrees h1 h with ⟨_, hs⟩ | ⟨h3, _⟩
    · obtain ⟨v, hk, hr⟩ := stepQ_out hs
      refine ⟨v, hk, .inl (stepQ_not_defer hs), fun a w ha hw => ⟨?_, .inl (stepQ_not_defer hs)⟩⟩
      -- the guard says the same to every act
      have hwn : Region.wanted o (yielded ops a.tmps) = true := by
        unfold guardW at h
        cases hg : o.guard with
        | none => simp [Region.wanted, hg]
        | some g =>
          obtain ⟨j, want⟩ := g
          rw [hg] at h
          simp only at h
          cases hdd : (ops[j]?).bind (·.dst) with
          | none => rw [hdd] at h; exact h.elim
          | some d =>
            rw [hdd] at h
            simp only at h
            have hmem : d ∈ o.looksAt ops := by simp [Oper.looksAt, hg, hdd]
            cases hv : lookT L d with
            | none => rw [hv] at h; exact h.elim
            | some v' =>
              have e1 := h1 d hmem v' hv
              have e2 := ha d hmem v' hv
              simp only [Region.wanted, hg, yielded, hdd, e1, e2, Option.bind_some] at h2 ⊢
              exact h2
      obtain ⟨ρ, hρ, he⟩ := full_rho ha
      refine .inl ⟨hwn, ?_⟩
      rw [← execOp_congr o (stepQ_not_select hs) he]
      exact hr ρ hρ w hw
    · rw [h2] at h3; cases h3
  · refine ⟨undef, ?_, ?_, fun a w ha _ => ?_⟩
    · by_cases hg : o.guard = none
      · exfalso
        exact hd ⟨{ tmps := Array.ofFn (n := (L.map (·.1)).foldr max 0 + 1) (fun i => (lookT L i).getD undef), defers := [] }, by
          intro t _ u hu
          have hb : ∀ (L : Env) t u, lookT L t = some u → t ≤ (L.map (·.1)).foldr max 0 := by
            intro L
            induction L with
            | nil => intro t u h; simp [lookT] at h
            | cons x L ih =>
              obtain ⟨d, v⟩ := x
              intro t u h
              simp only [lookT] at h
              simp only [List.map_cons, List.foldr_cons]
              split at h
              · subst_vars; exact Nat.le_max_left _ _
              · exact Nat.le_trans (ih t u h) (Nat.le_max_right _ _)
          have := hb L t u hu
          rw [Array.getElem?_ofFn]
          rw [dif_pos (by omega)]
          simp [hu], by simp [Region.wanted, hg]⟩
      · -- a guard that no act meets: passed over
        unfold guardW at h
        cases hg' : o.guard with
        | none => exact absurd hg' hg
        | some g =>
          obtain ⟨j, want⟩ := g
          rw [hg'] at h
          simp only at h
          cases hdd : (ops[j]?).bind (·.dst) with
          | none => rw [hdd] at h; exact h.elim
          | some d =>
            rw [hdd] at h
            simp only at h
            cases hv : lookT L d with
            | none => rw [hv] at h; exact h.elim
            | some v =>
              rw [hv] at h
              cases v <;> first | exact h.elim | skip
              case tuple vs => exact h
              case bool b =>
                simp only [withV] at h
                split at h
                · rename_i hb
                  exfalso
                  exact hd ⟨{ tmps := Array.ofFn (n := (L.map (·.1)).foldr max 0 + 1) (fun i => (lookT L i).getD undef), defers := [] }, by
                    intro t _ u hu
                    have hb : ∀ (L : Env) t u, lookT L t = some u → t ≤ (L.map (·.1)).foldr max 0 := by
                      intro L
                      induction L with
                      | nil => intro t u h; simp [lookT] at h
                      | cons x L ih =>
                        obtain ⟨d, v⟩ := x
                        intro t u h
                        simp only [lookT] at h
                        simp only [List.map_cons, List.foldr_cons]
                        split at h
                        · subst_vars; exact Nat.le_max_left _ _
                        · exact Nat.le_trans (ih t u h) (Nat.le_max_right _ _)
                    have := hb L t u hu
                    rw [Array.getElem?_ofFn]
                    rw [dif_pos (by omega)]
                    simp [hu], by
                    have hb' : ∀ (L : Env) t u, lookT L t = some u → t ≤ (L.map (·.1)).foldr max 0 := by
                      intro L
                      induction L with
                      | nil => intro t u h; simp [lookT] at h
                      | cons x L ih =>
                        obtain ⟨d, v⟩ := x
                        intro t u h
                        simp only [lookT] at h
                        simp only [List.map_cons, List.foldr_cons]
                        split at h
                        · subst_vars; exact Nat.le_max_left _ _
                        · exact Nat.le_trans (ih t u h) (Nat.le_max_right _ _)
                    have := hb' L d _ hv
                    simp only [Region.wanted, hg', yielded, hdd, Option.bind_some]
                    rw [Array.getElem?_ofFn, dif_pos (by omega)]
                    simp [hv, hb]⟩
                · exact h
    · by_cases hg : o.guard = none
      · exact .inl (by
          unfold guardW at h
          rw [hg] at h
          exact stepQ_not_defer h)
      · exact .inr hg
    · have hf : Region.wanted o (yielded ops a.tmps) = false := by
        cases hx : Region.wanted o (yielded ops a.tmps) with
        | false => rfl
        | true => exact absurd ⟨a, ha, hx⟩ hd
      exact ⟨.inr ⟨hf, rfl⟩, .inr hf⟩

theorem yielding_in {ops : Array Oper} {i : Nat} {o : Oper} {a : Act} {w : World} {v : Value} {K : Act → World → Prop} {Q : Exit → Act → World → Prop} (ho : ops[i]? = some o)
    (hy : Yielding P ops o a w v) (hd : (∀ c, o.op ≠ .defer c) ∨ Region.wanted o (yielded ops a.tmps) = false) (h : K (a.put o.dst v) w) : wpOpIn (FW ro) 0 P ops Q i K a w := by
  unfold wpOpIn
  rw [ho]
  simp only
  rcases hy with ⟨hw, hr⟩ | ⟨hw, rfl⟩
  · rw [if_pos hw]
    refine ⟨fun _ _ => trivial, ?_⟩
    rw [Oper.semAt_eq _ _ _ (hd.resolve_right (by simp [hw])), hr]
    exact h
  · rw [if_neg (by simp [hw])]
    exact ⟨fun _ _ => trivial, h⟩


theorem filter_less {p q : Nat → Bool} {i : Nat} : ∀ (l : List Nat), (∀ x, q x = true → p x = true) → i ∈ l → p i = true → q i = false → (l.filter q).length < (l.filter p).length
  | [], _, h, _, _ => by cases h
  | x :: l, hpq, hi, hp, hq => by
    have le : ∀ l : List Nat, (l.filter q).length ≤ (l.filter p).length := by
      intro l
      induction l with
      | nil => simp
      | cons y l ih =>
        simp only [List.filter_cons]
        by_cases h1 : q y = true
        · rw [if_pos h1, if_pos (hpq y h1)]; simpa using ih
        · rw [if_neg h1]
          split
          · simp only [List.length_cons]; omega
          · exact ih
    simp only [List.filter_cons]
    rcases List.mem_cons.1 hi with rfl | hi
    · rw [if_neg (by simp [hq]), if_pos hp]
      have := le l
      simp only [List.length_cons]; omega
    · have ih := filter_less l hpq hi hp hq
      by_cases h1 : q x = true
      · rw [if_pos h1, if_pos (hpq x h1)]; simp only [List.length_cons]; omega
      · rw [if_neg h1]
        split
        · simp only [List.length_cons]; omega
        · exact ih

theorem lookT_put {m : Nat} {dst : Option Tmp} {v : Value} {L : Env} {t : Nat} {u : Value} (h : lookT (putT m dst v L) t = some u) : (dst = some t ∧ t < m ∧ u = v) ∨ (lookT L t = some u) := by
  cases dst with
  | none => exact .inr h
  | some d =>
    simp only [putT] at h
    split at h
    · simp only [lookT] at h
      split at h
      · cases h; subst_vars; exact .inl ⟨rfl, ‹_›, rfl⟩
      · exact .inr h
    · exact .inr h
theorem lookT_put_ne {m : Nat} {dst : Option Tmp} {v : Value} {L : Env} {t : Nat} (h : dst ≠ some t) : lookT (putT m dst v L) t = lookT L t := by
  cases dst with
  | none => rfl
  | some d =>
    simp only [putT]
    split
    · simp only [lookT]; rw [if_neg (fun e => h (by rw [e]))]
    · rfl

/-- Between two operations of the region. -/
structure DInv (P : Program) (n : Nat) (ops : Array Oper) (A : List (List Nat)) (K : Env → State → Prop) (D : List Nat) (w0 : World) (pre l : List Entry) (listed : Array Bool) (L : Env) (S : State) (a : Act) (w : World) : Prop where
  size : listed.size = ops.size
  inPre : ∀ i, listed.getD i false = true → ∃ x ∈ pre, x.1 = i
  effs : ∀ x ∈ pre, x.2.1 = true → listed.getD x.1 false = true
  clos : ∀ i, listed.getD i false = true → ∀ j ∈ A.getD i [], listed.getD j false = true
  tmps : ∀ t v, lookT L t = some v → (∃ x ∈ pre, listed.getD x.1 false = false ∧ dstOf ops x.1 = some t) ∨ a.tmps[t]? = some v
  facts : ∀ x ∈ pre, listed.getD x.1 false = false → ∃ o v, ops[x.1]? = some o ∧ (∃ d, o.dst = some d ∧ d < n ∧ lookT L d = some v) ∧
    ∀ a' w', Agrees (o.looksAt ops) L a' → (readsB o.op = true → Hold w' S) → Yielding P ops o a' w' v ∧ ((∀ c, o.op ≠ .defer c) ∨ Region.wanted o (yielded ops a'.tmps) = false)
  prs : ∀ x ∈ pre, ∀ y ∈ pre, x.2.1 = false → y.2.1 = false → ∀ d, dstOf ops y.1 = some d → d ∈ looksOf ops x.1 → y.1 ∈ A.getD x.1 []
  asz : a.tmps.size = n
  dfr : a.defers = D.map markD
  ext : Ext w0 w
  hold : Hold w S
  ok : okPairs ops A n pre l = true
  pres : okPairs ops A n [] pre = true
  all : ∀ i, i < ops.size → (∃ x ∈ pre, x.1 = i) ∨ ∃ x ∈ l, x.1 = i
  rest : drawW P n ops K l L S

theorem okAt_parts {ops : Array Oper} {A : List (List Nat)} {pre : List Entry} {x : Entry} (h : okAt ops A n pre x = true) :
    (∀ j ∈ afterOf ops x.1, ∃ y ∈ pre, y.1 = j) ∧ (∀ y ∈ pre, y.2.1 = true → y.1 ∈ A.getD x.1 []) ∧ (∀ y ∈ pre, y.1 ≠ x.1) ∧
    (∀ y ∈ pre, y.2.1 = false → (∀ d, dstOf ops y.1 = some d → d ∈ looksOf ops x.1 → y.1 ∈ A.getD x.1 []) ∧
      (∀ d, dstOf ops x.1 = some d → (d ∉ looksOf ops y.1 ∧ dstOf ops y.1 ≠ some d) ∨ (x.2.1 = true ∧ y.1 ∈ A.getD x.1 [])) ∧
      (x.2.1 = true → readsOf ops y.1 = true → y.1 ∈ A.getD x.1 [] ∨ y.1 ∈ x.2.2)) ∧
    (x.2.1 = false → ∃ d, dstOf ops x.1 = some d ∧ d < n ∧ d ∉ looksOf ops x.1) ∧ x.1 < ops.size := by
  simp only [okAt, Bool.and_eq_true, decide_eq_true_eq] at h
  obtain ⟨⟨⟨⟨⟨h1, h2⟩, h3⟩, h4⟩, h5⟩, h6⟩ := h
  refine ⟨fun j hj => ?_, fun y hy he => ?_, fun y hy he => ?_, fun y hy he => ⟨fun d hd hl => ?_, fun d hd => ?_, fun hx hr => ?_⟩, fun hx => ?_, h6⟩
  · have := List.all_eq_true.1 h1 j hj
    obtain ⟨y, hy, e⟩ := List.any_eq_true.1 this
    exact ⟨y, hy, by simpa using e⟩
  · have := List.all_eq_true.1 h2 y hy
    simpa [he] using this
  · simp only [Bool.not_eq_true', List.any_eq_false] at h3
    exact h3 y hy (by simpa using he)
  · have := List.all_eq_true.1 h4 y hy
    simp only [he, Bool.false_or, Bool.and_eq_true, hd] at this
    simpa [hl] using this.1.1
  · have := List.all_eq_true.1 h4 y hy
    simp only [he, Bool.false_or, Bool.and_eq_true, hd] at this
    have := this.1.2
    simp only [Bool.or_eq_true, Bool.and_eq_true, Bool.not_eq_true', List.contains_eq_mem, decide_eq_false_iff_not, bne_iff_ne, ne_eq, decide_eq_true_eq] at this
    exact this
  · have := List.all_eq_true.1 h4 y hy
    simp only [he, Bool.false_or, Bool.and_eq_true] at this
    have := this.2
    simpa [hx, hr] using this
  · simp only [hx, Bool.false_or] at h5
    cases hd : dstOf ops x.1 with
    | none => rw [hd] at h5; cases h5
    | some d =>
      rw [hd] at h5
      simp only [Bool.and_eq_true, decide_eq_true_eq, Bool.not_eq_true', List.contains_eq_mem, decide_eq_false_iff_not] at h5
      exact ⟨d, rfl, h5.1, h5.2⟩

theorem okPairs_snoc {ops : Array Oper} {A : List (List Nat)} {x : Entry} : ∀ (l pre : List Entry), okPairs ops A n pre l = true → okAt ops A n (pre ++ l) x = true → okPairs ops A n pre (l ++ [x]) = true
  | [], pre, _, h => by simpa [okPairs] using h
  | y :: l, pre, h, hx => by
    simp only [okPairs, Bool.and_eq_true, List.cons_append] at h ⊢
    exact ⟨h.1, okPairs_snoc l _ h.2 (by simpa using hx)⟩
theorem okPairs_get {ops : Array Oper} {A : List (List Nat)} {x : Entry} : ∀ (l pre : List Entry) (k : Nat), okPairs ops A n pre l = true → l[k]? = some x → okAt ops A n (pre ++ l.take k) x = true
  | [], _, _, _, h => by simp at h
  | y :: l, pre, 0, h, hx => by
    simp only [okPairs, Bool.and_eq_true] at h
    simp at hx; subst hx
    simpa using h.1
  | y :: l, pre, k + 1, h, hx => by
    simp only [okPairs, Bool.and_eq_true] at h
    simp only [List.getElem?_cons_succ] at hx
    have := okPairs_get l (pre ++ [y]) k h.2 hx
    simpa using this

theorem okPairs_mem {ops : Array Oper} {A : List (List Nat)} : ∀ (l pre : List Entry), okPairs ops A n pre l = true → ∀ x ∈ l, ∃ q, okAt ops A n (pre ++ q) x = true
  | [], _, _, x, hx => by cases hx
  | y :: l, pre, h, x, hx => by
    simp only [okPairs, Bool.and_eq_true] at h
    rcases List.mem_cons.1 hx with rfl | hx
    · exact ⟨[], by simpa using h.1⟩
    · obtain ⟨q, hq⟩ := okPairs_mem l (pre ++ [y]) h.2 x hx
      exact ⟨y :: q, by simpa using hq⟩

/-- What changes nothing is taken at once. -/
theorem DInv.norm {ops : Array Oper} {A : List (List Nat)} {K : Env → State → Prop} {D : List Nat} {w0 : World} : ∀ (l pre : List Entry) (listed : Array Bool) (L : Env) (S : State) (a : Act) (w : World),
    DInv P n ops A K D w0 pre l listed L S a w → ∃ pre' l' L', DInv P n ops A K D w0 pre' l' listed L' S a w ∧ (l' = [] ∨ ∃ i pend l'', l' = (i, true, pend) :: l'')
  | [], pre, listed, L, S, a, w, h => ⟨pre, [], L, h, .inl rfl⟩
  | (i, true, pend) :: l, pre, listed, L, S, a, w, h => ⟨pre, _, L, h, .inr ⟨i, pend, l, rfl⟩⟩
  | (i, false, pend) :: l, pre, listed, L, S, a, w, h => by
    have hok := h.ok
    simp only [okPairs, Bool.and_eq_true] at hok
    obtain ⟨o1, o2, o3, o4, o5, o6⟩ := okAt_parts hok.1
    obtain ⟨d, hd, hdn, hdl⟩ := o5 rfl
    have hr := h.rest
    simp only [drawW] at hr
    cases ho : ops[i]? with
    | none => rw [ho] at hr; exact hr.elim
    | some o =>
      rw [ho] at hr
      simp only at hr
      obtain ⟨v, hk, _, hq⟩ := quiet_out hr
      have hdo : o.dst = some d := by simpa [dstOf, ho] using hd
      have hlo : looksOf ops i = o.looksAt ops := by simp [looksOf, ho]
      have hunl : listed.getD i false = false := by
        cases hx : listed.getD i false with
        | false => rfl
        | true => obtain ⟨y, hy, e⟩ := h.inPre i hx; exact absurd e (o3 y hy)
      have hL : putT n o.dst v L = (d, v) :: L := by simp [putT, hdo, hdn]
      rw [hL] at hk
      have keepA : ∀ (ts : List Tmp) (a' : Act), d ∉ ts → Agrees ts ((d, v) :: L) a' → Agrees ts L a' := by
        intro ts a' hn ha t ht u hu
        refine ha t ht u ?_
        simp only [lookT]
        rw [if_neg (fun e => hn (by rw [← e]; exact ht))]
        exact hu
      refine DInv.norm l (pre ++ [(i, false, pend)]) listed ((d, v) :: L) S a w ⟨h.size, ?_, ?_, h.clos, ?_, ?_, ?_, h.asz, h.dfr, h.ext, h.hold, hok.2, okPairs_snoc _ _ h.pres (by simpa using hok.1), ?_, hk⟩
      · intro j hj; obtain ⟨x, hx, e⟩ := h.inPre j hj; exact ⟨x, List.mem_append_left _ hx, e⟩
      · intro x hx he
        rcases List.mem_append.1 hx with hx | hx
        · exact h.effs x hx he
        · simp at hx; subst hx; cases he
      · intro t u hu
        simp only [lookT] at hu
        split at hu
        · subst_vars; exact .inl ⟨(i, false, pend), by simp, hunl, hd⟩
        · rcases h.tmps t u hu with ⟨x, hx, h1, h2⟩ | h3
          · exact .inl ⟨x, List.mem_append_left _ hx, h1, h2⟩
          · exact .inr h3
      · intro x hx hxl
        rcases List.mem_append.1 hx with hx | hx
        · obtain ⟨o', v', h1, ⟨d', h2, h3, h4⟩, h5⟩ := h.facts x hx hxl
          have hxe : x.2.1 = false := by
            cases hh : x.2.1 with
            | false => rfl
            | true => rw [h.effs x hx hh] at hxl; cases hxl
          have hne := ((o4 x hx hxe).2.1 d hd).resolve_right (fun hh => by cases hh.1)
          have hd' : dstOf ops x.1 = some d' := by simp [dstOf, h1, h2]
          refine ⟨o', v', h1, ⟨d', h2, h3, ?_⟩, fun a' w' ha hw => h5 a' w' (keepA _ a' (by simpa [looksOf, h1] using hne.1) ha) hw⟩
          simp only [lookT]
          rw [if_neg (fun e => hne.2 (by rw [hd', e]))]
          exact h4
        · simp at hx; subst hx
          refine ⟨o, v, ho, ⟨d, hdo, hdn, by simp [lookT]⟩, fun a' w' ha hw => hq a' w' (keepA _ a' (by rw [← hlo]; exact hdl) ha) hw⟩
      · intro x hx y hy hxe hye d' hd' hl'
        rcases List.mem_append.1 hx with hx | hx
        · rcases List.mem_append.1 hy with hy | hy
          · exact h.prs x hx y hy hxe hye d' hd' hl'
          · simp at hy; subst hy
            rw [hd] at hd'; cases hd'
            exact absurd hl' (((o4 x hx hxe).2.1 d hd).resolve_right (fun hh => by cases hh.1)).1
        · simp at hx; subst hx
          rcases List.mem_append.1 hy with hy | hy
          · exact (o4 y hy hye).1 d' hd' hl'
          · simp at hy; subst hy
            rw [hd] at hd'; cases hd'
            exact absurd hl' hdl
      · intro j hj
        rcases h.all j hj with ⟨x, hx, e⟩ | ⟨x, hx, e⟩
        · exact .inl ⟨x, List.mem_append_left _ hx, e⟩
        · rcases List.mem_cons.1 hx with rfl | hx
          · exact .inl ⟨_, by simp, e⟩
          · exact .inr ⟨x, hx, e⟩


theorem getD_set {listed : Array Bool} {i j : Nat} (hi : i < listed.size) : (listed.setIfInBounds i true).getD j false = (if j = i then true else listed.getD j false) := by
  simp only [Array.getD_eq_getD_getElem?, Array.getElem?_setIfInBounds]
  by_cases h : i = j
  · subst h; simp [hi]
  · rw [if_neg h, if_neg (Ne.symm h)]

theorem still_out {ops : Array Oper} {L : Env} {S : State} {p : Prop} : ∀ (js : List Nat), stillAll P ops js L S p → p ∧ ∀ j ∈ js, ∃ o d v, ops[j]? = some o ∧ o.dst = some d ∧ lookT L d = some v ∧ quietW P ops o L S fun u => u = v
  | [], h => ⟨h, fun j hj => by cases hj⟩
  | j :: js, h => by
    simp only [stillAll] at h
    cases ho : ops[j]? with
    | none => rw [ho] at h; exact h.elim
    | some o =>
      rw [ho] at h
      obtain ⟨h1, h2⟩ := h
      obtain ⟨hp, hr⟩ := still_out js h2
      refine ⟨hp, fun k hk => ?_⟩
      rcases List.mem_cons.1 hk with rfl | hk
      · cases hd : o.dst with
        | none => rw [hd] at h1; exact h1.elim
        | some d =>
          rw [hd] at h1
          cases hv : lookT L d with
          | none => simp only [hv] at h1; exact h1.elim
          | some v => simp only [hv] at h1; exact ⟨o, d, v, ho, hd, hv, h1⟩
      · exact hr k hk

theorem draw_core {ops : Array Oper} {A : List (List Nat)} {K : Cont} {D : List Nat} {w0 : World} (hc : certB ops A = true) : ∀ (fuel : Nat) (pre l : List Entry) (listed : Array Bool) (L : Env) (S : State) (a : Act) (w : World),
    DInv P n ops A (K .normal D) D w0 pre l listed L S a w → ((List.range ops.size).filter fun i => !listed.getD i false).length ≤ fuel →
    wpAnyIn (FW ro) 0 P .any ops (KQ n K w0) fuel listed a w := by
  intro fuel
  -- at a moment at which nothing is ready, all is done
  have fin : ∀ (pre l : List Entry) (listed : Array Bool) (L : Env) (S : State) (a : Act) (w : World), DInv P n ops A (K .normal D) D w0 pre l listed L S a w → Region.ready .any ops listed = [] → KQ n K w0 .normal a w := by
    intro pre l listed L S a w h hr
    obtain ⟨pre, l, L, h, hl⟩ := h.norm
    -- an operation whose edges all lead to what is done is ready
    have ready : ∀ i, i < ops.size → (∀ j ∈ afterOf ops i, listed.getD j false = true) → listed.getD i false = true := by
      intro i hi hall
      cases hx : listed.getD i false with
      | true => rfl
      | false =>
        exfalso
        have : i ∈ Region.ready .any ops listed := by
          refine List.mem_filter.2 ⟨List.mem_range.2 hi, ?_⟩
          have hsz : i < listed.size := by rw [h.size]; exact hi
          have h1 : listed.getD i true = false := by simpa [Array.getD_eq_getD_getElem?, hsz] using hx
          have ho : ops[i]? = some ops[i] := by simp [hi]
          rw [h1, ho]
          simp only [Option.map_some, Option.getD_some, Bool.not_false, Bool.true_and]
          rw [Array.all_eq_true']
          intro e he
          by_cases hb : Region.binds .any e = true
          · have := hall e.on (by simp only [afterOf, ho]; exact List.mem_map.2 ⟨e, List.mem_filter.2 ⟨by simpa using he, hb⟩, rfl⟩)
            simp [this]
          · simp [hb]
        rw [hr] at this; cases this
    have pend : ∀ (k : Nat) (x : Entry), pre[k]? = some x → listed.getD x.1 false = true := by
      intro k
      induction k using Nat.strongRecOn with
      | _ k ih =>
        intro x hx
        obtain ⟨o1, _, _, _, _, o6⟩ := okAt_parts (okPairs_get pre [] k h.pres hx)
        refine ready x.1 o6 fun j hj => ?_
        obtain ⟨y, hy, e⟩ := o1 j hj
        rw [List.nil_append] at hy
        obtain ⟨k', hk'⟩ := List.mem_iff_getElem?.1 hy
        have hlt : k' < k := by
          have := (List.getElem?_eq_some_iff.1 hk').1
          simp at this; omega
        rw [← e]
        refine ih k' hlt y ?_
        rw [List.getElem?_take_of_lt hlt] at hk'
        exact hk'
    rcases hl with rfl | ⟨i, pd, l'', rfl⟩
    · refine ⟨D, L, S, h.rest, ⟨h.asz, fun t v ht => ?_, h.dfr⟩, h.ext, h.hold⟩
      rcases h.tmps t v ht with ⟨x, hx, h1, _⟩ | h3
      · obtain ⟨k, hk⟩ := List.mem_iff_getElem?.1 hx
        rw [pend k x hk] at h1; cases h1
      · exact h3
    · exfalso
      have hok := h.ok
      simp only [okPairs, Bool.and_eq_true] at hok
      obtain ⟨o1, _, o3, _, _, o6⟩ := okAt_parts hok.1
      have hi : listed.getD i false = true := by
        refine ready i o6 fun j hj => ?_
        obtain ⟨y, hy, e⟩ := o1 j hj
        obtain ⟨k, hk⟩ := List.mem_iff_getElem?.1 hy
        rw [← e]; exact pend k y hk
      obtain ⟨y, hy, e⟩ := h.inPre i hi
      exact o3 y hy e
  induction fuel with
  | zero =>
    intro pre l listed L S a w h hle
    have hr : Region.ready .any ops listed = [] := by
      have h0 : ((List.range ops.size).filter fun i => !listed.getD i false) = [] := List.eq_nil_of_length_eq_zero (Nat.le_zero.1 hle)
      unfold Region.ready
      rw [List.filter_eq_nil_iff] at h0 ⊢
      intro i hi
      have := h0 i hi
      have hsz : i < listed.size := by rw [h.size]; exact List.mem_range.1 hi
      simp only [Array.getD_eq_getD_getElem?, hsz, Array.getElem?_eq_getElem, Option.getD_some] at this ⊢
      simp only [Bool.not_eq_true', Bool.not_eq_false] at this
      simp [this]
    exact ⟨hr, fin pre l listed L S a w h hr⟩
  | succ fuel ih =>
    intro pre l listed L S a w h hle
    refine ⟨fun hr => fin pre l listed L S a w h hr, fun i hi => ?_⟩
    obtain ⟨pre, l, L, h, hl⟩ := h.norm
    obtain ⟨hi1, hi2⟩ := List.mem_filter.1 hi
    have him := List.mem_range.1 hi1
    have hsz : i < listed.size := by rw [h.size]; exact him
    have ho : ops[i]? = some ops[i] := by simp [him]
    rw [ho] at hi2
    simp only [Option.map_some, Option.getD_some, Bool.and_eq_true, Bool.not_eq_true'] at hi2
    have hun : listed.getD i false = false := by
      have := hi2.1
      simpa [Array.getD_eq_getD_getElem?, hsz] using this
    have hdep : ∀ j ∈ afterOf ops i, listed.getD j false = true := by
      intro j hj
      simp only [afterOf, ho] at hj
      obtain ⟨e, he, rfl⟩ := List.mem_map.1 hj
      obtain ⟨he1, he2⟩ := List.mem_filter.1 he
      have := hi2.2
      rw [Array.all_eq_true'] at this
      have := this e (by simpa using he1)
      simpa [he2] using this
    have hanc : ∀ j ∈ A.getD i [], listed.getD j false = true := by
      intro j hj
      have h1 := List.all_eq_true.1 hc i (List.mem_range.2 him)
      have h2 := List.all_eq_true.1 h1 j hj
      obtain ⟨e, he, h3⟩ := List.any_eq_true.1 h2
      simp only [Bool.or_eq_true, beq_iff_eq, List.contains_eq_mem, decide_eq_true_eq] at h3
      rcases h3 with rfl | h3
      · exact hdep _ he
      · exact h.clos e (hdep e he) j h3
    have hsize' : (listed.setIfInBounds i true).size = ops.size := by simp [h.size]
    have hclos' : ∀ k, (listed.setIfInBounds i true).getD k false = true → ∀ j ∈ A.getD k [], (listed.setIfInBounds i true).getD j false = true := by
      intro k hk j hj
      rw [getD_set hsz] at hk ⊢
      split
      · rfl
      · split at hk
        · subst_vars; exact hanc j hj
        · exact h.clos k hk j hj
    have hcount : ((List.range ops.size).filter fun k => !(listed.setIfInBounds i true).getD k false).length ≤ fuel := by
      have := filter_less (p := fun k => !listed.getD k false) (q := fun k => !(listed.setIfInBounds i true).getD k false) (i := i) (List.range ops.size) (fun x hx => by
        simp only [getD_set hsz] at hx
        split at hx
        · simp at hx
        · exact hx) hi1 (by simp [hun]) (by simp [getD_set hsz])
      omega
    by_cases hin : ∃ x ∈ pre, x.1 = i
    · -- it has been reckoned
      obtain ⟨x, hx, rfl⟩ := hin
      have hxe : x.2.1 = false := by
        cases hh : x.2.1 with
        | false => rfl
        | true => rw [h.effs x hx hh] at hun; cases hun
      obtain ⟨o, v, ho', ⟨d, hd, hdn, hv⟩, hf⟩ := h.facts x hx hun
      have hag : Agrees (o.looksAt ops) L a := by
        intro t ht u hu
        rcases h.tmps t u hu with ⟨y, hy, h1, h2⟩ | h3
        · exfalso
          have hye : y.2.1 = false := by
            cases hh : y.2.1 with
            | false => rfl
            | true => rw [h.effs y hy hh] at h1; cases h1
          have := hanc _ (h.prs x hx y hy hxe hye t h2 (by simpa [looksOf, ho'] using ht))
          rw [h1] at this; cases this
        · exact h3
      obtain ⟨hy, hnd⟩ := hf a w hag (fun _ => h.hold)
      refine yielding_in ho' hy hnd (ih pre l _ L S _ w ⟨hsize', ?_, ?_, hclos', ?_, ?_, h.prs, ?_, ?_, h.ext, h.hold, h.ok, h.pres, h.all, h.rest⟩ hcount)
      · intro k hk
        rw [getD_set hsz] at hk
        split at hk
        · exact ⟨x, hx, by subst_vars; rfl⟩
        · exact h.inPre k hk
      · intro y hy he
        rw [getD_set hsz]
        split
        · rfl
        · exact h.effs y hy he
      · intro t u hu
        by_cases htd : d = t
        · subst htd
          rw [hv] at hu; cases hu
          right
          simp [hd, Act.put, h.asz, hdn]
        · rcases h.tmps t u hu with ⟨y, hy, h1, h2⟩ | h3
          · refine .inl ⟨y, hy, ?_, h2⟩
            rw [getD_set hsz]
            rw [if_neg]
            · exact h1
            · intro e
              have : dstOf ops x.1 = some t := by rw [← e]; exact h2
              simp only [dstOf, ho', Option.bind_some, hd, Option.some.injEq] at this
              exact htd this
          · right
            simp only [hd, Act.put, Array.getElem?_setIfInBounds_ne htd]
            exact h3
      · intro y hy hyl
        refine h.facts y hy ?_
        rw [getD_set hsz] at hyl
        split at hyl
        · cases hyl
        · exact hyl
      · simp [hd, Act.put, h.asz]
      · simp only [hd, Act.put]; exact h.dfr
    · -- it is what comes next
      have hnx : ∃ pd l'', l = (i, true, pd) :: l'' := by
        rcases (h.all i him).resolve_left hin with ⟨x, hx, he⟩
        rcases hl with rfl | ⟨j, pd, l'', rfl⟩
        · cases hx
        · rcases List.mem_cons.1 hx with rfl | hx
          · cases he; exact ⟨pd, l'', rfl⟩
          · exfalso
            have hok := h.ok
            simp only [okPairs, Bool.and_eq_true] at hok
            obtain ⟨q, hq⟩ := okPairs_mem l'' _ hok.2 x hx
            obtain ⟨_, o2, _⟩ := okAt_parts hq
            have := hanc j (by rw [← he]; exact o2 (j, true, pd) (by simp) rfl)
            obtain ⟨y, hy, e⟩ := h.inPre j this
            obtain ⟨_, _, o3, _⟩ := okAt_parts hok.1
            exact o3 y hy e
      obtain ⟨pd, l'', rfl⟩ := hnx
      have hok := h.ok
      simp only [okPairs, Bool.and_eq_true] at hok
      obtain ⟨o1, o2, o3, o4, o5, o6⟩ := okAt_parts hok.1
      have hag : Agrees (ops[i].looksAt ops) L a := by
        intro t ht u hu
        rcases h.tmps t u hu with ⟨y, hy, h1, h2⟩ | h3
        · exfalso
          have hye : y.2.1 = false := by
            cases hh : y.2.1 with
            | false => rfl
            | true => rw [h.effs y hy hh] at h1; cases h1
          have := hanc _ ((o4 y hy hye).1 t h2 (by simpa [looksOf, ho] using ht))
          rw [h1] at this; cases this
        · exact h3
      have hrest := h.rest
      simp only [drawW, ho] at hrest
      -- behind it
      have next : ∀ (v : Value) (S' : State) (w' : World), Ext w w' → Hold w' S' → stillAll P ops pd (putT n (ops[i]).dst v L) S' (drawW P n ops (K .normal D) l'' (putT n (ops[i]).dst v L) S') →
          wpAnyIn (FW ro) 0 P .any ops (KQ n K w0) fuel (listed.setIfInBounds i true) (a.put (ops[i]).dst v) w' := by
        intro v S' w' he hh hst
        obtain ⟨hdraw, hstill⟩ := still_out pd hst
        have hdi : dstOf ops i = (ops[i]).dst := by simp [dstOf, ho]
        -- of an entry that is still to come to its place nothing has turned
        have away : ∀ y ∈ pre, (listed.setIfInBounds i true).getD y.1 false = false → y.2.1 = false ∧ listed.getD y.1 false = false ∧ y.1 ∉ A.getD i [] ∧
            ∀ d, (ops[i]).dst = some d → d ∉ looksOf ops y.1 ∧ dstOf ops y.1 ≠ some d := by
          intro y hy hyl
          rw [getD_set hsz] at hyl
          split at hyl
          · cases hyl
          · have hye : y.2.1 = false := by
              cases hh : y.2.1 with
              | false => rfl
              | true => rw [h.effs y hy hh] at hyl; cases hyl
            have hna : y.1 ∉ A.getD i [] := fun hm => by rw [hanc _ hm] at hyl; cases hyl
            exact ⟨hye, hyl, hna, fun d hd => ((o4 y hy hye).2.1 d (by rw [hdi]; exact hd)).resolve_right (fun hc => hna hc.2)⟩
        refine ih (pre ++ [(i, true, pd)]) l'' _ (putT n (ops[i]).dst v L) S' _ w' ⟨hsize', ?_, ?_, hclos', ?_, ?_, ?_, ?_, ?_, h.ext.trans he, hh, hok.2, okPairs_snoc _ _ h.pres (by simpa using hok.1), ?_, hdraw⟩ hcount
        · intro k hk
          rw [getD_set hsz] at hk
          split at hk
          · exact ⟨(i, true, pd), by simp, by subst_vars; rfl⟩
          · obtain ⟨y, hy, e⟩ := h.inPre k hk; exact ⟨y, List.mem_append_left _ hy, e⟩
        · intro y hy hye
          rw [getD_set hsz]
          split
          · rfl
          · rcases List.mem_append.1 hy with hy | hy
            · exact h.effs y hy hye
            · simp at hy; subst hy; exact absurd rfl ‹_›
        · intro t u hu
          rcases lookT_put hu with ⟨h1, h2, rfl⟩ | h1
          · right; simp [h1, Act.put, h.asz, h2]
          · by_cases hdt : (ops[i]).dst = some t ∧ t < n
            · have : lookT (putT n (ops[i]).dst v L) t = some v := by simp [hdt.1, putT, hdt.2, lookT]
              rw [this] at hu; cases hu
              right; simp [hdt.1, Act.put, h.asz, hdt.2]
            · have keep : a.tmps[t]? = some u → (a.put (ops[i]).dst v).tmps[t]? = some u := by
                intro hat
                cases hd : (ops[i]).dst with
                | none => exact hat
                | some d =>
                  simp only [Act.put]
                  by_cases e : d = t
                  · subst e
                    have := (Array.getElem?_eq_some_iff.1 hat).1
                    rw [h.asz] at this
                    exact absurd ⟨hd, this⟩ hdt
                  · rw [Array.getElem?_setIfInBounds_ne e]; exact hat
              rcases h.tmps t u h1 with ⟨y, hy, h2, h3⟩ | h3
              · by_cases hyi : (listed.setIfInBounds i true).getD y.1 false = false
                · exact .inl ⟨y, List.mem_append_left _ hy, hyi, h3⟩
                · exfalso
                  rw [getD_set hsz] at hyi
                  split at hyi
                  · exact hin ⟨y, hy, ‹_›⟩
                  · exact hyi h2
              · exact .inr (keep h3)
        · intro y hy hyl
          rcases List.mem_append.1 hy with hy | hy
          · obtain ⟨hye, hyl', hna, hnd⟩ := away y hy hyl
            obtain ⟨o, v', ho', ⟨d, hd, hdn, hv⟩, hf⟩ := h.facts y hy hyl'
            have hlk : ∀ t, t ∈ o.looksAt ops ∨ t = d → lookT (putT n (ops[i]).dst v L) t = lookT L t := by
              intro t ht
              refine lookT_put_ne fun e => ?_
              obtain ⟨n1, n2⟩ := hnd t e
              rcases ht with ht | rfl
              · exact n1 (by simpa [looksOf, ho'] using ht)
              · exact n2 (by simp [dstOf, ho', hd])
            by_cases hrd : readsB o.op = true
            · have hmem : y.1 ∈ pd := by
                have := (o4 y hy hye).2.2 rfl (by simp [readsOf, ho', hrd])
                exact this.resolve_left hna
              obtain ⟨o2, d2, v2, e1, e2, e3, hq⟩ := hstill y.1 hmem
              rw [ho'] at e1; cases e1
              rw [hd] at e2; cases e2
              obtain ⟨v3, rfl, _, hq'⟩ := quiet_out hq
              refine ⟨o, v3, ho', ⟨d, hd, hdn, e3⟩, fun a' w'' ha hw => hq' a' w'' ha hw⟩
            · refine ⟨o, v', ho', ⟨d, hd, hdn, by rw [hlk d (.inr rfl)]; exact hv⟩, fun a' w'' ha _ => hf a' w'' (fun t ht u hu => ha t ht u (by rw [hlk t (.inl ht)]; exact hu)) (fun hh => absurd hh hrd)⟩
          · simp at hy; subst hy
            rw [getD_set hsz] at hyl; simp at hyl
        · intro x hx y hy hxe hye d' hd' hl'
          rcases List.mem_append.1 hx with hx | hx
          · rcases List.mem_append.1 hy with hy | hy
            · exact h.prs x hx y hy hxe hye d' hd' hl'
            · simp at hy; subst hy; cases hye
          · simp at hx; subst hx; cases hxe
        · cases (ops[i]).dst <;> simp [Act.put, h.asz]
        · cases (ops[i]).dst <;> exact h.dfr
        · intro j hj
          rcases h.all j hj with ⟨x, hx, e⟩ | ⟨x, hx, e⟩
          · exact .inl ⟨x, List.mem_append_left _ hx, e⟩
          · rcases List.mem_cons.1 hx with rfl | hx
            · exact .inl ⟨_, by simp, e⟩
            · exact .inr ⟨x, hx, e⟩
      unfold wpOpIn
      rw [ho]
      simp only
      rcases guard_agrees hag hrest with ⟨hw1, hs⟩ | ⟨hw1, hs⟩
      · rw [if_pos hw1]
        obtain ⟨ρ, hρ, hρe⟩ := full_rho hag
        refine ⟨fun _ _ => trivial, ?_⟩
        rw [Oper.semAt_eq _ _ _ (step_not_defer hs), ← execOp_congr _ (stepW_not_select hs) hρe]
        exact upon_next (step_next hρ hs) h.hold fun v S' w' hk he hh => next v S' w' he hh hk
      · rw [if_neg (by simp [hw1])]
        exact ⟨fun _ _ => trivial, next undef S w (Ext.refl w) h.hold hs⟩

/-- The rule: a plan that fits the region, and its walk. -/
theorem code_draw {id : Nat} {ops : Array Oper} {K : Cont} {D : List Nat} {L : Env} {S : State} (A : List (List Nat)) (pl : List Entry) (hm : P.follows .mixedOrders = true)
    (hok : okDraw ops A n pl = true) (h : drawW P n ops (K .normal D) pl L S) : CodeW P n ro (.region id ops true) K D L S := by
  refine ⟨fun a w ha hw => ?_⟩
  refine wpIn_region_any hm ?_
  simp only [okDraw, Bool.and_eq_true] at hok
  have h0 : ∀ i, (Array.replicate ops.size false).getD i false = false := by
    intro i; simp only [Array.getD_eq_getD_getElem?, Array.getElem?_replicate]; split <;> rfl
  have hw' : Hold { w with drawn := w.drawn + 1 } S := ⟨hw.nd, hw.get⟩
  have he : Ext w { w with drawn := w.drawn + 1 } := ⟨rfl, rfl, rfl, Nat.le_refl _⟩
  refine draw_core hok.1.1 ops.size [] pl _ L S a _ ⟨by simp, ?_, ?_, ?_, ?_, ?_, ?_, ha.size, ha.marks, he, hw', hok.1.2, rfl, ?_, h⟩ ?_
  · intro i hi; rw [h0] at hi; cases hi
  · intro x hx; cases hx
  · intro i hi; rw [h0] at hi; cases hi
  · intro t v ht; exact .inr (ha.get t v ht)
  · intro x hx; cases hx
  · intro x hx; cases hx
  · intro i hi
    have := List.all_eq_true.1 hok.2 i (List.mem_range.2 hi)
    obtain ⟨x, hx, e⟩ := List.any_eq_true.1 this
    exact .inr ⟨x, hx, by simpa using e⟩
  · refine Nat.le_trans (List.length_filter_le _ _) (by simp)

theorem draw_quiet {ops : Array Oper} {K : Env → State → Prop} {o : Oper} {i : Nat} {pd : List Nat} {l : List Entry} {L : Env} {S : State} (ho : ops[i]? = some o)
    (h : ∀ N : Env → State → Prop, (∀ L S, drawW P n ops K l L S → N L S) → quietW P ops o L S fun v => N (putT n o.dst v L) S) : drawW P n ops K ((i, false, pd) :: l) L S := by
  simp only [drawW, ho]; exact h _ fun _ _ h => h
theorem draw_effect {ops : Array Oper} {K : Env → State → Prop} {o : Oper} {i : Nat} {pd : List Nat} {l : List Entry} {L : Env} {S : State} (ho : ops[i]? = some o)
    (h : ∀ N : Env → State → Prop, (∀ L S, drawW P n ops K l L S → N L S) → guardW ops o L (stepW P o.op o.type L S fun v S' => stillAll P ops pd (putT n o.dst v L) S' (N (putT n o.dst v L) S'))
      (stillAll P ops pd (putT n o.dst undef L) S (N (putT n o.dst undef L) S))) : drawW P n ops K ((i, true, pd) :: l) L S := by
  simp only [drawW, ho]; exact h _ fun _ _ h => h
theorem draw_nil {ops : Array Oper} {K : Env → State → Prop} {L : Env} {S : State} (h : K L S) : drawW P n ops K [] L S := h

end Go.Ost
