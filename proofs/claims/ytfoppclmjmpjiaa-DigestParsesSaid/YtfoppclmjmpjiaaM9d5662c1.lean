/- Texts in a row: the walk's rules and contracts, as each says. Conditions: as each says. -/
import Derived.Test.YtfoppclmjmpjiaaM8f6a7144
import Derived.Test.YtfoppclmjmpjiaaM1bd2b66d
import Derived.Test.YtfoppclmjmpjiaaMe0df7f36
import Derived.Test.YtfoppclmjmpjiaaM97ab6f2e
import Derived.Test.YtfoppclmjmpjiaaM486c02ee
import Derived.Test.YtfoppclmjmpjiaaProg
import Derived.Shelf.Small.Strs
/- A region whose order of evaluation Go leaves open, one of whose changing operations has no order with two others that follow one another: one plan for each of the three orders. Conditions: none. -/
set_option linter.unusedSimpArgs false
set_option linter.unusedVariables false
namespace Go.Ost
open Go

variable {P : Program} {n : Nat} {ro : Option Nat}

/-- The edges of the region, and more: (x, y): y behind x. -/
def afterE (ops : Array Oper) (E : List (Nat × Nat)) (i : Nat) : List Nat := ((E.filter fun e => e.2 == i).map (·.1)) ++ afterOf ops i
def certE (ops : Array Oper) (E : List (Nat × Nat)) (A : List (List Nat)) : Bool :=
  (List.range ops.size).all fun i => (A.getD i []).all fun j => (afterE ops E i).any fun e => e == j || (A.getD e []).contains j

theorem ancE_out {ops : Array Oper} {A : List (List Nat)} {E : List (Nat × Nat)} {i : Nat} {listed : Array Bool} (hc : certE ops E A = true) (him : i < ops.size) (clos : ∀ i, listed.getD i false = true → ∀ j ∈ A.getD i [], listed.getD j false = true)
    (hdep : ∀ j ∈ afterOf ops i, listed.getD j false = true) (hx : ∀ e ∈ E, e.2 = i → listed.getD e.1 false = true) : ∀ j ∈ A.getD i [], listed.getD j false = true := by
  intro j hj
  have h1 := List.all_eq_true.1 hc i (List.mem_range.2 him)
  have h2 := List.all_eq_true.1 h1 j hj
  obtain ⟨e, he, h3⟩ := List.any_eq_true.1 h2
  have hel : listed.getD e false = true := by
    rcases List.mem_append.1 he with he | he
    · obtain ⟨x, hx1, rfl⟩ := List.mem_map.1 he
      obtain ⟨hx2, hx3⟩ := List.mem_filter.1 hx1
      exact hx x hx2 (by simpa using hx3)
    · exact hdep e he
  simp only [Bool.or_eq_true, beq_iff_eq, List.contains_eq_mem, decide_eq_true_eq] at h3
  rcases h3 with rfl | h3
  · exact hel
  · exact clos e hel j h3

/-- The next one that changes something is taken. -/
theorem DInv.effectX {ops : Array Oper} {A : List (List Nat)} {K : Cont} {D : List Nat} {w0 : World} {pre l'' : List Entry} {listed : Array Bool} {L : Env} {S : State} {a : Act} {w : World} {i : Nat} {pd : List Nat} {X : Act → World → Prop}
    (h : DInv P n ops A (K .normal D) D w0 pre ((i, true, pd) :: l'') listed L S a w) (him : i < ops.size) (hun : listed.getD i false = false) (hanc : ∀ j ∈ A.getD i [], listed.getD j false = true) (hin : ¬ ∃ x ∈ pre, x.1 = i)
    (ih : ∀ (pre : List Entry) (L : Env) (S : State) (a : Act) (w : World), DInv P n ops A (K .normal D) D w0 pre l'' (listed.setIfInBounds i true) L S a w → X a w) :
    wpOpIn (FW ro) 0 P ops (KQ n K w0) i X a w := by
  have hsz : i < listed.size := by rw [h.size]; exact him
  have ho : ops[i]? = some ops[i] := by simp [him]
  have hsize' : (listed.setIfInBounds i true).size = ops.size := by simp [h.size]
  have hclos' : ∀ k, (listed.setIfInBounds i true).getD k false = true → ∀ j ∈ A.getD k [], (listed.setIfInBounds i true).getD j false = true := by
    intro k hk j hj
    rw [getD_set hsz] at hk ⊢
    split
    · rfl
    · split at hk
      · subst_vars; exact hanc j hj
      · exact h.clos k hk j hj
  have hok := h.ok
  simp only [okPairs, Bool.and_eq_true] at hok
  obtain ⟨o1, o2, o3, o4, o5, o6⟩ := okAt_parts hok.1
  have hag : Agrees (ops[i].looksAt ops) L a := by
    intro t ht u hu
    rcases h.tmps t u hu with ⟨y, hy, h1, h2⟩ | h3
    · exfalso
      have hye : y.2.1 = false := by
        cases hh : y.2.1 with
        | false => rfl
        | true => rw [h.effs y hy hh] at h1; cases h1
      have := hanc _ ((o4 y hy hye).1 t h2 (by simpa [looksOf, ho] using ht))
      rw [h1] at this; cases this
    · exact h3
  have hrest := h.rest
  simp only [drawW, ho] at hrest
  -- behind it
  have next : ∀ (v : Value) (S' : State) (w' : World), Ext w w' → Hold w' S' → stillAll P ops pd (putT n (ops[i]).dst v L) S' (drawW P n ops (K .normal D) l'' (putT n (ops[i]).dst v L) S') →
      X (a.put (ops[i]).dst v) w' := by
    intro v S' w' he hh hst
    obtain ⟨hdraw, hstill⟩ := still_out pd hst
    have hdi : dstOf ops i = (ops[i]).dst := by simp [dstOf, ho]
    -- of an entry that is still to come to its place nothing has turned
    have away : ∀ y ∈ pre, (listed.setIfInBounds i true).getD y.1 false = false → y.2.1 = false ∧ listed.getD y.1 false = false ∧ y.1 ∉ A.getD i [] ∧
        ∀ d, (ops[i]).dst = some d → d ∉ looksOf ops y.1 ∧ dstOf ops y.1 ≠ some d := by
      intro y hy hyl
      rw [getD_set hsz] at hyl
      split at hyl
      · cases hyl
      · have hye : y.2.1 = false := by
          cases hh : y.2.1 with
          | false => rfl
          | true => rw [h.effs y hy hh] at hyl; cases hyl
        have hna : y.1 ∉ A.getD i [] := fun hm => by rw [hanc _ hm] at hyl; cases hyl
        exact ⟨hye, hyl, hna, fun d hd => ((o4 y hy hye).2.1 d (by rw [hdi]; exact hd)).resolve_right (fun hc => hna hc.2)⟩
    refine ih (pre ++ [(i, true, pd)]) (putT n (ops[i]).dst v L) S' _ w' ⟨hsize', ?_, ?_, hclos', ?_, ?_, ?_, ?_, ?_, h.ext.trans he, hh, hok.2, okPairs_snoc _ _ h.pres (by simpa using hok.1), ?_, hdraw⟩
    · intro k hk
      rw [getD_set hsz] at hk
      split at hk
      · exact ⟨(i, true, pd), by simp, by subst_vars; rfl⟩
      · obtain ⟨y, hy, e⟩ := h.inPre k hk; exact ⟨y, List.mem_append_left _ hy, e⟩
    · intro y hy hye
      rw [getD_set hsz]
      split
      · rfl
      · rcases List.mem_append.1 hy with hy | hy
        · exact h.effs y hy hye
        · simp at hy; subst hy; exact absurd rfl ‹_›
    · intro t u hu
      rcases lookT_put hu with ⟨h1, h2, rfl⟩ | h1
      · right; simp [h1, Act.put, h.asz, h2]
      · by_cases hdt : (ops[i]).dst = some t ∧ t < n
        · have : lookT (putT n (ops[i]).dst v L) t = some v := by simp [hdt.1, putT, hdt.2, lookT]
          rw [this] at hu; cases hu
          right; simp [hdt.1, Act.put, h.asz, hdt.2]
        · have keep : a.tmps[t]? = some u → (a.put (ops[i]).dst v).tmps[t]? = some u := by
            intro hat
            cases hd : (ops[i]).dst with
            | none => exact hat
            | some d =>
              simp only [Act.put]
              by_cases e : d = t
              · subst e
                have := (Array.getElem?_eq_some_iff.1 hat).1
                rw [h.asz] at this
                exact absurd ⟨hd, this⟩ hdt
              · rw [Array.getElem?_setIfInBounds_ne e]; exact hat
          rcases h.tmps t u h1 with ⟨y, hy, h2, h3⟩ | h3
          · by_cases hyi : (listed.setIfInBounds i true).getD y.1 false = false
            · exact .inl ⟨y, List.mem_append_left _ hy, hyi, h3⟩
            · exfalso
              rw [getD_set hsz] at hyi
              split at hyi
              · exact hin ⟨y, hy, ‹_›⟩
              · exact hyi h2
          · exact .inr (keep h3)
    · intro y hy hyl
      rcases List.mem_append.1 hy with hy | hy
      · obtain ⟨hye, hyl', hna, hnd⟩ := away y hy hyl
        obtain ⟨o, v', ho', ⟨d, hd, hdn, hv⟩, hf⟩ := h.facts y hy hyl'
        have hlk : ∀ t, t ∈ o.looksAt ops ∨ t = d → lookT (putT n (ops[i]).dst v L) t = lookT L t := by
          intro t ht
          refine lookT_put_ne fun e => ?_
          obtain ⟨n1, n2⟩ := hnd t e
          rcases ht with ht | rfl
          · exact n1 (by simpa [looksOf, ho'] using ht)
          · exact n2 (by simp [dstOf, ho', hd])
        by_cases hrd : readsB o.op = true
        · have hmem : y.1 ∈ pd := by
            have := (o4 y hy hye).2.2 rfl (by simp [readsOf, ho', hrd])
            exact this.resolve_left hna
          obtain ⟨o2, d2, v2, e1, e2, e3, hq⟩ := hstill y.1 hmem
          rw [ho'] at e1; cases e1
          rw [hd] at e2; cases e2
          obtain ⟨v3, rfl, _, hq'⟩ := quiet_out hq
          refine ⟨o, v3, ho', ⟨d, hd, hdn, e3⟩, fun a' w'' ha hw => hq' a' w'' ha hw⟩
        · refine ⟨o, v', ho', ⟨d, hd, hdn, by rw [hlk d (.inr rfl)]; exact hv⟩, fun a' w'' ha _ => hf a' w'' (fun t ht u hu => ha t ht u (by rw [hlk t (.inl ht)]; exact hu)) (fun hh => absurd hh hrd)⟩
      · simp at hy; subst hy
        rw [getD_set hsz] at hyl; simp at hyl
    · intro x hx y hy hxe hye d' hd' hl'
      rcases List.mem_append.1 hx with hx | hx
      · rcases List.mem_append.1 hy with hy | hy
        · exact h.prs x hx y hy hxe hye d' hd' hl'
        · simp at hy; subst hy; cases hye
      · simp at hx; subst hx; cases hxe
    · cases (ops[i]).dst <;> simp [Act.put, h.asz]
    · cases (ops[i]).dst <;> exact h.dfr
    · intro j hj
      rcases h.all j hj with ⟨x, hx, e⟩ | ⟨x, hx, e⟩
      · exact .inl ⟨x, List.mem_append_left _ hx, e⟩
      · rcases List.mem_cons.1 hx with rfl | hx
        · exact .inl ⟨_, by simp, e⟩
        · exact .inr ⟨x, hx, e⟩
  unfold wpOpIn
  rw [ho]
  simp only
  rcases guard_agrees hag hrest with ⟨hw1, hs⟩ | ⟨hw1, hs⟩
  · rw [if_pos hw1]
    obtain ⟨ρ, hρ, hρe⟩ := full_rho hag
    refine ⟨fun _ _ => trivial, ?_⟩
    rw [Oper.semAt_eq _ _ _ (step_not_defer hs), ← execOp_congr _ (stepW_not_select hs) hρe]
    exact upon_next (step_next hρ hs) h.hold fun v S' w' hk he hh => next v S' w' he hh hk
  · rw [if_neg (by simp [hw1])]
    exact ⟨fun _ _ => trivial, next undef S w (Ext.refl w) h.hold hs⟩

/-- Once all extra edges begin at what is done there is one order. -/
theorem draw_lateE {ops : Array Oper} {A : List (List Nat)} {K : Cont} {D : List Nat} {w0 : World} {E : List (Nat × Nat)} (hc : certE ops E A = true) : ∀ (fuel : Nat) (pre l : List Entry) (listed : Array Bool) (L : Env) (S : State) (a : Act) (w : World),
    DInv P n ops A (K .normal D) D w0 pre l listed L S a w → (∀ e ∈ E, listed.getD e.1 false = true) → ((List.range ops.size).filter fun i => !listed.getD i false).length ≤ fuel →
    wpAnyIn (FW ro) 0 P .any ops (KQ n K w0) fuel listed a w := by
  intro fuel
  induction fuel with
  | zero =>
    intro pre l listed L S a w h _ hle
    have hr := nil_of_count h.size hle
    exact ⟨hr, draw_fin h hr⟩
  | succ fuel ih =>
    intro pre l listed L S a w h h1 hle
    refine ⟨fun hr => draw_fin h hr, fun i hi => ?_⟩
    obtain ⟨pre, l, L, h, hl⟩ := h.norm
    obtain ⟨him, hun, hdep⟩ := ready_out h.size hi
    have hsz : i < listed.size := by rw [h.size]; exact him
    have hanc := ancE_out hc him h.clos hdep (fun e he _ => h1 e he)
    have hcount := count_next him hsz hun hle
    have h1' : ∀ e ∈ E, (listed.setIfInBounds i true).getD e.1 false = true := fun e he => by rw [getD_set hsz]; split <;> first | rfl | exact h1 e he
    by_cases hin : ∃ x ∈ pre, x.1 = i
    · obtain ⟨o, v, ho, hy, hnd, h'⟩ := h.reckon hsz hun hanc hin
      exact yielding_in ho hy hnd (ih pre l _ L S _ w h' h1' hcount)
    · have hnx : ∃ pd l'', l = (i, true, pd) :: l'' := by
        rcases (h.all i him).resolve_left hin with ⟨x, hx, he⟩
        rcases hl with rfl | ⟨j, pd, l'', rfl⟩
        · cases hx
        · rcases List.mem_cons.1 hx with rfl | hx
          · cases he; exact ⟨pd, l'', rfl⟩
          · exfalso
            have hok := h.ok
            simp only [okPairs, Bool.and_eq_true] at hok
            obtain ⟨q, hq⟩ := okPairs_mem l'' _ hok.2 x hx
            obtain ⟨_, o2, _⟩ := okAt_parts hq
            have := hanc j (by rw [← he]; exact o2 (j, true, pd) (by simp) rfl)
            obtain ⟨y, hy, e⟩ := h.inPre j this
            obtain ⟨_, _, o3, _⟩ := okAt_parts hok.1
            exact o3 y hy e
      obtain ⟨pd, l'', rfl⟩ := hnx
      exact h.effectX him hun hanc hin fun pre L S a w h' => ih pre _ _ L S a w h' h1' hcount

/-- The same value, whichever plan reckons it. -/
theorem yield_one {o o' : Oper} {ops : Array Oper} {i : Nat} {a : Act} {w : World} {v v' : Value} (ho : ops[i]? = some o) (ho' : ops[i]? = some o') (hy : Yielding P ops o a w v) (hy' : Yielding P ops o' a w v') : v = v' := by
  rw [ho] at ho'
  cases ho'
  rcases hy with ⟨x1, x2⟩ | ⟨x1, x2⟩ <;> rcases hy' with ⟨y1, y2⟩ | ⟨y1, y2⟩
  · rw [x2] at y2
    cases y2; rfl
  · rw [x1] at y1; cases y1
  · rw [x1] at y1; cases y1
  · rw [x2, y2]

/-- While neither of two is done nothing changes. -/
theorem draw_bothE {ops : Array Oper} {A1 A2 : List (List Nat)} {K : Cont} {D : List Nat} {w0 : World} {e1 e2 : Nat} {E1 E2 : List (Nat × Nat)} {pd1 pd2 : List Nat} {L1 L2 : Env} {S1 S2 : State} {pre1 pre2 l1 l2 : List Entry} (hc1 : certE ops E1 A1 = true) (hc2 : certE ops E2 A2 = true) (hne : e1 ≠ e2)
    (t1 : ∀ e ∈ E1, e.2 = e2 ∧ e.1 = e1) (listed0 : Array Bool) (t2 : ∀ e ∈ E2, (e.2 = e1 ∧ e.1 = e2) ∨ (e.2 = e2 ∧ listed0.getD e.1 false = true)) :
    ∀ (fuel : Nat) (listed : Array Bool) (a : Act) (w : World), (∀ j, listed0.getD j false = true → listed.getD j false = true) → DInv P n ops A1 (K .normal D) D w0 pre1 ((e1, true, pd1) :: l1) listed L1 S1 a w → DInv P n ops A2 (K .normal D) D w0 pre2 ((e2, true, pd2) :: l2) listed L2 S2 a w →
    listed.getD e1 false = false → listed.getD e2 false = false → ((List.range ops.size).filter fun i => !listed.getD i false).length ≤ fuel → wpAnyIn (FW ro) 0 P .any ops (KQ n K w0) fuel listed a w := by
  intro fuel
  induction fuel with
  | zero =>
    intro listed a w _ h _ _ _ hle
    have hr := nil_of_count h.size hle
    exact ⟨hr, draw_fin h hr⟩
  | succ fuel ih =>
    intro listed a w hmon h1 h2 u1 u2 hle
    refine ⟨fun hr => draw_fin h1 hr, fun i hi => ?_⟩
    obtain ⟨him, hun, hdep⟩ := ready_out h1.size hi
    have hsz : i < listed.size := by rw [h1.size]; exact him
    have hcount := count_next him hsz hun hle
    by_cases i1 : i = e1
    · subst i1
      exact h1.effectX him hun (ancE_out hc1 him h1.clos hdep (fun e he h => absurd ((t1 e he).1.symm.trans h) hne.symm)) (not_pre h1) fun pre L S a w h' => draw_lateE hc1 fuel pre _ _ L S a w h' (fun e he => by rw [(t1 e he).2, getD_set hsz, if_pos rfl]) hcount
    by_cases i2 : i = e2
    · subst i2
      refine h2.effectX him hun (ancE_out hc2 him h2.clos hdep (fun e he h => ?_)) (not_pre h2) fun pre L S a w h' => draw_lateE hc2 fuel pre _ _ L S a w h' (fun e he => ?_) hcount
      · rcases t2 e he with ⟨q, _⟩ | ⟨_, q⟩
        · exact absurd (q.symm.trans h) hne
        · exact hmon _ q
      · rw [getD_set hsz]
        rcases t2 e he with ⟨_, q⟩ | ⟨_, q⟩
        · rw [if_pos q]
        · split
          · rfl
          · exact hmon _ q
    have a1 := ancE_out hc1 him h1.clos hdep (fun e he h => absurd (h.symm.trans (t1 e he).1) i2)
    have a2 := ancE_out hc2 him h2.clos hdep (fun e he h => by
      rcases t2 e he with ⟨q, _⟩ | ⟨q, _⟩
      · exact absurd (h.symm.trans q) i1
      · exact absurd (h.symm.trans q) i2)
    obtain ⟨o, v, ho, hy, hnd, h1'⟩ := h1.reckon hsz hun a1 (quiet_first h1 him i1 u1 a1)
    obtain ⟨o', v', ho', hy', hnd', h2'⟩ := h2.reckon hsz hun a2 (quiet_first h2 him i2 u2 a2)
    obtain rfl := yield_one ho ho' hy hy'
    rw [ho] at ho'
    cases ho'
    exact yielding_in ho hy hnd (ih _ _ w (fun j hj => by rw [getD_set hsz]; split <;> first | rfl | exact hmon j hj) h1' h2' (by rw [getD_set hsz, if_neg (Ne.symm i1)]; exact u1) (by rw [getD_set hsz, if_neg (Ne.symm i2)]; exact u2) hcount)

/-- A slice is written out: one result. -/
def writesB (o : Oper) : Bool := match o.op with
  | .buildSlice .. => true
  | _ => false
theorem wp_and {ops : Array Oper} {Q : Exit → Act → World → Prop} {i : Nat} {X1 X2 : Act → World → Prop} {a : Act} {w : World} (hb : (match ops[i]? with | some o => writesB o | none => false) = true) (h1 : wpOpIn (FW ro) 0 P ops Q i X1 a w) (h2 : wpOpIn (FW ro) 0 P ops Q i X2 a w) :
    wpOpIn (FW ro) 0 P ops Q i (fun a w => X1 a w ∧ X2 a w) a w := by
  unfold wpOpIn at *
  cases ho : ops[i]? with
  | none => rw [ho] at hb; cases hb
  | some o =>
    rw [ho] at h1 h2 hb
    simp only at h1 h2 hb ⊢
    split
    · rename_i hw
      rw [if_pos hw] at h1 h2
      refine ⟨h1.1, ?_⟩
      have k1 := h1.2
      have k2 := h2.2
      have hv : ∀ x w', (o.semAt (FW ro).round a.eval).run P w = .ok x w' → ∃ v, x = .value v := by
        intro x w' hr
        unfold writesB at hb
        split at hb
        · rename_i hop
          rw [Oper.semAt_eq _ _ _ (by rw [hop]; intro c h; cases h)] at hr
          unfold execOp at hr
          rw [hop] at hr
          simp only [Sem.run_bind, Sem.run_pure] at hr
          generalize hq : Sem.run P _ w = q at hr
          cases q with
          | ok v w'' => simp only [Result.andThen] at hr; cases hr; exact ⟨v, rfl⟩
          | halt z w'' => simp only [Result.andThen] at hr; cases hr
        · cases hb
      cases hr : (o.semAt (FW ro).round a.eval).run P w with
      | ok x w' =>
        rw [hr] at k1 k2
        obtain ⟨v, rfl⟩ := hv x w' hr
        exact ⟨k1, k2⟩
      | halt x w' =>
        rw [hr] at k1 k2
        cases x <;> first | exact k1 | exact k1.elim
    · rename_i hw
      rw [if_neg hw] at h1 h2
      exact ⟨h1.1, h1.2, h2.2⟩

def secondE : List Entry → Option Nat
  | [] => none
  | (_, true, _) :: l => firstE l
  | (_, false, _) :: l => secondE l
theorem secondE_skip : ∀ (q l : List Entry), (∀ x ∈ q, x.2.1 = false) → secondE (q ++ l) = secondE l
  | [], _, _ => rfl
  | (i, true, pd) :: q, l, h => by have := h (i, true, pd) (by simp); cases this
  | (i, false, pd) :: q, l, h => by
    rw [List.cons_append, secondE]
    exact secondE_skip q l fun x hx => h x (List.mem_cons_of_mem _ hx)
theorem DInv.first {ops : Array Oper} {A : List (List Nat)} {K : Env → State → Prop} {D : List Nat} {w0 : World} {pre l : List Entry} {listed : Array Bool} {L : Env} {S : State} {a : Act} {w : World} {e : Nat}
    (h : DInv P n ops A K D w0 pre l listed L S a w) (he : firstE l = some e) : ∃ pre' pd l' L', DInv P n ops A K D w0 pre' ((e, true, pd) :: l') listed L' S a w ∧ secondE l = firstE l' := by
  obtain ⟨pre', l', L', h', g, q, k, z⟩ := h.norm2
  rw [k, firstE_skip q l' z] at he
  rcases g with rfl | ⟨i, pd, l'', rfl⟩
  · cases he
  · simp only [firstE, Option.some.injEq] at he
    subst he
    exact ⟨pre', pd, l'', L', h', by rw [k, secondE_skip q _ z]; rfl⟩

theorem draw_threeE {ops : Array Oper} {A1 A2 A3 : List (List Nat)} {K : Cont} {D : List Nat} {w0 : World} {x y z : Nat} {pd1 pd2 pd3 : List Nat} {L1 L2 L3 : Env} {S1 S2 S3 : State} {pre1 pre2 pre3 l1 l2 l3 : List Entry}
    (hc1 : certE ops [(y, z)] A1 = true) (hc2 : certE ops [(z, y), (x, z)] A2 = true) (hc3 : certE ops [(z, x)] A3 = true) (nxz : x ≠ z) (nyz : y ≠ z) (nxy : x ≠ y) (hyx : x ∈ afterOf ops y) (hb : (match ops[x]? with | some o => writesB o | none => false) = true)
    (f1 : firstE l1 = some y) (f2 : firstE l2 = some z) :
    ∀ (fuel : Nat) (listed : Array Bool) (a : Act) (w : World), DInv P n ops A1 (K .normal D) D w0 pre1 ((x, true, pd1) :: l1) listed L1 S1 a w → DInv P n ops A2 (K .normal D) D w0 pre2 ((x, true, pd2) :: l2) listed L2 S2 a w → DInv P n ops A3 (K .normal D) D w0 pre3 ((z, true, pd3) :: l3) listed L3 S3 a w →
    listed.getD x false = false → listed.getD y false = false → listed.getD z false = false → ((List.range ops.size).filter fun i => !listed.getD i false).length ≤ fuel → wpAnyIn (FW ro) 0 P .any ops (KQ n K w0) fuel listed a w := by
  intro fuel
  induction fuel with
  | zero =>
    intro listed a w h _ _ _ _ _ hle
    have hr := nil_of_count h.size hle
    exact ⟨hr, draw_fin h hr⟩
  | succ fuel ih =>
    intro listed a w h1 h2 h3 u1 u2 u3 hle
    refine ⟨fun hr => draw_fin h1 hr, fun i hi => ?_⟩
    obtain ⟨him, hun, hdep⟩ := ready_out h1.size hi
    have hsz : i < listed.size := by rw [h1.size]; exact him
    have hcount := count_next him hsz hun hle
    by_cases ix : i = x
    · subst ix
      have k1 := h1.effectX (ro := ro) (X := fun a w => ∃ pre L S, DInv P n ops A1 (K .normal D) D w0 pre l1 (listed.setIfInBounds i true) L S a w) him hun
        (ancE_out hc1 him h1.clos hdep (fun e he h => by simp only [List.mem_singleton] at he; subst he; exact absurd h nxz.symm)) (not_pre h1) fun pre L S a w h' => ⟨pre, L, S, h'⟩
      have k2 := h2.effectX (ro := ro) (X := fun a w => ∃ pre L S, DInv P n ops A2 (K .normal D) D w0 pre l2 (listed.setIfInBounds i true) L S a w) him hun
        (ancE_out hc2 him h2.clos hdep (fun e he h => by
          simp only [List.mem_cons, List.not_mem_nil, or_false] at he
          rcases he with rfl | rfl
          · exact absurd h nxy.symm
          · exact absurd h nxz.symm)) (not_pre h2) fun pre L S a w h' => ⟨pre, L, S, h'⟩
      refine wpOpIn_mono (fun a w hh => ?_) (wp_and hb k1 k2)
      obtain ⟨⟨q1, M1, T1, d1⟩, ⟨q2, M2, T2, d2⟩⟩ := hh
      obtain ⟨r1, p1, m1, N1, d1, _⟩ := d1.first f1
      obtain ⟨r2, p2, m2, N2, d2, _⟩ := d2.first f2
      have hx : (listed.setIfInBounds i true).getD i false = true := by rw [getD_set hsz, if_pos rfl]
      refine draw_bothE hc1 hc2 nyz (fun e he => ?_) (listed.setIfInBounds i true) (fun e he => ?_) fuel _ a w (fun j hj => hj) d1 d2 (by rw [getD_set hsz, if_neg nxy.symm]; exact u2) (by rw [getD_set hsz, if_neg nxz.symm]; exact u3) hcount
      · simp only [List.mem_singleton] at he; subst he; exact ⟨rfl, rfl⟩
      · simp only [List.mem_cons, List.not_mem_nil, or_false] at he
        rcases he with rfl | rfl
        · exact .inl ⟨rfl, rfl⟩
        · exact .inr ⟨rfl, hx⟩
    by_cases iz : i = z
    · subst iz
      exact h3.effectX him hun (ancE_out hc3 him h3.clos hdep (fun e he h => by simp only [List.mem_singleton] at he; subst he; exact absurd h nxz)) (not_pre h3) fun pre L S a w h' => draw_lateE hc3 fuel pre _ _ L S a w h' (fun e he => by simp only [List.mem_singleton] at he; subst he; rw [getD_set hsz, if_pos rfl]) hcount
    have iy : i ≠ y := fun e => by
      subst e
      have := hdep x hyx
      rw [u1] at this; cases this
    have a1 := ancE_out hc1 him h1.clos hdep (fun e he h => by simp only [List.mem_singleton] at he; subst he; exact absurd h.symm iz)
    have a2 := ancE_out hc2 him h2.clos hdep (fun e he h => by
      simp only [List.mem_cons, List.not_mem_nil, or_false] at he
      rcases he with rfl | rfl
      · exact absurd h.symm iy
      · exact absurd h.symm iz)
    have a3 := ancE_out hc3 him h3.clos hdep (fun e he h => by simp only [List.mem_singleton] at he; subst he; exact absurd h.symm ix)
    obtain ⟨o, v, ho, hy, hnd, h1'⟩ := h1.reckon hsz hun a1 (quiet_first h1 him ix u1 a1)
    obtain ⟨o', v', ho', hy', hnd', h2'⟩ := h2.reckon hsz hun a2 (quiet_first h2 him ix u1 a2)
    obtain ⟨o'', v'', ho'', hy'', hnd'', h3'⟩ := h3.reckon hsz hun a3 (quiet_first h3 him iz u3 a3)
    obtain rfl := yield_one ho ho' hy hy'
    obtain rfl := yield_one ho ho'' hy hy''
    rw [ho] at ho' ho''
    cases ho'
    cases ho''
    exact yielding_in ho hy hnd (ih _ _ w h1' h2' h3' (by rw [getD_set hsz, if_neg (Ne.symm ix)]; exact u1) (by rw [getD_set hsz, if_neg (Ne.symm iy)]; exact u2) (by rw [getD_set hsz, if_neg (Ne.symm iz)]; exact u3) hcount)

def planB (ops : Array Oper) (A : List (List Nat)) (n : Nat) (pl : List Entry) : Bool := okPairs ops A n [] pl && ((List.range ops.size).all fun i => pl.any (·.1 == i))
def okThree (ops : Array Oper) (x y z : Nat) (A1 A2 A3 : List (List Nat)) (n : Nat) (pl1 pl2 pl3 : List Entry) : Bool :=
  certE ops [(y, z)] A1 && (certE ops [(z, y), (x, z)] A2 && (certE ops [(z, x)] A3 && (x != z && (y != z && (x != y && ((afterOf ops y).contains x && ((match ops[x]? with | some o => writesB o | none => false) &&
    (planB ops A1 n pl1 && (planB ops A2 n pl2 && (planB ops A3 n pl3 && (firstE pl1 == some x && (firstE pl2 == some x && (firstE pl3 == some z && (secondE pl1 == some y && secondE pl2 == some z))))))))))))))

/-- The rule: a plan for each of the three orders, and the three walks. -/
theorem code_draw3 {id : Nat} {ops : Array Oper} {K : Cont} {D : List Nat} {L : Env} {S : State} (x y z : Nat) (A1 : List (List Nat)) (pl1 : List Entry) (A2 : List (List Nat)) (pl2 : List Entry) (A3 : List (List Nat)) (pl3 : List Entry)
    (h1 : drawW P n ops (K .normal D) pl1 L S) (h2 : drawW P n ops (K .normal D) pl2 L S) (h3 : drawW P n ops (K .normal D) pl3 L S) (hm : P.follows .mixedOrders = true := by kernel_rfl)
    (hok : okThree ops x y z A1 A2 A3 n pl1 pl2 pl3 = true := by kernel_rfl) : CodeW P n ro (.region id ops true) K D L S := by
  refine ⟨fun a w ha hw => ?_⟩
  refine wpIn_region_any hm ?_
  simp only [okThree, planB, Bool.and_eq_true, beq_iff_eq, bne_iff_ne, ne_eq, List.contains_eq_mem, decide_eq_true_eq] at hok
  obtain ⟨c1, c2, c3, nxz, nyz, nxy, hyx, hb, ⟨p1, g1⟩, ⟨p2, g2⟩, ⟨p3, g3⟩, f1, f2, f3, s1, s2⟩ := hok
  obtain ⟨q1, d1, m1, M1, k1, t1⟩ := (DInv.start (K := K) ha hw p1 g1 h1).first f1
  obtain ⟨q2, d2, m2, M2, k2, t2⟩ := (DInv.start (K := K) ha hw p2 g2 h2).first f2
  obtain ⟨q3, d3, m3, M3, k3, t3⟩ := (DInv.start (K := K) ha hw p3 g3 h3).first f3
  have h0 : ∀ i, (Array.replicate ops.size false).getD i false = false := by
    intro i; simp only [Array.getD_eq_getD_getElem?, Array.getElem?_replicate]; split <;> rfl
  exact draw_threeE c1 c2 c3 nxz nyz nxy hyx hb (t1.symm.trans s1) (t2.symm.trans s2) ops.size _ a _ k1 k2 k3 (h0 _) (h0 _) (h0 _) (Nat.le_trans (List.length_filter_le _ _) (by simp))

end Go.Ost

/- A region cut in two. Conditions: none. -/
set_option linter.unusedSimpArgs false
set_option linter.unusedVariables false
namespace Go.Ost
open Go

variable {P : Program} {n : Nat} {ro : Option Nat}

/-- From this knowledge the operations that are left come to where K holds. -/
structure RunC (P : Program) (n : Nat) (ro : Option Nat) (ops : Array Oper) (K : Cont) (D : List Nat) (l : List Oper) (L : Env) (S : State) : Prop where
  out : ∀ a w, Agree n L D a → Hold w S → wpListIn (FW ro) 0 P ops (KQ n K w) l a w

theorem runc_in {ops : Array Oper} {K : Cont} {D : List Nat} {l2 : List Oper} : ∀ (l : List Oper) (L : Env) (S : State), runW P n ops (fun L S => RunC P n ro ops K D l2 L S) l L S →
    ∀ (a : Act) (w : World), Agree n L D a → Hold w S → wpListIn (FW ro) 0 P ops (KQ n K w) (l ++ l2) a w := by
  intro l
  induction l with
  | nil => intro L S h a w ha hw; exact h.out a w ha hw
  | cons o l ih =>
    intro L S h a w ha hw
    have mono : ∀ {w w' : World} {a : Act} {l : List Oper}, Ext w w' → wpListIn (FW ro) 0 P ops (KQ n K w') l a w' → wpListIn (FW ro) 0 P ops (KQ n K w) l a w' := by
      intro w w' a l he h
      have hq : ∀ e a v, KQ n K w' e a v → KQ n K w e a v := fun _ _ _ h => h.ext he
      clear ih
      have gen : ∀ (l : List Oper) (a : Act) (v : World), wpListIn (FW ro) 0 P ops (KQ n K w') l a v → wpListIn (FW ro) 0 P ops (KQ n K w) l a v := by
        intro l
        induction l with
        | nil => intro a v h; exact hq _ _ _ h
        | cons o l ih =>
          intro a v h
          simp only [wpListIn] at h ⊢
          split at h
          · rw [if_pos ‹_›]
            refine ⟨h.1, ?_⟩
            have h2 := h.2
            generalize (o.semAt (FW ro).round a.eval).run P v = r at *
            cases r with
            | ok x v' =>
              cases x <;> simp only [Oper.uponIn] at h2 ⊢ <;>
                first
                  | exact ih _ _ h2
                  | exact ⟨h2.1, CallsIn.mono h2.2 (fun e w'' he => by cases e <;> first | exact ih _ _ he | exact hq _ _ _ he | exact (let ⟨a, w, q⟩ := he; ⟨a, w, hq _ _ _ q⟩))⟩
                  | exact ⟨h2.1, RowsIn.mono h2.2 (fun _ _ he => ih _ _ he)⟩
                  | exact ⟨h2.1, RoundIn.mono h2.2 (fun e w'' he => by cases e <;> first | exact ih _ _ he | exact hq _ _ _ he | exact (let ⟨a, w, q⟩ := he; ⟨a, w, hq _ _ _ q⟩))⟩
            | halt x v' => cases x <;> simp only [Oper.uponIn] at h2 ⊢ <;> exact hq _ _ _ h2
          · rw [if_neg ‹_›]
            exact ⟨h.1, ih _ _ h.2⟩
      exact gen l a w' h
    simp only [runW] at h
    simp only [List.cons_append, wpListIn]
    rcases guard_cases ha h with ⟨hw1, h⟩ | ⟨hw1, h⟩
    · rw [if_pos hw1]
      exact oper_in h ha hw fun v S' w' hk he hh => mono he (ih _ _ hk _ _ (ha.put _ _) hh)
    · rw [if_neg (by simp [hw1])]
      exact ⟨fun _ _ => trivial, ih _ _ h _ _ (ha.put _ _) hw⟩

variable {K : Cont} {D : List Nat} {L L' : Env} {S S' : State} {ops : Array Oper} {l l1 l2 : List Oper}
theorem runc_less (hL : Knows L' L) (hS : Among S' S) (h : RunC P n ro ops K D l L' S') : RunC P n ro ops K D l L S :=
  ⟨fun a w ha hw => h.out a w (ha.less hL) (hS.hold hw)⟩
theorem runc_run (h : runW P n ops (K .normal D) l L S) : RunC P n ro ops K D l L S := ⟨run_in _ _ _ h⟩
theorem code_runc {id : Nat} (h : RunC P n ro l.toArray K D l L S) : CodeW P n ro (.region id l.toArray false) K D L S :=
  ⟨fun a w ha hw => wpIn_region_list (by simpa using h.out a w ha hw)⟩
def MidR (Q : Env → State → Prop) (L : Env) (S : State) : Prop := ∃ L' S', Q L' S' ∧ Knows L' L ∧ Among S' S
theorem midr {Q : Env → State → Prop} {L' : Env} {S' : State} (h : Q L' S') (hL : Knows L' L := by (repeat (first | exact True.intro | (refine And.intro ?_ ?_; (· (try simp only [evT, lookT_hit, lookT_miss, Nat.reduceBEq]); (first | done | exact rfl)))))) (hS : Among S' S := by first | ((repeat (first | with_reducible exact Among.nil _ | with_reducible exact Pick.head _ _ | with_reducible apply Pick.tail | with_reducible apply Among.cons)); done) | ((repeat (first | exact Among.nil _ | exact Pick.head _ _ | apply Pick.tail | apply Among.cons)); done)) : MidR Q L S := ⟨L', S', h, hL, hS⟩
theorem runw_mono {KK KK' : Env → State → Prop} (hk : ∀ L S, KK L S → KK' L S) : ∀ (l : List Oper) (L : Env) (S : State), runW P n ops KK l L S → runW P n ops KK' l L S
  | [], L, S, h => hk L S h
  | o :: l, L, S, h => by
    have key : ∀ (A A' B B' : Prop), (A → A') → (B → B') → guardW ops o L A B → guardW ops o L A' B' := by
      intro A A' B B' ha hb h
      unfold guardW at *
      cases hg : o.guard with
      | none => rw [hg] at h; exact ha h
      | some g =>
        rw [hg] at h
        obtain ⟨j, want⟩ := g
        simp only at h ⊢
        cases hd : (ops[j]?).bind (·.dst) with
        | none => rw [hd] at h; exact h.elim
        | some d =>
          rw [hd] at h
          simp only at h ⊢
          cases hv : lookT L d with
          | none => rw [hv] at h; exact h.elim
          | some v =>
            rw [hv] at h
            cases v <;> first | exact h.elim | skip
            case bool b =>
              simp only [withV] at h ⊢
              split at h
              · rw [if_pos ‹_›]; exact ha h
              · rw [if_neg ‹_›]; exact hb h
            case tuple vs => exact hb h
    simp only [runW] at h ⊢
    exact key _ _ _ _ (fun h => stepW_mono (fun v S' => runw_mono hk l _ _) h) (fun h => runw_mono hk l _ _ h) h
theorem runc_mid (Q : Env → State → Prop) (h1 : runW P n ops (MidR Q) l1 L S) (h2 : ∀ L S, Q L S → RunC P n ro ops K D l2 L S) : RunC P n ro ops K D (l1 ++ l2) L S :=
  ⟨runc_in l1 L S (runw_mono (fun _ _ ⟨L', S', hq, hL, hS⟩ => runc_less hL hS (h2 L' S' hq)) l1 L S h1)⟩
theorem runc_mid1 {o0 : Oper} (Q : Env → State → Prop) (h1 : runW P n ops (MidR Q) [o0] L S) (h2 : ∀ L S, Q L S → RunC P n ro ops K D l2 L S) : RunC P n ro ops K D (o0 :: l2) L S := runc_mid (l1 := [o0]) Q h1 h2
theorem runc_mid2 {o0 o1 : Oper} (Q : Env → State → Prop) (h1 : runW P n ops (MidR Q) [o0, o1] L S) (h2 : ∀ L S, Q L S → RunC P n ro ops K D l2 L S) : RunC P n ro ops K D (o0 :: o1 :: l2) L S := runc_mid (l1 := [o0, o1]) Q h1 h2
theorem runc_mid3 {o0 o1 o2 : Oper} (Q : Env → State → Prop) (h1 : runW P n ops (MidR Q) [o0, o1, o2] L S) (h2 : ∀ L S, Q L S → RunC P n ro ops K D l2 L S) : RunC P n ro ops K D (o0 :: o1 :: o2 :: l2) L S := runc_mid (l1 := [o0, o1, o2]) Q h1 h2
theorem runc_mid4 {o0 o1 o2 o3 : Oper} (Q : Env → State → Prop) (h1 : runW P n ops (MidR Q) [o0, o1, o2, o3] L S) (h2 : ∀ L S, Q L S → RunC P n ro ops K D l2 L S) : RunC P n ro ops K D (o0 :: o1 :: o2 :: o3 :: l2) L S := runc_mid (l1 := [o0, o1, o2, o3]) Q h1 h2
theorem runc_mid5 {o0 o1 o2 o3 o4 : Oper} (Q : Env → State → Prop) (h1 : runW P n ops (MidR Q) [o0, o1, o2, o3, o4] L S) (h2 : ∀ L S, Q L S → RunC P n ro ops K D l2 L S) : RunC P n ro ops K D (o0 :: o1 :: o2 :: o3 :: o4 :: l2) L S := runc_mid (l1 := [o0, o1, o2, o3, o4]) Q h1 h2
theorem runc_mid6 {o0 o1 o2 o3 o4 o5 : Oper} (Q : Env → State → Prop) (h1 : runW P n ops (MidR Q) [o0, o1, o2, o3, o4, o5] L S) (h2 : ∀ L S, Q L S → RunC P n ro ops K D l2 L S) : RunC P n ro ops K D (o0 :: o1 :: o2 :: o3 :: o4 :: o5 :: l2) L S := runc_mid (l1 := [o0, o1, o2, o3, o4, o5]) Q h1 h2
theorem runc_mid7 {o0 o1 o2 o3 o4 o5 o6 : Oper} (Q : Env → State → Prop) (h1 : runW P n ops (MidR Q) [o0, o1, o2, o3, o4, o5, o6] L S) (h2 : ∀ L S, Q L S → RunC P n ro ops K D l2 L S) : RunC P n ro ops K D (o0 :: o1 :: o2 :: o3 :: o4 :: o5 :: o6 :: l2) L S := runc_mid (l1 := [o0, o1, o2, o3, o4, o5, o6]) Q h1 h2
theorem runc_mid8 {o0 o1 o2 o3 o4 o5 o6 o7 : Oper} (Q : Env → State → Prop) (h1 : runW P n ops (MidR Q) [o0, o1, o2, o3, o4, o5, o6, o7] L S) (h2 : ∀ L S, Q L S → RunC P n ro ops K D l2 L S) : RunC P n ro ops K D (o0 :: o1 :: o2 :: o3 :: o4 :: o5 :: o6 :: o7 :: l2) L S := runc_mid (l1 := [o0, o1, o2, o3, o4, o5, o6, o7]) Q h1 h2
theorem runc_mid9 {o0 o1 o2 o3 o4 o5 o6 o7 o8 : Oper} (Q : Env → State → Prop) (h1 : runW P n ops (MidR Q) [o0, o1, o2, o3, o4, o5, o6, o7, o8] L S) (h2 : ∀ L S, Q L S → RunC P n ro ops K D l2 L S) : RunC P n ro ops K D (o0 :: o1 :: o2 :: o3 :: o4 :: o5 :: o6 :: o7 :: o8 :: l2) L S := runc_mid (l1 := [o0, o1, o2, o3, o4, o5, o6, o7, o8]) Q h1 h2
theorem runc_mid10 {o0 o1 o2 o3 o4 o5 o6 o7 o8 o9 : Oper} (Q : Env → State → Prop) (h1 : runW P n ops (MidR Q) [o0, o1, o2, o3, o4, o5, o6, o7, o8, o9] L S) (h2 : ∀ L S, Q L S → RunC P n ro ops K D l2 L S) : RunC P n ro ops K D (o0 :: o1 :: o2 :: o3 :: o4 :: o5 :: o6 :: o7 :: o8 :: o9 :: l2) L S := runc_mid (l1 := [o0, o1, o2, o3, o4, o5, o6, o7, o8, o9]) Q h1 h2
theorem runc_mid11 {o0 o1 o2 o3 o4 o5 o6 o7 o8 o9 o10 : Oper} (Q : Env → State → Prop) (h1 : runW P n ops (MidR Q) [o0, o1, o2, o3, o4, o5, o6, o7, o8, o9, o10] L S) (h2 : ∀ L S, Q L S → RunC P n ro ops K D l2 L S) : RunC P n ro ops K D (o0 :: o1 :: o2 :: o3 :: o4 :: o5 :: o6 :: o7 :: o8 :: o9 :: o10 :: l2) L S := runc_mid (l1 := [o0, o1, o2, o3, o4, o5, o6, o7, o8, o9, o10]) Q h1 h2
theorem runc_mid12 {o0 o1 o2 o3 o4 o5 o6 o7 o8 o9 o10 o11 : Oper} (Q : Env → State → Prop) (h1 : runW P n ops (MidR Q) [o0, o1, o2, o3, o4, o5, o6, o7, o8, o9, o10, o11] L S) (h2 : ∀ L S, Q L S → RunC P n ro ops K D l2 L S) : RunC P n ro ops K D (o0 :: o1 :: o2 :: o3 :: o4 :: o5 :: o6 :: o7 :: o8 :: o9 :: o10 :: o11 :: l2) L S := runc_mid (l1 := [o0, o1, o2, o3, o4, o5, o6, o7, o8, o9, o10, o11]) Q h1 h2

end Go.Ost

/- What the types of this program are, each by the reckoning of its tables. Conditions: none. -/
namespace Go.Proofs.Ytfoppclmjmpjiaa
open Go.Ost
-- 3 int
instance : TInt Try.prog 3 .i64 := ⟨by kernel_rfl⟩
instance : TSized Try.prog 3 (.int .i64 0) 1 8 := ⟨by kernel_rfl⟩
instance : TFlat Try.prog 3 := ⟨by kernel_rfl⟩
-- 4 bool
instance : TBool Try.prog 4 := ⟨by kernel_rfl⟩
instance : TSized Try.prog 4 (.bool false) 1 1 := ⟨by kernel_rfl⟩
instance : TFlat Try.prog 4 := ⟨by kernel_rfl⟩
-- 5 uint8
instance : TInt Try.prog 5 .u8 := ⟨by kernel_rfl⟩
instance : TSized Try.prog 5 (.int .u8 0) 1 1 := ⟨by kernel_rfl⟩
instance : TFlat Try.prog 5 := ⟨by kernel_rfl⟩
-- 9 string
instance : TStr Try.prog 9 := ⟨by kernel_rfl⟩
instance : TSized Try.prog 9 (.string ⟨#[]⟩) 1 16 := ⟨by kernel_rfl⟩
instance : TFlat Try.prog 9 := ⟨by kernel_rfl⟩
-- 22 uint32
instance : TInt Try.prog 22 .u32 := ⟨by kernel_rfl⟩
instance : TSized Try.prog 22 (.int .u32 0) 1 4 := ⟨by kernel_rfl⟩
instance : TFlat Try.prog 22 := ⟨by kernel_rfl⟩
-- 30 []uint8
instance : TSlice Try.prog 30 5 := ⟨by kernel_rfl⟩
instance : TSized Try.prog 30 (.slice none 0 0) 1 24 := ⟨by kernel_rfl⟩
instance : TFlat Try.prog 30 := ⟨by kernel_rfl⟩
-- 32 uint64
instance : TInt Try.prog 32 .u64 := ⟨by kernel_rfl⟩
instance : TSized Try.prog 32 (.int .u64 0) 1 8 := ⟨by kernel_rfl⟩
instance : TFlat Try.prog 32 := ⟨by kernel_rfl⟩
-- 33 []ostiaryref08.Param
instance : TSlice Try.prog 33 37 := ⟨by kernel_rfl⟩
instance : TSized Try.prog 33 (.slice none 0 0) 1 24 := ⟨by kernel_rfl⟩
instance : TFlat Try.prog 33 := ⟨by kernel_rfl⟩
-- 37 ostiaryref08.Param
instance : TSized Try.prog 37 (.agg #[.string ⟨#[]⟩, .string ⟨#[]⟩, .bool false]) 3 40 := ⟨by kernel_rfl⟩
instance : TDeep Try.prog 37 := ⟨by kernel_rfl⟩
instance : TField Try.prog 37 0 0 9 := ⟨by kernel_rfl⟩ -- Name
instance : TField Try.prog 37 1 1 9 := ⟨by kernel_rfl⟩ -- Value
instance : TField Try.prog 37 2 2 4 := ⟨by kernel_rfl⟩ -- Quoted
-- 42 []digest.Param
instance : TSlice Try.prog 42 43 := ⟨by kernel_rfl⟩
instance : TSized Try.prog 42 (.slice none 0 0) 1 24 := ⟨by kernel_rfl⟩
instance : TFlat Try.prog 42 := ⟨by kernel_rfl⟩
-- 43 digest.Param
instance : TSized Try.prog 43 (.agg #[.string ⟨#[]⟩, .string ⟨#[]⟩, .bool false]) 3 40 := ⟨by kernel_rfl⟩
instance : TDeep Try.prog 43 := ⟨by kernel_rfl⟩
instance : TField Try.prog 43 0 0 9 := ⟨by kernel_rfl⟩ -- Name
instance : TField Try.prog 43 1 1 9 := ⟨by kernel_rfl⟩ -- Value
instance : TField Try.prog 43 2 2 4 := ⟨by kernel_rfl⟩ -- Quoted
-- 44 api.Errno
instance : TInt Try.prog 44 .i64 := ⟨by kernel_rfl⟩
instance : TSized Try.prog 44 (.int .i64 0) 1 8 := ⟨by kernel_rfl⟩
instance : TFlat Try.prog 44 := ⟨by kernel_rfl⟩
-- 53 []string
instance : TSlice Try.prog 53 9 := ⟨by kernel_rfl⟩
instance : TSized Try.prog 53 (.slice none 0 0) 1 24 := ⟨by kernel_rfl⟩
instance : TFlat Try.prog 53 := ⟨by kernel_rfl⟩
-- 57 ostiaryref08.Challenge
instance : TSized Try.prog 57 (.agg #[.string ⟨#[]⟩, .string ⟨#[]⟩, .string ⟨#[]⟩, .bool false]) 4 56 := ⟨by kernel_rfl⟩
instance : TDeep Try.prog 57 := ⟨by kernel_rfl⟩
instance : TField Try.prog 57 0 0 9 := ⟨by kernel_rfl⟩ -- Realm
instance : TField Try.prog 57 1 1 9 := ⟨by kernel_rfl⟩ -- Nonce
instance : TField Try.prog 57 2 2 9 := ⟨by kernel_rfl⟩ -- Opaque
instance : TField Try.prog 57 3 3 4 := ⟨by kernel_rfl⟩ -- Stale
-- 58 digest.Challenge
instance : TSized Try.prog 58 (.agg #[.string ⟨#[]⟩, .string ⟨#[]⟩, .string ⟨#[]⟩, .bool false]) 4 56 := ⟨by kernel_rfl⟩
instance : TDeep Try.prog 58 := ⟨by kernel_rfl⟩
instance : TField Try.prog 58 0 0 9 := ⟨by kernel_rfl⟩ -- Realm
instance : TField Try.prog 58 1 1 9 := ⟨by kernel_rfl⟩ -- Nonce
instance : TField Try.prog 58 2 2 9 := ⟨by kernel_rfl⟩ -- Opaque
instance : TField Try.prog 58 3 3 4 := ⟨by kernel_rfl⟩ -- Stale
-- 65 ostiaryref08.Answer
instance : TSized Try.prog 65 (.agg #[.string ⟨#[]⟩, .string ⟨#[]⟩, .string ⟨#[]⟩, .string ⟨#[]⟩, .string ⟨#[]⟩, .string ⟨#[]⟩, .int .u32 0, .slice none 0 0]) 8 128 := ⟨by kernel_rfl⟩
instance : TDeep Try.prog 65 := ⟨by kernel_rfl⟩
instance : TField Try.prog 65 0 0 9 := ⟨by kernel_rfl⟩ -- User
instance : TField Try.prog 65 1 1 9 := ⟨by kernel_rfl⟩ -- Realm
instance : TField Try.prog 65 2 2 9 := ⟨by kernel_rfl⟩ -- Nonce
instance : TField Try.prog 65 3 3 9 := ⟨by kernel_rfl⟩ -- URI
instance : TField Try.prog 65 4 4 9 := ⟨by kernel_rfl⟩ -- Cnonce
instance : TField Try.prog 65 5 5 9 := ⟨by kernel_rfl⟩ -- Opaque
instance : TField Try.prog 65 6 6 22 := ⟨by kernel_rfl⟩ -- NC
instance : TField Try.prog 65 7 7 30 := ⟨by kernel_rfl⟩ -- Proof
-- 67 digest.Answer
instance : TSized Try.prog 67 (.agg #[.string ⟨#[]⟩, .string ⟨#[]⟩, .string ⟨#[]⟩, .string ⟨#[]⟩, .string ⟨#[]⟩, .string ⟨#[]⟩, .int .u32 0, .slice none 0 0]) 8 128 := ⟨by kernel_rfl⟩
instance : TDeep Try.prog 67 := ⟨by kernel_rfl⟩
instance : TField Try.prog 67 0 0 9 := ⟨by kernel_rfl⟩ -- User
instance : TField Try.prog 67 1 1 9 := ⟨by kernel_rfl⟩ -- Realm
instance : TField Try.prog 67 2 2 9 := ⟨by kernel_rfl⟩ -- Nonce
instance : TField Try.prog 67 3 3 9 := ⟨by kernel_rfl⟩ -- URI
instance : TField Try.prog 67 4 4 9 := ⟨by kernel_rfl⟩ -- Cnonce
instance : TField Try.prog 67 5 5 9 := ⟨by kernel_rfl⟩ -- Opaque
instance : TField Try.prog 67 6 6 22 := ⟨by kernel_rfl⟩ -- NC
instance : TField Try.prog 67 7 7 30 := ⟨by kernel_rfl⟩ -- Proof
-- 79 *strings.Builder
instance : TPtr Try.prog 79 81 := ⟨by kernel_rfl⟩
instance : TSized Try.prog 79 (.pointer none) 1 8 := ⟨by kernel_rfl⟩
instance : TFlat Try.prog 79 := ⟨by kernel_rfl⟩
-- 81 strings.Builder
instance : TSized Try.prog 81 (.agg #[.pointer none, .slice none 0 0]) 2 32 := ⟨by kernel_rfl⟩
instance : TDeep Try.prog 81 := ⟨by kernel_rfl⟩
instance : TField Try.prog 81 0 0 79 := ⟨by kernel_rfl⟩ -- addr
instance : TField Try.prog 81 1 1 30 := ⟨by kernel_rfl⟩ -- buf
-- 101 digest.scanner
instance : TSized Try.prog 101 (.agg #[.string ⟨#[]⟩]) 1 16 := ⟨by kernel_rfl⟩
instance : TDeep Try.prog 101 := ⟨by kernel_rfl⟩
instance : TField Try.prog 101 0 0 9 := ⟨by kernel_rfl⟩ -- s
-- 105 digest.fields
instance : TSized Try.prog 105 (.agg #[.slice none 0 0, .bool false, .bool false]) 3 32 := ⟨by kernel_rfl⟩
instance : TDeep Try.prog 105 := ⟨by kernel_rfl⟩
instance : TField Try.prog 105 0 0 42 := ⟨by kernel_rfl⟩ -- l
instance : TField Try.prog 105 1 1 4 := ⟨by kernel_rfl⟩ -- lost
instance : TField Try.prog 105 2 2 4 := ⟨by kernel_rfl⟩ -- bad
-- 123 *uint8
instance : TPtr Try.prog 123 5 := ⟨by kernel_rfl⟩
instance : TSized Try.prog 123 (.pointer none) 1 8 := ⟨by kernel_rfl⟩
instance : TFlat Try.prog 123 := ⟨by kernel_rfl⟩
-- 132 unsafe.Pointer
instance : TSized Try.prog 132 (.pointer none) 1 8 := ⟨by kernel_rfl⟩
instance : TFlat Try.prog 132 := ⟨by kernel_rfl⟩
end Go.Proofs.Ytfoppclmjmpjiaa

/- The builder of texts. Conditions: as each says. -/
set_option linter.unusedSimpArgs false
set_option linter.unusedVariables false
namespace Go.Proofs.Ytfoppclmjmpjiaa
open Go Go.Ost

instance : TUns Try.prog 132 := ⟨by kernel_rfl⟩
set_option maxRecDepth 100000 in
instance : TLies Try.prog 81 := ⟨⟨_, rfl, by kernel_rfl, by kernel_rfl⟩⟩
abbrev bdB (b : Nat) (p : Option Addr) (a : Option Addr) (n cap : Nat) : Chunk := [(b, .cells #[.pointer p, .slice a n cap] 81 (0, 0))]
/-- A builder that holds these bytes. -/
structure Bd (b : Nat) (l : List UInt8) (p a : Option Addr) (cap : Nat) (X : Chunk) : Prop where
  ptr : p = none ∨ p = some ⟨b, 0, none⟩
  row : cap ≠ 0 ∨ a = none
  own : Own8 5 X a l.length cap l
theorem Bd.new (b : Nat) : Bd b [] none none 0 [] := ⟨.inl rfl, .inr rfl, own_nil⟩

theorem check_spec (b n cap : Nat) (p a : Option Addr) (hp : p = none ∨ p = some ⟨b, 0, none⟩) : Meets Try.prog 72 [.pointer (some ⟨b, 0, none⟩)] [bdB b p a n cap] fun v A => v = .tuple #[] ∧ A = [bdB b (some ⟨b, 0, none⟩) a n cap] := by
  refine spec_intro Try.func72 rfl (by kernel_rfl) (by rw [Try.ntmps72]; simp) fun F => ?_; rw [Try.ntmps72, Try.results72]
  (repeat (first | (with_reducible refine run_nil ?_) | ((with_reducible refine run_probe ?_); refine runq_more ?_) | (with_reducible refine then_n ?_) | (with_reducible refine then_r ?_) | (with_reducible refine then_e ?_) | (with_reducible refine block_n ?_) | (with_reducible refine block_r ?_) | (with_reducible refine block_e ?_) | ((with_reducible refine block_probe ?_); refine block_o ?_) | (with_reducible refine scope_n ?_) | (with_reducible refine scope_r ?_) | (with_reducible refine scope_e ?_) | (with_reducible refine code_seq ?_) | (with_reducible refine code_skip ?_) | (with_reducible refine code_label ?_) | (with_reducible refine code_block ?_) | (with_reducible refine code_scope ?_) | (with_reducible refine code_exit ?_) | (with_reducible refine code_ret ?_) | ((with_reducible refine reg_probe ?_); refine regq_to ?_) | (with_reducible refine draw_nil ?_) | ((with_reducible refine draw_probe ?_); (first | refine drawq_more ?_ | refine drawq_as ?_)) | ((with_reducible refine cond_probe ?_); (first | refine code_then ?_ | refine code_else ?_))))
  rcases hp with rfl | rfl
  · (repeat (first | (with_reducible refine run_nil ?_) | ((with_reducible refine run_probe ?_); refine runq_more ?_) | (with_reducible refine then_n ?_) | (with_reducible refine then_r ?_) | (with_reducible refine then_e ?_) | (with_reducible refine block_n ?_) | (with_reducible refine block_r ?_) | (with_reducible refine block_e ?_) | ((with_reducible refine block_probe ?_); refine block_o ?_) | (with_reducible refine scope_n ?_) | (with_reducible refine scope_r ?_) | (with_reducible refine scope_e ?_) | (with_reducible refine code_seq ?_) | (with_reducible refine code_skip ?_) | (with_reducible refine code_label ?_) | (with_reducible refine code_block ?_) | (with_reducible refine code_scope ?_) | (with_reducible refine code_exit ?_) | (with_reducible refine code_ret ?_) | ((with_reducible refine reg_probe ?_); refine regq_to ?_) | (with_reducible refine draw_nil ?_) | ((with_reducible refine draw_probe ?_); (first | refine drawq_more ?_ | refine drawq_as ?_)) | ((with_reducible refine cond_probe ?_); (first | refine code_then ?_ | refine code_else ?_))))
    refine run_op fun K hK => ?_; refine to_unsafe (u := 81) (by (repeat (first | with_reducible exact Lies.one | with_reducible apply Lies.next))) ?_; refine hK _ _ ?_; clear hK K
    refine run_op fun K hK => ?_; refine calls_extern Try.func80 (by kernel_rfl) (by kernel_rfl) (by kernel_rfl) (e := Extern.AbiNoEscape.same) (by kernel_rfl) ?_
    refine ⟨fun w hw => ⟨_, w, _, Lib.run_noEscape w _, Ext.refl w, hw, ?_⟩⟩; refine hK _ _ ?_; clear hK K
    refine run_op fun K hK => ?_; refine from_unsafe (u := 81) (by (repeat (first | with_reducible exact Lies.one | with_reducible apply Lies.next))) ?_; refine hK _ _ ?_; clear hK K
    (repeat (first | (with_reducible refine run_nil ?_) | ((with_reducible refine run_probe ?_); refine runq_more ?_) | (with_reducible refine then_n ?_) | (with_reducible refine then_r ?_) | (with_reducible refine then_e ?_) | (with_reducible refine block_n ?_) | (with_reducible refine block_r ?_) | (with_reducible refine block_e ?_) | ((with_reducible refine block_probe ?_); refine block_o ?_) | (with_reducible refine scope_n ?_) | (with_reducible refine scope_r ?_) | (with_reducible refine scope_e ?_) | (with_reducible refine code_seq ?_) | (with_reducible refine code_skip ?_) | (with_reducible refine code_label ?_) | (with_reducible refine code_block ?_) | (with_reducible refine code_scope ?_) | (with_reducible refine code_exit ?_) | (with_reducible refine code_ret ?_) | ((with_reducible refine reg_probe ?_); refine regq_to ?_) | (with_reducible refine draw_nil ?_) | ((with_reducible refine draw_probe ?_); (first | refine drawq_more ?_ | refine drawq_as ?_)) | ((with_reducible refine cond_probe ?_); (first | refine code_then ?_ | refine code_else ?_))))
    refine back_none_n [bdB b (some ⟨b, 0, none⟩) a n cap] ⟨rfl, rfl⟩
  · (repeat (first | (with_reducible refine run_nil ?_) | ((with_reducible refine run_probe ?_); refine runq_more ?_) | (with_reducible refine then_n ?_) | (with_reducible refine then_r ?_) | (with_reducible refine then_e ?_) | (with_reducible refine block_n ?_) | (with_reducible refine block_r ?_) | (with_reducible refine block_e ?_) | ((with_reducible refine block_probe ?_); refine block_o ?_) | (with_reducible refine scope_n ?_) | (with_reducible refine scope_r ?_) | (with_reducible refine scope_e ?_) | (with_reducible refine code_seq ?_) | (with_reducible refine code_skip ?_) | (with_reducible refine code_label ?_) | (with_reducible refine code_block ?_) | (with_reducible refine code_scope ?_) | (with_reducible refine code_exit ?_) | (with_reducible refine code_ret ?_) | ((with_reducible refine reg_probe ?_); refine regq_to ?_) | (with_reducible refine draw_nil ?_) | ((with_reducible refine draw_probe ?_); (first | refine drawq_more ?_ | refine drawq_as ?_)) | ((with_reducible refine cond_probe ?_); (first | refine code_then ?_ | refine code_else ?_))))
    refine run_op fun K hK => ?_; rw [ptr_neq_self]; refine hK _ _ ?_; clear hK K
    (repeat (first | (with_reducible refine run_nil ?_) | ((with_reducible refine run_probe ?_); refine runq_more ?_) | (with_reducible refine then_n ?_) | (with_reducible refine then_r ?_) | (with_reducible refine then_e ?_) | (with_reducible refine block_n ?_) | (with_reducible refine block_r ?_) | (with_reducible refine block_e ?_) | ((with_reducible refine block_probe ?_); refine block_o ?_) | (with_reducible refine scope_n ?_) | (with_reducible refine scope_r ?_) | (with_reducible refine scope_e ?_) | (with_reducible refine code_seq ?_) | (with_reducible refine code_skip ?_) | (with_reducible refine code_label ?_) | (with_reducible refine code_block ?_) | (with_reducible refine code_scope ?_) | (with_reducible refine code_exit ?_) | (with_reducible refine code_ret ?_) | ((with_reducible refine reg_probe ?_); refine regq_to ?_) | (with_reducible refine draw_nil ?_) | ((with_reducible refine draw_probe ?_); (first | refine drawq_more ?_ | refine drawq_as ?_)) | ((with_reducible refine cond_probe ?_); (first | refine code_then ?_ | refine code_else ?_))))
    refine back_none_n [bdB b (some ⟨b, 0, none⟩) a n cap] ⟨rfl, rfl⟩

theorem wbyte_spec {b cap : Nat} {p a : Option Addr} {X : Chunk} {l : List UInt8} (h : Bd b l p a cap X) (hl : l.length ≤ 900000) (c : UInt8) :
    Meets Try.prog 38 [.pointer (some ⟨b, 0, none⟩), b8 c] [bdB b p a l.length cap, X] fun v A => v = .nilIface ∧ ∃ p' a' cap' X', Bd b (l ++ [c]) p' a' cap' X' ∧ A = [bdB b p' a' (l ++ [c]).length cap', X'] := by
  obtain ⟨hp, hr, hX⟩ := h
  refine spec_intro Try.func38 rfl (by kernel_rfl) (by rw [Try.ntmps38]; simp) fun F => ?_; rw [Try.ntmps38, Try.results38]
  (repeat (first | (with_reducible refine run_nil ?_) | ((with_reducible refine run_probe ?_); refine runq_more ?_) | (with_reducible refine then_n ?_) | (with_reducible refine then_r ?_) | (with_reducible refine then_e ?_) | (with_reducible refine block_n ?_) | (with_reducible refine block_r ?_) | (with_reducible refine block_e ?_) | ((with_reducible refine block_probe ?_); refine block_o ?_) | (with_reducible refine scope_n ?_) | (with_reducible refine scope_r ?_) | (with_reducible refine scope_e ?_) | (with_reducible refine code_seq ?_) | (with_reducible refine code_skip ?_) | (with_reducible refine code_label ?_) | (with_reducible refine code_block ?_) | (with_reducible refine code_scope ?_) | (with_reducible refine code_exit ?_) | (with_reducible refine code_ret ?_) | ((with_reducible refine reg_probe ?_); refine regq_to ?_) | (with_reducible refine draw_nil ?_) | ((with_reducible refine draw_probe ?_); (first | refine drawq_more ?_ | refine drawq_as ?_)) | ((with_reducible refine cond_probe ?_); (first | refine code_then ?_ | refine code_else ?_))))
  refine run_op fun K hK => ?_; refine calls_to (check_spec b l.length cap p a hp) ?_; rintro v A ⟨rfl, rfl⟩; (try simp only [List.nil_append, List.cons_append]); refine hK _ _ ?_; clear hK K; (repeat (first | (with_reducible refine run_nil ?_) | ((with_reducible refine run_probe ?_); refine runq_more ?_) | (with_reducible refine then_n ?_) | (with_reducible refine then_r ?_) | (with_reducible refine then_e ?_) | (with_reducible refine block_n ?_) | (with_reducible refine block_r ?_) | (with_reducible refine block_e ?_) | ((with_reducible refine block_probe ?_); refine block_o ?_) | (with_reducible refine scope_n ?_) | (with_reducible refine scope_r ?_) | (with_reducible refine scope_e ?_) | (with_reducible refine code_seq ?_) | (with_reducible refine code_skip ?_) | (with_reducible refine code_label ?_) | (with_reducible refine code_block ?_) | (with_reducible refine code_scope ?_) | (with_reducible refine code_exit ?_) | (with_reducible refine code_ret ?_) | ((with_reducible refine reg_probe ?_); refine regq_to ?_) | (with_reducible refine draw_nil ?_) | ((with_reducible refine draw_probe ?_); (first | refine drawq_more ?_ | refine drawq_as ?_)) | ((with_reducible refine cond_probe ?_); (first | refine code_then ?_ | refine code_else ?_))))
  refine run_op fun K hK => ?_; refine build8 ([c]) (by decide) rfl (rfl) (fun b7 C7 ho7 => ?_); refine hK _ _ ?_; clear hK K
  (repeat (first | (with_reducible refine run_nil ?_) | ((with_reducible refine run_probe ?_); refine runq_more ?_) | (with_reducible refine then_n ?_) | (with_reducible refine then_r ?_) | (with_reducible refine then_e ?_) | (with_reducible refine block_n ?_) | (with_reducible refine block_r ?_) | (with_reducible refine block_e ?_) | ((with_reducible refine block_probe ?_); refine block_o ?_) | (with_reducible refine scope_n ?_) | (with_reducible refine scope_r ?_) | (with_reducible refine scope_e ?_) | (with_reducible refine code_seq ?_) | (with_reducible refine code_skip ?_) | (with_reducible refine code_label ?_) | (with_reducible refine code_block ?_) | (with_reducible refine code_scope ?_) | (with_reducible refine code_exit ?_) | (with_reducible refine code_ret ?_) | ((with_reducible refine reg_probe ?_); refine regq_to ?_) | (with_reducible refine draw_nil ?_) | ((with_reducible refine draw_probe ?_); (first | refine drawq_more ?_ | refine drawq_as ?_)) | ((with_reducible refine cond_probe ?_); (first | refine code_then ?_ | refine code_else ?_))))
  refine run_op fun K hK => ?_; refine app8 (hX) (by (repeat (first | with_reducible exact Pick.head _ _ | with_reducible apply Pick.tail))) ((ho7.rd (List.mem_cons_self ..)).mem (by (repeat (first | with_reducible assumption | with_reducible exact List.mem_cons_self .. | with_reducible apply List.mem_cons_of_mem)))) (by omega) (fun C9 a9 cap9 ho9 => ?_); refine hK _ _ ?_; clear hK K
  (repeat (first | (with_reducible refine run_nil ?_) | ((with_reducible refine run_probe ?_); refine runq_more ?_) | (with_reducible refine then_n ?_) | (with_reducible refine then_r ?_) | (with_reducible refine then_e ?_) | (with_reducible refine block_n ?_) | (with_reducible refine block_r ?_) | (with_reducible refine block_e ?_) | ((with_reducible refine block_probe ?_); refine block_o ?_) | (with_reducible refine scope_n ?_) | (with_reducible refine scope_r ?_) | (with_reducible refine scope_e ?_) | (with_reducible refine code_seq ?_) | (with_reducible refine code_skip ?_) | (with_reducible refine code_label ?_) | (with_reducible refine code_block ?_) | (with_reducible refine code_scope ?_) | (with_reducible refine code_exit ?_) | (with_reducible refine code_ret ?_) | ((with_reducible refine reg_probe ?_); refine regq_to ?_) | (with_reducible refine draw_nil ?_) | ((with_reducible refine draw_probe ?_); (first | refine drawq_more ?_ | refine drawq_as ?_)) | ((with_reducible refine cond_probe ?_); (first | refine code_then ?_ | refine code_else ?_))))
  have e : l.length + 1 = (l ++ [c]).length := by simp
  rw [e] at ho9 ⊢
  have hle := ho9.1
  refine back_tmp [bdB b (some ⟨b, 0, none⟩) a9 (l ++ [c]).length cap9, C9] ⟨rfl, _, a9, cap9, C9, ⟨.inr rfl, .inl (by rw [← e] at hle; omega), ho9⟩, rfl⟩
theorem bstring_spec {b cap : Nat} {p a : Option Addr} {X : Chunk} {l : List UInt8} (h : Bd b l p a cap X) (hl : l.length ≤ 900000) :
    Meets Try.prog 40 [.pointer (some ⟨b, 0, none⟩)] [bdB b p a l.length cap, X] fun v A => v = .string (str l) ∧ A = [] := by
  obtain ⟨hp, hr, hX⟩ := h
  refine spec_intro Try.func40 rfl (by kernel_rfl) (by rw [Try.ntmps40]; simp) fun F => ?_; rw [Try.ntmps40, Try.results40]
  (repeat (first | (with_reducible refine run_nil ?_) | ((with_reducible refine run_probe ?_); refine runq_more ?_) | (with_reducible refine then_n ?_) | (with_reducible refine then_r ?_) | (with_reducible refine then_e ?_) | (with_reducible refine block_n ?_) | (with_reducible refine block_r ?_) | (with_reducible refine block_e ?_) | ((with_reducible refine block_probe ?_); refine block_o ?_) | (with_reducible refine scope_n ?_) | (with_reducible refine scope_r ?_) | (with_reducible refine scope_e ?_) | (with_reducible refine code_seq ?_) | (with_reducible refine code_skip ?_) | (with_reducible refine code_label ?_) | (with_reducible refine code_block ?_) | (with_reducible refine code_scope ?_) | (with_reducible refine code_exit ?_) | (with_reducible refine code_ret ?_) | ((with_reducible refine reg_probe ?_); refine regq_to ?_) | (with_reducible refine draw_nil ?_) | ((with_reducible refine draw_probe ?_); (first | refine drawq_more ?_ | refine drawq_as ?_)) | ((with_reducible refine cond_probe ?_); (first | refine code_then ?_ | refine code_else ?_))))
  refine code_dr [[], [0], [0, 1], [0, 1, 2], [0, 1, 2, 3], [], [5], [5, 6], [5, 6, 7], [5, 6, 7, 8], [0, 1, 2, 3, 4, 5, 6, 7, 8, 9], [0, 1, 2, 3, 4, 5, 6, 7, 8, 9, 10]] [(0, false, []), (1, false, []), (2, false, []), (3, false, []), (5, false, []), (6, false, []), (7, false, []), (8, false, []), (9, false, []), (4, true, [8, 9]), (10, true, []), (11, true, [])] ?_
  (repeat (first | (with_reducible refine run_nil ?_) | ((with_reducible refine run_probe ?_); refine runq_more ?_) | (with_reducible refine then_n ?_) | (with_reducible refine then_r ?_) | (with_reducible refine then_e ?_) | (with_reducible refine block_n ?_) | (with_reducible refine block_r ?_) | (with_reducible refine block_e ?_) | ((with_reducible refine block_probe ?_); refine block_o ?_) | (with_reducible refine scope_n ?_) | (with_reducible refine scope_r ?_) | (with_reducible refine scope_e ?_) | (with_reducible refine code_seq ?_) | (with_reducible refine code_skip ?_) | (with_reducible refine code_label ?_) | (with_reducible refine code_block ?_) | (with_reducible refine code_scope ?_) | (with_reducible refine code_exit ?_) | (with_reducible refine code_ret ?_) | ((with_reducible refine reg_probe ?_); refine regq_to ?_) | (with_reducible refine draw_nil ?_) | ((with_reducible refine draw_probe ?_); (first | refine drawq_more ?_ | refine drawq_as ?_)) | ((with_reducible refine cond_probe ?_); (first | refine code_then ?_ | refine code_else ?_))))
  refine draw_op fun K hK => ?_; refine slice_data hr ?_; (repeat refine pend ?_); refine hK _ _ ?_; clear hK K
  (repeat (first | (with_reducible refine run_nil ?_) | ((with_reducible refine run_probe ?_); refine runq_more ?_) | (with_reducible refine then_n ?_) | (with_reducible refine then_r ?_) | (with_reducible refine then_e ?_) | (with_reducible refine block_n ?_) | (with_reducible refine block_r ?_) | (with_reducible refine block_e ?_) | ((with_reducible refine block_probe ?_); refine block_o ?_) | (with_reducible refine scope_n ?_) | (with_reducible refine scope_r ?_) | (with_reducible refine scope_e ?_) | (with_reducible refine code_seq ?_) | (with_reducible refine code_skip ?_) | (with_reducible refine code_label ?_) | (with_reducible refine code_block ?_) | (with_reducible refine code_scope ?_) | (with_reducible refine code_exit ?_) | (with_reducible refine code_ret ?_) | ((with_reducible refine reg_probe ?_); refine regq_to ?_) | (with_reducible refine draw_nil ?_) | ((with_reducible refine draw_probe ?_); (first | refine drawq_more ?_ | refine drawq_as ?_)) | ((with_reducible refine cond_probe ?_); (first | refine code_then ?_ | refine code_else ?_))))
  by_cases h0 : l = []
  · subst h0
    refine draw_op fun K hK => ?_; refine unsafe_none ?_; (repeat refine pend ?_); refine hK _ _ ?_; clear hK K
    (repeat (first | (with_reducible refine run_nil ?_) | ((with_reducible refine run_probe ?_); refine runq_more ?_) | (with_reducible refine then_n ?_) | (with_reducible refine then_r ?_) | (with_reducible refine then_e ?_) | (with_reducible refine block_n ?_) | (with_reducible refine block_r ?_) | (with_reducible refine block_e ?_) | ((with_reducible refine block_probe ?_); refine block_o ?_) | (with_reducible refine scope_n ?_) | (with_reducible refine scope_r ?_) | (with_reducible refine scope_e ?_) | (with_reducible refine code_seq ?_) | (with_reducible refine code_skip ?_) | (with_reducible refine code_label ?_) | (with_reducible refine code_block ?_) | (with_reducible refine code_scope ?_) | (with_reducible refine code_exit ?_) | (with_reducible refine code_ret ?_) | ((with_reducible refine reg_probe ?_); refine regq_to ?_) | (with_reducible refine draw_nil ?_) | ((with_reducible refine draw_probe ?_); (first | refine drawq_more ?_ | refine drawq_as ?_)) | ((with_reducible refine cond_probe ?_); (first | refine code_then ?_ | refine code_else ?_))))
    refine back_tmp [] ?_; exact ⟨rfl, rfl⟩
  · refine draw_op fun K hK => ?_; refine unsafe_row (e := 5) hX (by (repeat (first | with_reducible exact Pick.head _ _ | with_reducible apply Pick.tail))) h0 (by omega) ?_; (repeat refine pend ?_); refine hK _ _ ?_; clear hK K
    (repeat (first | (with_reducible refine run_nil ?_) | ((with_reducible refine run_probe ?_); refine runq_more ?_) | (with_reducible refine then_n ?_) | (with_reducible refine then_r ?_) | (with_reducible refine then_e ?_) | (with_reducible refine block_n ?_) | (with_reducible refine block_r ?_) | (with_reducible refine block_e ?_) | ((with_reducible refine block_probe ?_); refine block_o ?_) | (with_reducible refine scope_n ?_) | (with_reducible refine scope_r ?_) | (with_reducible refine scope_e ?_) | (with_reducible refine code_seq ?_) | (with_reducible refine code_skip ?_) | (with_reducible refine code_label ?_) | (with_reducible refine code_block ?_) | (with_reducible refine code_scope ?_) | (with_reducible refine code_exit ?_) | (with_reducible refine code_ret ?_) | ((with_reducible refine reg_probe ?_); refine regq_to ?_) | (with_reducible refine draw_nil ?_) | ((with_reducible refine draw_probe ?_); (first | refine drawq_more ?_ | refine drawq_as ?_)) | ((with_reducible refine cond_probe ?_); (first | refine code_then ?_ | refine code_else ?_))))
    refine back_tmp [] ?_; exact ⟨rfl, rfl⟩

end Go.Proofs.Ytfoppclmjmpjiaa

/- The builder of texts: a text is written. Conditions: as each says. -/
set_option linter.unusedSimpArgs false
set_option linter.unusedVariables false
namespace Go.Proofs.Ytfoppclmjmpjiaa
open Go Go.Ost

theorem wstr_spec {b cap : Nat} {p a : Option Addr} {X : Chunk} {l : List UInt8} (h : Bd b l p a cap X) (xs : List UInt8) (hl : l.length + xs.length ≤ 900000) (h1 : 1 ≤ xs.length) :
    Meets Try.prog 48 [.pointer (some ⟨b, 0, none⟩), .string (str xs)] [bdB b p a l.length cap, X] fun v A => (∃ u, v = u) ∧ ∃ p' a' cap' X', Bd b (l ++ xs) p' a' cap' X' ∧ A = [bdB b p' a' (l ++ xs).length cap', X'] := by
  obtain ⟨hp, hr, hX⟩ := h
  refine spec_intro Try.func48 rfl (by kernel_rfl) (by rw [Try.ntmps48]; simp) fun F => ?_; rw [Try.ntmps48, Try.results48]
  (repeat (first | (with_reducible refine run_nil ?_) | ((with_reducible refine run_probe ?_); refine runq_more ?_) | (with_reducible refine then_n ?_) | (with_reducible refine then_r ?_) | (with_reducible refine then_e ?_) | (with_reducible refine block_n ?_) | (with_reducible refine block_r ?_) | (with_reducible refine block_e ?_) | ((with_reducible refine block_probe ?_); refine block_o ?_) | (with_reducible refine scope_n ?_) | (with_reducible refine scope_r ?_) | (with_reducible refine scope_e ?_) | (with_reducible refine code_seq ?_) | (with_reducible refine code_skip ?_) | (with_reducible refine code_label ?_) | (with_reducible refine code_block ?_) | (with_reducible refine code_scope ?_) | (with_reducible refine code_exit ?_) | (with_reducible refine code_ret ?_) | ((with_reducible refine reg_probe ?_); refine regq_to ?_) | (with_reducible refine draw_nil ?_) | ((with_reducible refine draw_probe ?_); (first | refine drawq_more ?_ | refine drawq_as ?_)) | ((with_reducible refine cond_probe ?_); (first | refine code_then ?_ | refine code_else ?_))))
  refine run_op fun K hK => ?_; refine calls_to (check_spec b l.length cap p a hp) ?_; rintro v A ⟨rfl, rfl⟩; (try simp only [List.nil_append, List.cons_append]); refine hK _ _ ?_; clear hK K; (repeat (first | (with_reducible refine run_nil ?_) | ((with_reducible refine run_probe ?_); refine runq_more ?_) | (with_reducible refine then_n ?_) | (with_reducible refine then_r ?_) | (with_reducible refine then_e ?_) | (with_reducible refine block_n ?_) | (with_reducible refine block_r ?_) | (with_reducible refine block_e ?_) | ((with_reducible refine block_probe ?_); refine block_o ?_) | (with_reducible refine scope_n ?_) | (with_reducible refine scope_r ?_) | (with_reducible refine scope_e ?_) | (with_reducible refine code_seq ?_) | (with_reducible refine code_skip ?_) | (with_reducible refine code_label ?_) | (with_reducible refine code_block ?_) | (with_reducible refine code_scope ?_) | (with_reducible refine code_exit ?_) | (with_reducible refine code_ret ?_) | ((with_reducible refine reg_probe ?_); refine regq_to ?_) | (with_reducible refine draw_nil ?_) | ((with_reducible refine draw_probe ?_); (first | refine drawq_more ?_ | refine drawq_as ?_)) | ((with_reducible refine cond_probe ?_); (first | refine code_then ?_ | refine code_else ?_))))
  refine run_op fun K hK => ?_; refine app_str hX (.inr (by (repeat (first | with_reducible exact Pick.head _ _ | with_reducible apply Pick.tail)))) (by omega) (fun C9 a9 cap9 ho9 => ?_); refine hK _ _ ?_; clear hK K
  (repeat (first | (with_reducible refine run_nil ?_) | ((with_reducible refine run_probe ?_); refine runq_more ?_) | (with_reducible refine then_n ?_) | (with_reducible refine then_r ?_) | (with_reducible refine then_e ?_) | (with_reducible refine block_n ?_) | (with_reducible refine block_r ?_) | (with_reducible refine block_e ?_) | ((with_reducible refine block_probe ?_); refine block_o ?_) | (with_reducible refine scope_n ?_) | (with_reducible refine scope_r ?_) | (with_reducible refine scope_e ?_) | (with_reducible refine code_seq ?_) | (with_reducible refine code_skip ?_) | (with_reducible refine code_label ?_) | (with_reducible refine code_block ?_) | (with_reducible refine code_scope ?_) | (with_reducible refine code_exit ?_) | (with_reducible refine code_ret ?_) | ((with_reducible refine reg_probe ?_); refine regq_to ?_) | (with_reducible refine draw_nil ?_) | ((with_reducible refine draw_probe ?_); (first | refine drawq_more ?_ | refine drawq_as ?_)) | ((with_reducible refine cond_probe ?_); (first | refine code_then ?_ | refine code_else ?_))))
  have e : l.length + xs.length = (l ++ xs).length := by simp
  rw [e] at ho9 ⊢
  have hle := ho9.1
  refine back_cells [bdB b (some ⟨b, 0, none⟩) a9 (l ++ xs).length cap9, C9] ⟨⟨_, rfl⟩, _, a9, cap9, C9, ⟨.inr rfl, .inl (by rw [← e] at hle; omega), ho9⟩, rfl⟩

end Go.Proofs.Ytfoppclmjmpjiaa

/- Bytes of tokens and of quoted texts, in both. Conditions: as each says. -/
set_option linter.unusedSimpArgs false
set_option linter.unusedVariables false
namespace Go.Proofs.Ytfoppclmjmpjiaa
open Go Go.Ost Go.Shelf Go.RowKit

def renI : Ren := ⟨fun x => if x = 137 then 73 else if x = 217 then 81 else if x = 266 then 84 else x, fun x => x, fun x => x⟩
theorem laysI : Lays.n137 Try.prog renI where
  mixed := by kernel_rfl
  f137 := by kernel_rfl
  f217 := by kernel_rfl
  f266 := by kernel_rfl
  t3 := by kernel_rfl
  a3 := run_isAgg_flat (t := 3) inferInstance
  z3 := run_size (t := 3) inferInstance
  v3 := run_zero (t := 3) inferInstance
  t5 := by kernel_rfl
  a5 := run_isAgg_flat (t := 5) inferInstance
  z5 := run_size (t := 5) inferInstance
  v5 := run_zero (t := 5) inferInstance
  t9 := by kernel_rfl
  a9 := run_isAgg_flat (t := 9) inferInstance
  z9 := run_size (t := 9) inferInstance
  v9 := run_zero (t := 9) inferInstance

/-- The signs that a token may have: !#$%&'*+-.^_|~` -/
def sgn : List UInt8 := [33, 35, 36, 37, 38, 39, 42, 43, 45, 46, 94, 95, 124, 126, 96]
theorem ibyte_spec (c : UInt8) : Meets Try.prog 73 [.string (str sgn), b8 c] [] fun v A => v = .int .i64 (Lib.indexByte sgn c) ∧ A = [] := by
  have h : Meets Try.prog 73 [.string (str sgn), b8 c] [] fun v A => v = .int .i64 (Lib.indexByte sgn c) ∧ A = [[]] := by
    refine meets_of_calls rfl rfl (by kernel_rfl) fun w hw => ?_
    refine (Any.strings_IndexByte laysI ⟨sgn.toArray⟩ c.toNat w).mono ?_
    rintro e w' ⟨rfl, rfl⟩
    refine ⟨_, rfl, Below.refl _ _, [], fun k o hm => (by cases hm), by simp, ?_, rfl⟩
    rw [show ((c.toNat : Int).toNat.toUInt8) = c from by simp]
  refine Meets.conv [] h rfl (.nil _) ?_
  rintro v A ⟨rfl, rfl⟩
  exact ⟨[], [[]], rfl, Among.refl _, rfl, rfl⟩

def tcB (c : UInt8) : Bool := decide (97 ≤ c.toNat ∧ c.toNat ≤ 122) || (decide (65 ≤ c.toNat ∧ c.toNat ≤ 90) || (decide (48 ≤ c.toNat ∧ c.toNat ≤ 57) || sgn.contains c))
theorem index_ge (c : UInt8) : ∀ l : List UInt8, 0 ≤ Lib.indexByte l c ↔ c ∈ l
  | [] => by simp [Lib.indexByte]
  | b :: l => by
    have ih := index_ge c l
    have hg := Lib.indexByte_ge l c
    by_cases hb : b = c
    · subst hb; simp [Lib.indexByte]
    · have h1 : (b == c) = false := beq_eq_false_iff_ne.2 hb
      have e : Lib.indexByte (b :: l) c = if (Lib.indexByte l c == -1) = true then -1 else Lib.indexByte l c + 1 := by
        show (if (b == c) = true then (0 : Int) else _) = _
        rw [h1]; rfl
      rw [e, List.mem_cons, ← ih]
      by_cases h3 : Lib.indexByte l c = -1
      · rw [if_pos (by rw [h3]; rfl)]
        constructor
        · intro h; omega
        · rintro (h | h)
          · exact (hb h.symm).elim
          · omega
      · rw [if_neg (by simp [h3])]
        constructor
        · intro _; exact .inr (by omega)
        · intro _; omega
theorem ibyte_ge (c : UInt8) : decide (0 ≤ Lib.indexByte sgn c) = sgn.contains c := by
  rw [Bool.eq_iff_iff, decide_eq_true_eq, index_ge, List.contains_iff_mem]

set_option maxHeartbeats 1000000 in
theorem tchar_spec (c : UInt8) : Meets Try.prog 42 [b8 c] [] fun v A => v = .bool (tcB c) ∧ A = [] := by
  have hlt := c.toNat_lt
  have hi := ibyte_spec c
  have hge := ibyte_ge c
  have key : tcB c = (decide (97 ≤ c.toNat ∧ c.toNat ≤ 122) || (decide (65 ≤ c.toNat ∧ c.toNat ≤ 90) || (decide (48 ≤ c.toNat ∧ c.toNat ≤ 57) || sgn.contains c))) := rfl
  rw [key, ← hge]
  rw [show b8 c = .int .u8 (c.toNat : Int) from rfl] at hi ⊢
  obtain ⟨n, hn⟩ : ∃ n : Int, (c.toNat : Int) = n := ⟨_, rfl⟩
  rw [show decide (97 ≤ c.toNat ∧ c.toNat ≤ 122) = decide (97 ≤ n ∧ n ≤ 122) from by rw [decide_eq_decide]; omega,
    show decide (65 ≤ c.toNat ∧ c.toNat ≤ 90) = decide (65 ≤ n ∧ n ≤ 90) from by rw [decide_eq_decide]; omega,
    show decide (48 ≤ c.toNat ∧ c.toNat ≤ 57) = decide (48 ≤ n ∧ n ≤ 57) from by rw [decide_eq_decide]; omega]
  rw [hn] at hi ⊢
  refine spec_intro Try.func42 rfl (by kernel_rfl) (by rw [Try.ntmps42]; simp) fun F => ?_; rw [Try.ntmps42, Try.results42]
  refine going ?_
  have sgs : Value.string ⟨#[33, 35, 36, 37, 38, 39, 42, 43, 45, 46, 94, 95, 124, 126, 96]⟩ = .string (str sgn) := rfl
  by_cases b1 : 97 ≤ n
  · rw [decide_eq_true b1]
    refine going ?_
    by_cases d1 : n ≤ 122
    · rw [decide_eq_true d1, decide_eq_true (show 97 ≤ n ∧ n ≤ 122 from ⟨b1, d1⟩)]
      refine going ?_
      refine back_tmp [] ?_; exact ⟨by simp, rfl⟩
    · rw [decide_eq_false d1, decide_eq_false (show ¬ (97 ≤ n ∧ n ≤ 122) by omega)]
      refine going ?_
      by_cases b2 : 65 ≤ n
      · rw [decide_eq_true b2]
        refine going ?_
        by_cases d2 : n ≤ 90
        · rw [decide_eq_true d2, decide_eq_true (show 65 ≤ n ∧ n ≤ 90 from ⟨b2, d2⟩)]
          refine going ?_
          refine back_tmp [] ?_; exact ⟨by simp, rfl⟩
        · rw [decide_eq_false d2, decide_eq_false (show ¬ (65 ≤ n ∧ n ≤ 90) by omega)]
          refine going ?_
          by_cases b3 : 48 ≤ n
          · rw [decide_eq_true b3]
            refine going ?_
            by_cases d3 : n ≤ 57
            · rw [decide_eq_true d3, decide_eq_true (show 48 ≤ n ∧ n ≤ 57 from ⟨b3, d3⟩)]
              refine going ?_
              refine back_tmp [] ?_; exact ⟨by simp, rfl⟩
            · rw [decide_eq_false d3, decide_eq_false (show ¬ (48 ≤ n ∧ n ≤ 57) by omega)]
              refine going ?_
              (try rw [sgs])
              refine run_op fun K hK => ?_; refine calls_to (hi) ?_; rintro v A ⟨rfl, rfl⟩; (try simp only [List.nil_append, List.cons_append]); refine hK _ _ ?_; clear hK K; refine going ?_
              refine back_tmp [] ?_; exact ⟨by simp, rfl⟩
          · rw [decide_eq_false b3, decide_eq_false (show ¬ (48 ≤ n ∧ n ≤ 57) by omega)]
            refine going ?_
            (try rw [sgs])
            refine run_op fun K hK => ?_; refine calls_to (hi) ?_; rintro v A ⟨rfl, rfl⟩; (try simp only [List.nil_append, List.cons_append]); refine hK _ _ ?_; clear hK K; refine going ?_
            refine back_tmp [] ?_; exact ⟨by simp, rfl⟩
      · rw [decide_eq_false b2, decide_eq_false (show ¬ (65 ≤ n ∧ n ≤ 90) by omega)]
        refine going ?_
        by_cases b3 : 48 ≤ n
        · rw [decide_eq_true b3]
          refine going ?_
          by_cases d3 : n ≤ 57
          · rw [decide_eq_true d3, decide_eq_true (show 48 ≤ n ∧ n ≤ 57 from ⟨b3, d3⟩)]
            refine going ?_
            refine back_tmp [] ?_; exact ⟨by simp, rfl⟩
          · rw [decide_eq_false d3, decide_eq_false (show ¬ (48 ≤ n ∧ n ≤ 57) by omega)]
            refine going ?_
            (try rw [sgs])
            refine run_op fun K hK => ?_; refine calls_to (hi) ?_; rintro v A ⟨rfl, rfl⟩; (try simp only [List.nil_append, List.cons_append]); refine hK _ _ ?_; clear hK K; refine going ?_
            refine back_tmp [] ?_; exact ⟨by simp, rfl⟩
        · rw [decide_eq_false b3, decide_eq_false (show ¬ (48 ≤ n ∧ n ≤ 57) by omega)]
          refine going ?_
          (try rw [sgs])
          refine run_op fun K hK => ?_; refine calls_to (hi) ?_; rintro v A ⟨rfl, rfl⟩; (try simp only [List.nil_append, List.cons_append]); refine hK _ _ ?_; clear hK K; refine going ?_
          refine back_tmp [] ?_; exact ⟨by simp, rfl⟩
  · rw [decide_eq_false b1, decide_eq_false (show ¬ (97 ≤ n ∧ n ≤ 122) by omega)]
    refine going ?_
    by_cases b2 : 65 ≤ n
    · rw [decide_eq_true b2]
      refine going ?_
      by_cases d2 : n ≤ 90
      · rw [decide_eq_true d2, decide_eq_true (show 65 ≤ n ∧ n ≤ 90 from ⟨b2, d2⟩)]
        refine going ?_
        refine back_tmp [] ?_; exact ⟨by simp, rfl⟩
      · rw [decide_eq_false d2, decide_eq_false (show ¬ (65 ≤ n ∧ n ≤ 90) by omega)]
        refine going ?_
        by_cases b3 : 48 ≤ n
        · rw [decide_eq_true b3]
          refine going ?_
          by_cases d3 : n ≤ 57
          · rw [decide_eq_true d3, decide_eq_true (show 48 ≤ n ∧ n ≤ 57 from ⟨b3, d3⟩)]
            refine going ?_
            refine back_tmp [] ?_; exact ⟨by simp, rfl⟩
          · rw [decide_eq_false d3, decide_eq_false (show ¬ (48 ≤ n ∧ n ≤ 57) by omega)]
            refine going ?_
            (try rw [sgs])
            refine run_op fun K hK => ?_; refine calls_to (hi) ?_; rintro v A ⟨rfl, rfl⟩; (try simp only [List.nil_append, List.cons_append]); refine hK _ _ ?_; clear hK K; refine going ?_
            refine back_tmp [] ?_; exact ⟨by simp, rfl⟩
        · rw [decide_eq_false b3, decide_eq_false (show ¬ (48 ≤ n ∧ n ≤ 57) by omega)]
          refine going ?_
          (try rw [sgs])
          refine run_op fun K hK => ?_; refine calls_to (hi) ?_; rintro v A ⟨rfl, rfl⟩; (try simp only [List.nil_append, List.cons_append]); refine hK _ _ ?_; clear hK K; refine going ?_
          refine back_tmp [] ?_; exact ⟨by simp, rfl⟩
    · rw [decide_eq_false b2, decide_eq_false (show ¬ (65 ≤ n ∧ n ≤ 90) by omega)]
      refine going ?_
      by_cases b3 : 48 ≤ n
      · rw [decide_eq_true b3]
        refine going ?_
        by_cases d3 : n ≤ 57
        · rw [decide_eq_true d3, decide_eq_true (show 48 ≤ n ∧ n ≤ 57 from ⟨b3, d3⟩)]
          refine going ?_
          refine back_tmp [] ?_; exact ⟨by simp, rfl⟩
        · rw [decide_eq_false d3, decide_eq_false (show ¬ (48 ≤ n ∧ n ≤ 57) by omega)]
          refine going ?_
          (try rw [sgs])
          refine run_op fun K hK => ?_; refine calls_to (hi) ?_; rintro v A ⟨rfl, rfl⟩; (try simp only [List.nil_append, List.cons_append]); refine hK _ _ ?_; clear hK K; refine going ?_
          refine back_tmp [] ?_; exact ⟨by simp, rfl⟩
      · rw [decide_eq_false b3, decide_eq_false (show ¬ (48 ≤ n ∧ n ≤ 57) by omega)]
        refine going ?_
        (try rw [sgs])
        refine run_op fun K hK => ?_; refine calls_to (hi) ?_; rintro v A ⟨rfl, rfl⟩; (try simp only [List.nil_append, List.cons_append]); refine hK _ _ ?_; clear hK K; refine going ?_
        refine back_tmp [] ?_; exact ⟨by simp, rfl⟩

end Go.Proofs.Ytfoppclmjmpjiaa
