/- Texts in a row: the walk's rules and contracts, as each says. Conditions: as each says. -/
import Derived.Test.YtkgnhhpgnkkigaaM63676a88
import Derived.Test.YtkgnhhpgnkkigaaMbf37382f
import Derived.Laws.StructEq
import Derived.Carry
import Derived.ProofKit
import Derived.OpenShut
import Derived.Shelf.Bytes.SlJoin
import Derived.Deep.Matrix
import Derived.Test.YtkgnhhpgnkkigaaM715f3a8c
import Derived.Test.YtkgnhhpgnkkigaaM186dd872
import Derived.Test.YtkgnhhpgnkkigaaProg
/- A region whose order of evaluation Go leaves open, two of whose changing operations have no order between them: one plan for each order. Conditions: none. -/
set_option linter.unusedSimpArgs false
set_option linter.unusedVariables false
namespace Go.Ost
open Go

variable {P : Program} {n : Nat} {ro : Option Nat}

/-- The edges of the region, and one more: e2 behind e1. -/
def afterX (ops : Array Oper) (e1 e2 i : Nat) : List Nat := if i = e2 then e1 :: afterOf ops i else afterOf ops i
def certX (ops : Array Oper) (e1 e2 : Nat) (A : List (List Nat)) : Bool :=
  (List.range ops.size).all fun i => (A.getD i []).all fun j => (afterX ops e1 e2 i).any fun e => e == j || (A.getD e []).contains j

theorem draw_fin {ops : Array Oper} {A : List (List Nat)} {K : Cont} {D : List Nat} {w0 : World} {pre l : List Entry} {listed : Array Bool} {L : Env} {S : State} {a : Act} {w : World} (h : DInv P n ops A (K .normal D) D w0 pre l listed L S a w) (hr : Region.ready .any ops listed = []) : KQ n K w0 .normal a w := by
  obtain ⟨pre, l, L, h, hl⟩ := h.norm
  -- an operation whose edges all lead to what is done is ready
  have ready : ∀ i, i < ops.size → (∀ j ∈ afterOf ops i, listed.getD j false = true) → listed.getD i false = true := by
    intro i hi hall
    cases hx : listed.getD i false with
    | true => rfl
    | false =>
      exfalso
      have : i ∈ Region.ready .any ops listed := by
        refine List.mem_filter.2 ⟨List.mem_range.2 hi, ?_⟩
        have hsz : i < listed.size := by rw [h.size]; exact hi
        have h1 : listed.getD i true = false := by simpa [Array.getD_eq_getD_getElem?, hsz] using hx
        have ho : ops[i]? = some ops[i] := by simp [hi]
        rw [h1, ho]
        simp only [Option.map_some, Option.getD_some, Bool.not_false, Bool.true_and]
        rw [Array.all_eq_true']
        intro e he
        by_cases hb : Region.binds .any e = true
        · have := hall e.on (by simp only [afterOf, ho]; exact List.mem_map.2 ⟨e, List.mem_filter.2 ⟨by simpa using he, hb⟩, rfl⟩)
          simp [this]
        · simp [hb]
      rw [hr] at this; cases this
  have pend : ∀ (k : Nat) (x : Entry), pre[k]? = some x → listed.getD x.1 false = true := by
    intro k
    induction k using Nat.strongRecOn with
    | _ k ih =>
      intro x hx
      obtain ⟨o1, _, _, _, _, o6⟩ := okAt_parts (okPairs_get pre [] k h.pres hx)
      refine ready x.1 o6 fun j hj => ?_
      obtain ⟨y, hy, e⟩ := o1 j hj
      rw [List.nil_append] at hy
      obtain ⟨k', hk'⟩ := List.mem_iff_getElem?.1 hy
      have hlt : k' < k := by
        have := (List.getElem?_eq_some_iff.1 hk').1
        simp at this; omega
      rw [← e]
      refine ih k' hlt y ?_
      rw [List.getElem?_take_of_lt hlt] at hk'
      exact hk'
  rcases hl with rfl | ⟨i, pd, l'', rfl⟩
  · refine ⟨D, L, S, h.rest, ⟨h.asz, fun t v ht => ?_, h.dfr⟩, h.ext, h.hold⟩
    rcases h.tmps t v ht with ⟨x, hx, h1, _⟩ | h3
    · obtain ⟨k, hk⟩ := List.mem_iff_getElem?.1 hx
      rw [pend k x hk] at h1; cases h1
    · exact h3
  · exfalso
    have hok := h.ok
    simp only [okPairs, Bool.and_eq_true] at hok
    obtain ⟨o1, _, o3, _, _, o6⟩ := okAt_parts hok.1
    have hi : listed.getD i false = true := by
      refine ready i o6 fun j hj => ?_
      obtain ⟨y, hy, e⟩ := o1 j hj
      obtain ⟨k, hk⟩ := List.mem_iff_getElem?.1 hy
      rw [← e]; exact pend k y hk
    obtain ⟨y, hy, e⟩ := h.inPre i hi
    exact o3 y hy e

theorem ready_out {ops : Array Oper} {listed : Array Bool} {i : Nat} (hs : listed.size = ops.size) (hi : i ∈ Region.ready .any ops listed) :
    ∃ him : i < ops.size, listed.getD i false = false ∧ ∀ j ∈ afterOf ops i, listed.getD j false = true := by
  obtain ⟨hi1, hi2⟩ := List.mem_filter.1 hi
  have him := List.mem_range.1 hi1
  have hsz : i < listed.size := by rw [hs]; exact him
  have ho : ops[i]? = some ops[i] := by simp [him]
  rw [ho] at hi2
  simp only [Option.map_some, Option.getD_some, Bool.and_eq_true, Bool.not_eq_true'] at hi2
  refine ⟨him, ?_, ?_⟩
  · have := hi2.1
    simpa [Array.getD_eq_getD_getElem?, hsz] using this
  · intro j hj
    simp only [afterOf, ho] at hj
    obtain ⟨e, he, rfl⟩ := List.mem_map.1 hj
    obtain ⟨he1, he2⟩ := List.mem_filter.1 he
    have := hi2.2
    rw [Array.all_eq_true'] at this
    have := this e (by simpa using he1)
    simpa [he2] using this

theorem anc_out {ops : Array Oper} {A : List (List Nat)} {e1 e2 i : Nat} {listed : Array Bool} (hc : certX ops e1 e2 A = true) (him : i < ops.size) (clos : ∀ i, listed.getD i false = true → ∀ j ∈ A.getD i [], listed.getD j false = true)
    (hdep : ∀ j ∈ afterOf ops i, listed.getD j false = true) (hx : i = e2 → listed.getD e1 false = true) : ∀ j ∈ A.getD i [], listed.getD j false = true := by
  intro j hj
  have h1 := List.all_eq_true.1 hc i (List.mem_range.2 him)
  have h2 := List.all_eq_true.1 h1 j hj
  obtain ⟨e, he, h3⟩ := List.any_eq_true.1 h2
  have hel : listed.getD e false = true := by
    unfold afterX at he
    split at he
    · rcases List.mem_cons.1 he with rfl | he
      · exact hx ‹_›
      · exact hdep e he
    · exact hdep e he
  simp only [Bool.or_eq_true, beq_iff_eq, List.contains_eq_mem, decide_eq_true_eq] at h3
  rcases h3 with rfl | h3
  · exact hel
  · exact clos e hel j h3

/-- One that has been reckoned is taken. -/
theorem DInv.reckon {ops : Array Oper} {A : List (List Nat)} {K : Env → State → Prop} {D : List Nat} {w0 : World} {pre l : List Entry} {listed : Array Bool} {L : Env} {S : State} {a : Act} {w : World} {i : Nat}
    (h : DInv P n ops A K D w0 pre l listed L S a w) (hsz : i < listed.size) (hun : listed.getD i false = false) (hanc : ∀ j ∈ A.getD i [], listed.getD j false = true) (hin : ∃ x ∈ pre, x.1 = i) :
    ∃ o v, ops[i]? = some o ∧ Yielding P ops o a w v ∧ ((∀ c, o.op ≠ .defer c) ∨ Region.wanted o (yielded ops a.tmps) = false) ∧ DInv P n ops A K D w0 pre l (listed.setIfInBounds i true) L S (a.put o.dst v) w := by
  have hsize' : (listed.setIfInBounds i true).size = ops.size := by simp [h.size]
  have hclos' : ∀ k, (listed.setIfInBounds i true).getD k false = true → ∀ j ∈ A.getD k [], (listed.setIfInBounds i true).getD j false = true := by
    intro k hk j hj
    rw [getD_set hsz] at hk ⊢
    split
    · rfl
    · split at hk
      · subst_vars; exact hanc j hj
      · exact h.clos k hk j hj
  obtain ⟨x, hx, rfl⟩ := hin
  have hxe : x.2.1 = false := by
    cases hh : x.2.1 with
    | false => rfl
    | true => rw [h.effs x hx hh] at hun; cases hun
  obtain ⟨o, v, ho', ⟨d, hd, hdn, hv⟩, hf⟩ := h.facts x hx hun
  have hag : Agrees (o.looksAt ops) L a := by
    intro t ht u hu
    rcases h.tmps t u hu with ⟨y, hy, h1, h2⟩ | h3
    · exfalso
      have hye : y.2.1 = false := by
        cases hh : y.2.1 with
        | false => rfl
        | true => rw [h.effs y hy hh] at h1; cases h1
      have := hanc _ (h.prs x hx y hy hxe hye t h2 (by simpa [looksOf, ho'] using ht))
      rw [h1] at this; cases this
    · exact h3
  obtain ⟨hy, hnd⟩ := hf a w hag (fun _ => h.hold)
  refine ⟨o, v, ho', hy, hnd, ⟨hsize', ?_, ?_, hclos', ?_, ?_, h.prs, ?_, ?_, h.ext, h.hold, h.ok, h.pres, h.all, h.rest⟩⟩
  · intro k hk
    rw [getD_set hsz] at hk
    split at hk
    · exact ⟨x, hx, by subst_vars; rfl⟩
    · exact h.inPre k hk
  · intro y hy he
    rw [getD_set hsz]
    split
    · rfl
    · exact h.effs y hy he
  · intro t u hu
    by_cases htd : d = t
    · subst htd
      rw [hv] at hu; cases hu
      right
      simp [hd, Act.put, h.asz, hdn]
    · rcases h.tmps t u hu with ⟨y, hy, h1, h2⟩ | h3
      · refine .inl ⟨y, hy, ?_, h2⟩
        rw [getD_set hsz]
        rw [if_neg]
        · exact h1
        · intro e
          have : dstOf ops x.1 = some t := by rw [← e]; exact h2
          simp only [dstOf, ho', Option.bind_some, hd, Option.some.injEq] at this
          exact htd this
      · right
        simp only [hd, Act.put, Array.getElem?_setIfInBounds_ne htd]
        exact h3
  · intro y hy hyl
    refine h.facts y hy ?_
    rw [getD_set hsz] at hyl
    split at hyl
    · cases hyl
    · exact hyl
  · simp [hd, Act.put, h.asz]
  · simp only [hd, Act.put]; exact h.dfr

/-- The next one that changes something is taken. -/
theorem DInv.effect {ops : Array Oper} {A : List (List Nat)} {K : Cont} {D : List Nat} {w0 : World} {pre l'' : List Entry} {listed : Array Bool} {L : Env} {S : State} {a : Act} {w : World} {i : Nat} {pd : List Nat} {fuel : Nat}
    (h : DInv P n ops A (K .normal D) D w0 pre ((i, true, pd) :: l'') listed L S a w) (him : i < ops.size) (hun : listed.getD i false = false) (hanc : ∀ j ∈ A.getD i [], listed.getD j false = true) (hin : ¬ ∃ x ∈ pre, x.1 = i)
    (ih : ∀ (pre l : List Entry) (L : Env) (S : State) (a : Act) (w : World), DInv P n ops A (K .normal D) D w0 pre l (listed.setIfInBounds i true) L S a w → wpAnyIn (FW ro) 0 P .any ops (KQ n K w0) fuel (listed.setIfInBounds i true) a w) :
    wpOpIn (FW ro) 0 P ops (KQ n K w0) i (fun a' w' => wpAnyIn (FW ro) 0 P .any ops (KQ n K w0) fuel (listed.setIfInBounds i true) a' w') a w := by
  have hsz : i < listed.size := by rw [h.size]; exact him
  have ho : ops[i]? = some ops[i] := by simp [him]
  have hsize' : (listed.setIfInBounds i true).size = ops.size := by simp [h.size]
  have hclos' : ∀ k, (listed.setIfInBounds i true).getD k false = true → ∀ j ∈ A.getD k [], (listed.setIfInBounds i true).getD j false = true := by
    intro k hk j hj
    rw [getD_set hsz] at hk ⊢
    split
    · rfl
    · split at hk
      · subst_vars; exact hanc j hj
      · exact h.clos k hk j hj
  have hok := h.ok
  simp only [okPairs, Bool.and_eq_true] at hok
  obtain ⟨o1, o2, o3, o4, o5, o6⟩ := okAt_parts hok.1
  have hag : Agrees (ops[i].looksAt ops) L a := by
    intro t ht u hu
    rcases h.tmps t u hu with ⟨y, hy, h1, h2⟩ | h3
    · exfalso
      have hye : y.2.1 = false := by
        cases hh : y.2.1 with
        | false => rfl
        | true => rw [h.effs y hy hh] at h1; cases h1
      have := hanc _ ((o4 y hy hye).1 t h2 (by simpa [looksOf, ho] using ht))
      rw [h1] at this; cases this
    · exact h3
  have hrest := h.rest
  simp only [drawW, ho] at hrest
  -- behind it
  have next : ∀ (v : Value) (S' : State) (w' : World), Ext w w' → Hold w' S' → stillAll P ops pd (putT n (ops[i]).dst v L) S' (drawW P n ops (K .normal D) l'' (putT n (ops[i]).dst v L) S') →
      wpAnyIn (FW ro) 0 P .any ops (KQ n K w0) fuel (listed.setIfInBounds i true) (a.put (ops[i]).dst v) w' := by
    intro v S' w' he hh hst
    obtain ⟨hdraw, hstill⟩ := still_out pd hst
    have hdi : dstOf ops i = (ops[i]).dst := by simp [dstOf, ho]
    -- of an entry that is still to come to its place nothing has turned
    have away : ∀ y ∈ pre, (listed.setIfInBounds i true).getD y.1 false = false → y.2.1 = false ∧ listed.getD y.1 false = false ∧ y.1 ∉ A.getD i [] ∧
        ∀ d, (ops[i]).dst = some d → d ∉ looksOf ops y.1 ∧ dstOf ops y.1 ≠ some d := by
      intro y hy hyl
      rw [getD_set hsz] at hyl
      split at hyl
      · cases hyl
      · have hye : y.2.1 = false := by
          cases hh : y.2.1 with
          | false => rfl
          | true => rw [h.effs y hy hh] at hyl; cases hyl
        have hna : y.1 ∉ A.getD i [] := fun hm => by rw [hanc _ hm] at hyl; cases hyl
        exact ⟨hye, hyl, hna, fun d hd => ((o4 y hy hye).2.1 d (by rw [hdi]; exact hd)).resolve_right (fun hc => hna hc.2)⟩
    refine ih (pre ++ [(i, true, pd)]) l'' (putT n (ops[i]).dst v L) S' _ w' ⟨hsize', ?_, ?_, hclos', ?_, ?_, ?_, ?_, ?_, h.ext.trans he, hh, hok.2, okPairs_snoc _ _ h.pres (by simpa using hok.1), ?_, hdraw⟩
    · intro k hk
      rw [getD_set hsz] at hk
      split at hk
      · exact ⟨(i, true, pd), by simp, by subst_vars; rfl⟩
      · obtain ⟨y, hy, e⟩ := h.inPre k hk; exact ⟨y, List.mem_append_left _ hy, e⟩
    · intro y hy hye
      rw [getD_set hsz]
      split
      · rfl
      · rcases List.mem_append.1 hy with hy | hy
        · exact h.effs y hy hye
        · simp at hy; subst hy; exact absurd rfl ‹_›
    · intro t u hu
      rcases lookT_put hu with ⟨h1, h2, rfl⟩ | h1
      · right; simp [h1, Act.put, h.asz, h2]
      · by_cases hdt : (ops[i]).dst = some t ∧ t < n
        · have : lookT (putT n (ops[i]).dst v L) t = some v := by simp [hdt.1, putT, hdt.2, lookT]
          rw [this] at hu; cases hu
          right; simp [hdt.1, Act.put, h.asz, hdt.2]
        · have keep : a.tmps[t]? = some u → (a.put (ops[i]).dst v).tmps[t]? = some u := by
            intro hat
            cases hd : (ops[i]).dst with
            | none => exact hat
            | some d =>
              simp only [Act.put]
              by_cases e : d = t
              · subst e
                have := (Array.getElem?_eq_some_iff.1 hat).1
                rw [h.asz] at this
                exact absurd ⟨hd, this⟩ hdt
              · rw [Array.getElem?_setIfInBounds_ne e]; exact hat
          rcases h.tmps t u h1 with ⟨y, hy, h2, h3⟩ | h3
          · by_cases hyi : (listed.setIfInBounds i true).getD y.1 false = false
            · exact .inl ⟨y, List.mem_append_left _ hy, hyi, h3⟩
            · exfalso
              rw [getD_set hsz] at hyi
              split at hyi
              · exact hin ⟨y, hy, ‹_›⟩
              · exact hyi h2
          · exact .inr (keep h3)
    · intro y hy hyl
      rcases List.mem_append.1 hy with hy | hy
      · obtain ⟨hye, hyl', hna, hnd⟩ := away y hy hyl
        obtain ⟨o, v', ho', ⟨d, hd, hdn, hv⟩, hf⟩ := h.facts y hy hyl'
        have hlk : ∀ t, t ∈ o.looksAt ops ∨ t = d → lookT (putT n (ops[i]).dst v L) t = lookT L t := by
          intro t ht
          refine lookT_put_ne fun e => ?_
          obtain ⟨n1, n2⟩ := hnd t e
          rcases ht with ht | rfl
          · exact n1 (by simpa [looksOf, ho'] using ht)
          · exact n2 (by simp [dstOf, ho', hd])
        by_cases hrd : readsB o.op = true
        · have hmem : y.1 ∈ pd := by
            have := (o4 y hy hye).2.2 rfl (by simp [readsOf, ho', hrd])
            exact this.resolve_left hna
          obtain ⟨o2, d2, v2, e1, e2, e3, hq⟩ := hstill y.1 hmem
          rw [ho'] at e1; cases e1
          rw [hd] at e2; cases e2
          obtain ⟨v3, rfl, _, hq'⟩ := quiet_out hq
          refine ⟨o, v3, ho', ⟨d, hd, hdn, e3⟩, fun a' w'' ha hw => hq' a' w'' ha hw⟩
        · refine ⟨o, v', ho', ⟨d, hd, hdn, by rw [hlk d (.inr rfl)]; exact hv⟩, fun a' w'' ha _ => hf a' w'' (fun t ht u hu => ha t ht u (by rw [hlk t (.inl ht)]; exact hu)) (fun hh => absurd hh hrd)⟩
      · simp at hy; subst hy
        rw [getD_set hsz] at hyl; simp at hyl
    · intro x hx y hy hxe hye d' hd' hl'
      rcases List.mem_append.1 hx with hx | hx
      · rcases List.mem_append.1 hy with hy | hy
        · exact h.prs x hx y hy hxe hye d' hd' hl'
        · simp at hy; subst hy; cases hye
      · simp at hx; subst hx; cases hxe
    · cases (ops[i]).dst <;> simp [Act.put, h.asz]
    · cases (ops[i]).dst <;> exact h.dfr
    · intro j hj
      rcases h.all j hj with ⟨x, hx, e⟩ | ⟨x, hx, e⟩
      · exact .inl ⟨x, List.mem_append_left _ hx, e⟩
      · rcases List.mem_cons.1 hx with rfl | hx
        · exact .inl ⟨_, by simp, e⟩
        · exact .inr ⟨x, hx, e⟩
  unfold wpOpIn
  rw [ho]
  simp only
  rcases guard_agrees hag hrest with ⟨hw1, hs⟩ | ⟨hw1, hs⟩
  · rw [if_pos hw1]
    obtain ⟨ρ, hρ, hρe⟩ := full_rho hag
    refine ⟨fun _ _ => trivial, ?_⟩
    rw [Oper.semAt_eq _ _ _ (step_not_defer hs), ← execOp_congr _ (stepW_not_select hs) hρe]
    exact upon_next (step_next hρ hs) h.hold fun v S' w' hk he hh => next v S' w' he hh hk
  · rw [if_neg (by simp [hw1])]
    exact ⟨fun _ _ => trivial, next undef S w (Ext.refl w) h.hold hs⟩

theorem DInv.norm2 {ops : Array Oper} {A : List (List Nat)} {K : Env → State → Prop} {D : List Nat} {w0 : World} : ∀ (l pre : List Entry) (listed : Array Bool) (L : Env) (S : State) (a : Act) (w : World),
    DInv P n ops A K D w0 pre l listed L S a w → ∃ pre' l' L', DInv P n ops A K D w0 pre' l' listed L' S a w ∧ (l' = [] ∨ ∃ i pend l'', l' = (i, true, pend) :: l'') ∧ ∃ q, l = q ++ l' ∧ ∀ x ∈ q, x.2.1 = false
  | [], pre, listed, L, S, a, w, h => ⟨pre, [], L, h, .inl rfl, [], rfl, by simp⟩
  | (i, true, pend) :: l, pre, listed, L, S, a, w, h => ⟨pre, _, L, h, .inr ⟨i, pend, l, rfl⟩, [], rfl, by simp⟩
  | (i, false, pend) :: l, pre, listed, L, S, a, w, h => by
    have hok := h.ok
    simp only [okPairs, Bool.and_eq_true] at hok
    obtain ⟨o1, o2, o3, o4, o5, o6⟩ := okAt_parts hok.1
    obtain ⟨d, hd, hdn, hdl⟩ := o5 rfl
    have hr := h.rest
    simp only [drawW] at hr
    cases ho : ops[i]? with
    | none => rw [ho] at hr; exact hr.elim
    | some o =>
      rw [ho] at hr
      simp only at hr
      obtain ⟨v, hk, _, hq⟩ := quiet_out hr
      have hdo : o.dst = some d := by simpa [dstOf, ho] using hd
      have hlo : looksOf ops i = o.looksAt ops := by simp [looksOf, ho]
      have hunl : listed.getD i false = false := by
        cases hx : listed.getD i false with
        | false => rfl
        | true => obtain ⟨y, hy, e⟩ := h.inPre i hx; exact absurd e (o3 y hy)
      have hL : putT n o.dst v L = (d, v) :: L := by simp [putT, hdo, hdn]
      rw [hL] at hk
      have keepA : ∀ (ts : List Tmp) (a' : Act), d ∉ ts → Agrees ts ((d, v) :: L) a' → Agrees ts L a' := by
        intro ts a' hn ha t ht u hu
        refine ha t ht u ?_
        simp only [lookT]
        rw [if_neg (fun e => hn (by rw [← e]; exact ht))]
        exact hu
      have wrap : (∃ pre' l' L', DInv P n ops A K D w0 pre' l' listed L' S a w ∧ (l' = [] ∨ ∃ i pend l'', l' = (i, true, pend) :: l'') ∧ ∃ q, l = q ++ l' ∧ ∀ x ∈ q, x.2.1 = false) →
          ∃ pre' l' L', DInv P n ops A K D w0 pre' l' listed L' S a w ∧ (l' = [] ∨ ∃ i pend l'', l' = (i, true, pend) :: l'') ∧ ∃ q, (i, false, pend) :: l = q ++ l' ∧ ∀ x ∈ q, x.2.1 = false := by
        rintro ⟨pre', l', L', h1, h2, q, h3, h4⟩
        refine ⟨pre', l', L', h1, h2, (i, false, pend) :: q, by rw [h3]; rfl, fun x hx => ?_⟩
        rcases List.mem_cons.1 hx with rfl | hx
        · rfl
        · exact h4 x hx
      refine wrap (DInv.norm2 l (pre ++ [(i, false, pend)]) listed ((d, v) :: L) S a w ⟨h.size, ?_, ?_, h.clos, ?_, ?_, ?_, h.asz, h.dfr, h.ext, h.hold, hok.2, okPairs_snoc _ _ h.pres (by simpa using hok.1), ?_, hk⟩)
      · intro j hj; obtain ⟨x, hx, e⟩ := h.inPre j hj; exact ⟨x, List.mem_append_left _ hx, e⟩
      · intro x hx he
        rcases List.mem_append.1 hx with hx | hx
        · exact h.effs x hx he
        · simp at hx; subst hx; cases he
      · intro t u hu
        simp only [lookT] at hu
        split at hu
        · subst_vars; exact .inl ⟨(i, false, pend), by simp, hunl, hd⟩
        · rcases h.tmps t u hu with ⟨x, hx, h1, h2⟩ | h3
          · exact .inl ⟨x, List.mem_append_left _ hx, h1, h2⟩
          · exact .inr h3
      · intro x hx hxl
        rcases List.mem_append.1 hx with hx | hx
        · obtain ⟨o', v', h1, ⟨d', h2, h3, h4⟩, h5⟩ := h.facts x hx hxl
          have hxe : x.2.1 = false := by
            cases hh : x.2.1 with
            | false => rfl
            | true => rw [h.effs x hx hh] at hxl; cases hxl
          have hne := ((o4 x hx hxe).2.1 d hd).resolve_right (fun hh => by cases hh.1)
          have hd' : dstOf ops x.1 = some d' := by simp [dstOf, h1, h2]
          refine ⟨o', v', h1, ⟨d', h2, h3, ?_⟩, fun a' w' ha hw => h5 a' w' (keepA _ a' (by simpa [looksOf, h1] using hne.1) ha) hw⟩
          simp only [lookT]
          rw [if_neg (fun e => hne.2 (by rw [hd', e]))]
          exact h4
        · simp at hx; subst hx
          refine ⟨o, v, ho, ⟨d, hdo, hdn, by simp [lookT]⟩, fun a' w' ha hw => hq a' w' (keepA _ a' (by rw [← hlo]; exact hdl) ha) hw⟩
      · intro x hx y hy hxe hye d' hd' hl'
        rcases List.mem_append.1 hx with hx | hx
        · rcases List.mem_append.1 hy with hy | hy
          · exact h.prs x hx y hy hxe hye d' hd' hl'
          · simp at hy; subst hy
            rw [hd] at hd'; cases hd'
            exact absurd hl' (((o4 x hx hxe).2.1 d hd).resolve_right (fun hh => by cases hh.1)).1
        · simp at hx; subst hx
          rcases List.mem_append.1 hy with hy | hy
          · exact (o4 y hy hye).1 d' hd' hl'
          · simp at hy; subst hy
            rw [hd] at hd'; cases hd'
            exact absurd hl' hdl
      · intro j hj
        rcases h.all j hj with ⟨x, hx, e⟩ | ⟨x, hx, e⟩
        · exact .inl ⟨x, List.mem_append_left _ hx, e⟩
        · rcases List.mem_cons.1 hx with rfl | hx
          · exact .inl ⟨_, by simp, e⟩
          · exact .inr ⟨x, hx, e⟩

theorem nil_of_count {ops : Array Oper} {listed : Array Bool} (hs : listed.size = ops.size) (hle : ((List.range ops.size).filter fun i => !listed.getD i false).length ≤ 0) : Region.ready .any ops listed = [] := by
  have h0 : ((List.range ops.size).filter fun i => !listed.getD i false) = [] := List.eq_nil_of_length_eq_zero (Nat.le_zero.1 hle)
  unfold Region.ready
  rw [List.filter_eq_nil_iff] at h0 ⊢
  intro i hi
  have := h0 i hi
  have hsz : i < listed.size := by rw [hs]; exact List.mem_range.1 hi
  simp only [Array.getD_eq_getD_getElem?, hsz, Array.getElem?_eq_getElem, Option.getD_some] at this ⊢
  simp only [Bool.not_eq_true', Bool.not_eq_false] at this
  simp [this]
theorem count_next {ops : Array Oper} {listed : Array Bool} {i fuel : Nat} (him : i < ops.size) (hsz : i < listed.size) (hun : listed.getD i false = false) (hle : ((List.range ops.size).filter fun i => !listed.getD i false).length ≤ fuel + 1) :
    ((List.range ops.size).filter fun k => !(listed.setIfInBounds i true).getD k false).length ≤ fuel := by
  have := filter_less (p := fun k => !listed.getD k false) (q := fun k => !(listed.setIfInBounds i true).getD k false) (i := i) (List.range ops.size) (fun x hx => by
    simp only [getD_set hsz] at hx
    split at hx
    · simp at hx
    · exact hx) (List.mem_range.2 him) (by simp [hun]) (by simp [getD_set hsz])
  omega

/-- Once e1 is done there is one order. -/
theorem draw_late {ops : Array Oper} {A : List (List Nat)} {K : Cont} {D : List Nat} {w0 : World} {e1 e2 : Nat} (hc : certX ops e1 e2 A = true) : ∀ (fuel : Nat) (pre l : List Entry) (listed : Array Bool) (L : Env) (S : State) (a : Act) (w : World),
    DInv P n ops A (K .normal D) D w0 pre l listed L S a w → listed.getD e1 false = true → ((List.range ops.size).filter fun i => !listed.getD i false).length ≤ fuel →
    wpAnyIn (FW ro) 0 P .any ops (KQ n K w0) fuel listed a w := by
  intro fuel
  induction fuel with
  | zero =>
    intro pre l listed L S a w h _ hle
    have hr := nil_of_count h.size hle
    exact ⟨hr, draw_fin h hr⟩
  | succ fuel ih =>
    intro pre l listed L S a w h h1 hle
    refine ⟨fun hr => draw_fin h hr, fun i hi => ?_⟩
    obtain ⟨pre, l, L, h, hl⟩ := h.norm
    obtain ⟨him, hun, hdep⟩ := ready_out h.size hi
    have hsz : i < listed.size := by rw [h.size]; exact him
    have hanc := anc_out hc him h.clos hdep (fun _ => h1)
    have hcount := count_next him hsz hun hle
    have h1' : (listed.setIfInBounds i true).getD e1 false = true := by rw [getD_set hsz]; split <;> first | rfl | exact h1
    by_cases hin : ∃ x ∈ pre, x.1 = i
    · obtain ⟨o, v, ho, hy, hnd, h'⟩ := h.reckon hsz hun hanc hin
      exact yielding_in ho hy hnd (ih pre l _ L S _ w h' h1' hcount)
    · have hnx : ∃ pd l'', l = (i, true, pd) :: l'' := by
        rcases (h.all i him).resolve_left hin with ⟨x, hx, he⟩
        rcases hl with rfl | ⟨j, pd, l'', rfl⟩
        · cases hx
        · rcases List.mem_cons.1 hx with rfl | hx
          · cases he; exact ⟨pd, l'', rfl⟩
          · exfalso
            have hok := h.ok
            simp only [okPairs, Bool.and_eq_true] at hok
            obtain ⟨q, hq⟩ := okPairs_mem l'' _ hok.2 x hx
            obtain ⟨_, o2, _⟩ := okAt_parts hq
            have := hanc j (by rw [← he]; exact o2 (j, true, pd) (by simp) rfl)
            obtain ⟨y, hy, e⟩ := h.inPre j this
            obtain ⟨_, _, o3, _⟩ := okAt_parts hok.1
            exact o3 y hy e
      obtain ⟨pd, l'', rfl⟩ := hnx
      exact h.effect him hun hanc hin fun pre l L S a w h' => ih pre l _ L S a w h' h1' hcount

theorem quiet_first {ops : Array Oper} {A : List (List Nat)} {K : Env → State → Prop} {D : List Nat} {w0 : World} {pre l : List Entry} {listed : Array Bool} {L : Env} {S : State} {a : Act} {w : World} {e i : Nat} {pd : List Nat}
    (h : DInv P n ops A K D w0 pre ((e, true, pd) :: l) listed L S a w) (him : i < ops.size) (hne : i ≠ e) (hun : listed.getD e false = false) (hanc : ∀ j ∈ A.getD i [], listed.getD j false = true) : ∃ x ∈ pre, x.1 = i := by
  rcases h.all i him with hx | ⟨x, hx, he⟩
  · exact hx
  · exfalso
    rcases List.mem_cons.1 hx with rfl | hx
    · exact hne he.symm
    · have hok := h.ok
      simp only [okPairs, Bool.and_eq_true] at hok
      obtain ⟨q, hq⟩ := okPairs_mem l _ hok.2 x hx
      obtain ⟨_, o2, _⟩ := okAt_parts hq
      have := hanc e (by rw [← he]; exact o2 (e, true, pd) (by simp) rfl)
      rw [hun] at this; cases this
theorem not_pre {ops : Array Oper} {A : List (List Nat)} {K : Env → State → Prop} {D : List Nat} {w0 : World} {pre l : List Entry} {listed : Array Bool} {L : Env} {S : State} {a : Act} {w : World} {e : Nat} {pd : List Nat}
    (h : DInv P n ops A K D w0 pre ((e, true, pd) :: l) listed L S a w) : ¬ ∃ x ∈ pre, x.1 = e := by
  have hok := h.ok
  simp only [okPairs, Bool.and_eq_true] at hok
  obtain ⟨_, _, o3, _⟩ := okAt_parts hok.1
  rintro ⟨x, hx, e⟩
  exact o3 x hx e

/-- While neither is done nothing changes. -/
theorem draw_both {ops : Array Oper} {A1 A2 : List (List Nat)} {K : Cont} {D : List Nat} {w0 : World} {e1 e2 : Nat} {pre1 pre2 l1 l2 : List Entry} {pd1 pd2 : List Nat} {L1 L2 : Env} {S1 S2 : State} (hc1 : certX ops e1 e2 A1 = true) (hc2 : certX ops e2 e1 A2 = true) (hne : e1 ≠ e2) :
    ∀ (fuel : Nat) (listed : Array Bool) (a : Act) (w : World), DInv P n ops A1 (K .normal D) D w0 pre1 ((e1, true, pd1) :: l1) listed L1 S1 a w → DInv P n ops A2 (K .normal D) D w0 pre2 ((e2, true, pd2) :: l2) listed L2 S2 a w →
    listed.getD e1 false = false → listed.getD e2 false = false → ((List.range ops.size).filter fun i => !listed.getD i false).length ≤ fuel → wpAnyIn (FW ro) 0 P .any ops (KQ n K w0) fuel listed a w := by
  intro fuel
  induction fuel with
  | zero =>
    intro listed a w h _ _ _ hle
    have hr := nil_of_count h.size hle
    exact ⟨hr, draw_fin h hr⟩
  | succ fuel ih =>
    intro listed a w h1 h2 u1 u2 hle
    refine ⟨fun hr => draw_fin h1 hr, fun i hi => ?_⟩
    obtain ⟨him, hun, hdep⟩ := ready_out h1.size hi
    have hsz : i < listed.size := by rw [h1.size]; exact him
    have hcount := count_next him hsz hun hle
    by_cases i1 : i = e1
    · subst i1
      exact h1.effect him hun (anc_out hc1 him h1.clos hdep (fun e => absurd e hne)) (not_pre h1) fun pre l L S a w h' => draw_late hc1 fuel pre l _ L S a w h' (by rw [getD_set hsz, if_pos rfl]) hcount
    by_cases i2 : i = e2
    · subst i2
      exact h2.effect him hun (anc_out hc2 him h2.clos hdep (fun e => absurd e.symm hne)) (not_pre h2) fun pre l L S a w h' => draw_late hc2 fuel pre l _ L S a w h' (by rw [getD_set hsz, if_pos rfl]) hcount
    have a1 := anc_out hc1 him h1.clos hdep (fun e => absurd e i2)
    have a2 := anc_out hc2 him h2.clos hdep (fun e => absurd e i1)
    obtain ⟨o, v, ho, hy, hnd, h1'⟩ := h1.reckon hsz hun a1 (quiet_first h1 him i1 u1 a1)
    obtain ⟨o', v', ho', hy', hnd', h2'⟩ := h2.reckon hsz hun a2 (quiet_first h2 him i2 u2 a2)
    rw [ho] at ho'
    cases ho'
    have hv : v = v' := by
      rcases hy with ⟨x1, x2⟩ | ⟨x1, x2⟩ <;> rcases hy' with ⟨y1, y2⟩ | ⟨y1, y2⟩
      · rw [x2] at y2
        cases y2; rfl
      · rw [x1] at y1; cases y1
      · rw [x1] at y1; cases y1
      · rw [x2, y2]
    subst hv
    exact yielding_in ho hy hnd (ih _ _ w h1' h2' (by rw [getD_set hsz, if_neg (Ne.symm i1)]; exact u1) (by rw [getD_set hsz, if_neg (Ne.symm i2)]; exact u2) hcount)

def firstE : List Entry → Option Nat
  | [] => none
  | (i, true, _) :: _ => some i
  | (_, false, _) :: l => firstE l
theorem firstE_skip : ∀ (q l : List Entry), (∀ x ∈ q, x.2.1 = false) → firstE (q ++ l) = firstE l
  | [], _, _ => rfl
  | (i, true, pd) :: q, l, h => by have := h (i, true, pd) (by simp); cases this
  | (i, false, pd) :: q, l, h => by
    rw [List.cons_append, firstE]
    exact firstE_skip q l fun x hx => h x (List.mem_cons_of_mem _ hx)

def okTwo (ops : Array Oper) (e1 e2 : Nat) (A1 A2 : List (List Nat)) (n : Nat) (pl1 pl2 : List Entry) : Bool :=
  certX ops e1 e2 A1 && (certX ops e2 e1 A2 && (e1 != e2 && (okPairs ops A1 n [] pl1 && (okPairs ops A2 n [] pl2 && (((List.range ops.size).all fun i => pl1.any (·.1 == i)) && (((List.range ops.size).all fun i => pl2.any (·.1 == i)) && (firstE pl1 == some e1 && firstE pl2 == some e2)))))))

theorem DInv.start {ops : Array Oper} {A : List (List Nat)} {K : Cont} {D : List Nat} {L : Env} {S : State} {a : Act} {w : World} {pl : List Entry} (ha : Agree n L D a) (hw : Hold w S) (hok : okPairs ops A n [] pl = true)
    (hall : (List.range ops.size).all (fun i => pl.any (·.1 == i)) = true) (h : drawW P n ops (K .normal D) pl L S) : DInv P n ops A (K .normal D) D w [] pl (Array.replicate ops.size false) L S a { w with drawn := w.drawn + 1 } := by
  have h0 : ∀ i, (Array.replicate ops.size false).getD i false = false := by
    intro i; simp only [Array.getD_eq_getD_getElem?, Array.getElem?_replicate]; split <;> rfl
  have hw' : Hold { w with drawn := w.drawn + 1 } S := ⟨hw.nd, hw.get⟩
  have he : Ext w { w with drawn := w.drawn + 1 } := ⟨rfl, rfl, rfl, Nat.le_refl _⟩
  refine ⟨by simp, ?_, ?_, ?_, ?_, ?_, ?_, ha.size, ha.marks, he, hw', hok, rfl, ?_, h⟩
  · intro i hi; rw [h0] at hi; cases hi
  · intro x hx; cases hx
  · intro i hi; rw [h0] at hi; cases hi
  · intro t v ht; exact .inr (ha.get t v ht)
  · intro x hx; cases hx
  · intro x hx; cases hx
  · intro i hi
    have := List.all_eq_true.1 hall i (List.mem_range.2 hi)
    obtain ⟨x, hx, e⟩ := List.any_eq_true.1 this
    exact .inr ⟨x, hx, by simpa using e⟩

/-- The rule: a plan for each of the two orders, and both walks. -/
theorem code_draw2 {id : Nat} {ops : Array Oper} {K : Cont} {D : List Nat} {L : Env} {S : State} (e1 e2 : Nat) (A1 : List (List Nat)) (pl1 : List Entry) (A2 : List (List Nat)) (pl2 : List Entry)
    (h1 : drawW P n ops (K .normal D) pl1 L S) (h2 : drawW P n ops (K .normal D) pl2 L S) (hm : P.follows .mixedOrders = true := by kernel_rfl)
    (hok : okTwo ops e1 e2 A1 A2 n pl1 pl2 = true := by kernel_rfl) : CodeW P n ro (.region id ops true) K D L S := by
  refine ⟨fun a w ha hw => ?_⟩
  refine wpIn_region_any hm ?_
  simp only [okTwo, Bool.and_eq_true, beq_iff_eq, bne_iff_ne, ne_eq] at hok
  obtain ⟨c1, c2, hne, p1, p2, all1, all2, f1, f2⟩ := hok
  obtain ⟨pre1, l1, L1, d1, g1, q1, k1, z1⟩ := (DInv.start (K := K) ha hw p1 all1 h1).norm2
  obtain ⟨pre2, l2, L2, d2, g2, q2, k2, z2⟩ := (DInv.start (K := K) ha hw p2 all2 h2).norm2
  rw [k1, firstE_skip q1 l1 z1] at f1
  rw [k2, firstE_skip q2 l2 z2] at f2
  rcases g1 with rfl | ⟨i1, pd1, l1, rfl⟩
  · cases f1
  rcases g2 with rfl | ⟨i2, pd2, l2, rfl⟩
  · cases f2
  simp only [firstE, Option.some.injEq] at f1 f2
  subst f1 f2
  have h0 : ∀ i, (Array.replicate ops.size false).getD i false = false := by
    intro i; simp only [Array.getD_eq_getD_getElem?, Array.getElem?_replicate]; split <;> rfl
  exact draw_both c1 c2 hne ops.size _ a _ d1 d2 (h0 _) (h0 _) (Nat.le_trans (List.length_filter_le _ _) (by simp))

end Go.Ost

/- Structures compared: cell by cell. Conditions: as each says. -/
set_option linter.unusedSimpArgs false
set_option linter.unusedVariables false
namespace Go.Ost
open Go

variable {P : Program}

inductive EK | i | s | b
def ekB (P : Program) (t : TypeId) : EK → Bool
  | .i => match P.underlying t with | some (.int _) => true | _ => false
  | .s => match P.underlying t with | some .string => true | _ => false
  | .b => match P.underlying t with | some .bool => true | _ => false
def eqFieldsB (P : Program) : Nat → List Field → List EK → Bool
  | _, [], [] => true
  | i, f :: fs, k :: ks => f.name != "_" && (f.offset == i && (ekB P f.type k && eqFieldsB P (i + 1) fs ks))
  | _, _, _ => false
def eqB (P : Program) (t : TypeId) (ks : List EK) : Bool :=
  match P.underlying t with
  | some (.struct fs) => eqFieldsB P 0 fs.toList ks && (!P.stoodInHeld t && !P.eqGuardType P.depth t)
  | _ => false
class TEq (P : Program) (t : TypeId) (ks : outParam (List EK)) : Prop where
  ok : eqB P t ks = true

def eqL : List EK → List Value → List Value → Option Bool
  | [], [], [] => some true
  | .i :: ks, .int k a :: xs, .int k' b :: ys => if k = k' then (eqL ks xs ys).map fun r => (a == b) && r else none
  | .s :: ks, .string a :: xs, .string b :: ys => (eqL ks xs ys).map fun r => (a.data.toList == b.data.toList) && r
  | .b :: ks, .bool a :: xs, .bool b :: ys => (eqL ks xs ys).map fun r => (a == b) && r
  | _, _, _ => none

theorem part_plain {t : TypeId} {k : EK} (h : ekB P t k = true) {X : Array Value} {i : Nat} {v : Value} (hv : X[i]? = some v) (w : World) : (part t X i).run P w = .ok v w := by
  have hu : ∃ u, P.underlying t = some u ∧ (∀ fs, u ≠ .struct fs) ∧ ∀ n e, u ≠ .array n e := by
    cases k <;> simp only [ekB] at h <;> (cases hu : P.underlying t with | none => rw [hu] at h; cases h | some u => rw [hu] at h; cases u <;> first | (cases h; done) | exact ⟨_, rfl, by simp, by simp⟩)
  obtain ⟨u, hu, h1, h2⟩ := hu
  have hA : (isAgg t).run P w = .ok false w := by
    simp only [isAgg, Sem.run_bind, run_underlying hu, Result.andThen_ok]
    cases u <;> first | rfl | exact absurd rfl (h1 _) | exact absurd rfl (h2 _ _)
  simp [part, Sem.run_bind, hA, Result.andThen, hv]

theorem eq_fields (d : Nat) (X Y : Array Value) (w : World) : ∀ (fs : List Field) (ks : List EK) (i : Nat) (xs ys : List Value) (r : Bool), eqFieldsB P i fs ks = true → eqL ks xs ys = some r →
    (∀ j, j < xs.length → X[i + j]? = xs[j]?) → (∀ j, j < ys.length → Y[i + j]? = ys[j]?) → (Op.eqFields (d + 1) X Y fs).run P w = .ok r w := by
  intro fs
  induction fs with
  | nil =>
    intro ks i xs ys r h1 h2 hX hY
    cases ks with
    | cons k ks => cases h1
    | nil =>
      cases xs with
      | cons x xs => cases h2
      | nil =>
        cases ys with
        | cons y ys => cases h2
        | nil => cases h2; simp [Op.eqFields]
  | cons f fs ih =>
    intro ks i xs ys r h1 h2 hX hY
    cases ks with
    | nil => cases h1
    | cons k ks =>
      simp only [eqFieldsB, Bool.and_eq_true, bne_iff_ne, ne_eq, beq_iff_eq] at h1
      obtain ⟨hn, ho, hk, hr⟩ := h1
      have step : ∀ (x y : Value) (xs' ys' : List Value) (q r' : Bool), xs = x :: xs' → ys = y :: ys' → (Op.equalIn (d + 1) f.type x y).run P w = .ok q w → eqL ks xs' ys' = some r' → r = (q && r') → (Op.eqFields (d + 1) X Y (f :: fs)).run P w = .ok r w := by
        rintro x y xs' ys' q r' rfl rfl hq hl rfl
        have e1 := part_plain hk (X := X) (i := f.offset) (v := x) (by rw [ho]; simpa using hX 0 (by simp)) w
        have e2 := part_plain hk (X := Y) (i := f.offset) (v := y) (by rw [ho]; simpa using hY 0 (by simp)) w
        have ht := ih ks (i + 1) xs' ys' r' hr hl (fun j hj => by have := hX (j + 1) (by simpa using hj); rw [← Nat.add_assoc, Nat.add_right_comm] at this; simpa using this)
          (fun j hj => by have := hY (j + 1) (by simpa using hj); rw [← Nat.add_assoc, Nat.add_right_comm] at this; simpa using this)
        simp only [Op.eqFields, hn, ne_eq, not_false_eq_true, if_true, Sem.run_bind, e1, e2, hq, Result.andThen_ok]
        cases q
        · simp
        · simpa using ht
      cases k with
      | i =>
        cases xs with
        | nil => cases h2
        | cons x xs =>
          cases x <;> first | (cases h2; done) | skip
          cases ys with
          | nil => cases h2
          | cons y ys =>
            cases y <;> first | (cases h2; done) | skip
            rename_i k a k' b
            simp only [eqL] at h2
            split at h2
            · subst_vars
              cases hl : eqL ks xs ys with
              | none => rw [hl] at h2; cases h2
              | some r' =>
                rw [hl] at h2
                simp only [Option.map_some, Option.some.injEq] at h2
                simp only [ekB] at hk
                refine step _ _ xs ys (a == b) r' rfl rfl ?_ hl h2.symm
                cases hu : P.underlying f.type with
                | none => rw [hu] at hk; cases hk
                | some u =>
                  rw [hu] at hk
                  cases u <;> first | (cases hk; done) | exact run_equalIn_int w d f.type _ _ a b hu
            · cases h2
      | s =>
        cases xs with
        | nil => cases h2
        | cons x xs =>
          cases x <;> first | (cases h2; done) | skip
          cases ys with
          | nil => cases h2
          | cons y ys =>
            cases y <;> first | (cases h2; done) | skip
            rename_i a b
            simp only [eqL] at h2
            cases hl : eqL ks xs ys with
            | none => rw [hl] at h2; cases h2
            | some r' =>
              rw [hl] at h2
              simp only [Option.map_some, Option.some.injEq] at h2
              simp only [ekB] at hk
              refine step _ _ xs ys (a.data.toList == b.data.toList) r' rfl rfl ?_ hl h2.symm
              cases hu : P.underlying f.type with
              | none => rw [hu] at hk; cases hk
              | some u =>
                rw [hu] at hk
                cases u <;> first | (cases hk; done) | (rw [run_equalIn_string w d f.type a b hu, ByteArray.toList_eq, ByteArray.toList_eq]; done)
      | b =>
        cases xs with
        | nil => cases h2
        | cons x xs =>
          cases x <;> first | (cases h2; done) | skip
          cases ys with
          | nil => cases h2
          | cons y ys =>
            cases y <;> first | (cases h2; done) | skip
            rename_i a b
            simp only [eqL] at h2
            cases hl : eqL ks xs ys with
            | none => rw [hl] at h2; cases h2
            | some r' =>
              rw [hl] at h2
              simp only [Option.map_some, Option.some.injEq] at h2
              simp only [ekB] at hk
              refine step _ _ xs ys (a == b) r' rfl rfl ?_ hl h2.symm
              cases hu : P.underlying f.type with
              | none => rw [hu] at hk; cases hk
              | some u =>
                rw [hu] at hk
                cases u <;> first | (cases hk; done) | exact run_equalIn_bool' w d f.type a b hu

section rules
variable {t : TypeId} {ks : List EK} {x y : Operand} {xs ys : List Value} {r : Bool} {κ : Value → Prop}
theorem eq_run [h : TEq P t ks] (hl : eqL ks xs ys = some r) (w : World) : P.eqGuardType P.depth t = false ∧ (Op.equalIn 10000 t (.agg xs.toArray) (.agg ys.toArray)).run P w = .ok r w := by
  have hk := h.ok
  unfold eqB at hk
  split at hk
  · rename_i fs hu
    simp only [Bool.and_eq_true, Bool.not_eq_true'] at hk
    obtain ⟨h1, h2, h3⟩ := hk
    have hf : P.fieldsOf t = fs := by unfold Program.fieldsOf; rw [hu]
    refine ⟨h3, ?_⟩
    rw [show 10000 = 9998 + 1 + 1 from rfl, run_equalIn_agg w (9998 + 1) t xs.toArray ys.toArray (by rw [hf]; exact hu) h2, hf]
    exact eq_fields 9998 _ _ w _ ks 0 xs ys r h1 hl (fun j _ => by simp) (fun j _ => by simp)
  · cases hk
theorem agg_eql [h : TEq P t ks] (hl : eqL ks xs ys = some r) : PureW P (do eqGuard .eql t x y (.agg xs.toArray) (.agg ys.toArray); binOp .eql t (.agg xs.toArray) (.agg ys.toArray)) κ = κ (.bool r) :=
  pureW_eq (fun w => by
    obtain ⟨h1, h2⟩ := eq_run (P := P) (t := t) hl w
    simp only [Sem.run_bind, run_eqGuard_agg w .eql t x y xs.toArray ys.toArray h1, Result.andThen_ok, run_eql_struct, h2]) κ
theorem agg_neq [h : TEq P t ks] (hl : eqL ks xs ys = some r) : PureW P (do eqGuard .neq t x y (.agg xs.toArray) (.agg ys.toArray); binOp .neq t (.agg xs.toArray) (.agg ys.toArray)) κ = κ (.bool (!r)) :=
  pureW_eq (fun w => by
    obtain ⟨h1, h2⟩ := eq_run (P := P) (t := t) hl w
    simp only [Sem.run_bind, run_eqGuard_agg w .neq t x y xs.toArray ys.toArray h1, Result.andThen_ok, run_neq_struct, h2]) κ
end rules

end Go.Ost

/- From a contract to a law's row: all of the world's blocks are as they were. Conditions: as each says. -/
set_option linter.unusedSimpArgs false
set_option linter.unusedVariables false
namespace Go.Ost
open Go Go.ChangeShapes Go.WideShapes Go.ChangeAt Go.RowKit

variable {P : Program}

/-- The blocks of a world. -/
def blocksOf (w : World) : Chunk := (List.range w.heap.size).map fun b => (b, (w.heap[b]?).getD (.deferred (some [])))
theorem blocks_in {w : World} {b : Nat} {o : Obj} (h : w.heap[b]? = some o) : (b, o) ∈ blocksOf w :=
  List.mem_map.2 ⟨b, List.mem_range.2 (Array.getElem?_eq_some_iff.1 h).1, by rw [h]; rfl⟩
theorem blocks_out {w : World} {b : Nat} {o : Obj} (h : (b, o) ∈ blocksOf w) : w.heap[b]? = some o := by
  obtain ⟨c, hc, he⟩ := List.mem_map.1 h
  have hlt := List.mem_range.1 hc
  cases he
  rw [Array.getElem?_eq_getElem hlt]; rfl
theorem hold_blocks (w : World) : Hold w [blocksOf w] := by
  refine ⟨?_, fun b o hm => blocks_out (by simpa using hm)⟩
  have e : (blocksOf w).map (·.1) = List.range w.heap.size := by
    unfold blocksOf
    rw [List.map_map]
    exact (List.map_congr_left fun a _ => rfl).trans (List.map_id _)
  simp only [List.flatten_cons, List.flatten_nil, List.append_nil, e]
  exact List.nodup_range

/-- What a law's contract gives of its call: true, and all that was there as it was. -/
theorem law_calls {f : FuncId} {args : Array Value} (w : World) (h : ∀ C : Chunk, (∀ k o, w.heap[k]? = some o → (k, o) ∈ C) → Meets P f args.toList [C] fun v A => v = .bool true ∧ A = [C]) :
    Calls P f args w fun e w' => e = .returned (.bool true) ∧ Below w.heap.size w w' := by
  have h1 := (h (blocksOf w) fun k o => blocks_in).out [] w (by simpa [List.flatten] using (hold_blocks w).perm (by simp))
  refine callsIn_wide.1 (h1.mono ?_)
  rintro e w' ⟨v, S, rfl, he, hh, A, rfl, rfl, rfl⟩
  refine ⟨rfl, he.os, he.tape, he.output, he.size, fun k hk => ?_⟩
  rw [Array.getElem?_eq_getElem hk]
  exact hh.get _ _ (by simpa using blocks_in (Array.getElem?_eq_getElem hk))

theorem Meets.keep {f : FuncId} {args : List Value} {x : Value} (C : Chunk) (h : Meets P f args [] fun v A => v = x ∧ A = []) : Meets P f args [C] fun v A => v = x ∧ A = [C] := by
  refine ⟨h.1, fun F w hw => (h.2 (F ++ C) w (hw.perm (by simp))).mono ?_⟩
  rintro e w' ⟨v, S, rfl, he, hh, A, rfl, rfl, rfl⟩
  exact ⟨_, _, rfl, he, hh.perm (T := [F, C]) (by simp), _, rfl, rfl, rfl⟩

/-- A slice of numbers, as the reading ahead of the call has it: its block lies in C. -/
def Row (C : Chunk) (k : IntKind) (v : Value) (zs : List Int) : Prop :=
  (∀ z ∈ zs, (Lit.int k z).wf = true) ∧ ∃ a len cap, v = .slice a len cap ∧ len ≤ cap ∧ cap ≤ maxLen ∧ zs.length = len ∧
    (0 < len → ∃ b o cs e m, a = some ⟨b, o, none⟩ ∧ (b, Obj.cells cs e m) ∈ C ∧ ∀ i, i < len → cs[o + i]? = some (.int k (zs.getD i 0)))

theorem open_slc {H : Type} {enc : TypeId × Value → H} {W : World} {base : Nat} {t e : TypeId} {k : IntKind} {v : Value} {d : DataW H} {ps : List MemPlace} (ht : P.underlying t = some (.slice e)) (he : P.underlying e = some (.int k)) (hc : P.cellsOf e = 1)
    (hval : Value.okWide P W .any base t v) (h : DataW.Trod enc P W 0 (fun _ => true) true t v d ps) :
    ∃ zs, ∀ C : Chunk, (∀ k o, W.heap[k]? = some o → (k, o) ∈ C) → Row C k v zs := by
  obtain ⟨a0, len0, cap0, rfl⟩ := okWide_slice ht hval
  obtain ⟨fuel, hf⟩ := h
  rcases open_ints ht he hc hf with ⟨hcs, hx⟩ | ⟨a, len, cap, zs, hcs, _, hle, hmax, hall, hx, hcell, hwf⟩
  · simp [Value.cells] at hcs
    obtain ⟨rfl, rfl, rfl⟩ := hcs
    exact ⟨[], fun C hC => ⟨by simp, none, 0, 0, rfl, Nat.le_refl _, Nat.zero_le _, rfl, fun h => absurd h (Nat.lt_irrefl 0)⟩⟩
  · simp [Value.cells] at hcs
    obtain ⟨rfl, rfl, rfl⟩ := hcs
    simp only [if_true] at hall
    refine ⟨zs.take len0, fun C hC => ⟨fun z hz => hwf z (List.mem_of_mem_take hz), some a, len0, cap0, rfl, hle, hmax, by simp; omega, fun hpos => ?_⟩⟩
    obtain ⟨b, o, rfl, hat⟩ := ints_at hcell (by omega)
    have h0 := hat 0 (by omega)
    unfold World.cell? at h0
    cases hb : W.heap[b]? with
    | none => simp [hb] at h0
    | some ob =>
      cases ob with
      | cells cs e m =>
        refine ⟨b, o, cs, e, m, rfl, hC b _ hb, fun i hi => ?_⟩
        have h1 := hat i (by omega)
        unfold World.cell? at h1
        simp only [hb, Option.isSome_none, Bool.false_eq_true, if_false] at h1
        rw [h1]
        simp [List.getD, List.getElem?_take, hi]
      | _ => simp [hb] at h0

def rowed (P : Program) (ts : List TypeId) : Bool := ts.all fun t => P.readableRec t && decide (t < P.types.size)

theorem trodAll_still {H : Type} {enc : TypeId × Value → H} (hl : laidOutB P = true) {W W' : World} (hb : Below W.heap.size W W') {sp : Nat → Bool} :
    ∀ {ts : List TypeId} {vs : List Value} {ds : List (DataW H)} {ps : List MemPlace}, rowed P ts = true → (∀ p ∈ ps, p.block < W.heap.size ∧ sp p.block = true) →
      DataW.TrodAll enc P W 0 (fun _ => true) true ts vs ds ps → DataW.TrodAll enc P W' 0 sp true ts vs ds ps
  | [], vs, ds, ps, _, _, h => by
    obtain ⟨rfl, rfl, rfl⟩ := trodAll_nil h
    exact trodAll_mk0
  | t :: ts, vs, ds, ps, hr, hp, h => by
    obtain ⟨v, vs, d, ds, p, q, rfl, rfl, rfl, h1, h2⟩ := trodAll_cons h
    simp only [rowed, List.all_cons, Bool.and_eq_true, decide_eq_true_eq] at hr
    exact trodAll_cons_mk (WideElems.Trod_stays hl hr.1.1 hr.1.2 h1 (fun x hx => hb.same (hp x (List.mem_append_left _ hx)).1) (fun x hx => (hp x (List.mem_append_left _ hx)).2))
      (trodAll_still hl hb hr.2 (fun x hx => hp x (List.mem_append_right _ hx)) h2)

theorem below_kept {W W' : World} (hb : Below W.heap.size W W') (may : MemPlace → Prop) : W.keptBut W' may := by
  refine ⟨hb.os, hb.output, fun i hi => ?_⟩
  rw [hb.block i hi]
  cases h : W.heap[i]? with
  | none => trivial
  | some o => cases o <;> first | exact ⟨rfl, rfl, rfl, fun _ _ => rfl⟩ | exact .inr ⟨rfl, rfl⟩ | rfl

/-- A law that returns true, reads its arguments and no variable. -/
theorem law_post {H : Type} {enc : TypeId × Value → H} {f : Func} {s : ChangeSpec} {fresh handsOn again : Bool} {W W' : World} {args : Array Value} {ds gs : List (DataW H)} {before : List MemPlace} {tb : TypeId}
    (hl : laidOutB P = true) (hr : rowed P f.params.toList = true) (hv : s.vars = []) (ht : f.resultTypes = #[tb]) (hu : P.underlying tb = some .bool)
    (hW : DataW.Whole enc P f.params.toList s.vars false W args.toList ds gs before) (hb : Below W.heap.size W W')
    (hs : gs = [] → (s.fn H ds) = { results := [.lit (.bool true)], args := ds }) :
    s.post enc P f false fresh handsOn again W args (.bool true) W' := by
  have hlt := hW.lt
  have hW' := hW
  obtain ⟨p, q, hA, hV, rfl, hz, hn⟩ := hW
  rw [hv] at hV
  obtain ⟨rfl, rfl⟩ := trodVars_none hV
  have e := hs rfl
  simp only [List.append_nil] at hlt hW' hz hn
  have hT : ∀ sp : Nat → Bool, (∀ x ∈ p, sp x.block = true) → DataW.TrodAll enc P W' 0 sp true f.params.toList args.toList ds p := fun sp h =>
    trodAll_still hl hb hr (fun x hx => ⟨hlt x hx, h x hx⟩) hA
  have hR : ∀ (b : Nat) (sp : Nat → Bool) (hd : Bool), DataW.TrodAll enc P W' b sp hd f.resultTypes.toList ((Value.bool true).resultList f.resultTypes.size) [.lit (.bool true)] [] := by
    intro b sp hd
    rw [ht]
    exact trodAll_cons_mk (shut_bool hu _) trodAll_mk0
  have hvv : ∀ sp : Nat → Bool, DataW.TrodVars enc P W' sp s.vars [] [] := by
    intro sp; rw [hv]; rfl
  refine ⟨ds, [], p, [], p, [], hW', ?_, ?_, ?_, World.keptBut_mono (fun x hx => ⟨hx, .inr (.inl hx)⟩) (below_kept hb (· ∈ p)), fun _ => ⟨?_, ?_⟩⟩
  · simp only [List.append_nil, e]; exact hR _ _ _
  · simp only [List.append_nil, e]; exact hT _ (fun x hx => by simpa using hlt x hx)
  · simp only [List.append_nil, e]; exact hvv _
  · intro j t r h1 h2
    rw [ht] at h1 h2
    exact ok_one (f := f) ht rfl (okWide_bool_mk hu true) j t r (by rw [ht]; exact h1) (by rw [ht]; exact h2)
  · refine ⟨_, _, ([] ++ p) ++ [], ⟨[] ++ p, [], trodAll_append (hT _ (fun _ _ => rfl)) (hR _ _ _), hvv _, rfl, ?_, fun h => by cases h⟩, fun x hx _ => by simpa using hx⟩
    intro b off hx
    have hx : MemPlace.cell b off ∈ p := by simpa using hx
    have hz' := hz b off hx
    unfold World.frozen? at hz' ⊢
    rw [hb.block b (hlt _ hx)]
    exact hz'

end Go.Ost

/- From a contract of the kit's shelf to one over chunks. Conditions: as each says. -/
set_option linter.unusedSimpArgs false
set_option linter.unusedVariables false
namespace Go.Ost
open Go Go.RowKit

variable {P : Program}

/-- The chunk is one block, that may be written over so many cells. -/
def Loose (C : Chunk) (a : Option Addr) (n : Nat) : Prop := 0 < n → ∃ b cs e lo hi, a = some ⟨b, 0, none⟩ ∧ C = [(b, .cells cs e (lo, hi))] ∧ ∀ i, i < n → ¬ (lo ≤ i ∧ i < hi)
/-- A slice of bytes that is new, beside R. -/
def Got8 (bs : List UInt8) (R : State) (v : Value) (A : State) : Prop := ∃ C a cap, v = .slice a bs.length cap ∧ bs.length ≤ cap ∧ Rd 1 [C] a bs.length (bs.map b8) ∧ Loose C a bs.length ∧ A = C :: R

theorem meets_of_calls {f : FuncId} {fn : Func} {args : List Value} {A : State} {R : Value → State → Prop} (hf : P.funcs[f]? = some fn) (hb : fn.body.isSome = true) (hn : (fn.name != "runtime.NumGoroutine") = true)
    (h : ∀ w, Hold w A → Calls P f args.toArray w fun e w' => ∃ v, e = .returned v ∧ Below w.heap.size w w' ∧ ∃ C : Chunk, (∀ k o, (k, o) ∈ C → w.heap.size ≤ k ∧ w'.heap[k]? = some o) ∧ (C.map (·.1)).Nodup ∧ R v (C :: A)) : Meets P f args A R := by
  refine ⟨?_, fun F w hw => ?_⟩
  · obtain ⟨c, hc⟩ := Option.isSome_iff_exists.1 hb
    simp [callable, hf, hc]; simpa using hn
  · have hA : Hold w A := hw.sub (by simp)
    refine (callsIn_wide.2 (h w hA)).mono ?_
    rintro e w' ⟨v, rfl, hbe, C, hC, hnd, hR⟩
    refine ⟨v, F :: C :: A, rfl, ⟨hbe.os, hbe.tape, hbe.output, hbe.size⟩, ?_, C :: A, rfl, hR⟩
    have hall : Hold w' (C :: F :: A) := by
      refine ⟨?_, fun k o hm => ?_⟩
      · simp only [List.flatten_cons, List.map_append]
        rw [List.nodup_append]
        refine ⟨hnd, by have := hw.nd; simpa only [List.flatten_cons, List.map_append] using this, ?_⟩
        intro x hx y hy hxy
        obtain ⟨⟨k, o⟩, hk, rfl⟩ := List.mem_map.1 hx
        have h1 := (hC k o hk).1
        have hy' : y ∈ ((F :: A).flatten.map (·.1)) := by simpa only [List.flatten_cons, List.map_append] using hy
        obtain ⟨⟨k2, o2⟩, hk2, e2⟩ := List.mem_map.1 hy'
        have h2 := hw.lt hk2
        simp only at e2 hxy
        omega
      · simp only [List.flatten_cons, List.mem_append] at hm
        rcases hm with hm | hm
        · exact (hC k o hm).2
        · have hm' : (k, o) ∈ (F :: A).flatten := by simpa only [List.flatten_cons, List.mem_append] using hm
          rw [hbe.block k (hw.lt hm')]
          exact hw.get k o hm'
    exact hall.perm (by
      simp only [List.flatten_cons]
      rw [← List.append_assoc, ← List.append_assoc]
      exact List.Perm.append_right _ List.perm_append_comm)

theorem fresh_chunk {B : Nat} {w' : World} {v : Value} {l : List UInt8} (h : Lib.FreshBytes B w' v l) :
    ∃ C a cap, v = .slice a l.length cap ∧ l.length ≤ cap ∧ (∀ k o, (k, o) ∈ C → B ≤ k ∧ w'.heap[k]? = some o) ∧ (C.map (·.1)).Nodup ∧ Rd 1 [C] a l.length (l.map b8) ∧ Loose C a l.length := by
  obtain ⟨g, cap, zs, rfl, hg, hle, _, hz, hr, hb, hc, hf⟩ := h
  by_cases h0 : l.length = 0
  · have : l = [] := List.length_eq_zero_iff.1 h0
    subst this
    exact ⟨[], _, cap, rfl, hle, fun k o hm => (by cases hm), by simp, Rd.nil, fun h => absurd h (by simp)⟩
  · have hc0 := hc 0 (by omega)
    unfold World.cell? at hc0
    cases hob : w'.heap[g]? with
    | none => simp [hob] at hc0
    | some ob =>
      cases ob with
      | cells cs e m =>
        obtain ⟨lo, hi⟩ := m
        refine ⟨[(g, .cells cs e (lo, hi))], _, cap, rfl, hle, fun k o hm => ?_, by simp, ⟨by simp, fun _ => ⟨g, 0, cs, e, (lo, hi), rfl, Lies.one, fun i hi' => ?_⟩⟩, fun _ => ⟨g, cs, e, lo, hi, rfl, rfl, fun i hi' => ?_⟩⟩
        · simp only [List.mem_singleton, Prod.mk.injEq] at hm
          obtain ⟨rfl, rfl⟩ := hm
          exact ⟨hg, hob⟩
        · simp only [List.length_map] at hi'
          have h1 := hc i (by omega)
          unfold World.cell? at h1
          simp only [hob, Option.isSome_none, Bool.false_eq_true, if_false] at h1
          rw [Nat.zero_add, h1]
          have h2 : l[i]? = some (UInt8.ofNat (zs.getD i 0).toNat) := by
            rw [← hb]
            simp only [Lib.bytesOf, List.getElem?_map, List.getElem?_take, if_pos hi']
            rw [List.getElem?_eq_getElem (by omega), List.getD, List.getElem?_eq_getElem (by omega)]; rfl
          have h3 := hr (zs.getD i 0) (by
            rw [List.getD, List.getElem?_eq_getElem (by omega)]
            exact List.getElem_mem _)
          rw [List.getElem?_map, h2]
          simp only [Option.map_some, b8, UInt8.toNat_ofNat']
          congr 2; omega
        · have h1 := hf i (by omega)
          unfold World.frozen? at h1
          simp only [hob] at h1
          intro hlt
          simp [hlt.1, hlt.2] at h1
      | _ => simp [hob] at hc0

/-- Slices of bytes in a row. -/
def Parts (A : State) (a : Option Addr) (n : Nat) (ls : List (List UInt8)) : Prop :=
  ls.length = n ∧ ∃ vs : List Value, Rd 1 A a n vs ∧ ∀ (i : Nat) (v : Value) (l : List UInt8), vs[i]? = some v → ls[i]? = some l → ∃ p c, v = .slice p l.length c ∧ l.length ≤ c ∧ Rd 1 A p l.length (l.map b8)

theorem rd_cell {S : State} {a : Option Addr} {len : Nat} {us : List Value} (h : Rd 1 S a len us) {w : World} (hw : Hold w S) {i : Nat} {v : Value} (hi : us[i]? = some v) : ∃ b o, a = some ⟨b, o, none⟩ ∧ w.cell? ⟨b, o + i, none⟩ = some v := by
  have hlt := (List.getElem?_eq_some_iff.1 hi).1
  obtain ⟨b, o, cs, e, m, rfl, hl, hc⟩ := h.2 (by intro e; subst e; simp at hi)
  exact ⟨b, o, rfl, by rw [cell_of (hl.get hw), hc i hlt, hi]⟩
theorem holds_of {S : State} {p : Option Addr} {c : Nat} {l : List UInt8} (h : Rd 1 S p l.length (l.map b8)) {w : World} (hw : Hold w S) : Lib.HoldsBytes w (.slice p l.length c) l := by
  refine ⟨p, c, rfl, fun hp => ?_, fun a ha i x hx => ?_⟩
  · subst hp
    cases l with
    | nil => rfl
    | cons x l => obtain ⟨_, _, _, _, _, h3, _⟩ := h.2 (by simp); cases h3
  · obtain ⟨b, o, e, hc⟩ := rd_cell h hw (i := i) (v := b8 x) (by simp [hx])
    subst ha
    cases e
    rw [add_mk]
    exact hc

/-- The same blocks, otherwise in chunks. -/
theorem Meets.perm {f : FuncId} {args : List Value} {A B : State} {R R' : Value → State → Prop} (h : Meets P f args A R) (hAB : B.flatten.Perm A.flatten) (hR : ∀ v A', R v A' → ∃ B', A'.flatten.Perm B'.flatten ∧ R' v B') : Meets P f args B R' := by
  refine ⟨h.1, fun F w hw => (h.2 F w (hw.perm (by simp only [List.flatten_cons]; exact hAB.append_left F))).mono ?_⟩
  rintro e w' ⟨v, S, rfl, he, hh, A', rfl, hr⟩
  obtain ⟨B', hp, hr'⟩ := hR v A' hr
  exact ⟨v, F :: B', rfl, he, hh.perm (by simp only [List.flatten_cons]; exact hp.append_left F), B', rfl, hr'⟩

end Go.Ost

/- Slices of slices of bytes, as the reading ahead of the call has them. Conditions: as each says. -/
set_option linter.unusedSimpArgs false
set_option linter.unusedVariables false
namespace Go.Ost
open Go Go.ChangeShapes Go.WideShapes Go.ChangeAt Go.RowKit Go.Deep

variable {P : Program}

def RowS (C : Chunk) (v : Value) (ls : List (List UInt8)) : Prop := ∃ a cap, v = .slice a ls.length cap ∧ ls.length ≤ cap ∧ cap ≤ maxLen ∧ Parts [C] a ls.length ls

theorem cell_block {w : World} {a : Addr} {v : Value} (h : w.cell? a = some v) : ∃ b o cs e m, a = ⟨b, o, none⟩ ∧ w.heap[b]? = some (.cells cs e m) := by
  unfold World.cell? at h
  split at h
  · rename_i c t fr hb
    split at h
    · cases h
    · rename_i hs
      obtain ⟨b, o, sp⟩ := a
      cases sp with
      | none => exact ⟨b, o, c, t, fr, rfl, hb⟩
      | some s => simp at hs
  · cases h
/-- Cells of a world, one behind the other, as a chunk's. -/
theorem rd_cells {w : World} {a : Addr} {us : List Value} {C : Chunk} (hC : ∀ k o, w.heap[k]? = some o → (k, o) ∈ C) (h : ∀ i v, us[i]? = some v → w.cell? (a.add i) = some v) : Rd 1 [C] (some a) us.length us := by
  refine ⟨by simp, fun hne => ?_⟩
  obtain ⟨u, us', rfl⟩ := List.exists_cons_of_ne_nil hne
  have h0 := h 0 u rfl
  obtain ⟨b, o', cs, e, m, he, hb⟩ := cell_block h0
  obtain ⟨ba, o, sp⟩ := a
  cases sp with
  | some s =>
    exfalso
    have hx : (Addr.add ⟨ba, o, some s⟩ 0).spot.isSome = true := by simp [Addr.add]
    rw [he] at hx; cases hx
  | none =>
    rw [add_mk] at he
    obtain ⟨hb1, ho1⟩ : b = ba ∧ o' = o := by cases he; exact ⟨rfl, rfl⟩
    subst hb1 ho1
    refine ⟨_, _, cs, e, m, rfl, .here (hC _ _ hb), fun i hi => ?_⟩
    have hu := h i _ (List.getElem?_eq_getElem hi)
    rw [add_mk, cell_of hb] at hu
    rw [hu, List.getElem?_eq_getElem hi]

theorem open_slcs {H : Type} {enc : TypeId × Value → H} {W : World} {base : Nat} {t e q : TypeId} {v : Value} {d : DataW H} {ps : List MemPlace} (ht : P.underlying t = some (.slice e)) (he : P.underlying e = some (.slice q)) (hq : P.underlying q = some (.int .u8)) (ce : P.cellsOf e = 1) (cq : P.cellsOf q = 1)
    (hval : Value.okWide P W .any base t v) (h : DataW.Trod enc P W 0 (fun _ => true) true t v d ps) :
    ∃ ls, ∀ C : Chunk, (∀ k o, W.heap[k]? = some o → (k, o) ∈ C) → RowS C v ls := by
  obtain ⟨a0, len0, cap0, rfl⟩ := okWide_slice ht hval
  obtain ⟨fuel, hf⟩ := h
  rcases open_int_rows ht he hq ce cq hf with ⟨hcs, hx⟩ | ⟨a, len, cap, A, L, Cp, Z, hcs, _, hle, hmax, hx, hall⟩
  · simp [Value.cells] at hcs
    obtain ⟨rfl, rfl, rfl⟩ := hcs
    exact ⟨[], fun C hC => ⟨none, 0, rfl, Nat.le_refl _, Nat.zero_le _, rfl, [], Rd.nil, fun i v l hv => by simp at hv⟩⟩
  · simp [Value.cells] at hcs
    obtain ⟨rfl, rfl, rfl⟩ := hcs
    refine ⟨(List.range len0).map fun r => ((Z r).take (L r)).map fun z => UInt8.ofNat z.toNat, fun C hC => ⟨some a, cap0, by simp, by simpa using hle, hmax, rfl, (List.range len0).map fun r => .slice (A r) (L r) (Cp r), ?_, ?_⟩⟩
    · have q := rd_cells (w := W) (a := a) (us := (List.range len0).map fun r => Value.slice (A r) (L r) (Cp r)) hC (fun i v hv => by
        rw [List.getElem?_map] at hv
        by_cases hi : i < len0
        · rw [List.getElem?_range hi] at hv
          simp only [Option.map_some, Option.some.injEq] at hv
          rw [← hv]; exact (hall i (by omega)).1
        · rw [List.getElem?_eq_none (by simp; omega)] at hv; cases hv)
      simpa using q
    · intro i v l hv hl
      rw [List.getElem?_map] at hv hl
      by_cases hi : i < len0
      · rw [List.getElem?_range hi] at hv hl
        simp only [Option.map_some, Option.some.injEq] at hv hl
        obtain ⟨_, h2, _, h4, h5, h6, h7⟩ := hall i (by omega)
        subst hv hl
        have hlen : (((Z i).take (L i)).map fun z => UInt8.ofNat z.toNat).length = L i := by simp; omega
        refine ⟨A i, Cp i, by rw [hlen], by rw [hlen]; exact h2, ?_⟩
        cases hA : A i with
        | none =>
          have : L i = 0 := by have := h6 hA; omega
          have h0 : (((Z i).take (L i)).map fun z => UInt8.ofNat z.toNat) = [] := List.length_eq_zero_iff.1 (by rw [hlen, this])
          rw [h0]; exact Rd.nil
        | some a' =>
          have q := rd_cells (w := W) (a := a') (us := (((Z i).take (L i)).map fun z => UInt8.ofNat z.toNat).map b8) hC (fun c v hv => by
            simp only [List.getElem?_map, List.getElem?_take] at hv
            by_cases hc : c < L i
            · rw [if_pos hc, List.getElem?_eq_getElem (by omega)] at hv
              simp only [Option.map_some, Option.some.injEq] at hv
              rw [(h7 a' hA).2 c (by omega), ← hv]
              have hw := h5 (Z i)[c] (List.getElem_mem _)
              simp only [Lit.wf, Bool.and_eq_true, decide_eq_true_eq] at hw
              have hw2 : 0 ≤ (Z i)[c] ∧ (Z i)[c] ≤ 255 := ⟨hw.1, hw.2⟩
              rw [List.getD, List.getElem?_eq_getElem (by omega)]
              simp only [Option.getD_some, b8, UInt8.toNat_ofNat']
              congr 2; omega
            · rw [if_neg hc] at hv; simp at hv)
          rw [List.length_map] at q
          exact q
      · rw [List.getElem?_eq_none (by simp; omega)] at hv; cases hv

end Go.Ost

/- Slices of structures, as the reading ahead of the call has them. Conditions: as each says. -/
set_option linter.unusedSimpArgs false
set_option linter.unusedVariables false
namespace Go.Ost
open Go Go.ChangeShapes Go.WideShapes Go.ChangeAt Go.RowKit Go.Deep

variable {P : Program}

inductive FK | int (k : IntKind) | str | bool | bytes
def FieldW (C : Chunk) : FK → Value → Prop
  | .int k, v => ∃ z, v = .int k z ∧ (Lit.int k z).wf = true
  | .str, v => ∃ l : List UInt8, v = .string (str l) ∧ l.length ≤ maxLen
  | .bool, v => ∃ b, v = .bool b
  | .bytes, v => ∃ (a : Option Addr) (c : Nat) (bs : List UInt8), v = .slice a bs.length c ∧ bs.length ≤ c ∧ c ≤ maxLen ∧ Rd 1 [C] a bs.length (bs.map b8)
def RowW (C : Chunk) : List FK → List Value → Prop
  | [], [] => True
  | k :: ks, v :: vs => FieldW C k v ∧ RowW C ks vs
  | _, _ => False
def RowsK (C : Chunk) (ks : List FK) (v : Value) (rows : List (List Value)) : Prop :=
  ∃ a cap, v = .slice a rows.length cap ∧ rows.length ≤ cap ∧ cap ≤ maxLen ∧ Rd ks.length [C] a rows.length rows.flatten ∧ ∀ r ∈ rows, RowW C ks r

def fkB (P : Program) (t : TypeId) : FK → Bool
  | .int k => match P.underlying t with | some (.int k') => k' == k && P.cellsOf t == 1 | _ => false
  | .str => match P.underlying t with | some .string => P.cellsOf t == 1 | _ => false
  | .bool => match P.underlying t with | some .bool => P.cellsOf t == 1 | _ => false
  | .bytes => match P.underlying t with | some (.slice e) => (match P.underlying e with | some (.int k) => k == .u8 && P.cellsOf e == 1 && P.cellsOf t == 1 | _ => false) | _ => false
def fieldsB (P : Program) : Nat → List Field → List FK → Bool
  | _, [], [] => true
  | i, f :: fs, k :: ks => f.offset == i && (fkB P f.type k && fieldsB P (i + 1) fs ks)
  | _, _, _ => false
def rowB (P : Program) (e : TypeId) (ks : List FK) : Bool :=
  match P.underlying e with
  | some (.struct fs) => fieldsB P 0 fs.toList ks && (P.cellsOf e == ks.length && decide (0 < ks.length))
  | _ => false

section
variable {H : Type} {enc : TypeId × Value → H} {W : World} {C : Chunk}

theorem bytes_field {t e : TypeId} {fuel : Nat} {cs : List Value} {x : DataW H × List MemPlace} (ht : P.underlying t = some (.slice e)) (he : P.underlying e = some (.int .u8)) (hc : P.cellsOf e = 1) (hC : ∀ k o, W.heap[k]? = some o → (k, o) ∈ C)
    (h : DataW.trod enc P W 0 (fun _ => true) true fuel t cs = some x) : ∃ v, cs = [v] ∧ FieldW C .bytes v := by
  rcases open_ints ht he hc h with ⟨hcs, _⟩ | ⟨a, len, cap, zs, hcs, _, hle, hmax, hall, hx, hcell, hwf⟩
  · exact ⟨_, hcs, none, 0, [], rfl, Nat.le_refl _, Nat.zero_le _, Rd.nil⟩
  · simp only [if_true] at hall
    have hl : ((zs.take len).map fun z => UInt8.ofNat z.toNat).length = len := by simp; omega
    refine ⟨_, hcs, some a, cap, (zs.take len).map fun z => UInt8.ofNat z.toNat, by rw [hl], by rw [hl]; exact hle, hmax, ?_⟩
    have q := rd_cells (w := W) (a := a) (us := ((zs.take len).map fun z => UInt8.ofNat z.toNat).map b8) hC (fun c v hv => by
      simp only [List.getElem?_map, List.getElem?_take] at hv
      by_cases hc : c < len
      · rw [if_pos hc, List.getElem?_eq_getElem (by omega)] at hv
        simp only [Option.map_some, Option.some.injEq] at hv
        rw [hcell c (by omega), ← hv]
        have hw := hwf zs[c] (List.getElem_mem _)
        simp only [Lit.wf, Bool.and_eq_true, decide_eq_true_eq] at hw
        have hw2 : 0 ≤ zs[c] ∧ zs[c] ≤ 255 := ⟨hw.1, hw.2⟩
        rw [List.getD, List.getElem?_eq_getElem (by omega)]
        simp only [Option.getD_some, b8, UInt8.toNat_ofNat']
        congr 2; omega
      · rw [if_neg hc] at hv; simp at hv)
    rw [List.length_map] at q
    exact q

theorem one_field {t : TypeId} {k : FK} {fuel : Nat} {cs : List Value} {x : DataW H × List MemPlace} (hk : fkB P t k = true) (hC : ∀ k o, W.heap[k]? = some o → (k, o) ∈ C) (h : DataW.trod enc P W 0 (fun _ => true) true fuel t cs = some x) :
    ∃ v, cs = [v] ∧ FieldW C k v ∧ P.cellsOf t = 1 := by
  cases k with
  | int k =>
    simp only [fkB] at hk
    split at hk
    · rename_i k' hu
      simp only [Bool.and_eq_true, beq_iff_eq] at hk
      obtain ⟨rfl, hc⟩ := hk
      obtain ⟨n, rfl, _, hw⟩ := DataW.trod_int hu h
      exact ⟨_, rfl, ⟨n, rfl, hw⟩, hc⟩
    · cases hk
  | str =>
    simp only [fkB] at hk
    split at hk
    · rename_i hu
      simp only [beq_iff_eq] at hk
      obtain ⟨s, rfl, _, hw⟩ := DataW.trod_string hu h
      exact ⟨_, rfl, ⟨s.data.toList, rfl, by simpa using hw⟩, hk⟩
    · cases hk
  | bool =>
    simp only [fkB] at hk
    split at hk
    · rename_i hu
      simp only [beq_iff_eq] at hk
      obtain ⟨b, rfl, _⟩ := DataW.trod_bool hu h
      exact ⟨_, rfl, ⟨b, rfl⟩, hk⟩
    · cases hk
  | bytes =>
    simp only [fkB] at hk
    split at hk
    · rename_i e hu
      split at hk
      · rename_i k' hu2
        simp only [Bool.and_eq_true, beq_iff_eq] at hk
        obtain ⟨⟨rfl, h1⟩, h2⟩ := hk
        obtain ⟨v, h3, h4⟩ := bytes_field hu hu2 h1 hC h
        exact ⟨v, h3, h4, h2⟩
      · cases hk
    · cases hk

theorem fields_row (hC : ∀ k o, W.heap[k]? = some o → (k, o) ∈ C) {cs : List Value} {n : Nat} : ∀ (fs : List Field) (ks : List FK) (i : Nat), fieldsB P i fs ks = true → cs.length = i + ks.length →
    (∀ (j : Nat) (f : Field), fs[j]? = some f → ∃ x, DataW.trod enc P W 0 (fun _ => true) true n f.type ((cs.drop f.offset).take (P.cellsOf f.type)) = some x) → RowW C ks (cs.drop i)
  | [], [], i, _, hl, _ => by rw [List.drop_of_length_le (by simpa using Nat.le_of_eq hl)]; trivial
  | [], _ :: _, _, h, _, _ => by cases h
  | _ :: _, [], _, h, _, _ => by cases h
  | f :: fs, k :: ks, i, h, hl, hf => by
    simp only [fieldsB, Bool.and_eq_true, beq_iff_eq] at h
    obtain ⟨ho, hk, hr⟩ := h
    obtain ⟨x, hx⟩ := hf 0 f rfl
    obtain ⟨v, h1, h2, h3⟩ := one_field hk hC hx
    rw [h3, ho] at h1
    have hi : i < cs.length := by rw [hl]; simp
    rw [List.drop_eq_getElem_cons hi] at h1 ⊢
    simp only [List.take_succ_cons, List.take_zero, List.cons.injEq, and_true] at h1
    rw [h1]
    exact ⟨h2, fields_row hC fs ks (i + 1) hr (by rw [hl, List.length_cons]; omega) fun j g hg => hf (j + 1) g hg⟩

theorem open_rows {base : Nat} {t e : TypeId} {ks : List FK} {v : Value} {d : DataW H} {ps : List MemPlace} (ht : P.underlying t = some (.slice e)) (hr : rowB P e ks = true) (hval : Value.okWide P W .any base t v)
    (h : DataW.Trod enc P W 0 (fun _ => true) true t v d ps) : ∃ rows, ∀ C : Chunk, (∀ k o, W.heap[k]? = some o → (k, o) ∈ C) → RowsK C ks v rows := by
  obtain ⟨a0, len0, cap0, rfl⟩ := okWide_slice ht hval
  obtain ⟨fuel, hf⟩ := h
  unfold rowB at hr
  split at hr
  · rename_i fs hu
    simp only [Bool.and_eq_true, beq_iff_eq, decide_eq_true_eq] at hr
    obtain ⟨hfs, hce, hpos⟩ := hr
    rcases DataW.trod_slice ht hf with ⟨hcs, _⟩ | ⟨a, len, cap, elems, rest, n, _, hcs, _, _, hle, hmax, hlen, hel, _⟩
    · simp [Value.cells] at hcs
      obtain ⟨rfl, rfl, rfl⟩ := hcs
      exact ⟨[], fun C hC => ⟨none, 0, rfl, Nat.le_refl _, Nat.zero_le _, ⟨by simp, by simp⟩, by simp⟩⟩
    · simp [Value.cells] at hcs
      obtain ⟨rfl, rfl, rfl⟩ := hcs
      have key : ∀ i, i < len0 → ∃ cs y, W.cells? 0 (a.add (i * ks.length)) ks.length = some cs ∧ DataW.trod enc P W 0 (fun _ => true) true n e cs = some y := by
        intro i hi
        have h1 := hel i hi
        rw [hce, List.getElem?_eq_getElem (by omega), Option.bind_eq_some_iff] at h1
        obtain ⟨cs, h2, h3⟩ := h1
        exact ⟨cs, _, h2, h3⟩
      let g : Nat → List Value := fun i => if i < len0 then (W.cells? 0 (a.add (i * ks.length)) ks.length).getD [] else List.replicate ks.length undef
      have hg : ∀ i, i < len0 → W.cells? 0 (a.add (i * ks.length)) ks.length = some (g i) := by
        intro i hi
        obtain ⟨cs, _, h1, _⟩ := key i hi
        simp only [g, if_pos hi, h1, Option.getD_some]
      have hgl : ∀ i, (g i).length = ks.length := by
        intro i
        by_cases hi : i < len0
        · exact (World.cells?_some (hg i hi)).2.1
        · simp only [g, if_neg hi, List.length_replicate]
      refine ⟨(List.range len0).map g, fun C hC => ⟨some a, cap0, by simp, by simpa using hle, hmax, ⟨?_, ?_⟩, ?_⟩⟩
      · rw [← List.flatMap_def, flat_len g ks.length hgl]; simp
      · intro hne
        refine (rd_cells (w := W) (a := a) (us := ((List.range len0).map g).flatten) hC (fun i v hv => ?_)).2 hne
        rw [← List.flatMap_def] at hv
        have hi := (List.getElem?_eq_some_iff.1 hv).1
        rw [flat_len g ks.length hgl, List.length_range] at hi
        have hq : i / ks.length < len0 := Nat.div_lt_of_lt_mul (by rw [Nat.mul_comm]; exact hi)
        have hm : i % ks.length < ks.length := Nat.mod_lt _ hpos
        have hdm : i / ks.length * ks.length + i % ks.length = i := by rw [Nat.mul_comm]; exact Nat.div_add_mod i ks.length
        have h1 := flat_get g ks.length hgl (List.range len0) (i / ks.length) (i % ks.length) (by simpa using hq) hm
        rw [hdm, hv, List.getElem_range] at h1
        have h2 := (World.cells?_some (hg _ hq)).2.2 _ hm
        rw [add_add, hdm] at h2
        rw [h2, h1]
      · intro r hr
        obtain ⟨i, hi, rfl⟩ := List.mem_map.1 hr
        have hi := List.mem_range.1 hi
        obtain ⟨cs, y, h1, h2⟩ := key i hi
        have e1 : cs = g i := by have := hg i hi; rw [h1] at this; exact Option.some.inj this
        subst e1
        obtain ⟨xs, m, rfl, _, _, hxl, hfld⟩ := DataW.trod_struct hu h2
        have := fields_row (enc := enc) (P := P) hC (cs := g i) (n := m) fs.toList ks 0 hfs (by rw [hgl]; omega) (fun j f hj => by
          have hj' : fs[j]? = some f := by simpa using hj
          have := hfld j f hj'
          have hjl : j < xs.length := by rw [hxl]; exact (Array.getElem?_eq_some_iff.1 hj').1
          rw [List.getElem?_eq_getElem hjl] at this
          exact ⟨_, this⟩)
        simpa using this
  · cases hr
end

end Go.Ost

/- Parts of elements: a structure within a structure. Conditions: as each says. -/
set_option linter.unusedSimpArgs false
set_option linter.unusedVariables false
namespace Go.Ost
open Go

variable {P : Program}

section rows
variable {α : Type} (enc : α → List Value) (s : Nat) (hs : ∀ x, (enc x).length = s)
include hs
theorem flat_parts (l : List α) (i : Nat) (h : i < l.length) : l.flatMap enc = (l.take i).flatMap enc ++ (enc l[i] ++ (l.drop (i + 1)).flatMap enc) ∧ ((l.take i).flatMap enc).length = i * s := by
  refine ⟨?_, ?_⟩
  · conv => lhs; rw [← List.take_append_drop i l, List.flatMap_append, List.drop_eq_getElem_cons h, List.flatMap_cons]
  · rw [flat_len enc s hs, List.length_take]; congr 1; omega
theorem flat_sub (l : List α) (i off n : Nat) (h : i < l.length) (hn : off + n ≤ s) : ((l.flatMap enc).drop (i * s + off)).take n = ((enc l[i]).drop off).take n := by
  obtain ⟨e1, e2⟩ := flat_parts enc s hs l i h
  rw [e1, ← e2, ← List.drop_drop, List.drop_left' rfl, List.drop_append_of_le_length (by rw [hs]; omega), List.take_append_of_le_length (by rw [List.length_drop, hs]; omega)]
theorem flat_setL_sub (l : List α) (i off : Nat) (vs : List Value) (h : i < l.length) (hn : off + vs.length ≤ s) (x' : α) (hx : (enc l[i]).take off ++ (vs ++ (enc l[i]).drop (off + vs.length)) = enc x') :
    setL (l.flatMap enc) (i * s + off) vs = (l.set i x').flatMap enc := by
  obtain ⟨e1, e2⟩ := flat_parts enc s hs l i h
  have e3 : enc l[i] = (enc l[i]).take off ++ (((enc l[i]).drop off).take vs.length ++ (enc l[i]).drop (off + vs.length)) := by
    conv => lhs; rw [← List.take_append_drop off (enc l[i]), ← List.take_append_drop vs.length ((enc l[i]).drop off), List.drop_drop]
  have e4 : l.flatMap enc = ((l.take i).flatMap enc ++ (enc l[i]).take off) ++ (((enc l[i]).drop off).take vs.length ++ ((enc l[i]).drop (off + vs.length) ++ (l.drop (i + 1)).flatMap enc)) := by
    rw [e1]; conv => lhs; rw [e3]
    simp only [List.append_assoc]
  have e5 : ((l.take i).flatMap enc ++ (enc l[i]).take off).length = i * s + off := by
    rw [List.length_append, e2, List.length_take, hs]; omega
  rw [e4, ← e5, setL_app vs _ _ _ (by rw [List.length_take, List.length_drop, hs]; omega), List.set_eq_take_append_cons_drop, if_pos h, List.flatMap_append, List.flatMap_cons, ← hx]
  simp only [List.append_assoc]
end rows

section facts
variable {a : Option Addr} {len cap : Nat} {H : Chunk} {κ : Value → Prop} {t e' : TypeId} {z : Value} {s n b2 : Nat} {α : Type} {enc : α → List Value} {l : List α} {x x' : α} {i off : Nat} {S G : State} {vs : List Value}
theorem load_el_sub [TDeep P t] [TSized P t z n b2] (ho : Own s e' H a len cap (l.flatMap enc)) (hs : ∀ x, (enc x).length = s) (hx : l[i]? = some x) (h0 : 0 < n) (hn : off + n ≤ s) (hw : ((enc x).drop off).take n = vs) (hH : H ∈ S) (q : κ (.agg vs.toArray)) :
    ReadW P (Instr.loadAt t (.pointer (some (elA a (i * s + off))))) S κ := by
  have hi := (List.getElem?_eq_some_iff.1 hx).1
  refine el_load_agg (ho.rd hH) h0 ?_ ?_
  · rw [flat_len enc s hs]
    have : (i + 1) * s ≤ l.length * s := Nat.mul_le_mul_right s hi
    rw [Nat.add_mul] at this; omega
  · rw [flat_sub enc s hs l i off n hi hn, List.getElem?_eq_some_iff.1 hx |>.2, hw]; exact q
theorem store_el_sub {κ : State → Prop} [TSized P t z n b2] (ho : Own s e' H a len cap (l.flatMap enc)) (hp : Pick H S G) (hs : ∀ x, (enc x).length = s) (hx : l[i]? = some x) (h0 : 0 < n) (hvs : vs.length = n) (hc : ∀ u ∈ vs, Value.cell1 u) (hn : off + n ≤ s)
    (hv : (enc x).take off ++ (vs ++ (enc x).drop (off + n)) = enc x') (q : ∀ C', Own s e' C' a len cap ((l.set i x').flatMap enc) → κ (C' :: G)) : UnitW P (Instr.storeAt t (.pointer (some (elA a (i * s + off)))) (.agg vs.toArray)) S κ := by
  have hi := (List.getElem?_eq_some_iff.1 hx).1
  refine own_store_agg ho hp h0 hvs hc ?_ (fun C' h => q C' ?_)
  · rw [flat_len enc s hs]
    have : (i + 1) * s ≤ l.length * s := Nat.mul_le_mul_right s hi
    rw [Nat.add_mul] at this; omega
  · rw [flat_setL_sub enc s hs l i off vs hi (by omega) x' (by rw [List.getElem?_eq_some_iff.1 hx |>.2, hvs]; exact hv)] at h
    exact h
theorem load_rd_agg [TDeep P t] [TSized P t z s b2]
    (hr : Rd s [H] a len (l.flatMap enc)) (hs : ∀ x, (enc x).length = s) (hx : l[i]? = some x) (hp : 0 < s) (hH : H ∈ S) (q : κ (.agg (enc x).toArray)) : ReadW P (Instr.loadAt t (.pointer (some (elA a (i * s))))) S κ := by
  have hi := (List.getElem?_eq_some_iff.1 hx).1
  refine el_load_agg (hr.mem hH) hp ?_ ?_
  · rw [flat_len enc s hs]
    have : (i + 1) * s ≤ l.length * s := Nat.mul_le_mul_right s hi
    rw [Nat.add_mul] at this; omega
  · rw [flat_el enc s hs l i hi, List.getElem?_eq_some_iff.1 hx |>.2]; exact q
theorem alloc_as {κ : Value → State → Prop} {by_ : Nat} [hs : TSized P t z s by_] (cs : Array Value) (hz : z.cells = cs) (k : ∀ b : Nat, κ (.pointer (some ⟨b, 0, none⟩)) ([(b, .cells cs t (0, 0))] :: S)) : ValW P (Instr.alloc t true (.tuple #[])) S κ :=
  alloc_new fun b => by rw [hz]; exact k b
end facts

end Go.Ost

/- A structure as an argument. Conditions: as each says. -/
set_option linter.unusedSimpArgs false
set_option linter.unusedVariables false
namespace Go.Ost
open Go Go.ChangeShapes Go.WideShapes Go.ChangeAt Go.RowKit Go.Deep

variable {P : Program} {H : Type} {enc : TypeId × Value → H} {W : World}

theorem open_struct {base : Nat} {t : TypeId} {ks : List FK} {v : Value} {d : DataW H} {ps : List MemPlace} (hr : rowB P t ks = true) (hval : Value.okWide P W .any base t v)
    (h : DataW.Trod enc P W 0 (fun _ => true) true t v d ps) : ∃ vs : List Value, v = .agg vs.toArray ∧ ∀ C : Chunk, (∀ k o, W.heap[k]? = some o → (k, o) ∈ C) → RowW C ks vs := by
  obtain ⟨fuel, hf⟩ := h
  unfold rowB at hr
  split at hr
  · rename_i fs hu
    simp only [Bool.and_eq_true, beq_iff_eq, decide_eq_true_eq] at hr
    obtain ⟨hfs, hce, hpos⟩ := hr
    obtain ⟨cs, rfl, hsz⟩ := okWide_struct hu hval
    obtain ⟨xs, m, rfl, _, _, hxl, hfld⟩ := DataW.trod_struct hu hf
    refine ⟨cs.toList, by simp, fun C hC => ?_⟩
    have := fields_row (enc := enc) (P := P) hC (cs := cs.toList) (n := m) fs.toList ks 0 hfs (by rw [Array.length_toList, hsz, hce]; omega) (fun j f hj => by
      have hj' : fs[j]? = some f := by simpa using hj
      have := hfld j f hj'
      have hjl : j < xs.length := by rw [hxl]; exact (Array.getElem?_eq_some_iff.1 hj').1
      rw [List.getElem?_eq_getElem hjl] at this
      exact ⟨_, by simpa [Value.cells] using this⟩)
    simpa using this
  · cases hr

end Go.Ost

/- What the types of this program are, each by the reckoning of its tables. Conditions: none. -/
namespace Go.Proofs.Ytkgnhhpgnkkigaa
open Go.Ost
-- 3 int
instance : TInt Try.prog 3 .i64 := ⟨by kernel_rfl⟩
instance : TSized Try.prog 3 (.int .i64 0) 1 8 := ⟨by kernel_rfl⟩
instance : TFlat Try.prog 3 := ⟨by kernel_rfl⟩
-- 4 bool
instance : TBool Try.prog 4 := ⟨by kernel_rfl⟩
instance : TSized Try.prog 4 (.bool false) 1 1 := ⟨by kernel_rfl⟩
instance : TFlat Try.prog 4 := ⟨by kernel_rfl⟩
-- 5 uint8
instance : TInt Try.prog 5 .u8 := ⟨by kernel_rfl⟩
instance : TSized Try.prog 5 (.int .u8 0) 1 1 := ⟨by kernel_rfl⟩
instance : TFlat Try.prog 5 := ⟨by kernel_rfl⟩
-- 9 string
instance : TStr Try.prog 9 := ⟨by kernel_rfl⟩
instance : TSized Try.prog 9 (.string ⟨#[]⟩) 1 16 := ⟨by kernel_rfl⟩
instance : TFlat Try.prog 9 := ⟨by kernel_rfl⟩
-- 23 *table.Table[int]
instance : TPtr Try.prog 23 55 := ⟨by kernel_rfl⟩
instance : TSized Try.prog 23 (.pointer none) 1 8 := ⟨by kernel_rfl⟩
instance : TFlat Try.prog 23 := ⟨by kernel_rfl⟩
-- 24 api.Errno
instance : TInt Try.prog 24 .i64 := ⟨by kernel_rfl⟩
instance : TSized Try.prog 24 (.int .i64 0) 1 8 := ⟨by kernel_rfl⟩
instance : TFlat Try.prog 24 := ⟨by kernel_rfl⟩
-- 27 []string
instance : TSlice Try.prog 27 9 := ⟨by kernel_rfl⟩
instance : TSized Try.prog 27 (.slice none 0 0) 1 24 := ⟨by kernel_rfl⟩
instance : TFlat Try.prog 27 := ⟨by kernel_rfl⟩
-- 34 []ostiarylaw11.Op
instance : TSlice Try.prog 34 40 := ⟨by kernel_rfl⟩
instance : TSized Try.prog 34 (.slice none 0 0) 1 24 := ⟨by kernel_rfl⟩
instance : TFlat Try.prog 34 := ⟨by kernel_rfl⟩
-- 35 *ostiaryref11.Table
instance : TPtr Try.prog 35 38 := ⟨by kernel_rfl⟩
instance : TSized Try.prog 35 (.pointer none) 1 8 := ⟨by kernel_rfl⟩
instance : TFlat Try.prog 35 := ⟨by kernel_rfl⟩
-- 36 []ostiaryref11.Entry
instance : TSlice Try.prog 36 49 := ⟨by kernel_rfl⟩
instance : TSized Try.prog 36 (.slice none 0 0) 1 24 := ⟨by kernel_rfl⟩
instance : TFlat Try.prog 36 := ⟨by kernel_rfl⟩
-- 38 ostiaryref11.Table
instance : TSized Try.prog 38 (.agg #[.int .i64 0, .slice none 0 0]) 2 32 := ⟨by kernel_rfl⟩
instance : TDeep Try.prog 38 := ⟨by kernel_rfl⟩
instance : TField Try.prog 38 0 0 3 := ⟨by kernel_rfl⟩ -- Room
instance : TField Try.prog 38 1 1 36 := ⟨by kernel_rfl⟩ -- L
-- 40 ostiarylaw11.Op
instance : TSized Try.prog 40 (.agg #[.int .u8 0, .string ⟨#[]⟩, .int .i64 0]) 3 32 := ⟨by kernel_rfl⟩
instance : TDeep Try.prog 40 := ⟨by kernel_rfl⟩
instance : TField Try.prog 40 0 0 5 := ⟨by kernel_rfl⟩ -- Do
instance : TField Try.prog 40 1 1 9 := ⟨by kernel_rfl⟩ -- Key
instance : TField Try.prog 40 2 2 3 := ⟨by kernel_rfl⟩ -- V
-- 49 ostiaryref11.Entry
instance : TSized Try.prog 49 (.agg #[.string ⟨#[]⟩, .int .i64 0]) 2 24 := ⟨by kernel_rfl⟩
instance : TDeep Try.prog 49 := ⟨by kernel_rfl⟩
instance : TField Try.prog 49 0 0 9 := ⟨by kernel_rfl⟩ -- Key
instance : TField Try.prog 49 1 1 3 := ⟨by kernel_rfl⟩ -- V
-- 51 map[string]int
instance : TMap Try.prog 51 9 3 := ⟨by kernel_rfl⟩
instance : TSized Try.prog 51 (.map none) 1 8 := ⟨by kernel_rfl⟩
instance : TFlat Try.prog 51 := ⟨by kernel_rfl⟩
-- 52 []table.entry[int]
instance : TSlice Try.prog 52 58 := ⟨by kernel_rfl⟩
instance : TSized Try.prog 52 (.slice none 0 0) 1 24 := ⟨by kernel_rfl⟩
instance : TFlat Try.prog 52 := ⟨by kernel_rfl⟩
-- 53 []int
instance : TSlice Try.prog 53 3 := ⟨by kernel_rfl⟩
instance : TSized Try.prog 53 (.slice none 0 0) 1 24 := ⟨by kernel_rfl⟩
instance : TFlat Try.prog 53 := ⟨by kernel_rfl⟩
-- 55 table.Table[int]
instance : TSized Try.prog 55 (.agg #[.int .i64 0, .slice none 0 0, .slice none 0 0, .map none, .int .i64 0, .int .i64 0]) 6 80 := ⟨by kernel_rfl⟩
instance : TDeep Try.prog 55 := ⟨by kernel_rfl⟩
instance : TField Try.prog 55 0 0 3 := ⟨by kernel_rfl⟩ -- room
instance : TField Try.prog 55 1 1 52 := ⟨by kernel_rfl⟩ -- l
instance : TField Try.prog 55 2 2 53 := ⟨by kernel_rfl⟩ -- free
instance : TField Try.prog 55 3 3 51 := ⟨by kernel_rfl⟩ -- at
instance : TField Try.prog 55 4 4 3 := ⟨by kernel_rfl⟩ -- first
instance : TField Try.prog 55 5 5 3 := ⟨by kernel_rfl⟩ -- last
-- 58 table.entry[int]
instance : TSized Try.prog 58 (.agg #[.string ⟨#[]⟩, .int .i64 0, .int .i64 0, .int .i64 0]) 4 40 := ⟨by kernel_rfl⟩
instance : TDeep Try.prog 58 := ⟨by kernel_rfl⟩
instance : TField Try.prog 58 0 0 9 := ⟨by kernel_rfl⟩ -- key
instance : TField Try.prog 58 1 1 3 := ⟨by kernel_rfl⟩ -- v
instance : TField Try.prog 58 2 2 3 := ⟨by kernel_rfl⟩ -- ahead
instance : TField Try.prog 58 3 3 3 := ⟨by kernel_rfl⟩ -- next
-- 63 func(string, int) bool
instance : TSized Try.prog 63 (.nilFunc) 1 8 := ⟨by kernel_rfl⟩
instance : TFlat Try.prog 63 := ⟨by kernel_rfl⟩
end Go.Proofs.Ytkgnhhpgnkkigaa

/- A table's places, its row. Conditions: as each says. -/
set_option linter.unusedSimpArgs false
set_option linter.unusedVariables false
namespace Go.Proofs.Ytkgnhhpgnkkigaa
open Go Go.Ost Go.Tab

/-- A table's block; an entry's cells. -/
abbrev tabO (room : Int) (la : Option Addr) (ll lc : Nat) (fa : Option Addr) (fl fc r : Nat) (first last : Int) : Obj :=
  .cells #[.int .i64 room, .slice la ll lc, .slice fa fl fc, .map (some r), .int .i64 first, .int .i64 last] 55 (0, 0)
def encE (e : En Int) : List Value := [.string (str e.key), .int .i64 e.v, .int .i64 e.ahead, .int .i64 e.next]
theorem encE_len (e : En Int) : (encE e).length = 4 := rfl
abbrev OwnE (C : Chunk) (a : Option Addr) (cap : Nat) (l : List (En Int)) : Prop := Ost.Own 4 58 C a l.length cap (l.flatMap encE)
abbrev nat64 (i : Nat) : Value := .int .i64 i
abbrev IsAt (C : Chunk) (r : Nat) (m : List (List UInt8 × Nat)) : Prop := IsMap C r (mval nat64 m)

theorem place_nil (k : List UInt8) : Meets Try.prog 19 [.pointer none, .string (str k)] [] fun v A => v = .int .i64 (-1) ∧ A = [] := by
  refine spec_intro Try.func19 rfl (by kernel_rfl) (by rw [Try.ntmps19]; simp) fun F => ?_; rw [Try.ntmps19, Try.results19]
  (repeat (first | (with_reducible refine then_n ?_) | (with_reducible refine then_r ?_) | (with_reducible refine then_e ?_) | (with_reducible refine block_n ?_) | (with_reducible refine block_r ?_) | (with_reducible refine block_e ?_) | refine block_o ?_ | (with_reducible refine scope_n ?_) | (with_reducible refine scope_r ?_) | (with_reducible refine scope_e ?_) | (with_reducible refine code_seq ?_) | (with_reducible refine code_skip ?_) | (with_reducible refine code_label ?_) | (with_reducible refine code_block ?_) | (with_reducible refine code_scope ?_) | (with_reducible refine code_exit ?_) | (with_reducible refine code_ret ?_) | refine regq_to ?_ | (with_reducible refine run_nil ?_) | ((with_reducible refine run_probe ?_); refine runq_more ?_) | (with_reducible refine draw_nil ?_) | ((with_reducible refine draw_probe ?_); (first | refine drawq_more ?_ | refine drawq_as ?_)) | refine code_then ?_ | refine code_else ?_))
  refine back_tmp [] ?_; exact ⟨rfl, rfl⟩

theorem place_spec (b : Nat) (room : Int) (la : Option Addr) (ll lc : Nat) (fa : Option Addr) (fl fc r : Nat) (first last : Int) (M : Chunk) (m : List (List UInt8 × Nat)) (hm : IsAt M r m) (k : List UInt8) :
    Meets Try.prog 19 [.pointer (some ⟨b, 0, none⟩), .string (str k)] [[(b, tabO room la ll lc fa fl fc r first last)], M]
      fun v A => v = .int .i64 (match mget m k with | some i => (i : Int) | none => -1) ∧ A = [[(b, tabO room la ll lc fa fl fc r first last)], M] := by
  refine spec_intro Try.func19 rfl (by kernel_rfl) (by rw [Try.ntmps19]; simp) fun F => ?_; rw [Try.ntmps19, Try.results19]
  (repeat (first | (with_reducible refine then_n ?_) | (with_reducible refine then_r ?_) | (with_reducible refine then_e ?_) | (with_reducible refine block_n ?_) | (with_reducible refine block_r ?_) | (with_reducible refine block_e ?_) | refine block_o ?_ | (with_reducible refine scope_n ?_) | (with_reducible refine scope_r ?_) | (with_reducible refine scope_e ?_) | (with_reducible refine code_seq ?_) | (with_reducible refine code_skip ?_) | (with_reducible refine code_label ?_) | (with_reducible refine code_block ?_) | (with_reducible refine code_scope ?_) | (with_reducible refine code_exit ?_) | (with_reducible refine code_ret ?_) | refine regq_to ?_ | (with_reducible refine run_nil ?_) | ((with_reducible refine run_probe ?_); refine runq_more ?_) | (with_reducible refine draw_nil ?_) | ((with_reducible refine draw_probe ?_); (first | refine drawq_more ?_ | refine drawq_as ?_)) | refine code_then ?_ | refine code_else ?_))
  rw [mget_val]
  cases hg : mget m k with
  | none =>
    (repeat (first | (with_reducible refine then_n ?_) | (with_reducible refine then_r ?_) | (with_reducible refine then_e ?_) | (with_reducible refine block_n ?_) | (with_reducible refine block_r ?_) | (with_reducible refine block_e ?_) | refine block_o ?_ | (with_reducible refine scope_n ?_) | (with_reducible refine scope_r ?_) | (with_reducible refine scope_e ?_) | (with_reducible refine code_seq ?_) | (with_reducible refine code_skip ?_) | (with_reducible refine code_label ?_) | (with_reducible refine code_block ?_) | (with_reducible refine code_scope ?_) | (with_reducible refine code_exit ?_) | (with_reducible refine code_ret ?_) | refine regq_to ?_ | (with_reducible refine run_nil ?_) | ((with_reducible refine run_probe ?_); refine runq_more ?_) | (with_reducible refine draw_nil ?_) | ((with_reducible refine draw_probe ?_); (first | refine drawq_more ?_ | refine drawq_as ?_)) | refine code_then ?_ | refine code_else ?_))
    refine back_tmp [[(b, tabO room la ll lc fa fl fc r first last)], M] ?_; exact ⟨rfl, rfl⟩
  | some i =>
    (repeat (first | (with_reducible refine then_n ?_) | (with_reducible refine then_r ?_) | (with_reducible refine then_e ?_) | (with_reducible refine block_n ?_) | (with_reducible refine block_r ?_) | (with_reducible refine block_e ?_) | refine block_o ?_ | (with_reducible refine scope_n ?_) | (with_reducible refine scope_r ?_) | (with_reducible refine scope_e ?_) | (with_reducible refine code_seq ?_) | (with_reducible refine code_skip ?_) | (with_reducible refine code_label ?_) | (with_reducible refine code_block ?_) | (with_reducible refine code_scope ?_) | (with_reducible refine code_exit ?_) | (with_reducible refine code_ret ?_) | refine regq_to ?_ | (with_reducible refine run_nil ?_) | ((with_reducible refine run_probe ?_); refine runq_more ?_) | (with_reducible refine draw_nil ?_) | ((with_reducible refine draw_probe ?_); (first | refine drawq_more ?_ | refine drawq_as ?_)) | refine code_then ?_ | refine code_else ?_))
    refine back_tmp [[(b, tabO room la ll lc fa fl fc r first last)], M] ?_; exact ⟨rfl, rfl⟩

theorem set_modify {α : Type} (l : List α) (i : Nat) (x : α) (f : α → α) (h : l[i]? = some x) : l.set i (f x) = l.modify i f := by
  apply List.ext_getElem?
  intro j
  rw [List.getElem?_set, List.getElem?_modify]
  have hi := (List.getElem?_eq_some_iff.1 h).1
  by_cases hj : i = j
  · subst hj
    rw [if_pos rfl, if_pos hi, h]; simp
  · simp [hj]
theorem setA_set {l : List (En Int)} {i : Nat} {e : En Int} (a : Int) (h : l[i]? = some e) : l.set i { e with ahead := a } = setA l i a := set_modify l i e (fun e => { e with ahead := a }) h
theorem setN_set {l : List (En Int)} {i : Nat} {e : En Int} (a : Int) (h : l[i]? = some e) : l.set i { e with next := a } = setN l i a := set_modify l i e (fun e => { e with next := a }) h
theorem setV_set {l : List (En Int)} {i : Nat} {e : En Int} (a : Int) (h : l[i]? = some e) : l.set i { e with v := a } = setV l i a := set_modify l i e (fun e => { e with v := a }) h

theorem hang_spec (b : Nat) (room : Int) (la : Option Addr) (lc : Nat) (fa : Option Addr) (fl fc r : Nat) (first last : Int) (C : Chunk) (l : List (En Int)) (ho : OwnE C la lc l) (i : Nat) (hi : i < l.length) (hl : last = -1 ∨ ∃ j : Nat, last = j ∧ j < l.length) :
    Meets Try.prog 20 [.pointer (some ⟨b, 0, none⟩), .int .i64 i] [[(b, tabO room la l.length lc fa fl fc r first last)], C]
      fun v A => ∃ C', OwnE C' la lc (haL l i last) ∧ A = [[(b, tabO room la l.length lc fa fl fc r (haF first last i) i)], C'] := by
  have hs := encE_len
  have hx : l[i]? = some l[i] := List.getElem?_eq_getElem hi
  refine spec_intro Try.func20 rfl (by kernel_rfl) (by rw [Try.ntmps20]; simp) fun F => ?_; rw [Try.ntmps20, Try.results20]
  (repeat (first | (with_reducible refine then_n ?_) | (with_reducible refine then_r ?_) | (with_reducible refine then_e ?_) | (with_reducible refine block_n ?_) | (with_reducible refine block_r ?_) | (with_reducible refine block_e ?_) | refine block_o ?_ | (with_reducible refine scope_n ?_) | (with_reducible refine scope_r ?_) | (with_reducible refine scope_e ?_) | (with_reducible refine code_seq ?_) | (with_reducible refine code_skip ?_) | (with_reducible refine code_label ?_) | (with_reducible refine code_block ?_) | (with_reducible refine code_scope ?_) | (with_reducible refine code_exit ?_) | (with_reducible refine code_ret ?_) | refine regq_to ?_ | (with_reducible refine run_nil ?_) | ((with_reducible refine run_probe ?_); refine runq_more ?_) | (with_reducible refine draw_nil ?_) | ((with_reducible refine draw_probe ?_); (first | refine drawq_more ?_ | refine drawq_as ?_)) | refine code_then ?_ | refine code_else ?_))
  refine code_dr [[], [0], [0, 1], [0, 1, 2], [], [], [5], [5, 6], [5, 6, 7], [], [], [10], [10, 11], [10, 11, 12], [0, 1, 2, 3, 4, 5, 6, 7, 8, 10, 11, 12, 13], [0, 1, 2, 3, 4, 5, 6, 7, 8, 10, 11, 12, 13, 14], [0, 1, 2, 3, 4, 5, 6, 7, 8, 10, 11, 12, 13, 14, 15], [0, 1, 2, 3, 4, 5, 6, 7, 8, 9, 10, 11, 12, 13, 14, 15, 16], [0, 1, 2, 3, 4, 5, 6, 7, 8, 9, 10, 11, 12, 13, 14, 15, 16, 17], [0, 1, 2, 3, 4, 5, 6, 7, 8, 9, 10, 11, 12, 13, 14, 15, 16, 17, 18]] [(0, false, []), (1, false, []), (2, false, []), (3, false, []), (4, false, []), (5, false, []), (6, false, []), (7, false, []), (8, false, []), (9, false, []), (10, false, []), (11, false, []), (12, false, []), (13, false, []), (14, false, []), (15, false, []), (16, true, []), (17, false, []), (18, false, []), (19, true, [])] ?_
  (repeat (first | (with_reducible refine then_n ?_) | (with_reducible refine then_r ?_) | (with_reducible refine then_e ?_) | (with_reducible refine block_n ?_) | (with_reducible refine block_r ?_) | (with_reducible refine block_e ?_) | refine block_o ?_ | (with_reducible refine scope_n ?_) | (with_reducible refine scope_r ?_) | (with_reducible refine scope_e ?_) | (with_reducible refine code_seq ?_) | (with_reducible refine code_skip ?_) | (with_reducible refine code_label ?_) | (with_reducible refine code_block ?_) | (with_reducible refine code_scope ?_) | (with_reducible refine code_exit ?_) | (with_reducible refine code_ret ?_) | refine regq_to ?_ | (with_reducible refine run_nil ?_) | ((with_reducible refine run_probe ?_); refine runq_more ?_) | (with_reducible refine draw_nil ?_) | ((with_reducible refine draw_probe ?_); (first | refine drawq_more ?_ | refine drawq_as ?_)) | refine code_then ?_ | refine code_else ?_))
  refine draw_op fun K hK => ?_; refine store_el ho (by (repeat (first | with_reducible exact Pick.head _ _ | with_reducible apply Pick.tail))) hs hx trivial (x' := { l[i] with ahead := last }) rfl (by decide) (fun C1 ho1 => ?_); (repeat refine pendq ?_); refine hK _ _ ?_; clear hK K
  rw [setA_set last hx] at ho1
  have ho1' : OwnE C1 la lc (setA l i last) := by unfold OwnE; rw [setA_length]; exact ho1
  have hx1 := setA_eq l last hx
  have hll := setA_length l i last
  (repeat (first | (with_reducible refine then_n ?_) | (with_reducible refine then_r ?_) | (with_reducible refine then_e ?_) | (with_reducible refine block_n ?_) | (with_reducible refine block_r ?_) | (with_reducible refine block_e ?_) | refine block_o ?_ | (with_reducible refine scope_n ?_) | (with_reducible refine scope_r ?_) | (with_reducible refine scope_e ?_) | (with_reducible refine code_seq ?_) | (with_reducible refine code_skip ?_) | (with_reducible refine code_label ?_) | (with_reducible refine code_block ?_) | (with_reducible refine code_scope ?_) | (with_reducible refine code_exit ?_) | (with_reducible refine code_ret ?_) | refine regq_to ?_ | (with_reducible refine run_nil ?_) | ((with_reducible refine run_probe ?_); refine runq_more ?_) | (with_reducible refine draw_nil ?_) | ((with_reducible refine draw_probe ?_); (first | refine drawq_more ?_ | refine drawq_as ?_)) | refine code_then ?_ | refine code_else ?_))
  refine draw_op fun K hK => ?_; refine store_el ho1 (by (repeat (first | with_reducible exact Pick.head _ _ | with_reducible apply Pick.tail))) hs hx1 trivial (x' := { l[i] with ahead := last, next := -1 }) rfl (by decide) (fun C2 ho2 => ?_); (repeat refine pendq ?_); refine hK _ _ ?_; clear hK K
  have e2 : (setA l i last).set i { l[i] with ahead := last, next := -1 } = setN (setA l i last) i (-1) := setN_set (-1) hx1
  rw [e2] at ho2
  (repeat (first | (with_reducible refine then_n ?_) | (with_reducible refine then_r ?_) | (with_reducible refine then_e ?_) | (with_reducible refine block_n ?_) | (with_reducible refine block_r ?_) | (with_reducible refine block_e ?_) | refine block_o ?_ | (with_reducible refine scope_n ?_) | (with_reducible refine scope_r ?_) | (with_reducible refine scope_e ?_) | (with_reducible refine code_seq ?_) | (with_reducible refine code_skip ?_) | (with_reducible refine code_label ?_) | (with_reducible refine code_block ?_) | (with_reducible refine code_scope ?_) | (with_reducible refine code_exit ?_) | (with_reducible refine code_ret ?_) | refine regq_to ?_ | (with_reducible refine run_nil ?_) | ((with_reducible refine run_probe ?_); refine runq_more ?_) | (with_reducible refine draw_nil ?_) | ((with_reducible refine draw_probe ?_); (first | refine drawq_more ?_ | refine drawq_as ?_)) | refine code_then ?_ | refine code_else ?_))
  rcases hl with rfl | ⟨j, rfl, hj⟩
  · (repeat (first | (with_reducible refine then_n ?_) | (with_reducible refine then_r ?_) | (with_reducible refine then_e ?_) | (with_reducible refine block_n ?_) | (with_reducible refine block_r ?_) | (with_reducible refine block_e ?_) | refine block_o ?_ | (with_reducible refine scope_n ?_) | (with_reducible refine scope_r ?_) | (with_reducible refine scope_e ?_) | (with_reducible refine code_seq ?_) | (with_reducible refine code_skip ?_) | (with_reducible refine code_label ?_) | (with_reducible refine code_block ?_) | (with_reducible refine code_scope ?_) | (with_reducible refine code_exit ?_) | (with_reducible refine code_ret ?_) | refine regq_to ?_ | (with_reducible refine run_nil ?_) | ((with_reducible refine run_probe ?_); refine runq_more ?_) | (with_reducible refine draw_nil ?_) | ((with_reducible refine draw_probe ?_); (first | refine drawq_more ?_ | refine drawq_as ?_)) | refine code_then ?_ | refine code_else ?_))
    refine back_none_n [[(b, tabO room la l.length lc fa fl fc r i i)], C2] ⟨C2, ?_, rfl⟩
    unfold OwnE; rw [haL_length]; exact ho2
  · (repeat (first | (with_reducible refine then_n ?_) | (with_reducible refine then_r ?_) | (with_reducible refine then_e ?_) | (with_reducible refine block_n ?_) | (with_reducible refine block_r ?_) | (with_reducible refine block_e ?_) | refine block_o ?_ | (with_reducible refine scope_n ?_) | (with_reducible refine scope_r ?_) | (with_reducible refine scope_e ?_) | (with_reducible refine code_seq ?_) | (with_reducible refine code_skip ?_) | (with_reducible refine code_label ?_) | (with_reducible refine code_block ?_) | (with_reducible refine code_scope ?_) | (with_reducible refine code_exit ?_) | (with_reducible refine code_ret ?_) | refine regq_to ?_ | (with_reducible refine run_nil ?_) | ((with_reducible refine run_probe ?_); refine runq_more ?_) | (with_reducible refine draw_nil ?_) | ((with_reducible refine draw_probe ?_); (first | refine drawq_more ?_ | refine drawq_as ?_)) | refine code_then ?_ | refine code_else ?_))
    refine code_dr [[], [0], [0, 1], [0, 1, 2], [], [4], [4, 5], [4, 5, 6], [], [0, 1, 2, 3, 4, 5, 6, 7, 8], [0, 1, 2, 3, 4, 5, 6, 7, 8, 9], [0, 1, 2, 3, 4, 5, 6, 7, 8, 9, 10]] [(0, false, []), (1, false, []), (2, false, []), (3, false, []), (4, false, []), (5, false, []), (6, false, []), (7, false, []), (8, false, []), (9, false, []), (10, false, []), (11, true, [])] ?_
    have hlj : j < (setN (setA l i j) i (-1)).length := by rw [setN_length, setA_length]; exact hj
    have hxj : (setN (setA l i j) i (-1))[j]? = some (setN (setA l i j) i (-1))[j] := List.getElem?_eq_getElem hlj
    (repeat (first | (with_reducible refine then_n ?_) | (with_reducible refine then_r ?_) | (with_reducible refine then_e ?_) | (with_reducible refine block_n ?_) | (with_reducible refine block_r ?_) | (with_reducible refine block_e ?_) | refine block_o ?_ | (with_reducible refine scope_n ?_) | (with_reducible refine scope_r ?_) | (with_reducible refine scope_e ?_) | (with_reducible refine code_seq ?_) | (with_reducible refine code_skip ?_) | (with_reducible refine code_label ?_) | (with_reducible refine code_block ?_) | (with_reducible refine code_scope ?_) | (with_reducible refine code_exit ?_) | (with_reducible refine code_ret ?_) | refine regq_to ?_ | (with_reducible refine run_nil ?_) | ((with_reducible refine run_probe ?_); refine runq_more ?_) | (with_reducible refine draw_nil ?_) | ((with_reducible refine draw_probe ?_); (first | refine drawq_more ?_ | refine drawq_as ?_)) | refine code_then ?_ | refine code_else ?_))
    refine draw_op fun K hK => ?_; refine store_el ho2 (by (repeat (first | with_reducible exact Pick.head _ _ | with_reducible apply Pick.tail))) hs hxj trivial (x' := { (setN (setA l i j) i (-1))[j] with next := i }) rfl (by decide) (fun C3 ho3 => ?_); (repeat refine pendq ?_); refine hK _ _ ?_; clear hK K
    rw [setN_set i hxj] at ho3
    (repeat (first | (with_reducible refine then_n ?_) | (with_reducible refine then_r ?_) | (with_reducible refine then_e ?_) | (with_reducible refine block_n ?_) | (with_reducible refine block_r ?_) | (with_reducible refine block_e ?_) | refine block_o ?_ | (with_reducible refine scope_n ?_) | (with_reducible refine scope_r ?_) | (with_reducible refine scope_e ?_) | (with_reducible refine code_seq ?_) | (with_reducible refine code_skip ?_) | (with_reducible refine code_label ?_) | (with_reducible refine code_block ?_) | (with_reducible refine code_scope ?_) | (with_reducible refine code_exit ?_) | (with_reducible refine code_ret ?_) | refine regq_to ?_ | (with_reducible refine run_nil ?_) | ((with_reducible refine run_probe ?_); refine runq_more ?_) | (with_reducible refine draw_nil ?_) | ((with_reducible refine draw_probe ?_); (first | refine drawq_more ?_ | refine drawq_as ?_)) | refine code_then ?_ | refine code_else ?_))
    refine back_none_n [[(b, tabO room la l.length lc fa fl fc r (haF first j i) i)], C3] ⟨C3, ?_, rfl⟩ (hs := ?_)
    · have e : haL l i j = setN (setN (setA l i j) i (-1)) j i := by
        unfold haL; rw [if_neg (by omega)]; simp
      unfold OwnE; rw [haL_length, e]; exact ho3
    · have e : haF first j i = first := by unfold haF; rw [if_neg (by omega)]
      rw [e]; first | ((repeat (first | with_reducible exact Among.nil _ | with_reducible exact Pick.head _ _ | with_reducible apply Pick.tail | with_reducible apply Among.cons)); done) | ((repeat (first | exact Among.nil _ | exact Pick.head _ _ | apply Pick.tail | apply Among.cons)); done)

end Go.Proofs.Ytkgnhhpgnkkigaa
