/- Texts in a row: the walk's rules and contracts, as each says. Conditions: as each says. -/
import Derived.Test.YtjagaagemgppcaaM1GuardGood
import Derived.Laws.StructEq
import Derived.Carry
import Derived.ProofKit
import Derived.OpenShut
import Derived.Test.YtjagaagemgppcaaProg
import Derived.Test.YtjagaagemgppcaaM2GuardGood
/- Structures compared: cell by cell. Conditions: as each says. -/
set_option linter.unusedSimpArgs false
set_option linter.unusedVariables false
namespace Go.Ost
open Go

variable {P : Program}

inductive EK | i | s | b
def ekB (P : Program) (t : TypeId) : EK → Bool
  | .i => match P.underlying t with | some (.int _) => true | _ => false
  | .s => match P.underlying t with | some .string => true | _ => false
  | .b => match P.underlying t with | some .bool => true | _ => false
def eqFieldsB (P : Program) : Nat → List Field → List EK → Bool
  | _, [], [] => true
  | i, f :: fs, k :: ks => f.name != "_" && (f.offset == i && (ekB P f.type k && eqFieldsB P (i + 1) fs ks))
  | _, _, _ => false
def eqB (P : Program) (t : TypeId) (ks : List EK) : Bool :=
  match P.underlying t with
  | some (.struct fs) => eqFieldsB P 0 fs.toList ks && (!P.stoodInHeld t && !P.eqGuardType P.depth t)
  | _ => false
class TEq (P : Program) (t : TypeId) (ks : outParam (List EK)) : Prop where
  ok : eqB P t ks = true

def eqL : List EK → List Value → List Value → Option Bool
  | [], [], [] => some true
  | .i :: ks, .int k a :: xs, .int k' b :: ys => if k = k' then (eqL ks xs ys).map fun r => (a == b) && r else none
  | .s :: ks, .string a :: xs, .string b :: ys => (eqL ks xs ys).map fun r => (a.data.toList == b.data.toList) && r
  | .b :: ks, .bool a :: xs, .bool b :: ys => (eqL ks xs ys).map fun r => (a == b) && r
  | _, _, _ => none

theorem part_plain {t : TypeId} {k : EK} (h : ekB P t k = true) {X : Array Value} {i : Nat} {v : Value} (hv : X[i]? = some v) (w : World) : (part t X i).run P w = .ok v w := by
  have hu : ∃ u, P.underlying t = some u ∧ (∀ fs, u ≠ .struct fs) ∧ ∀ n e, u ≠ .array n e := by
    cases k <;> simp only [ekB] at h <;> (cases hu : P.underlying t with | none => rw [hu] at h; cases h | some u => rw [hu] at h; cases u <;> first | (cases h; done) | exact ⟨_, rfl, by simp, by simp⟩)
  obtain ⟨u, hu, h1, h2⟩ := hu
  have hA : (isAgg t).run P w = .ok false w := by
    simp only [isAgg, Sem.run_bind, run_underlying hu, Result.andThen_ok]
    cases u <;> first | rfl | exact absurd rfl (h1 _) | exact absurd rfl (h2 _ _)
  simp [part, Sem.run_bind, hA, Result.andThen, hv]

theorem eq_fields (d : Nat) (X Y : Array Value) (w : World) : ∀ (fs : List Field) (ks : List EK) (i : Nat) (xs ys : List Value) (r : Bool), eqFieldsB P i fs ks = true → eqL ks xs ys = some r →
    (∀ j, j < xs.length → X[i + j]? = xs[j]?) → (∀ j, j < ys.length → Y[i + j]? = ys[j]?) → (Op.eqFields (d + 1) X Y fs).run P w = .ok r w := by
  intro fs
  induction fs with
  | nil =>
    intro ks i xs ys r h1 h2 hX hY
    cases ks with
    | cons k ks => cases h1
    | nil =>
      cases xs with
      | cons x xs => cases h2
      | nil =>
        cases ys with
        | cons y ys => cases h2
        | nil => cases h2; simp [Op.eqFields]
  | cons f fs ih =>
    intro ks i xs ys r h1 h2 hX hY
    cases ks with
    | nil => cases h1
    | cons k ks =>
      simp only [eqFieldsB, Bool.and_eq_true, bne_iff_ne, ne_eq, beq_iff_eq] at h1
      obtain ⟨hn, ho, hk, hr⟩ := h1
      have step : ∀ (x y : Value) (xs' ys' : List Value) (q r' : Bool), xs = x :: xs' → ys = y :: ys' → (Op.equalIn (d + 1) f.type x y).run P w = .ok q w → eqL ks xs' ys' = some r' → r = (q && r') → (Op.eqFields (d + 1) X Y (f :: fs)).run P w = .ok r w := by
        rintro x y xs' ys' q r' rfl rfl hq hl rfl
        have e1 := part_plain hk (X := X) (i := f.offset) (v := x) (by rw [ho]; simpa using hX 0 (by simp)) w
        have e2 := part_plain hk (X := Y) (i := f.offset) (v := y) (by rw [ho]; simpa using hY 0 (by simp)) w
        have ht := ih ks (i + 1) xs' ys' r' hr hl (fun j hj => by have := hX (j + 1) (by simpa using hj); rw [← Nat.add_assoc, Nat.add_right_comm] at this; simpa using this)
          (fun j hj => by have := hY (j + 1) (by simpa using hj); rw [← Nat.add_assoc, Nat.add_right_comm] at this; simpa using this)
        simp only [Op.eqFields, hn, ne_eq, not_false_eq_true, if_true, Sem.run_bind, e1, e2, hq, Result.andThen_ok]
        cases q
        · simp
        · simpa using ht
      cases k with
      | i =>
        cases xs with
        | nil => cases h2
        | cons x xs =>
          cases x <;> first | (cases h2; done) | skip
          cases ys with
          | nil => cases h2
          | cons y ys =>
            cases y <;> first | (cases h2; done) | skip
            rename_i k a k' b
            simp only [eqL] at h2
            split at h2
            · subst_vars
              cases hl : eqL ks xs ys with
              | none => rw [hl] at h2; cases h2
              | some r' =>
                rw [hl] at h2
                simp only [Option.map_some, Option.some.injEq] at h2
                simp only [ekB] at hk
                refine step _ _ xs ys (a == b) r' rfl rfl ?_ hl h2.symm
                cases hu : P.underlying f.type with
                | none => rw [hu] at hk; cases hk
                | some u =>
                  rw [hu] at hk
                  cases u <;> first | (cases hk; done) | exact run_equalIn_int w d f.type _ _ a b hu
            · cases h2
      | s =>
        cases xs with
        | nil => cases h2
        | cons x xs =>
          cases x <;> first | (cases h2; done) | skip
          cases ys with
          | nil => cases h2
          | cons y ys =>
            cases y <;> first | (cases h2; done) | skip
            rename_i a b
            simp only [eqL] at h2
            cases hl : eqL ks xs ys with
            | none => rw [hl] at h2; cases h2
            | some r' =>
              rw [hl] at h2
              simp only [Option.map_some, Option.some.injEq] at h2
              simp only [ekB] at hk
              refine step _ _ xs ys (a.data.toList == b.data.toList) r' rfl rfl ?_ hl h2.symm
              cases hu : P.underlying f.type with
              | none => rw [hu] at hk; cases hk
              | some u =>
                rw [hu] at hk
                cases u <;> first | (cases hk; done) | (rw [run_equalIn_string w d f.type a b hu, ByteArray.toList_eq, ByteArray.toList_eq]; done)
      | b =>
        cases xs with
        | nil => cases h2
        | cons x xs =>
          cases x <;> first | (cases h2; done) | skip
          cases ys with
          | nil => cases h2
          | cons y ys =>
            cases y <;> first | (cases h2; done) | skip
            rename_i a b
            simp only [eqL] at h2
            cases hl : eqL ks xs ys with
            | none => rw [hl] at h2; cases h2
            | some r' =>
              rw [hl] at h2
              simp only [Option.map_some, Option.some.injEq] at h2
              simp only [ekB] at hk
              refine step _ _ xs ys (a == b) r' rfl rfl ?_ hl h2.symm
              cases hu : P.underlying f.type with
              | none => rw [hu] at hk; cases hk
              | some u =>
                rw [hu] at hk
                cases u <;> first | (cases hk; done) | exact run_equalIn_bool' w d f.type a b hu

section rules
variable {t : TypeId} {ks : List EK} {x y : Operand} {xs ys : List Value} {r : Bool} {κ : Value → Prop}
theorem eq_run [h : TEq P t ks] (hl : eqL ks xs ys = some r) (w : World) : P.eqGuardType P.depth t = false ∧ (Op.equalIn 10000 t (.agg xs.toArray) (.agg ys.toArray)).run P w = .ok r w := by
  have hk := h.ok
  unfold eqB at hk
  split at hk
  · rename_i fs hu
    simp only [Bool.and_eq_true, Bool.not_eq_true'] at hk
    obtain ⟨h1, h2, h3⟩ := hk
    have hf : P.fieldsOf t = fs := by unfold Program.fieldsOf; rw [hu]
    refine ⟨h3, ?_⟩
    rw [show 10000 = 9998 + 1 + 1 from rfl, run_equalIn_agg w (9998 + 1) t xs.toArray ys.toArray (by rw [hf]; exact hu) h2, hf]
    exact eq_fields 9998 _ _ w _ ks 0 xs ys r h1 hl (fun j _ => by simp) (fun j _ => by simp)
  · cases hk
theorem agg_eql [h : TEq P t ks] (hl : eqL ks xs ys = some r) : PureW P (do eqGuard .eql t x y (.agg xs.toArray) (.agg ys.toArray); binOp .eql t (.agg xs.toArray) (.agg ys.toArray)) κ = κ (.bool r) :=
  pureW_eq (fun w => by
    obtain ⟨h1, h2⟩ := eq_run (P := P) (t := t) hl w
    simp only [Sem.run_bind, run_eqGuard_agg w .eql t x y xs.toArray ys.toArray h1, Result.andThen_ok, run_eql_struct, h2]) κ
theorem agg_neq [h : TEq P t ks] (hl : eqL ks xs ys = some r) : PureW P (do eqGuard .neq t x y (.agg xs.toArray) (.agg ys.toArray); binOp .neq t (.agg xs.toArray) (.agg ys.toArray)) κ = κ (.bool (!r)) :=
  pureW_eq (fun w => by
    obtain ⟨h1, h2⟩ := eq_run (P := P) (t := t) hl w
    simp only [Sem.run_bind, run_eqGuard_agg w .neq t x y xs.toArray ys.toArray h1, Result.andThen_ok, run_neq_struct, h2]) κ
end rules

end Go.Ost

/- From a contract to a law's row: all of the world's blocks are as they were. Conditions: as each says. -/
set_option linter.unusedSimpArgs false
set_option linter.unusedVariables false
namespace Go.Ost
open Go Go.ChangeShapes Go.WideShapes Go.ChangeAt Go.RowKit

variable {P : Program}

/-- The blocks of a world. -/
def blocksOf (w : World) : Chunk := (List.range w.heap.size).map fun b => (b, (w.heap[b]?).getD (.deferred (some [])))
theorem blocks_in {w : World} {b : Nat} {o : Obj} (h : w.heap[b]? = some o) : (b, o) ∈ blocksOf w :=
  List.mem_map.2 ⟨b, List.mem_range.2 (Array.getElem?_eq_some_iff.1 h).1, by rw [h]; rfl⟩
theorem blocks_out {w : World} {b : Nat} {o : Obj} (h : (b, o) ∈ blocksOf w) : w.heap[b]? = some o := by
  obtain ⟨c, hc, he⟩ := List.mem_map.1 h
  have hlt := List.mem_range.1 hc
  cases he
  rw [Array.getElem?_eq_getElem hlt]; rfl
theorem hold_blocks (w : World) : Hold w [blocksOf w] := by
  refine ⟨?_, fun b o hm => blocks_out (by simpa using hm)⟩
  have e : (blocksOf w).map (·.1) = List.range w.heap.size := by
    unfold blocksOf
    rw [List.map_map]
    exact (List.map_congr_left fun a _ => rfl).trans (List.map_id _)
  simp only [List.flatten_cons, List.flatten_nil, List.append_nil, e]
  exact List.nodup_range

/-- What a law's contract gives of its call: true, and all that was there as it was. -/
theorem law_calls {f : FuncId} {args : Array Value} (w : World) (h : ∀ C : Chunk, (∀ k o, w.heap[k]? = some o → (k, o) ∈ C) → Meets P f args.toList [C] fun v A => v = .bool true ∧ A = [C]) :
    Calls P f args w fun e w' => e = .returned (.bool true) ∧ Below w.heap.size w w' := by
  have h1 := (h (blocksOf w) fun k o => blocks_in).out [] w (by simpa [List.flatten] using (hold_blocks w).perm (by simp))
  refine callsIn_wide.1 (h1.mono ?_)
  rintro e w' ⟨v, S, rfl, he, hh, A, rfl, rfl, rfl⟩
  refine ⟨rfl, he.os, he.tape, he.output, he.size, fun k hk => ?_⟩
  rw [Array.getElem?_eq_getElem hk]
  exact hh.get _ _ (by simpa using blocks_in (Array.getElem?_eq_getElem hk))

theorem Meets.keep {f : FuncId} {args : List Value} {x : Value} (C : Chunk) (h : Meets P f args [] fun v A => v = x ∧ A = []) : Meets P f args [C] fun v A => v = x ∧ A = [C] := by
  refine ⟨h.1, fun F w hw => (h.2 (F ++ C) w (hw.perm (by simp))).mono ?_⟩
  rintro e w' ⟨v, S, rfl, he, hh, A, rfl, rfl, rfl⟩
  exact ⟨_, _, rfl, he, hh.perm (T := [F, C]) (by simp), _, rfl, rfl, rfl⟩

/-- A slice of numbers, as the reading ahead of the call has it: its block lies in C. -/
def Row (C : Chunk) (k : IntKind) (v : Value) (zs : List Int) : Prop :=
  (∀ z ∈ zs, (Lit.int k z).wf = true) ∧ ∃ a len cap, v = .slice a len cap ∧ len ≤ cap ∧ cap ≤ maxLen ∧ zs.length = len ∧
    (0 < len → ∃ b o cs e m, a = some ⟨b, o, none⟩ ∧ (b, Obj.cells cs e m) ∈ C ∧ ∀ i, i < len → cs[o + i]? = some (.int k (zs.getD i 0)))

theorem open_slc {H : Type} {enc : TypeId × Value → H} {W : World} {base : Nat} {t e : TypeId} {k : IntKind} {v : Value} {d : DataW H} {ps : List MemPlace} (ht : P.underlying t = some (.slice e)) (he : P.underlying e = some (.int k)) (hc : P.cellsOf e = 1)
    (hval : Value.okWide P W .any base t v) (h : DataW.Trod enc P W 0 (fun _ => true) true t v d ps) :
    ∃ zs, ∀ C : Chunk, (∀ k o, W.heap[k]? = some o → (k, o) ∈ C) → Row C k v zs := by
  obtain ⟨a0, len0, cap0, rfl⟩ := okWide_slice ht hval
  obtain ⟨fuel, hf⟩ := h
  rcases open_ints ht he hc hf with ⟨hcs, hx⟩ | ⟨a, len, cap, zs, hcs, _, hle, hmax, hall, hx, hcell, hwf⟩
  · simp [Value.cells] at hcs
    obtain ⟨rfl, rfl, rfl⟩ := hcs
    exact ⟨[], fun C hC => ⟨by simp, none, 0, 0, rfl, Nat.le_refl _, Nat.zero_le _, rfl, fun h => absurd h (Nat.lt_irrefl 0)⟩⟩
  · simp [Value.cells] at hcs
    obtain ⟨rfl, rfl, rfl⟩ := hcs
    simp only [if_true] at hall
    refine ⟨zs.take len0, fun C hC => ⟨fun z hz => hwf z (List.mem_of_mem_take hz), some a, len0, cap0, rfl, hle, hmax, by simp; omega, fun hpos => ?_⟩⟩
    obtain ⟨b, o, rfl, hat⟩ := ints_at hcell (by omega)
    have h0 := hat 0 (by omega)
    unfold World.cell? at h0
    cases hb : W.heap[b]? with
    | none => simp [hb] at h0
    | some ob =>
      cases ob with
      | cells cs e m =>
        refine ⟨b, o, cs, e, m, rfl, hC b _ hb, fun i hi => ?_⟩
        have h1 := hat i (by omega)
        unfold World.cell? at h1
        simp only [hb, Option.isSome_none, Bool.false_eq_true, if_false] at h1
        rw [h1]
        simp [List.getD, List.getElem?_take, hi]
      | _ => simp [hb] at h0

def rowed (P : Program) (ts : List TypeId) : Bool := ts.all fun t => P.readableRec t && decide (t < P.types.size)

theorem trodAll_still {H : Type} {enc : TypeId × Value → H} (hl : laidOutB P = true) {W W' : World} (hb : Below W.heap.size W W') {sp : Nat → Bool} :
    ∀ {ts : List TypeId} {vs : List Value} {ds : List (DataW H)} {ps : List MemPlace}, rowed P ts = true → (∀ p ∈ ps, p.block < W.heap.size ∧ sp p.block = true) →
      DataW.TrodAll enc P W 0 (fun _ => true) true ts vs ds ps → DataW.TrodAll enc P W' 0 sp true ts vs ds ps
  | [], vs, ds, ps, _, _, h => by
    obtain ⟨rfl, rfl, rfl⟩ := trodAll_nil h
    exact trodAll_mk0
  | t :: ts, vs, ds, ps, hr, hp, h => by
    obtain ⟨v, vs, d, ds, p, q, rfl, rfl, rfl, h1, h2⟩ := trodAll_cons h
    simp only [rowed, List.all_cons, Bool.and_eq_true, decide_eq_true_eq] at hr
    exact trodAll_cons_mk (WideElems.Trod_stays hl hr.1.1 hr.1.2 h1 (fun x hx => hb.same (hp x (List.mem_append_left _ hx)).1) (fun x hx => (hp x (List.mem_append_left _ hx)).2))
      (trodAll_still hl hb hr.2 (fun x hx => hp x (List.mem_append_right _ hx)) h2)

theorem below_kept {W W' : World} (hb : Below W.heap.size W W') (may : MemPlace → Prop) : W.keptBut W' may := by
  refine ⟨hb.os, hb.output, fun i hi => ?_⟩
  rw [hb.block i hi]
  cases h : W.heap[i]? with
  | none => trivial
  | some o => cases o <;> first | exact ⟨rfl, rfl, rfl, fun _ _ => rfl⟩ | exact .inr ⟨rfl, rfl⟩ | rfl

/-- A law that returns true, reads its arguments and no variable. -/
theorem law_post {H : Type} {enc : TypeId × Value → H} {f : Func} {s : ChangeSpec} {fresh handsOn again : Bool} {W W' : World} {args : Array Value} {ds gs : List (DataW H)} {before : List MemPlace} {tb : TypeId}
    (hl : laidOutB P = true) (hr : rowed P f.params.toList = true) (hv : s.vars = []) (ht : f.resultTypes = #[tb]) (hu : P.underlying tb = some .bool)
    (hW : DataW.Whole enc P f.params.toList s.vars false W args.toList ds gs before) (hb : Below W.heap.size W W')
    (hs : gs = [] → (s.fn H ds) = { results := [.lit (.bool true)], args := ds }) :
    s.post enc P f false fresh handsOn again W args (.bool true) W' := by
  have hlt := hW.lt
  have hW' := hW
  obtain ⟨p, q, hA, hV, rfl, hz, hn⟩ := hW
  rw [hv] at hV
  obtain ⟨rfl, rfl⟩ := trodVars_none hV
  have e := hs rfl
  simp only [List.append_nil] at hlt hW' hz hn
  have hT : ∀ sp : Nat → Bool, (∀ x ∈ p, sp x.block = true) → DataW.TrodAll enc P W' 0 sp true f.params.toList args.toList ds p := fun sp h =>
    trodAll_still hl hb hr (fun x hx => ⟨hlt x hx, h x hx⟩) hA
  have hR : ∀ (b : Nat) (sp : Nat → Bool) (hd : Bool), DataW.TrodAll enc P W' b sp hd f.resultTypes.toList ((Value.bool true).resultList f.resultTypes.size) [.lit (.bool true)] [] := by
    intro b sp hd
    rw [ht]
    exact trodAll_cons_mk (shut_bool hu _) trodAll_mk0
  have hvv : ∀ sp : Nat → Bool, DataW.TrodVars enc P W' sp s.vars [] [] := by
    intro sp; rw [hv]; rfl
  refine ⟨ds, [], p, [], p, [], hW', ?_, ?_, ?_, World.keptBut_mono (fun x hx => ⟨hx, .inr (.inl hx)⟩) (below_kept hb (· ∈ p)), fun _ => ⟨?_, ?_⟩⟩
  · simp only [List.append_nil, e]; exact hR _ _ _
  · simp only [List.append_nil, e]; exact hT _ (fun x hx => by simpa using hlt x hx)
  · simp only [List.append_nil, e]; exact hvv _
  · intro j t r h1 h2
    rw [ht] at h1 h2
    exact ok_one (f := f) ht rfl (okWide_bool_mk hu true) j t r (by rw [ht]; exact h1) (by rw [ht]; exact h2)
  · refine ⟨_, _, ([] ++ p) ++ [], ⟨[] ++ p, [], trodAll_append (hT _ (fun _ _ => rfl)) (hR _ _ _), hvv _, rfl, ?_, fun h => by cases h⟩, fun x hx _ => by simpa using hx⟩
    intro b off hx
    have hx : MemPlace.cell b off ∈ p := by simpa using hx
    have hz' := hz b off hx
    unfold World.frozen? at hz' ⊢
    rw [hb.block b (hlt _ hx)]
    exact hz'

end Go.Ost

/- What the types of this program are, each by the reckoning of its tables. Conditions: none. -/
namespace Go.Proofs.Ytjagaagemgppcaa
open Go.Ost
-- 3 int
instance : TInt Try.prog 3 .i64 := ⟨by kernel_rfl⟩
instance : TSized Try.prog 3 (.int .i64 0) 1 8 := ⟨by kernel_rfl⟩
instance : TFlat Try.prog 3 := ⟨by kernel_rfl⟩
-- 4 bool
instance : TBool Try.prog 4 := ⟨by kernel_rfl⟩
instance : TSized Try.prog 4 (.bool false) 1 1 := ⟨by kernel_rfl⟩
instance : TFlat Try.prog 4 := ⟨by kernel_rfl⟩
-- 5 uint8
instance : TInt Try.prog 5 .u8 := ⟨by kernel_rfl⟩
instance : TSized Try.prog 5 (.int .u8 0) 1 1 := ⟨by kernel_rfl⟩
instance : TFlat Try.prog 5 := ⟨by kernel_rfl⟩
-- 9 string
instance : TStr Try.prog 9 := ⟨by kernel_rfl⟩
instance : TSized Try.prog 9 (.string ⟨#[]⟩) 1 16 := ⟨by kernel_rfl⟩
instance : TFlat Try.prog 9 := ⟨by kernel_rfl⟩
-- 22 uint16
instance : TInt Try.prog 22 .u16 := ⟨by kernel_rfl⟩
instance : TSized Try.prog 22 (.int .u16 0) 1 2 := ⟨by kernel_rfl⟩
instance : TFlat Try.prog 22 := ⟨by kernel_rfl⟩
-- 23 []ostiarylaw13.Op
instance : TSlice Try.prog 23 36 := ⟨by kernel_rfl⟩
instance : TSized Try.prog 23 (.slice none 0 0) 1 24 := ⟨by kernel_rfl⟩
instance : TFlat Try.prog 23 := ⟨by kernel_rfl⟩
-- 25 uint64
instance : TInt Try.prog 25 .u64 := ⟨by kernel_rfl⟩
instance : TSized Try.prog 25 (.int .u64 0) 1 8 := ⟨by kernel_rfl⟩
instance : TFlat Try.prog 25 := ⟨by kernel_rfl⟩
-- 26 *guard.Guard
instance : TPtr Try.prog 26 65 := ⟨by kernel_rfl⟩
instance : TSized Try.prog 26 (.pointer none) 1 8 := ⟨by kernel_rfl⟩
instance : TFlat Try.prog 26 := ⟨by kernel_rfl⟩
-- 27 api.Errno
instance : TInt Try.prog 27 .i64 := ⟨by kernel_rfl⟩
instance : TSized Try.prog 27 (.int .i64 0) 1 8 := ⟨by kernel_rfl⟩
instance : TFlat Try.prog 27 := ⟨by kernel_rfl⟩
-- 31 guard.Config
instance : TSized Try.prog 31 (.agg #[.int .i64 0, .int .u64 0, .int .u64 0, .int .u64 0]) 4 32 := ⟨by kernel_rfl⟩
instance : TDeep Try.prog 31 := ⟨by kernel_rfl⟩
instance : TField Try.prog 31 0 0 3 := ⟨by kernel_rfl⟩ -- Room
instance : TField Try.prog 31 1 1 25 := ⟨by kernel_rfl⟩ -- Base
instance : TField Try.prog 31 2 2 25 := ⟨by kernel_rfl⟩ -- Most
instance : TField Try.prog 31 3 3 25 := ⟨by kernel_rfl⟩ -- Hold
-- 34 uint32
instance : TInt Try.prog 34 .u32 := ⟨by kernel_rfl⟩
instance : TSized Try.prog 34 (.int .u32 0) 1 4 := ⟨by kernel_rfl⟩
instance : TFlat Try.prog 34 := ⟨by kernel_rfl⟩
-- 36 ostiarylaw13.Op
instance : TSized Try.prog 36 (.agg #[.int .u8 0, .string ⟨#[]⟩, .int .u32 0]) 3 32 := ⟨by kernel_rfl⟩
instance : TDeep Try.prog 36 := ⟨by kernel_rfl⟩
instance : TField Try.prog 36 0 0 5 := ⟨by kernel_rfl⟩ -- Do
instance : TField Try.prog 36 1 1 9 := ⟨by kernel_rfl⟩ -- Source
instance : TField Try.prog 36 2 2 34 := ⟨by kernel_rfl⟩ -- Ticks
-- 40 []string
instance : TSlice Try.prog 40 9 := ⟨by kernel_rfl⟩
instance : TSized Try.prog 40 (.slice none 0 0) 1 24 := ⟨by kernel_rfl⟩
instance : TFlat Try.prog 40 := ⟨by kernel_rfl⟩
-- 44 []uint8
instance : TSlice Try.prog 44 5 := ⟨by kernel_rfl⟩
instance : TSized Try.prog 44 (.slice none 0 0) 1 24 := ⟨by kernel_rfl⟩
instance : TFlat Try.prog 44 := ⟨by kernel_rfl⟩
-- 47 ostiaryref13.Config
instance : TSized Try.prog 47 (.agg #[.int .i64 0, .int .u64 0, .int .u64 0, .int .u64 0]) 4 32 := ⟨by kernel_rfl⟩
instance : TDeep Try.prog 47 := ⟨by kernel_rfl⟩
instance : TField Try.prog 47 0 0 3 := ⟨by kernel_rfl⟩ -- Room
instance : TField Try.prog 47 1 1 25 := ⟨by kernel_rfl⟩ -- Base
instance : TField Try.prog 47 2 2 25 := ⟨by kernel_rfl⟩ -- Most
instance : TField Try.prog 47 3 3 25 := ⟨by kernel_rfl⟩ -- Hold
-- 49 *ostiaryref13.Guard
instance : TPtr Try.prog 49 52 := ⟨by kernel_rfl⟩
instance : TSized Try.prog 49 (.pointer none) 1 8 := ⟨by kernel_rfl⟩
instance : TFlat Try.prog 49 := ⟨by kernel_rfl⟩
-- 50 []ostiaryref13.Entry
instance : TSlice Try.prog 50 80 := ⟨by kernel_rfl⟩
instance : TSized Try.prog 50 (.slice none 0 0) 1 24 := ⟨by kernel_rfl⟩
instance : TFlat Try.prog 50 := ⟨by kernel_rfl⟩
-- 52 ostiaryref13.Guard
instance : TSized Try.prog 52 (.agg #[.int .i64 0, .int .u64 0, .int .u64 0, .int .u64 0, .slice none 0 0]) 5 56 := ⟨by kernel_rfl⟩
instance : TDeep Try.prog 52 := ⟨by kernel_rfl⟩
instance : TField Try.prog 52 0 0 47 := ⟨by kernel_rfl⟩ -- C
instance : TField Try.prog 52 1 4 50 := ⟨by kernel_rfl⟩ -- L
-- 59 *table.Table[ostiary/guard.Entry]
instance : TPtr Try.prog 59 88 := ⟨by kernel_rfl⟩
instance : TSized Try.prog 59 (.pointer none) 1 8 := ⟨by kernel_rfl⟩
instance : TFlat Try.prog 59 := ⟨by kernel_rfl⟩
-- 63 guard.Entry
instance : TSized Try.prog 63 (.agg #[.string ⟨#[]⟩, .int .i64 0, .int .u64 0, .int .u64 0]) 4 40 := ⟨by kernel_rfl⟩
instance : TDeep Try.prog 63 := ⟨by kernel_rfl⟩
instance : TField Try.prog 63 0 0 9 := ⟨by kernel_rfl⟩ -- Source
instance : TField Try.prog 63 1 1 3 := ⟨by kernel_rfl⟩ -- Fails
instance : TField Try.prog 63 2 2 25 := ⟨by kernel_rfl⟩ -- At
instance : TField Try.prog 63 3 3 25 := ⟨by kernel_rfl⟩ -- Until
-- 65 guard.Guard
instance : TSized Try.prog 65 (.agg #[.int .i64 0, .int .u64 0, .int .u64 0, .int .u64 0, .pointer none]) 5 40 := ⟨by kernel_rfl⟩
instance : TDeep Try.prog 65 := ⟨by kernel_rfl⟩
instance : TField Try.prog 65 0 0 31 := ⟨by kernel_rfl⟩ -- c
instance : TField Try.prog 65 1 4 59 := ⟨by kernel_rfl⟩ -- t
-- 75 []uint64
instance : TSlice Try.prog 75 25 := ⟨by kernel_rfl⟩
instance : TSized Try.prog 75 (.slice none 0 0) 1 24 := ⟨by kernel_rfl⟩
instance : TFlat Try.prog 75 := ⟨by kernel_rfl⟩
-- 80 ostiaryref13.Entry
instance : TSized Try.prog 80 (.agg #[.string ⟨#[]⟩, .int .i64 0, .int .u64 0, .int .u64 0]) 4 40 := ⟨by kernel_rfl⟩
instance : TDeep Try.prog 80 := ⟨by kernel_rfl⟩
instance : TField Try.prog 80 0 0 9 := ⟨by kernel_rfl⟩ -- Source
instance : TField Try.prog 80 1 1 3 := ⟨by kernel_rfl⟩ -- Fails
instance : TField Try.prog 80 2 2 25 := ⟨by kernel_rfl⟩ -- At
instance : TField Try.prog 80 3 3 25 := ⟨by kernel_rfl⟩ -- Until
-- 84 map[string]int
instance : TMap Try.prog 84 9 3 := ⟨by kernel_rfl⟩
instance : TSized Try.prog 84 (.map none) 1 8 := ⟨by kernel_rfl⟩
instance : TFlat Try.prog 84 := ⟨by kernel_rfl⟩
-- 85 []table.entry[ostiary/guard.Entry]
instance : TSlice Try.prog 85 97 := ⟨by kernel_rfl⟩
instance : TSized Try.prog 85 (.slice none 0 0) 1 24 := ⟨by kernel_rfl⟩
instance : TFlat Try.prog 85 := ⟨by kernel_rfl⟩
-- 86 []int
instance : TSlice Try.prog 86 3 := ⟨by kernel_rfl⟩
instance : TSized Try.prog 86 (.slice none 0 0) 1 24 := ⟨by kernel_rfl⟩
instance : TFlat Try.prog 86 := ⟨by kernel_rfl⟩
-- 88 table.Table[ostiary/guard.Entry]
instance : TSized Try.prog 88 (.agg #[.int .i64 0, .slice none 0 0, .slice none 0 0, .map none, .int .i64 0, .int .i64 0]) 6 80 := ⟨by kernel_rfl⟩
instance : TDeep Try.prog 88 := ⟨by kernel_rfl⟩
instance : TField Try.prog 88 0 0 3 := ⟨by kernel_rfl⟩ -- room
instance : TField Try.prog 88 1 1 85 := ⟨by kernel_rfl⟩ -- l
instance : TField Try.prog 88 2 2 86 := ⟨by kernel_rfl⟩ -- free
instance : TField Try.prog 88 3 3 84 := ⟨by kernel_rfl⟩ -- at
instance : TField Try.prog 88 4 4 3 := ⟨by kernel_rfl⟩ -- first
instance : TField Try.prog 88 5 5 3 := ⟨by kernel_rfl⟩ -- last
-- 94 func(string, guard.Entry) bool
instance : TSized Try.prog 94 (.nilFunc) 1 8 := ⟨by kernel_rfl⟩
instance : TFlat Try.prog 94 := ⟨by kernel_rfl⟩
-- 97 table.entry[ostiary/guard.Entry]
instance : TSized Try.prog 97 (.agg #[.string ⟨#[]⟩, .string ⟨#[]⟩, .int .i64 0, .int .u64 0, .int .u64 0, .int .i64 0, .int .i64 0]) 7 72 := ⟨by kernel_rfl⟩
instance : TDeep Try.prog 97 := ⟨by kernel_rfl⟩
instance : TField Try.prog 97 0 0 9 := ⟨by kernel_rfl⟩ -- key
instance : TField Try.prog 97 1 1 63 := ⟨by kernel_rfl⟩ -- v
instance : TField Try.prog 97 2 5 3 := ⟨by kernel_rfl⟩ -- ahead
instance : TField Try.prog 97 3 6 3 := ⟨by kernel_rfl⟩ -- next
-- 103 func(guard.Entry) bool
instance : TSized Try.prog 103 (.nilFunc) 1 8 := ⟨by kernel_rfl⟩
instance : TFlat Try.prog 103 := ⟨by kernel_rfl⟩
end Go.Proofs.Ytjagaagemgppcaa

/- What a table's values are: a guard's entries. Conditions: as each says. -/
set_option linter.unusedSimpArgs false
set_option linter.unusedVariables false
namespace Go.Proofs.Ytjagaagemgppcaa
open Go Go.Ost Go.Tab

structure V where
  src : List UInt8
  fails : Int
  at_ : Int
  til : Int
def encV (v : V) : List Value := [.string (str v.src), .int .i64 v.fails, .int .u64 v.at_, .int .u64 v.til]
abbrev valV (v : V) : Value := .agg (encV v).toArray
def v0 : V := ⟨[], 0, 0, 0⟩
theorem cell_V (v : V) : ∀ u ∈ encV v, Value.cell1 u := by simp [encV, Value.cell1]

instance : TPlaces Try.prog 97 [(0, 1), (1, 4), (5, 1), (6, 1)] := ⟨by kernel_rfl⟩

end Go.Proofs.Ytjagaagemgppcaa

/- A table's places, its row. Conditions: as each says. -/
set_option linter.unusedSimpArgs false
set_option linter.unusedVariables false
namespace Go.Proofs.Ytjagaagemgppcaa
open Go Go.Ost Go.Tab

/-- A table's block; an entry's cells. -/
abbrev tabO (room : Int) (la : Option Addr) (ll lc : Nat) (fa : Option Addr) (fl fc r : Nat) (first last : Int) : Obj :=
  .cells #[.int .i64 room, .slice la ll lc, .slice fa fl fc, .map (some r), .int .i64 first, .int .i64 last] 88 (0, 0)
def encE (e : En V) : List Value := .string (str e.key) :: (encV e.v ++ [.int .i64 e.ahead, .int .i64 e.next])
theorem encE_len (e : En V) : (encE e).length = 7 := rfl
abbrev OwnE (C : Chunk) (a : Option Addr) (cap : Nat) (l : List (En V)) : Prop := Ost.Own 7 97 C a l.length cap (l.flatMap encE)
abbrev nat64 (i : Nat) : Value := .int .i64 i
abbrev IsAt (C : Chunk) (r : Nat) (m : List (List UInt8 × Nat)) : Prop := IsMap C r (mval nat64 m)

theorem place_nil (k : List UInt8) : Meets Try.prog 49 [.pointer none, .string (str k)] [] fun v A => v = .int .i64 (-1) ∧ A = [] := by
  refine spec_intro Try.func49 rfl (by kernel_rfl) (by rw [Try.ntmps49]; simp) fun F => ?_; rw [Try.ntmps49, Try.results49]
  (repeat (first | (with_reducible refine then_n ?_) | (with_reducible refine then_r ?_) | (with_reducible refine then_e ?_) | (with_reducible refine block_n ?_) | (with_reducible refine block_r ?_) | (with_reducible refine block_e ?_) | refine block_o ?_ | (with_reducible refine scope_n ?_) | (with_reducible refine scope_r ?_) | (with_reducible refine scope_e ?_) | (with_reducible refine code_seq ?_) | (with_reducible refine code_skip ?_) | (with_reducible refine code_label ?_) | (with_reducible refine code_block ?_) | (with_reducible refine code_scope ?_) | (with_reducible refine code_exit ?_) | (with_reducible refine code_ret ?_) | refine regq_to ?_ | (with_reducible refine run_nil ?_) | ((with_reducible refine run_probe ?_); refine runq_more ?_) | (with_reducible refine draw_nil ?_) | ((with_reducible refine draw_probe ?_); (first | refine drawq_more ?_ | refine drawq_as ?_)) | refine code_then ?_ | refine code_else ?_))
  refine back_tmp [] ?_; exact ⟨rfl, rfl⟩

theorem place_spec (b : Nat) (room : Int) (la : Option Addr) (ll lc : Nat) (fa : Option Addr) (fl fc r : Nat) (first last : Int) (M : Chunk) (m : List (List UInt8 × Nat)) (hm : IsAt M r m) (k : List UInt8) :
    Meets Try.prog 49 [.pointer (some ⟨b, 0, none⟩), .string (str k)] [[(b, tabO room la ll lc fa fl fc r first last)], M]
      fun v A => v = .int .i64 (match mget m k with | some i => (i : Int) | none => -1) ∧ A = [[(b, tabO room la ll lc fa fl fc r first last)], M] := by
  refine spec_intro Try.func49 rfl (by kernel_rfl) (by rw [Try.ntmps49]; simp) fun F => ?_; rw [Try.ntmps49, Try.results49]
  (repeat (first | (with_reducible refine then_n ?_) | (with_reducible refine then_r ?_) | (with_reducible refine then_e ?_) | (with_reducible refine block_n ?_) | (with_reducible refine block_r ?_) | (with_reducible refine block_e ?_) | refine block_o ?_ | (with_reducible refine scope_n ?_) | (with_reducible refine scope_r ?_) | (with_reducible refine scope_e ?_) | (with_reducible refine code_seq ?_) | (with_reducible refine code_skip ?_) | (with_reducible refine code_label ?_) | (with_reducible refine code_block ?_) | (with_reducible refine code_scope ?_) | (with_reducible refine code_exit ?_) | (with_reducible refine code_ret ?_) | refine regq_to ?_ | (with_reducible refine run_nil ?_) | ((with_reducible refine run_probe ?_); refine runq_more ?_) | (with_reducible refine draw_nil ?_) | ((with_reducible refine draw_probe ?_); (first | refine drawq_more ?_ | refine drawq_as ?_)) | refine code_then ?_ | refine code_else ?_))
  rw [mget_val]
  cases hg : mget m k with
  | none =>
    (repeat (first | (with_reducible refine then_n ?_) | (with_reducible refine then_r ?_) | (with_reducible refine then_e ?_) | (with_reducible refine block_n ?_) | (with_reducible refine block_r ?_) | (with_reducible refine block_e ?_) | refine block_o ?_ | (with_reducible refine scope_n ?_) | (with_reducible refine scope_r ?_) | (with_reducible refine scope_e ?_) | (with_reducible refine code_seq ?_) | (with_reducible refine code_skip ?_) | (with_reducible refine code_label ?_) | (with_reducible refine code_block ?_) | (with_reducible refine code_scope ?_) | (with_reducible refine code_exit ?_) | (with_reducible refine code_ret ?_) | refine regq_to ?_ | (with_reducible refine run_nil ?_) | ((with_reducible refine run_probe ?_); refine runq_more ?_) | (with_reducible refine draw_nil ?_) | ((with_reducible refine draw_probe ?_); (first | refine drawq_more ?_ | refine drawq_as ?_)) | refine code_then ?_ | refine code_else ?_))
    refine back_tmp [[(b, tabO room la ll lc fa fl fc r first last)], M] ?_; exact ⟨rfl, rfl⟩
  | some i =>
    (repeat (first | (with_reducible refine then_n ?_) | (with_reducible refine then_r ?_) | (with_reducible refine then_e ?_) | (with_reducible refine block_n ?_) | (with_reducible refine block_r ?_) | (with_reducible refine block_e ?_) | refine block_o ?_ | (with_reducible refine scope_n ?_) | (with_reducible refine scope_r ?_) | (with_reducible refine scope_e ?_) | (with_reducible refine code_seq ?_) | (with_reducible refine code_skip ?_) | (with_reducible refine code_label ?_) | (with_reducible refine code_block ?_) | (with_reducible refine code_scope ?_) | (with_reducible refine code_exit ?_) | (with_reducible refine code_ret ?_) | refine regq_to ?_ | (with_reducible refine run_nil ?_) | ((with_reducible refine run_probe ?_); refine runq_more ?_) | (with_reducible refine draw_nil ?_) | ((with_reducible refine draw_probe ?_); (first | refine drawq_more ?_ | refine drawq_as ?_)) | refine code_then ?_ | refine code_else ?_))
    refine back_tmp [[(b, tabO room la ll lc fa fl fc r first last)], M] ?_; exact ⟨rfl, rfl⟩

theorem set_modify {α : Type} (l : List α) (i : Nat) (x : α) (f : α → α) (h : l[i]? = some x) : l.set i (f x) = l.modify i f := by
  apply List.ext_getElem?
  intro j
  rw [List.getElem?_set, List.getElem?_modify]
  have hi := (List.getElem?_eq_some_iff.1 h).1
  by_cases hj : i = j
  · subst hj
    rw [if_pos rfl, if_pos hi, h]; simp
  · simp [hj]
theorem setA_set {l : List (En V)} {i : Nat} {e : En V} (a : Int) (h : l[i]? = some e) : l.set i { e with ahead := a } = setA l i a := set_modify l i e (fun e => { e with ahead := a }) h
theorem setN_set {l : List (En V)} {i : Nat} {e : En V} (a : Int) (h : l[i]? = some e) : l.set i { e with next := a } = setN l i a := set_modify l i e (fun e => { e with next := a }) h
theorem setV_set {l : List (En V)} {i : Nat} {e : En V} (a : V) (h : l[i]? = some e) : l.set i { e with v := a } = setV l i a := set_modify l i e (fun e => { e with v := a }) h

theorem hang_spec (b : Nat) (room : Int) (la : Option Addr) (lc : Nat) (fa : Option Addr) (fl fc r : Nat) (first last : Int) (C : Chunk) (l : List (En V)) (ho : OwnE C la lc l) (i : Nat) (hi : i < l.length) (hl : last = -1 ∨ ∃ j : Nat, last = j ∧ j < l.length) :
    Meets Try.prog 50 [.pointer (some ⟨b, 0, none⟩), .int .i64 i] [[(b, tabO room la l.length lc fa fl fc r first last)], C]
      fun v A => ∃ C', OwnE C' la lc (haL l i last) ∧ A = [[(b, tabO room la l.length lc fa fl fc r (haF first last i) i)], C'] := by
  have hs := encE_len
  have hx : l[i]? = some l[i] := List.getElem?_eq_getElem hi
  refine spec_intro Try.func50 rfl (by kernel_rfl) (by rw [Try.ntmps50]; simp) fun F => ?_; rw [Try.ntmps50, Try.results50]
  (repeat (first | (with_reducible refine then_n ?_) | (with_reducible refine then_r ?_) | (with_reducible refine then_e ?_) | (with_reducible refine block_n ?_) | (with_reducible refine block_r ?_) | (with_reducible refine block_e ?_) | refine block_o ?_ | (with_reducible refine scope_n ?_) | (with_reducible refine scope_r ?_) | (with_reducible refine scope_e ?_) | (with_reducible refine code_seq ?_) | (with_reducible refine code_skip ?_) | (with_reducible refine code_label ?_) | (with_reducible refine code_block ?_) | (with_reducible refine code_scope ?_) | (with_reducible refine code_exit ?_) | (with_reducible refine code_ret ?_) | refine regq_to ?_ | (with_reducible refine run_nil ?_) | ((with_reducible refine run_probe ?_); refine runq_more ?_) | (with_reducible refine draw_nil ?_) | ((with_reducible refine draw_probe ?_); (first | refine drawq_more ?_ | refine drawq_as ?_)) | refine code_then ?_ | refine code_else ?_))
  refine code_dr [[], [0], [0, 1], [0, 1, 2], [], [], [5], [5, 6], [5, 6, 7], [], [], [10], [10, 11], [10, 11, 12], [0, 1, 2, 3, 4, 5, 6, 7, 8, 10, 11, 12, 13], [0, 1, 2, 3, 4, 5, 6, 7, 8, 10, 11, 12, 13, 14], [0, 1, 2, 3, 4, 5, 6, 7, 8, 10, 11, 12, 13, 14, 15], [0, 1, 2, 3, 4, 5, 6, 7, 8, 9, 10, 11, 12, 13, 14, 15, 16], [0, 1, 2, 3, 4, 5, 6, 7, 8, 9, 10, 11, 12, 13, 14, 15, 16, 17], [0, 1, 2, 3, 4, 5, 6, 7, 8, 9, 10, 11, 12, 13, 14, 15, 16, 17, 18]] [(0, false, []), (1, false, []), (2, false, []), (3, false, []), (4, false, []), (5, false, []), (6, false, []), (7, false, []), (8, false, []), (9, false, []), (10, false, []), (11, false, []), (12, false, []), (13, false, []), (14, false, []), (15, false, []), (16, true, []), (17, false, []), (18, false, []), (19, true, [])] ?_
  (repeat (first | (with_reducible refine then_n ?_) | (with_reducible refine then_r ?_) | (with_reducible refine then_e ?_) | (with_reducible refine block_n ?_) | (with_reducible refine block_r ?_) | (with_reducible refine block_e ?_) | refine block_o ?_ | (with_reducible refine scope_n ?_) | (with_reducible refine scope_r ?_) | (with_reducible refine scope_e ?_) | (with_reducible refine code_seq ?_) | (with_reducible refine code_skip ?_) | (with_reducible refine code_label ?_) | (with_reducible refine code_block ?_) | (with_reducible refine code_scope ?_) | (with_reducible refine code_exit ?_) | (with_reducible refine code_ret ?_) | refine regq_to ?_ | (with_reducible refine run_nil ?_) | ((with_reducible refine run_probe ?_); refine runq_more ?_) | (with_reducible refine draw_nil ?_) | ((with_reducible refine draw_probe ?_); (first | refine drawq_more ?_ | refine drawq_as ?_)) | refine code_then ?_ | refine code_else ?_))
  refine draw_op fun K hK => ?_; refine store_el ho (by (repeat (first | with_reducible exact Pick.head _ _ | with_reducible apply Pick.tail))) hs hx trivial (x' := { l[i] with ahead := last }) rfl (by decide) (fun C1 ho1 => ?_); (repeat refine pendq ?_); refine hK _ _ ?_; clear hK K
  rw [setA_set last hx] at ho1
  have ho1' : OwnE C1 la lc (setA l i last) := by unfold OwnE; rw [setA_length]; exact ho1
  have hx1 := setA_eq l last hx
  have hll := setA_length l i last
  (repeat (first | (with_reducible refine then_n ?_) | (with_reducible refine then_r ?_) | (with_reducible refine then_e ?_) | (with_reducible refine block_n ?_) | (with_reducible refine block_r ?_) | (with_reducible refine block_e ?_) | refine block_o ?_ | (with_reducible refine scope_n ?_) | (with_reducible refine scope_r ?_) | (with_reducible refine scope_e ?_) | (with_reducible refine code_seq ?_) | (with_reducible refine code_skip ?_) | (with_reducible refine code_label ?_) | (with_reducible refine code_block ?_) | (with_reducible refine code_scope ?_) | (with_reducible refine code_exit ?_) | (with_reducible refine code_ret ?_) | refine regq_to ?_ | (with_reducible refine run_nil ?_) | ((with_reducible refine run_probe ?_); refine runq_more ?_) | (with_reducible refine draw_nil ?_) | ((with_reducible refine draw_probe ?_); (first | refine drawq_more ?_ | refine drawq_as ?_)) | refine code_then ?_ | refine code_else ?_))
  refine draw_op fun K hK => ?_; refine store_el ho1 (by (repeat (first | with_reducible exact Pick.head _ _ | with_reducible apply Pick.tail))) hs hx1 trivial (x' := { l[i] with ahead := last, next := -1 }) rfl (by decide) (fun C2 ho2 => ?_); (repeat refine pendq ?_); refine hK _ _ ?_; clear hK K
  have e2 : (setA l i last).set i { l[i] with ahead := last, next := -1 } = setN (setA l i last) i (-1) := setN_set (-1) hx1
  rw [e2] at ho2
  (repeat (first | (with_reducible refine then_n ?_) | (with_reducible refine then_r ?_) | (with_reducible refine then_e ?_) | (with_reducible refine block_n ?_) | (with_reducible refine block_r ?_) | (with_reducible refine block_e ?_) | refine block_o ?_ | (with_reducible refine scope_n ?_) | (with_reducible refine scope_r ?_) | (with_reducible refine scope_e ?_) | (with_reducible refine code_seq ?_) | (with_reducible refine code_skip ?_) | (with_reducible refine code_label ?_) | (with_reducible refine code_block ?_) | (with_reducible refine code_scope ?_) | (with_reducible refine code_exit ?_) | (with_reducible refine code_ret ?_) | refine regq_to ?_ | (with_reducible refine run_nil ?_) | ((with_reducible refine run_probe ?_); refine runq_more ?_) | (with_reducible refine draw_nil ?_) | ((with_reducible refine draw_probe ?_); (first | refine drawq_more ?_ | refine drawq_as ?_)) | refine code_then ?_ | refine code_else ?_))
  rcases hl with rfl | ⟨j, rfl, hj⟩
  · (repeat (first | (with_reducible refine then_n ?_) | (with_reducible refine then_r ?_) | (with_reducible refine then_e ?_) | (with_reducible refine block_n ?_) | (with_reducible refine block_r ?_) | (with_reducible refine block_e ?_) | refine block_o ?_ | (with_reducible refine scope_n ?_) | (with_reducible refine scope_r ?_) | (with_reducible refine scope_e ?_) | (with_reducible refine code_seq ?_) | (with_reducible refine code_skip ?_) | (with_reducible refine code_label ?_) | (with_reducible refine code_block ?_) | (with_reducible refine code_scope ?_) | (with_reducible refine code_exit ?_) | (with_reducible refine code_ret ?_) | refine regq_to ?_ | (with_reducible refine run_nil ?_) | ((with_reducible refine run_probe ?_); refine runq_more ?_) | (with_reducible refine draw_nil ?_) | ((with_reducible refine draw_probe ?_); (first | refine drawq_more ?_ | refine drawq_as ?_)) | refine code_then ?_ | refine code_else ?_))
    refine back_none_n [[(b, tabO room la l.length lc fa fl fc r i i)], C2] ⟨C2, ?_, rfl⟩
    unfold OwnE; rw [haL_length]; exact ho2
  · (repeat (first | (with_reducible refine then_n ?_) | (with_reducible refine then_r ?_) | (with_reducible refine then_e ?_) | (with_reducible refine block_n ?_) | (with_reducible refine block_r ?_) | (with_reducible refine block_e ?_) | refine block_o ?_ | (with_reducible refine scope_n ?_) | (with_reducible refine scope_r ?_) | (with_reducible refine scope_e ?_) | (with_reducible refine code_seq ?_) | (with_reducible refine code_skip ?_) | (with_reducible refine code_label ?_) | (with_reducible refine code_block ?_) | (with_reducible refine code_scope ?_) | (with_reducible refine code_exit ?_) | (with_reducible refine code_ret ?_) | refine regq_to ?_ | (with_reducible refine run_nil ?_) | ((with_reducible refine run_probe ?_); refine runq_more ?_) | (with_reducible refine draw_nil ?_) | ((with_reducible refine draw_probe ?_); (first | refine drawq_more ?_ | refine drawq_as ?_)) | refine code_then ?_ | refine code_else ?_))
    refine code_dr [[], [0], [0, 1], [0, 1, 2], [], [4], [4, 5], [4, 5, 6], [], [0, 1, 2, 3, 4, 5, 6, 7, 8], [0, 1, 2, 3, 4, 5, 6, 7, 8, 9], [0, 1, 2, 3, 4, 5, 6, 7, 8, 9, 10]] [(0, false, []), (1, false, []), (2, false, []), (3, false, []), (4, false, []), (5, false, []), (6, false, []), (7, false, []), (8, false, []), (9, false, []), (10, false, []), (11, true, [])] ?_
    have hlj : j < (setN (setA l i j) i (-1)).length := by rw [setN_length, setA_length]; exact hj
    have hxj : (setN (setA l i j) i (-1))[j]? = some (setN (setA l i j) i (-1))[j] := List.getElem?_eq_getElem hlj
    (repeat (first | (with_reducible refine then_n ?_) | (with_reducible refine then_r ?_) | (with_reducible refine then_e ?_) | (with_reducible refine block_n ?_) | (with_reducible refine block_r ?_) | (with_reducible refine block_e ?_) | refine block_o ?_ | (with_reducible refine scope_n ?_) | (with_reducible refine scope_r ?_) | (with_reducible refine scope_e ?_) | (with_reducible refine code_seq ?_) | (with_reducible refine code_skip ?_) | (with_reducible refine code_label ?_) | (with_reducible refine code_block ?_) | (with_reducible refine code_scope ?_) | (with_reducible refine code_exit ?_) | (with_reducible refine code_ret ?_) | refine regq_to ?_ | (with_reducible refine run_nil ?_) | ((with_reducible refine run_probe ?_); refine runq_more ?_) | (with_reducible refine draw_nil ?_) | ((with_reducible refine draw_probe ?_); (first | refine drawq_more ?_ | refine drawq_as ?_)) | refine code_then ?_ | refine code_else ?_))
    refine draw_op fun K hK => ?_; refine store_el ho2 (by (repeat (first | with_reducible exact Pick.head _ _ | with_reducible apply Pick.tail))) hs hxj trivial (x' := { (setN (setA l i j) i (-1))[j] with next := i }) rfl (by decide) (fun C3 ho3 => ?_); (repeat refine pendq ?_); refine hK _ _ ?_; clear hK K
    rw [setN_set i hxj] at ho3
    (repeat (first | (with_reducible refine then_n ?_) | (with_reducible refine then_r ?_) | (with_reducible refine then_e ?_) | (with_reducible refine block_n ?_) | (with_reducible refine block_r ?_) | (with_reducible refine block_e ?_) | refine block_o ?_ | (with_reducible refine scope_n ?_) | (with_reducible refine scope_r ?_) | (with_reducible refine scope_e ?_) | (with_reducible refine code_seq ?_) | (with_reducible refine code_skip ?_) | (with_reducible refine code_label ?_) | (with_reducible refine code_block ?_) | (with_reducible refine code_scope ?_) | (with_reducible refine code_exit ?_) | (with_reducible refine code_ret ?_) | refine regq_to ?_ | (with_reducible refine run_nil ?_) | ((with_reducible refine run_probe ?_); refine runq_more ?_) | (with_reducible refine draw_nil ?_) | ((with_reducible refine draw_probe ?_); (first | refine drawq_more ?_ | refine drawq_as ?_)) | refine code_then ?_ | refine code_else ?_))
    refine back_none_n [[(b, tabO room la l.length lc fa fl fc r (haF first j i) i)], C3] ⟨C3, ?_, rfl⟩ (hs := ?_)
    · have e : haL l i j = setN (setN (setA l i j) i (-1)) j i := by
        unfold haL; rw [if_neg (by omega)]; simp
      unfold OwnE; rw [haL_length, e]; exact ho3
    · have e : haF first j i = first := by unfold haF; rw [if_neg (by omega)]
      rw [e]; first | ((repeat (first | with_reducible exact Among.nil _ | with_reducible exact Pick.head _ _ | with_reducible apply Pick.tail | with_reducible apply Among.cons)); done) | ((repeat (first | exact Among.nil _ | exact Pick.head _ _ | apply Pick.tail | apply Among.cons)); done)

end Go.Proofs.Ytjagaagemgppcaa

/- A table: out of the row, how many, another value, a key's value. Conditions: as each says. -/
set_option linter.unusedSimpArgs false
set_option linter.unusedVariables false
namespace Go.Proofs.Ytjagaagemgppcaa
open Go Go.Ost Go.Tab

theorem unhang_spec (b : Nat) (room : Int) (la : Option Addr) (lc : Nat) (fa : Option Addr) (fl fc r : Nat) (first last : Int) (C : Chunk) (l : List (En V)) (ho : OwnE C la lc l) (i : Nat) (e : En V) (hx : l[i]? = some e)
    (ha : e.ahead = -1 ∨ ∃ j : Nat, e.ahead = j ∧ j < l.length) (hn : e.next = -1 ∨ ∃ j : Nat, e.next = j ∧ j < l.length) :
    Meets Try.prog 57 [.pointer (some ⟨b, 0, none⟩), .int .i64 i] [[(b, tabO room la l.length lc fa fl fc r first last)], C]
      fun v A => ∃ C', OwnE C' la lc (unL l e.ahead e.next) ∧ A = [[(b, tabO room la l.length lc fa fl fc r (unF first e.ahead e.next) (unE last e.ahead e.next))], C'] := by
  have hs := encE_len
  have hi := (List.getElem?_eq_some_iff.1 hx).1
  obtain ⟨key, v, a, n⟩ := e
  simp only at ha hn ⊢
  refine spec_intro Try.func57 rfl (by kernel_rfl) (by rw [Try.ntmps57]; simp) fun F => ?_; rw [Try.ntmps57, Try.results57]
  (repeat (first | (with_reducible refine then_n ?_) | (with_reducible refine then_r ?_) | (with_reducible refine then_e ?_) | (with_reducible refine block_n ?_) | (with_reducible refine block_r ?_) | (with_reducible refine block_e ?_) | refine block_o ?_ | (with_reducible refine scope_n ?_) | (with_reducible refine scope_r ?_) | (with_reducible refine scope_e ?_) | (with_reducible refine code_seq ?_) | (with_reducible refine code_skip ?_) | (with_reducible refine code_label ?_) | (with_reducible refine code_block ?_) | (with_reducible refine code_scope ?_) | (with_reducible refine code_exit ?_) | (with_reducible refine code_ret ?_) | refine regq_to ?_ | (with_reducible refine run_nil ?_) | ((with_reducible refine run_probe ?_); refine runq_more ?_) | (with_reducible refine draw_nil ?_) | ((with_reducible refine draw_probe ?_); (first | refine drawq_more ?_ | refine drawq_as ?_)) | refine code_then ?_ | refine code_else ?_))
  refine code_dr [[], [0], [0, 1], [0, 1, 2], [], [0, 1, 2, 3, 4], [0, 1, 2, 3, 4, 5], [0, 1, 2, 3, 4, 5, 6], [], [8], [8, 9], [8, 9, 10], [], [8, 9, 10, 11, 12], [8, 9, 10, 11, 12, 13], [8, 9, 10, 11, 12, 13, 14], [0, 1, 2, 3, 4, 5, 6, 7], [0, 1, 2, 3, 4, 5, 6, 7, 8, 9, 10, 11, 12, 13, 14, 15, 16]] [(0, false, []), (1, false, []), (2, false, []), (3, false, []), (4, false, []), (5, false, []), (6, false, []), (7, false, []), (8, false, []), (9, false, []), (10, false, []), (11, false, []), (12, false, []), (13, false, []), (14, false, []), (15, false, []), (16, true, [11, 15]), (17, true, [])] ?_
  (repeat (first | (with_reducible refine then_n ?_) | (with_reducible refine then_r ?_) | (with_reducible refine then_e ?_) | (with_reducible refine block_n ?_) | (with_reducible refine block_r ?_) | (with_reducible refine block_e ?_) | refine block_o ?_ | (with_reducible refine scope_n ?_) | (with_reducible refine scope_r ?_) | (with_reducible refine scope_e ?_) | (with_reducible refine code_seq ?_) | (with_reducible refine code_skip ?_) | (with_reducible refine code_label ?_) | (with_reducible refine code_block ?_) | (with_reducible refine code_scope ?_) | (with_reducible refine code_exit ?_) | (with_reducible refine code_ret ?_) | refine regq_to ?_ | (with_reducible refine run_nil ?_) | ((with_reducible refine run_probe ?_); refine runq_more ?_) | (with_reducible refine draw_nil ?_) | ((with_reducible refine draw_probe ?_); (first | refine drawq_more ?_ | refine drawq_as ?_)) | refine code_then ?_ | refine code_else ?_))
  -- the one ahead
  refine then_mid (fun D L S => ∃ C1 l1, l1 = (if a = -1 then l else setN l a.toNat n) ∧ OwnE C1 la lc l1 ∧ l1.length = l.length ∧ D = [] ∧ L = [(0, .pointer (some ⟨b, 0, none⟩)), (4, .int .i64 a), (5, .int .i64 n)] ∧ S = [C1, [(b, tabO room la l.length lc fa fl fc r (unF first a n) last)], F]) ?_ ?_
  · rcases ha with rfl | ⟨j, rfl, hj⟩
    · (repeat (first | (with_reducible refine then_n ?_) | (with_reducible refine then_r ?_) | (with_reducible refine then_e ?_) | (with_reducible refine block_n ?_) | (with_reducible refine block_r ?_) | (with_reducible refine block_e ?_) | refine block_o ?_ | (with_reducible refine scope_n ?_) | (with_reducible refine scope_r ?_) | (with_reducible refine scope_e ?_) | (with_reducible refine code_seq ?_) | (with_reducible refine code_skip ?_) | (with_reducible refine code_label ?_) | (with_reducible refine code_block ?_) | (with_reducible refine code_scope ?_) | (with_reducible refine code_exit ?_) | (with_reducible refine code_ret ?_) | refine regq_to ?_ | (with_reducible refine run_nil ?_) | ((with_reducible refine run_probe ?_); refine runq_more ?_) | (with_reducible refine draw_nil ?_) | ((with_reducible refine draw_probe ?_); (first | refine drawq_more ?_ | refine drawq_as ?_)) | refine code_then ?_ | refine code_else ?_))
      exact mid ⟨C, l, rfl, ho, rfl, rfl, rfl, rfl⟩
    · have hxj : l[j]? = some l[j] := List.getElem?_eq_getElem hj
      (repeat (first | (with_reducible refine then_n ?_) | (with_reducible refine then_r ?_) | (with_reducible refine then_e ?_) | (with_reducible refine block_n ?_) | (with_reducible refine block_r ?_) | (with_reducible refine block_e ?_) | refine block_o ?_ | (with_reducible refine scope_n ?_) | (with_reducible refine scope_r ?_) | (with_reducible refine scope_e ?_) | (with_reducible refine code_seq ?_) | (with_reducible refine code_skip ?_) | (with_reducible refine code_label ?_) | (with_reducible refine code_block ?_) | (with_reducible refine code_scope ?_) | (with_reducible refine code_exit ?_) | (with_reducible refine code_ret ?_) | refine regq_to ?_ | (with_reducible refine run_nil ?_) | ((with_reducible refine run_probe ?_); refine runq_more ?_) | (with_reducible refine draw_nil ?_) | ((with_reducible refine draw_probe ?_); (first | refine drawq_more ?_ | refine drawq_as ?_)) | refine code_then ?_ | refine code_else ?_))
      refine run_op fun K hK => ?_; refine store_el ho (by (repeat (first | with_reducible exact Pick.head _ _ | with_reducible apply Pick.tail))) hs hxj trivial (x' := { l[j] with next := n }) rfl (by decide) (fun C3 ho3 => ?_); refine hK _ _ ?_; clear hK K
      rw [setN_set n hxj] at ho3
      (repeat (first | (with_reducible refine then_n ?_) | (with_reducible refine then_r ?_) | (with_reducible refine then_e ?_) | (with_reducible refine block_n ?_) | (with_reducible refine block_r ?_) | (with_reducible refine block_e ?_) | refine block_o ?_ | (with_reducible refine scope_n ?_) | (with_reducible refine scope_r ?_) | (with_reducible refine scope_e ?_) | (with_reducible refine code_seq ?_) | (with_reducible refine code_skip ?_) | (with_reducible refine code_label ?_) | (with_reducible refine code_block ?_) | (with_reducible refine code_scope ?_) | (with_reducible refine code_exit ?_) | (with_reducible refine code_ret ?_) | refine regq_to ?_ | (with_reducible refine run_nil ?_) | ((with_reducible refine run_probe ?_); refine runq_more ?_) | (with_reducible refine draw_nil ?_) | ((with_reducible refine draw_probe ?_); (first | refine drawq_more ?_ | refine drawq_as ?_)) | refine code_then ?_ | refine code_else ?_))
      have e1 : unF first (j : Int) n = first := by unfold unF; rw [if_neg (by omega)]
      rw [e1]
      exact mid ⟨C3, setN l j n, by rw [if_neg (by omega)]; simp, by unfold OwnE; rw [setN_length]; exact ho3, setN_length _ _ _, rfl, rfl, rfl⟩
  · rintro D L S ⟨C1, l1, hl1, ho1, hll, rfl, rfl, rfl⟩
    rw [← hll]
    rcases hn with rfl | ⟨j, rfl, hj⟩
    · (repeat (first | (with_reducible refine then_n ?_) | (with_reducible refine then_r ?_) | (with_reducible refine then_e ?_) | (with_reducible refine block_n ?_) | (with_reducible refine block_r ?_) | (with_reducible refine block_e ?_) | refine block_o ?_ | (with_reducible refine scope_n ?_) | (with_reducible refine scope_r ?_) | (with_reducible refine scope_e ?_) | (with_reducible refine code_seq ?_) | (with_reducible refine code_skip ?_) | (with_reducible refine code_label ?_) | (with_reducible refine code_block ?_) | (with_reducible refine code_scope ?_) | (with_reducible refine code_exit ?_) | (with_reducible refine code_ret ?_) | refine regq_to ?_ | (with_reducible refine run_nil ?_) | ((with_reducible refine run_probe ?_); refine runq_more ?_) | (with_reducible refine draw_nil ?_) | ((with_reducible refine draw_probe ?_); (first | refine drawq_more ?_ | refine drawq_as ?_)) | refine code_then ?_ | refine code_else ?_))
      refine back_none_n [[(b, tabO room la l1.length lc fa fl fc r (unF first a (-1)) a)], C1] ⟨C1, ?_, rfl⟩
      have : unL l a (-1) = l1 := by unfold unL; rw [if_pos rfl, ← hl1]
      rw [this]; exact ho1
    · have hxj : l1[j]? = some l1[j] := List.getElem?_eq_getElem (by omega)
      (repeat (first | (with_reducible refine then_n ?_) | (with_reducible refine then_r ?_) | (with_reducible refine then_e ?_) | (with_reducible refine block_n ?_) | (with_reducible refine block_r ?_) | (with_reducible refine block_e ?_) | refine block_o ?_ | (with_reducible refine scope_n ?_) | (with_reducible refine scope_r ?_) | (with_reducible refine scope_e ?_) | (with_reducible refine code_seq ?_) | (with_reducible refine code_skip ?_) | (with_reducible refine code_label ?_) | (with_reducible refine code_block ?_) | (with_reducible refine code_scope ?_) | (with_reducible refine code_exit ?_) | (with_reducible refine code_ret ?_) | refine regq_to ?_ | (with_reducible refine run_nil ?_) | ((with_reducible refine run_probe ?_); refine runq_more ?_) | (with_reducible refine draw_nil ?_) | ((with_reducible refine draw_probe ?_); (first | refine drawq_more ?_ | refine drawq_as ?_)) | refine code_then ?_ | refine code_else ?_))
      refine run_op fun K hK => ?_; refine store_el ho1 (by (repeat (first | with_reducible exact Pick.head _ _ | with_reducible apply Pick.tail))) hs hxj trivial (x' := { l1[j] with ahead := a }) rfl (by decide) (fun C3 ho3 => ?_); refine hK _ _ ?_; clear hK K
      rw [setA_set a hxj] at ho3
      (repeat (first | (with_reducible refine then_n ?_) | (with_reducible refine then_r ?_) | (with_reducible refine then_e ?_) | (with_reducible refine block_n ?_) | (with_reducible refine block_r ?_) | (with_reducible refine block_e ?_) | refine block_o ?_ | (with_reducible refine scope_n ?_) | (with_reducible refine scope_r ?_) | (with_reducible refine scope_e ?_) | (with_reducible refine code_seq ?_) | (with_reducible refine code_skip ?_) | (with_reducible refine code_label ?_) | (with_reducible refine code_block ?_) | (with_reducible refine code_scope ?_) | (with_reducible refine code_exit ?_) | (with_reducible refine code_ret ?_) | refine regq_to ?_ | (with_reducible refine run_nil ?_) | ((with_reducible refine run_probe ?_); refine runq_more ?_) | (with_reducible refine draw_nil ?_) | ((with_reducible refine draw_probe ?_); (first | refine drawq_more ?_ | refine drawq_as ?_)) | refine code_then ?_ | refine code_else ?_))
      have e1 : unE last a (j : Int) = last := by unfold unE; rw [if_neg (by omega)]
      rw [e1]
      refine back_none_n [[(b, tabO room la l1.length lc fa fl fc r (unF first a j) last)], C3] ⟨C3, ?_, rfl⟩
      have : unL l a j = setA l1 j a := by unfold unL; rw [if_neg (by omega), ← hl1]; simp
      rw [this]; unfold OwnE; rw [setA_length]; exact ho3

theorem len_nil : Meets Try.prog 33 [.pointer none] [] fun v A => v = .int .i64 0 ∧ A = [] := by
  refine spec_intro Try.func33 rfl (by kernel_rfl) (by rw [Try.ntmps33]; simp) fun F => ?_; rw [Try.ntmps33, Try.results33]
  (repeat (first | (with_reducible refine then_n ?_) | (with_reducible refine then_r ?_) | (with_reducible refine then_e ?_) | (with_reducible refine block_n ?_) | (with_reducible refine block_r ?_) | (with_reducible refine block_e ?_) | refine block_o ?_ | (with_reducible refine scope_n ?_) | (with_reducible refine scope_r ?_) | (with_reducible refine scope_e ?_) | (with_reducible refine code_seq ?_) | (with_reducible refine code_skip ?_) | (with_reducible refine code_label ?_) | (with_reducible refine code_block ?_) | (with_reducible refine code_scope ?_) | (with_reducible refine code_exit ?_) | (with_reducible refine code_ret ?_) | refine regq_to ?_ | (with_reducible refine run_nil ?_) | ((with_reducible refine run_probe ?_); refine runq_more ?_) | (with_reducible refine draw_nil ?_) | ((with_reducible refine draw_probe ?_); (first | refine drawq_more ?_ | refine drawq_as ?_)) | refine code_then ?_ | refine code_else ?_))
  refine back_tmp [] ?_; exact ⟨rfl, rfl⟩
theorem room_nil : Meets Try.prog 45 [.pointer none] [] fun v A => v = .int .i64 0 ∧ A = [] := by
  refine spec_intro Try.func45 rfl (by kernel_rfl) (by rw [Try.ntmps45]; simp) fun F => ?_; rw [Try.ntmps45, Try.results45]
  (repeat (first | (with_reducible refine then_n ?_) | (with_reducible refine then_r ?_) | (with_reducible refine then_e ?_) | (with_reducible refine block_n ?_) | (with_reducible refine block_r ?_) | (with_reducible refine block_e ?_) | refine block_o ?_ | (with_reducible refine scope_n ?_) | (with_reducible refine scope_r ?_) | (with_reducible refine scope_e ?_) | (with_reducible refine code_seq ?_) | (with_reducible refine code_skip ?_) | (with_reducible refine code_label ?_) | (with_reducible refine code_block ?_) | (with_reducible refine code_scope ?_) | (with_reducible refine code_exit ?_) | (with_reducible refine code_ret ?_) | refine regq_to ?_ | (with_reducible refine run_nil ?_) | ((with_reducible refine run_probe ?_); refine runq_more ?_) | (with_reducible refine draw_nil ?_) | ((with_reducible refine draw_probe ?_); (first | refine drawq_more ?_ | refine drawq_as ?_)) | refine code_then ?_ | refine code_else ?_))
  refine back_tmp [] ?_; exact ⟨rfl, rfl⟩
theorem full_nil : Meets Try.prog 26 [.pointer none] [] fun v A => v = .bool false ∧ A = [] := by
  refine spec_intro Try.func26 rfl (by kernel_rfl) (by rw [Try.ntmps26]; simp) fun F => ?_; rw [Try.ntmps26, Try.results26]
  (repeat (first | (with_reducible refine then_n ?_) | (with_reducible refine then_r ?_) | (with_reducible refine then_e ?_) | (with_reducible refine block_n ?_) | (with_reducible refine block_r ?_) | (with_reducible refine block_e ?_) | refine block_o ?_ | (with_reducible refine scope_n ?_) | (with_reducible refine scope_r ?_) | (with_reducible refine scope_e ?_) | (with_reducible refine code_seq ?_) | (with_reducible refine code_skip ?_) | (with_reducible refine code_label ?_) | (with_reducible refine code_block ?_) | (with_reducible refine code_scope ?_) | (with_reducible refine code_exit ?_) | (with_reducible refine code_ret ?_) | refine regq_to ?_ | (with_reducible refine run_nil ?_) | ((with_reducible refine run_probe ?_); refine runq_more ?_) | (with_reducible refine draw_nil ?_) | ((with_reducible refine draw_probe ?_); (first | refine drawq_more ?_ | refine drawq_as ?_)) | refine code_then ?_ | refine code_else ?_))
  refine back_tmp [] ?_; exact ⟨rfl, rfl⟩
theorem len_core (b : Nat) (room : Int) (la : Option Addr) (ll lc : Nat) (fa : Option Addr) (fl fc r : Nat) (first last : Int) (M : Chunk) (m : List (List UInt8 × Nat)) (hm : IsAt M r m) :
    Meets Try.prog 33 [.pointer (some ⟨b, 0, none⟩)] [[(b, tabO room la ll lc fa fl fc r first last)], M] fun v A => v = .int .i64 m.length ∧ A = [[(b, tabO room la ll lc fa fl fc r first last)], M] := by
  have hl : (mval nat64 m).length = m.length := by simp [mval]
  refine spec_intro Try.func33 rfl (by kernel_rfl) (by rw [Try.ntmps33]; simp) fun F => ?_; rw [Try.ntmps33, Try.results33]
  (repeat (first | (with_reducible refine then_n ?_) | (with_reducible refine then_r ?_) | (with_reducible refine then_e ?_) | (with_reducible refine block_n ?_) | (with_reducible refine block_r ?_) | (with_reducible refine block_e ?_) | refine block_o ?_ | (with_reducible refine scope_n ?_) | (with_reducible refine scope_r ?_) | (with_reducible refine scope_e ?_) | (with_reducible refine code_seq ?_) | (with_reducible refine code_skip ?_) | (with_reducible refine code_label ?_) | (with_reducible refine code_block ?_) | (with_reducible refine code_scope ?_) | (with_reducible refine code_exit ?_) | (with_reducible refine code_ret ?_) | refine regq_to ?_ | (with_reducible refine run_nil ?_) | ((with_reducible refine run_probe ?_); refine runq_more ?_) | (with_reducible refine draw_nil ?_) | ((with_reducible refine draw_probe ?_); (first | refine drawq_more ?_ | refine drawq_as ?_)) | refine code_then ?_ | refine code_else ?_))
  rw [hl]
  refine back_tmp [[(b, tabO room la ll lc fa fl fc r first last)], M] ?_; exact ⟨rfl, rfl⟩
theorem room_core (b : Nat) (room : Nat) (hr : room ≤ 4096) (la : Option Addr) (ll lc : Nat) (fa : Option Addr) (fl fc r : Nat) (first last : Int) (M : Chunk) (m : List (List UInt8 × Nat)) (hm : IsAt M r m) (hml : m.length ≤ room) :
    Meets Try.prog 45 [.pointer (some ⟨b, 0, none⟩)] [[(b, tabO room la ll lc fa fl fc r first last)], M] fun v A => v = .int .i64 (room - m.length : Nat) ∧ A = [[(b, tabO room la ll lc fa fl fc r first last)], M] := by
  have hl : (mval nat64 m).length = m.length := by simp [mval]
  refine spec_intro Try.func45 rfl (by kernel_rfl) (by rw [Try.ntmps45]; simp) fun F => ?_; rw [Try.ntmps45, Try.results45]
  (repeat (first | (with_reducible refine then_n ?_) | (with_reducible refine then_r ?_) | (with_reducible refine then_e ?_) | (with_reducible refine block_n ?_) | (with_reducible refine block_r ?_) | (with_reducible refine block_e ?_) | refine block_o ?_ | (with_reducible refine scope_n ?_) | (with_reducible refine scope_r ?_) | (with_reducible refine scope_e ?_) | (with_reducible refine code_seq ?_) | (with_reducible refine code_skip ?_) | (with_reducible refine code_label ?_) | (with_reducible refine code_block ?_) | (with_reducible refine code_scope ?_) | (with_reducible refine code_exit ?_) | (with_reducible refine code_ret ?_) | refine regq_to ?_ | (with_reducible refine run_nil ?_) | ((with_reducible refine run_probe ?_); refine runq_more ?_) | (with_reducible refine draw_nil ?_) | ((with_reducible refine draw_probe ?_); (first | refine drawq_more ?_ | refine drawq_as ?_)) | refine code_then ?_ | refine code_else ?_))
  refine code_dr [[], [0], [0, 1], [0, 1, 2], [], [4], [4, 5], [4, 5, 6], [4, 5, 6, 7], [0, 1, 2, 3, 4, 5, 6, 7, 8], [0, 1, 2, 3, 4, 5, 6, 7, 8, 9]] [(0, false, []), (1, false, []), (2, false, []), (3, false, []), (4, false, []), (5, false, []), (6, false, []), (7, false, []), (8, false, []), (9, false, []), (10, true, [])] ?_
  (repeat (first | (with_reducible refine then_n ?_) | (with_reducible refine then_r ?_) | (with_reducible refine then_e ?_) | (with_reducible refine block_n ?_) | (with_reducible refine block_r ?_) | (with_reducible refine block_e ?_) | refine block_o ?_ | (with_reducible refine scope_n ?_) | (with_reducible refine scope_r ?_) | (with_reducible refine scope_e ?_) | (with_reducible refine code_seq ?_) | (with_reducible refine code_skip ?_) | (with_reducible refine code_label ?_) | (with_reducible refine code_block ?_) | (with_reducible refine code_scope ?_) | (with_reducible refine code_exit ?_) | (with_reducible refine code_ret ?_) | refine regq_to ?_ | (with_reducible refine run_nil ?_) | ((with_reducible refine run_probe ?_); refine runq_more ?_) | (with_reducible refine draw_nil ?_) | ((with_reducible refine draw_probe ?_); (first | refine drawq_more ?_ | refine drawq_as ?_)) | refine code_then ?_ | refine code_else ?_))
  refine back_tmp [[(b, tabO room la ll lc fa fl fc r first last)], M] ?_
  exact ⟨by rw [hl]; congr 1; first | omega | (rw [wrap_i64 (by omega) (by omega)]; omega), rfl⟩
theorem full_core (b : Nat) (room : Nat) (hr : room ≤ 4096) (la : Option Addr) (ll lc : Nat) (fa : Option Addr) (fl fc r : Nat) (first last : Int) (M : Chunk) (m : List (List UInt8 × Nat)) (hm : IsAt M r m) (hml : m.length ≤ room) :
    Meets Try.prog 26 [.pointer (some ⟨b, 0, none⟩)] [[(b, tabO room la ll lc fa fl fc r first last)], M] fun v A => v = .bool (decide (m.length = room)) ∧ A = [[(b, tabO room la ll lc fa fl fc r first last)], M] := by
  refine spec_intro Try.func26 rfl (by kernel_rfl) (by rw [Try.ntmps26]; simp) fun F => ?_; rw [Try.ntmps26, Try.results26]
  (repeat (first | (with_reducible refine then_n ?_) | (with_reducible refine then_r ?_) | (with_reducible refine then_e ?_) | (with_reducible refine block_n ?_) | (with_reducible refine block_r ?_) | (with_reducible refine block_e ?_) | refine block_o ?_ | (with_reducible refine scope_n ?_) | (with_reducible refine scope_r ?_) | (with_reducible refine scope_e ?_) | (with_reducible refine code_seq ?_) | (with_reducible refine code_skip ?_) | (with_reducible refine code_label ?_) | (with_reducible refine code_block ?_) | (with_reducible refine code_scope ?_) | (with_reducible refine code_exit ?_) | (with_reducible refine code_ret ?_) | refine regq_to ?_ | (with_reducible refine run_nil ?_) | ((with_reducible refine run_probe ?_); refine runq_more ?_) | (with_reducible refine draw_nil ?_) | ((with_reducible refine draw_probe ?_); (first | refine drawq_more ?_ | refine drawq_as ?_)) | refine code_then ?_ | refine code_else ?_))
  refine run_op fun K hK => ?_; refine calls_to (room_core b room hr la ll lc fa fl fc r first last M m hm hml) ?_; rintro v A ⟨rfl, rfl⟩; (try simp only [List.nil_append, List.cons_append]); refine hK _ _ ?_; clear hK K; (repeat (first | (with_reducible refine then_n ?_) | (with_reducible refine then_r ?_) | (with_reducible refine then_e ?_) | (with_reducible refine block_n ?_) | (with_reducible refine block_r ?_) | (with_reducible refine block_e ?_) | refine block_o ?_ | (with_reducible refine scope_n ?_) | (with_reducible refine scope_r ?_) | (with_reducible refine scope_e ?_) | (with_reducible refine code_seq ?_) | (with_reducible refine code_skip ?_) | (with_reducible refine code_label ?_) | (with_reducible refine code_block ?_) | (with_reducible refine code_scope ?_) | (with_reducible refine code_exit ?_) | (with_reducible refine code_ret ?_) | refine regq_to ?_ | (with_reducible refine run_nil ?_) | ((with_reducible refine run_probe ?_); refine runq_more ?_) | (with_reducible refine draw_nil ?_) | ((with_reducible refine draw_probe ?_); (first | refine drawq_more ?_ | refine drawq_as ?_)) | refine code_then ?_ | refine code_else ?_))
  refine back_tmp [[(b, tabO room la ll lc fa fl fc r first last)], M] ?_
  refine ⟨?_, rfl⟩
  congr 1
  by_cases h : m.length = room
  · rw [decide_eq_true h, h]; simp
  · rw [decide_eq_false h, beq_eq_false_iff_ne]; omega

end Go.Proofs.Ytjagaagemgppcaa

/- A table as one chunk; a new entry. Conditions: as each says. -/
set_option linter.unusedSimpArgs false
set_option linter.unusedVariables false
namespace Go.Proofs.Ytjagaagemgppcaa
open Go Go.Ost Go.Tab

abbrev OwnF (C : Chunk) (a : Option Addr) (cap : Nat) (free : List Nat) : Prop := Ost.Own 1 3 C a free.length cap (free.map nat64)
/-- What lies in a table's blocks. -/
structure Lies4 (room : Nat) (la : Option Addr) (lc : Nat) (l : List (En V)) (fa : Option Addr) (fc : Nat) (free : List Nat) (r : Nat) (m : List (List UInt8 × Nat)) (pl : List Nat) (es : List (List UInt8 × V)) (Cl Cf Cm : Chunk) : Prop where
  ol : OwnE Cl la lc l
  ofr : OwnF Cf fa fc free
  im : IsAt Cm r m
  rep : Rep l free m pl es
  big : room ≤ 4096
  fits : es.length ≤ room
  all : l.length = es.length + free.length
  ll : l.length ≤ room
def IsTab (C : Chunk) (b room : Nat) (es : List (List UInt8 × V)) : Prop := ∃ la lc l fa fc free r m pl Cl Cf Cm, Lies4 room la lc l fa fc free r m pl es Cl Cf Cm ∧
  C = [(b, tabO room la l.length lc fa free.length fc r (hd pl (-1)) (lst (-1) pl))] ++ (Cl ++ (Cf ++ Cm))

theorem IsTab.keys {C : Chunk} {b room : Nat} {es : List (List UInt8 × V)} (h : IsTab C b room es) : (es.map (·.1)).Nodup := by
  obtain ⟨la, lc, l, fa, fc, free, r, m, pl, Cl, Cf, Cm, h, rfl⟩ := h; exact h.rep.keys
theorem IsTab.fits {C : Chunk} {b room : Nat} {es : List (List UInt8 × V)} (h : IsTab C b room es) : es.length ≤ room := by
  obtain ⟨la, lc, l, fa, fc, free, r, m, pl, Cl, Cf, Cm, h, rfl⟩ := h; exact h.fits

theorem cell_E (e : En V) : ∀ u ∈ encE e, Value.cell1 u := by simp [encE, encV, Value.cell1]

section put
variable {b room : Nat} {la : Option Addr} {lc : Nat} {l : List (En V)} {fa : Option Addr} {fc : Nat} {free : List Nat} {r : Nat} {m : List (List UInt8 × Nat)} {pl : List Nat} {es : List (List UInt8 × V)} {Cl Cf Cm : Chunk}

theorem put_nil (k : List UInt8) (v : V) : Meets Try.prog 28 [.pointer none, .string (str k), valV v] [] fun v A => v = .int .i64 6 ∧ A = [] := by
  refine spec_intro Try.func28 rfl (by kernel_rfl) (by rw [Try.ntmps28]; simp) fun F => ?_; rw [Try.ntmps28, Try.results28]
  (repeat (first | (with_reducible refine then_n ?_) | (with_reducible refine then_r ?_) | (with_reducible refine then_e ?_) | (with_reducible refine block_n ?_) | (with_reducible refine block_r ?_) | (with_reducible refine block_e ?_) | refine block_o ?_ | (with_reducible refine scope_n ?_) | (with_reducible refine scope_r ?_) | (with_reducible refine scope_e ?_) | (with_reducible refine code_seq ?_) | (with_reducible refine code_skip ?_) | (with_reducible refine code_label ?_) | (with_reducible refine code_block ?_) | (with_reducible refine code_scope ?_) | (with_reducible refine code_exit ?_) | (with_reducible refine code_ret ?_) | refine regq_to ?_ | (with_reducible refine run_nil ?_) | ((with_reducible refine run_probe ?_); refine runq_more ?_) | (with_reducible refine draw_nil ?_) | ((with_reducible refine draw_probe ?_); (first | refine drawq_more ?_ | refine drawq_as ?_)) | refine code_then ?_ | refine code_else ?_))
  refine run_op fun K hK => ?_; refine box_new fun b5 => ?_; (try simp only [Value.cells]); refine hK _ _ ?_; clear hK K
  (repeat (first | (with_reducible refine then_n ?_) | (with_reducible refine then_r ?_) | (with_reducible refine then_e ?_) | (with_reducible refine block_n ?_) | (with_reducible refine block_r ?_) | (with_reducible refine block_e ?_) | refine block_o ?_ | (with_reducible refine scope_n ?_) | (with_reducible refine scope_r ?_) | (with_reducible refine scope_e ?_) | (with_reducible refine code_seq ?_) | (with_reducible refine code_skip ?_) | (with_reducible refine code_label ?_) | (with_reducible refine code_block ?_) | (with_reducible refine code_scope ?_) | (with_reducible refine code_exit ?_) | (with_reducible refine code_ret ?_) | refine regq_to ?_ | (with_reducible refine run_nil ?_) | ((with_reducible refine run_probe ?_); refine runq_more ?_) | (with_reducible refine draw_nil ?_) | ((with_reducible refine draw_probe ?_); (first | refine drawq_more ?_ | refine drawq_as ?_)) | refine code_then ?_ | refine code_else ?_))
  refine back_tmp [] ?_; exact ⟨rfl, rfl⟩

theorem put_exists (h : Lies4 room la lc l fa fc free r m pl es Cl Cf Cm) (k : List UInt8) (v : V) (hk : mget es k ≠ none) :
    Meets Try.prog 28 [.pointer (some ⟨b, 0, none⟩),   .string (str k), valV v] [[(b, tabO room la l.length lc fa free.length fc r (hd pl (-1)) (lst (-1) pl))], Cm]
      fun v A => v = .int .i64 7 ∧ A = [[(b, tabO room la l.length lc fa free.length fc r (hd pl (-1)) (lst (-1) pl))], Cm] := by
  cases hm : mget m k with
  | none => exact absurd (h.rep.miss.1 hm) hk
  | some i =>
    refine spec_intro Try.func28 rfl (by kernel_rfl) (by rw [Try.ntmps28]; simp) fun F => ?_; rw [Try.ntmps28, Try.results28]
    (repeat (first | (with_reducible refine then_n ?_) | (with_reducible refine then_r ?_) | (with_reducible refine then_e ?_) | (with_reducible refine block_n ?_) | (with_reducible refine block_r ?_) | (with_reducible refine block_e ?_) | refine block_o ?_ | (with_reducible refine scope_n ?_) | (with_reducible refine scope_r ?_) | (with_reducible refine scope_e ?_) | (with_reducible refine code_seq ?_) | (with_reducible refine code_skip ?_) | (with_reducible refine code_label ?_) | (with_reducible refine code_block ?_) | (with_reducible refine code_scope ?_) | (with_reducible refine code_exit ?_) | (with_reducible refine code_ret ?_) | refine regq_to ?_ | (with_reducible refine run_nil ?_) | ((with_reducible refine run_probe ?_); refine runq_more ?_) | (with_reducible refine draw_nil ?_) | ((with_reducible refine draw_probe ?_); (first | refine drawq_more ?_ | refine drawq_as ?_)) | refine code_then ?_ | refine code_else ?_))
    refine run_op fun K hK => ?_; refine box_new fun b5 => ?_; (try simp only [Value.cells]); refine hK _ _ ?_; clear hK K
    (repeat (first | (with_reducible refine then_n ?_) | (with_reducible refine then_r ?_) | (with_reducible refine then_e ?_) | (with_reducible refine block_n ?_) | (with_reducible refine block_r ?_) | (with_reducible refine block_e ?_) | refine block_o ?_ | (with_reducible refine scope_n ?_) | (with_reducible refine scope_r ?_) | (with_reducible refine scope_e ?_) | (with_reducible refine code_seq ?_) | (with_reducible refine code_skip ?_) | (with_reducible refine code_label ?_) | (with_reducible refine code_block ?_) | (with_reducible refine code_scope ?_) | (with_reducible refine code_exit ?_) | (with_reducible refine code_ret ?_) | refine regq_to ?_ | (with_reducible refine run_nil ?_) | ((with_reducible refine run_probe ?_); refine runq_more ?_) | (with_reducible refine draw_nil ?_) | ((with_reducible refine draw_probe ?_); (first | refine drawq_more ?_ | refine drawq_as ?_)) | refine code_then ?_ | refine code_else ?_))
    refine run_op fun K hK => ?_; refine calls_to (place_spec b room la l.length lc fa free.length fc r _ _ Cm m h.im k) ?_; rintro v A ⟨rfl, rfl⟩; (try simp only [List.nil_append, List.cons_append]); refine hK _ _ ?_; clear hK K; (repeat (first | (with_reducible refine then_n ?_) | (with_reducible refine then_r ?_) | (with_reducible refine then_e ?_) | (with_reducible refine block_n ?_) | (with_reducible refine block_r ?_) | (with_reducible refine block_e ?_) | refine block_o ?_ | (with_reducible refine scope_n ?_) | (with_reducible refine scope_r ?_) | (with_reducible refine scope_e ?_) | (with_reducible refine code_seq ?_) | (with_reducible refine code_skip ?_) | (with_reducible refine code_label ?_) | (with_reducible refine code_block ?_) | (with_reducible refine code_scope ?_) | (with_reducible refine code_exit ?_) | (with_reducible refine code_ret ?_) | refine regq_to ?_ | (with_reducible refine run_nil ?_) | ((with_reducible refine run_probe ?_); refine runq_more ?_) | (with_reducible refine draw_nil ?_) | ((with_reducible refine draw_probe ?_); (first | refine drawq_more ?_ | refine drawq_as ?_)) | refine code_then ?_ | refine code_else ?_))
    rw [hm]
    (repeat (first | (with_reducible refine then_n ?_) | (with_reducible refine then_r ?_) | (with_reducible refine then_e ?_) | (with_reducible refine block_n ?_) | (with_reducible refine block_r ?_) | (with_reducible refine block_e ?_) | refine block_o ?_ | (with_reducible refine scope_n ?_) | (with_reducible refine scope_r ?_) | (with_reducible refine scope_e ?_) | (with_reducible refine code_seq ?_) | (with_reducible refine code_skip ?_) | (with_reducible refine code_label ?_) | (with_reducible refine code_block ?_) | (with_reducible refine code_scope ?_) | (with_reducible refine code_exit ?_) | (with_reducible refine code_ret ?_) | refine regq_to ?_ | (with_reducible refine run_nil ?_) | ((with_reducible refine run_probe ?_); refine runq_more ?_) | (with_reducible refine draw_nil ?_) | ((with_reducible refine draw_probe ?_); (first | refine drawq_more ?_ | refine drawq_as ?_)) | refine code_then ?_ | refine code_else ?_))
    refine back_tmp [[(b, tabO room la l.length lc fa free.length fc r (hd pl (-1)) (lst (-1) pl))], Cm] ?_; exact ⟨rfl, rfl⟩

theorem put_full (h : Lies4 room la lc l fa fc free r m pl es Cl Cf Cm) (k : List UInt8) (v : V) (hk : mget es k = none) (hf : es.length = room) :
    Meets Try.prog 28 [.pointer (some ⟨b, 0, none⟩),   .string (str k), valV v] [[(b, tabO room la l.length lc fa free.length fc r (hd pl (-1)) (lst (-1) pl))], Cm]
      fun v A => v = .int .i64 8 ∧ A = [[(b, tabO room la l.length lc fa free.length fc r (hd pl (-1)) (lst (-1) pl))], Cm] := by
  have hm := h.rep.miss.2 hk
  have hml := h.rep.mlen
  refine spec_intro Try.func28 rfl (by kernel_rfl) (by rw [Try.ntmps28]; simp) fun F => ?_; rw [Try.ntmps28, Try.results28]
  (repeat (first | (with_reducible refine then_n ?_) | (with_reducible refine then_r ?_) | (with_reducible refine then_e ?_) | (with_reducible refine block_n ?_) | (with_reducible refine block_r ?_) | (with_reducible refine block_e ?_) | refine block_o ?_ | (with_reducible refine scope_n ?_) | (with_reducible refine scope_r ?_) | (with_reducible refine scope_e ?_) | (with_reducible refine code_seq ?_) | (with_reducible refine code_skip ?_) | (with_reducible refine code_label ?_) | (with_reducible refine code_block ?_) | (with_reducible refine code_scope ?_) | (with_reducible refine code_exit ?_) | (with_reducible refine code_ret ?_) | refine regq_to ?_ | (with_reducible refine run_nil ?_) | ((with_reducible refine run_probe ?_); refine runq_more ?_) | (with_reducible refine draw_nil ?_) | ((with_reducible refine draw_probe ?_); (first | refine drawq_more ?_ | refine drawq_as ?_)) | refine code_then ?_ | refine code_else ?_))
  refine run_op fun K hK => ?_; refine box_new fun b5 => ?_; (try simp only [Value.cells]); refine hK _ _ ?_; clear hK K
  (repeat (first | (with_reducible refine then_n ?_) | (with_reducible refine then_r ?_) | (with_reducible refine then_e ?_) | (with_reducible refine block_n ?_) | (with_reducible refine block_r ?_) | (with_reducible refine block_e ?_) | refine block_o ?_ | (with_reducible refine scope_n ?_) | (with_reducible refine scope_r ?_) | (with_reducible refine scope_e ?_) | (with_reducible refine code_seq ?_) | (with_reducible refine code_skip ?_) | (with_reducible refine code_label ?_) | (with_reducible refine code_block ?_) | (with_reducible refine code_scope ?_) | (with_reducible refine code_exit ?_) | (with_reducible refine code_ret ?_) | refine regq_to ?_ | (with_reducible refine run_nil ?_) | ((with_reducible refine run_probe ?_); refine runq_more ?_) | (with_reducible refine draw_nil ?_) | ((with_reducible refine draw_probe ?_); (first | refine drawq_more ?_ | refine drawq_as ?_)) | refine code_then ?_ | refine code_else ?_))
  refine run_op fun K hK => ?_; refine calls_to (place_spec b room la l.length lc fa free.length fc r _ _ Cm m h.im k) ?_; rintro v A ⟨rfl, rfl⟩; (try simp only [List.nil_append, List.cons_append]); refine hK _ _ ?_; clear hK K; (repeat (first | (with_reducible refine then_n ?_) | (with_reducible refine then_r ?_) | (with_reducible refine then_e ?_) | (with_reducible refine block_n ?_) | (with_reducible refine block_r ?_) | (with_reducible refine block_e ?_) | refine block_o ?_ | (with_reducible refine scope_n ?_) | (with_reducible refine scope_r ?_) | (with_reducible refine scope_e ?_) | (with_reducible refine code_seq ?_) | (with_reducible refine code_skip ?_) | (with_reducible refine code_label ?_) | (with_reducible refine code_block ?_) | (with_reducible refine code_scope ?_) | (with_reducible refine code_exit ?_) | (with_reducible refine code_ret ?_) | refine regq_to ?_ | (with_reducible refine run_nil ?_) | ((with_reducible refine run_probe ?_); refine runq_more ?_) | (with_reducible refine draw_nil ?_) | ((with_reducible refine draw_probe ?_); (first | refine drawq_more ?_ | refine drawq_as ?_)) | refine code_then ?_ | refine code_else ?_))
  rw [hm]
  (repeat (first | (with_reducible refine then_n ?_) | (with_reducible refine then_r ?_) | (with_reducible refine then_e ?_) | (with_reducible refine block_n ?_) | (with_reducible refine block_r ?_) | (with_reducible refine block_e ?_) | refine block_o ?_ | (with_reducible refine scope_n ?_) | (with_reducible refine scope_r ?_) | (with_reducible refine scope_e ?_) | (with_reducible refine code_seq ?_) | (with_reducible refine code_skip ?_) | (with_reducible refine code_label ?_) | (with_reducible refine code_block ?_) | (with_reducible refine code_scope ?_) | (with_reducible refine code_exit ?_) | (with_reducible refine code_ret ?_) | refine regq_to ?_ | (with_reducible refine run_nil ?_) | ((with_reducible refine run_probe ?_); refine runq_more ?_) | (with_reducible refine draw_nil ?_) | ((with_reducible refine draw_probe ?_); (first | refine drawq_more ?_ | refine drawq_as ?_)) | refine code_then ?_ | refine code_else ?_))
  refine run_op fun K hK => ?_; refine calls_to (full_core b room h.big la l.length lc fa free.length fc r _ _ Cm m h.im (by omega)) ?_; rintro v A ⟨rfl, rfl⟩; (try simp only [List.nil_append, List.cons_append]); refine hK _ _ ?_; clear hK K; (repeat (first | (with_reducible refine then_n ?_) | (with_reducible refine then_r ?_) | (with_reducible refine then_e ?_) | (with_reducible refine block_n ?_) | (with_reducible refine block_r ?_) | (with_reducible refine block_e ?_) | refine block_o ?_ | (with_reducible refine scope_n ?_) | (with_reducible refine scope_r ?_) | (with_reducible refine scope_e ?_) | (with_reducible refine code_seq ?_) | (with_reducible refine code_skip ?_) | (with_reducible refine code_label ?_) | (with_reducible refine code_block ?_) | (with_reducible refine code_scope ?_) | (with_reducible refine code_exit ?_) | (with_reducible refine code_ret ?_) | refine regq_to ?_ | (with_reducible refine run_nil ?_) | ((with_reducible refine run_probe ?_); refine runq_more ?_) | (with_reducible refine draw_nil ?_) | ((with_reducible refine draw_probe ?_); (first | refine drawq_more ?_ | refine drawq_as ?_)) | refine code_then ?_ | refine code_else ?_))
  rw [decide_eq_true (show m.length = room by omega)]
  (repeat (first | (with_reducible refine then_n ?_) | (with_reducible refine then_r ?_) | (with_reducible refine then_e ?_) | (with_reducible refine block_n ?_) | (with_reducible refine block_r ?_) | (with_reducible refine block_e ?_) | refine block_o ?_ | (with_reducible refine scope_n ?_) | (with_reducible refine scope_r ?_) | (with_reducible refine scope_e ?_) | (with_reducible refine code_seq ?_) | (with_reducible refine code_skip ?_) | (with_reducible refine code_label ?_) | (with_reducible refine code_block ?_) | (with_reducible refine code_scope ?_) | (with_reducible refine code_exit ?_) | (with_reducible refine code_ret ?_) | refine regq_to ?_ | (with_reducible refine run_nil ?_) | ((with_reducible refine run_probe ?_); refine runq_more ?_) | (with_reducible refine draw_nil ?_) | ((with_reducible refine draw_probe ?_); (first | refine drawq_more ?_ | refine drawq_as ?_)) | refine code_then ?_ | refine code_else ?_))
  refine back_tmp [[(b, tabO room la l.length lc fa free.length fc r (hd pl (-1)) (lst (-1) pl))], Cm] ?_; exact ⟨rfl, rfl⟩

set_option maxHeartbeats 2000000 in
theorem put_ok (h : Lies4 room la lc l fa fc free r m pl es Cl Cf Cm) (k : List UInt8) (v : V) (hk : mget es k = none) (hf : es.length < room) :
    Meets Try.prog 28 [.pointer (some ⟨b, 0, none⟩), .string (str k), valV v] [[(b, tabO room la l.length lc fa free.length fc r (hd pl (-1)) (lst (-1) pl))], Cl, Cf, Cm]
      fun v' A => v' = .int .i64 0 ∧ ∃ la lc l fa fc free m pl Cl Cf Cm, Lies4 room la lc l fa fc free r m pl (es ++ [(k, v)]) Cl Cf Cm ∧ A = [[(b, tabO room la l.length lc fa free.length fc r (hd pl (-1)) (lst (-1) pl))], Cl, Cf, Cm] := by
  have hm := h.rep.miss.2 hk
  have hml := h.rep.mlen
  have hs := encE_len
  have hol := h.ol
  have hof := h.ofr
  have him := h.im
  have hll := h.ll
  have hbig := h.big
  refine spec_intro Try.func28 rfl (by kernel_rfl) (by rw [Try.ntmps28]; simp) fun F => ?_; rw [Try.ntmps28, Try.results28]
  (repeat (first | (with_reducible refine then_n ?_) | (with_reducible refine then_r ?_) | (with_reducible refine then_e ?_) | (with_reducible refine block_n ?_) | (with_reducible refine block_r ?_) | (with_reducible refine block_e ?_) | refine block_o ?_ | (with_reducible refine scope_n ?_) | (with_reducible refine scope_r ?_) | (with_reducible refine scope_e ?_) | (with_reducible refine code_seq ?_) | (with_reducible refine code_skip ?_) | (with_reducible refine code_label ?_) | (with_reducible refine code_block ?_) | (with_reducible refine code_scope ?_) | (with_reducible refine code_exit ?_) | (with_reducible refine code_ret ?_) | refine regq_to ?_ | (with_reducible refine run_nil ?_) | ((with_reducible refine run_probe ?_); refine runq_more ?_) | (with_reducible refine draw_nil ?_) | ((with_reducible refine draw_probe ?_); (first | refine drawq_more ?_ | refine drawq_as ?_)) | refine code_then ?_ | refine code_else ?_))
  refine run_op fun K hK => ?_; refine box_new fun b5 => ?_; (try simp only [Value.cells]); refine hK _ _ ?_; clear hK K
  (repeat (first | (with_reducible refine then_n ?_) | (with_reducible refine then_r ?_) | (with_reducible refine then_e ?_) | (with_reducible refine block_n ?_) | (with_reducible refine block_r ?_) | (with_reducible refine block_e ?_) | refine block_o ?_ | (with_reducible refine scope_n ?_) | (with_reducible refine scope_r ?_) | (with_reducible refine scope_e ?_) | (with_reducible refine code_seq ?_) | (with_reducible refine code_skip ?_) | (with_reducible refine code_label ?_) | (with_reducible refine code_block ?_) | (with_reducible refine code_scope ?_) | (with_reducible refine code_exit ?_) | (with_reducible refine code_ret ?_) | refine regq_to ?_ | (with_reducible refine run_nil ?_) | ((with_reducible refine run_probe ?_); refine runq_more ?_) | (with_reducible refine draw_nil ?_) | ((with_reducible refine draw_probe ?_); (first | refine drawq_more ?_ | refine drawq_as ?_)) | refine code_then ?_ | refine code_else ?_))
  refine run_op fun K hK => ?_; refine calls_to (place_spec b room la l.length lc fa free.length fc r _ _ Cm m h.im k) ?_; rintro v A ⟨rfl, rfl⟩; (try simp only [List.nil_append, List.cons_append]); refine hK _ _ ?_; clear hK K; (repeat (first | (with_reducible refine then_n ?_) | (with_reducible refine then_r ?_) | (with_reducible refine then_e ?_) | (with_reducible refine block_n ?_) | (with_reducible refine block_r ?_) | (with_reducible refine block_e ?_) | refine block_o ?_ | (with_reducible refine scope_n ?_) | (with_reducible refine scope_r ?_) | (with_reducible refine scope_e ?_) | (with_reducible refine code_seq ?_) | (with_reducible refine code_skip ?_) | (with_reducible refine code_label ?_) | (with_reducible refine code_block ?_) | (with_reducible refine code_scope ?_) | (with_reducible refine code_exit ?_) | (with_reducible refine code_ret ?_) | refine regq_to ?_ | (with_reducible refine run_nil ?_) | ((with_reducible refine run_probe ?_); refine runq_more ?_) | (with_reducible refine draw_nil ?_) | ((with_reducible refine draw_probe ?_); (first | refine drawq_more ?_ | refine drawq_as ?_)) | refine code_then ?_ | refine code_else ?_))
  rw [hm]
  (repeat (first | (with_reducible refine then_n ?_) | (with_reducible refine then_r ?_) | (with_reducible refine then_e ?_) | (with_reducible refine block_n ?_) | (with_reducible refine block_r ?_) | (with_reducible refine block_e ?_) | refine block_o ?_ | (with_reducible refine scope_n ?_) | (with_reducible refine scope_r ?_) | (with_reducible refine scope_e ?_) | (with_reducible refine code_seq ?_) | (with_reducible refine code_skip ?_) | (with_reducible refine code_label ?_) | (with_reducible refine code_block ?_) | (with_reducible refine code_scope ?_) | (with_reducible refine code_exit ?_) | (with_reducible refine code_ret ?_) | refine regq_to ?_ | (with_reducible refine run_nil ?_) | ((with_reducible refine run_probe ?_); refine runq_more ?_) | (with_reducible refine draw_nil ?_) | ((with_reducible refine draw_probe ?_); (first | refine drawq_more ?_ | refine drawq_as ?_)) | refine code_then ?_ | refine code_else ?_))
  refine run_op fun K hK => ?_; refine calls_to (full_core b room h.big la l.length lc fa free.length fc r _ _ Cm m h.im (by omega)) ?_; rintro v A ⟨rfl, rfl⟩; (try simp only [List.nil_append, List.cons_append]); refine hK _ _ ?_; clear hK K; (repeat (first | (with_reducible refine then_n ?_) | (with_reducible refine then_r ?_) | (with_reducible refine then_e ?_) | (with_reducible refine block_n ?_) | (with_reducible refine block_r ?_) | (with_reducible refine block_e ?_) | refine block_o ?_ | (with_reducible refine scope_n ?_) | (with_reducible refine scope_r ?_) | (with_reducible refine scope_e ?_) | (with_reducible refine code_seq ?_) | (with_reducible refine code_skip ?_) | (with_reducible refine code_label ?_) | (with_reducible refine code_block ?_) | (with_reducible refine code_scope ?_) | (with_reducible refine code_exit ?_) | (with_reducible refine code_ret ?_) | refine regq_to ?_ | (with_reducible refine run_nil ?_) | ((with_reducible refine run_probe ?_); refine runq_more ?_) | (with_reducible refine draw_nil ?_) | ((with_reducible refine draw_probe ?_); (first | refine drawq_more ?_ | refine drawq_as ?_)) | refine code_then ?_ | refine code_else ?_))
  rw [decide_eq_false (show ¬ m.length = room by omega)]
  (repeat (first | (with_reducible refine then_n ?_) | (with_reducible refine then_r ?_) | (with_reducible refine then_e ?_) | (with_reducible refine block_n ?_) | (with_reducible refine block_r ?_) | (with_reducible refine block_e ?_) | refine block_o ?_ | (with_reducible refine scope_n ?_) | (with_reducible refine scope_r ?_) | (with_reducible refine scope_e ?_) | (with_reducible refine code_seq ?_) | (with_reducible refine code_skip ?_) | (with_reducible refine code_label ?_) | (with_reducible refine code_block ?_) | (with_reducible refine code_scope ?_) | (with_reducible refine code_exit ?_) | (with_reducible refine code_ret ?_) | refine regq_to ?_ | (with_reducible refine run_nil ?_) | ((with_reducible refine run_probe ?_); refine runq_more ?_) | (with_reducible refine draw_nil ?_) | ((with_reducible refine draw_probe ?_); (first | refine drawq_more ?_ | refine drawq_as ?_)) | refine code_then ?_ | refine code_else ?_))
  refine then_mid (fun D L S => ∃ (i : Nat) (la' : Option Addr) (lc' : Nat) (l' : List (En V)) (Cl' : Chunk) (fa' : Option Addr) (fc' : Nat) (free' : List Nat) (Cf' : Chunk), OwnE Cl' la' lc' l' ∧ OwnF Cf' fa' fc' free' ∧ (∀ j ∈ pl, l'[j]? = l[j]?) ∧ kv l' i = some (k, v) ∧
      (pl ++ i :: free').Nodup ∧ (∀ j ∈ free', j < l'.length) ∧ l'.length = es.length + 1 + free'.length ∧ l'.length ≤ room ∧ D = [] ∧ L = [(0, .pointer (some ⟨b, 0, none⟩)), (1, .string (str k)), (7, .int .i64 i)] ∧
      S = [[(b, tabO room la' l'.length lc' fa' free'.length fc' r (hd pl (-1)) (lst (-1) pl))], Cl', Cf', Cm, F]) ?_ ?_
  · rcases List.eq_nil_or_concat free with rfl | ⟨f, i, rfl⟩
    · (repeat (first | (with_reducible refine then_n ?_) | (with_reducible refine then_r ?_) | (with_reducible refine then_e ?_) | (with_reducible refine block_n ?_) | (with_reducible refine block_r ?_) | (with_reducible refine block_e ?_) | refine block_o ?_ | (with_reducible refine scope_n ?_) | (with_reducible refine scope_r ?_) | (with_reducible refine scope_e ?_) | (with_reducible refine code_seq ?_) | (with_reducible refine code_skip ?_) | (with_reducible refine code_label ?_) | (with_reducible refine code_block ?_) | (with_reducible refine code_scope ?_) | (with_reducible refine code_exit ?_) | (with_reducible refine code_ret ?_) | refine regq_to ?_ | (with_reducible refine run_nil ?_) | ((with_reducible refine run_probe ?_); refine runq_more ?_) | (with_reducible refine draw_nil ?_) | ((with_reducible refine draw_probe ?_); (first | refine drawq_more ?_ | refine drawq_as ?_)) | refine code_then ?_ | refine code_else ?_))
      have hall := h.all
      simp only [List.length_nil, Nat.add_zero] at hall
      refine code_dr [[], [], [1], [1, 2], [1, 2, 3], [], [], [5, 6], [5, 6, 7], [1, 2, 3, 4, 5, 6, 7, 8], [0, 1, 2, 3, 4, 5, 6, 7, 8, 9], [0, 1, 2, 3, 4, 5, 6, 7, 8, 9, 10], [0, 1, 2, 3, 4, 5, 6, 7, 8, 9, 10, 11]] [(0, false, []), (1, false, []), (2, false, []), (3, false, []), (4, false, []), (5, false, []), (6, false, []), (7, false, []), (8, true, [4]), (9, true, []), (10, false, []), (11, false, []), (12, true, [])] ?_
      (repeat (first | (with_reducible refine then_n ?_) | (with_reducible refine then_r ?_) | (with_reducible refine then_e ?_) | (with_reducible refine block_n ?_) | (with_reducible refine block_r ?_) | (with_reducible refine block_e ?_) | refine block_o ?_ | (with_reducible refine scope_n ?_) | (with_reducible refine scope_r ?_) | (with_reducible refine scope_e ?_) | (with_reducible refine code_seq ?_) | (with_reducible refine code_skip ?_) | (with_reducible refine code_label ?_) | (with_reducible refine code_block ?_) | (with_reducible refine code_scope ?_) | (with_reducible refine code_exit ?_) | (with_reducible refine code_ret ?_) | refine regq_to ?_ | (with_reducible refine run_nil ?_) | ((with_reducible refine run_probe ?_); refine runq_more ?_) | (with_reducible refine draw_nil ?_) | ((with_reducible refine draw_probe ?_); (first | refine drawq_more ?_ | refine drawq_as ?_)) | refine code_then ?_ | refine code_else ?_))
      refine draw_quiet (by simp only [List.getElem?_toArray, List.getElem?_cons_succ, List.getElem?_cons_zero]; rfl) fun K hK => ?_; (try simp only [gos, gob, Nat.reduceBEq, if_true, reduceIte, reduceCtorEq, Nat.reduceLT, Nat.reduceEqDiff, Nat.reduceAdd, Nat.reduceSub, Int.reduceLT, Int.reduceLE, Int.reduceBEq, Int.reduceBNe, Int.reduceToNat, Int.reduceAdd, Int.reduceSub, Int.reduceMul, Int.reduceDiv, Int.reduceMod, Int.reducePow, Int.toNat_natCast, Nat.sub_zero, goq]); (try (simp (disch := omega) only [gow, gobw]; try simp only [gos, gob, Nat.reduceBEq, if_true, reduceIte, reduceCtorEq, Nat.reduceLT, Nat.reduceEqDiff, Nat.reduceAdd, Nat.reduceSub, Int.reduceLT, Int.reduceLE, Int.reduceBEq, Int.reduceBNe, Int.reduceToNat, Int.reduceAdd, Int.reduceSub, Int.reduceMul, Int.reduceDiv, Int.reduceMod, Int.reducePow, Int.toNat_natCast, Nat.sub_zero, goq])); refine load_all (vs := encV v) (by (repeat (first | with_reducible exact Lies.one | with_reducible apply Lies.next))) rfl ?_; refine hK _ _ ?_; clear hK K
      refine draw_quiet (by simp only [List.getElem?_toArray, List.getElem?_cons_succ, List.getElem?_cons_zero]; rfl) fun K hK => ?_; (try simp only [gos, gob, Nat.reduceBEq, if_true, reduceIte, reduceCtorEq, Nat.reduceLT, Nat.reduceEqDiff, Nat.reduceAdd, Nat.reduceSub, Int.reduceLT, Int.reduceLE, Int.reduceBEq, Int.reduceBNe, Int.reduceToNat, Int.reduceAdd, Int.reduceSub, Int.reduceMul, Int.reduceDiv, Int.reduceMod, Int.reducePow, Int.toNat_natCast, Nat.sub_zero, goq]); (try (simp (disch := omega) only [gow, gobw]; try simp only [gos, gob, Nat.reduceBEq, if_true, reduceIte, reduceCtorEq, Nat.reduceLT, Nat.reduceEqDiff, Nat.reduceAdd, Nat.reduceSub, Int.reduceLT, Int.reduceLE, Int.reduceBEq, Int.reduceBNe, Int.reduceToNat, Int.reduceAdd, Int.reduceSub, Int.reduceMul, Int.reduceDiv, Int.reduceMod, Int.reducePow, Int.toNat_natCast, Nat.sub_zero, goq])); rw [build_struct (ps := [(0, .string (str k)), (1, valV v)]) (cs := (encE ⟨k, v, 0, 0⟩).toArray) rfl]; refine hK _ _ ?_; clear hK K
      refine draw_op fun K hK => ?_; refine build_el1 (e := 97) (s := 7) (hs := inferInstance) (vs := encE ⟨k, v, 0, 0⟩) (by rfl) (by decide) (by decide) rfl (fun b1 C1 ho1 => ?_); (repeat refine pendq ?_); refine hK _ _ ?_; clear hK K
      (repeat (first | (with_reducible refine then_n ?_) | (with_reducible refine then_r ?_) | (with_reducible refine then_e ?_) | (with_reducible refine block_n ?_) | (with_reducible refine block_r ?_) | (with_reducible refine block_e ?_) | refine block_o ?_ | (with_reducible refine scope_n ?_) | (with_reducible refine scope_r ?_) | (with_reducible refine scope_e ?_) | (with_reducible refine code_seq ?_) | (with_reducible refine code_skip ?_) | (with_reducible refine code_label ?_) | (with_reducible refine code_block ?_) | (with_reducible refine code_scope ?_) | (with_reducible refine code_exit ?_) | (with_reducible refine code_ret ?_) | refine regq_to ?_ | (with_reducible refine run_nil ?_) | ((with_reducible refine run_probe ?_); refine runq_more ?_) | (with_reducible refine draw_nil ?_) | ((with_reducible refine draw_probe ?_); (first | refine drawq_more ?_ | refine drawq_as ?_)) | refine code_then ?_ | refine code_else ?_))
      refine draw_op fun K hK => ?_; refine append_own (e := 97) (s := 7) (hs := inferInstance) (by rfl) (by decide) hol (.inr (by (repeat (first | with_reducible exact Pick.head _ _ | with_reducible apply Pick.tail)))) (ho1.rd (by (repeat (first | with_reducible assumption | with_reducible exact List.mem_cons_self .. | with_reducible apply List.mem_cons_of_mem)))) (cell_E _) (by simp only [maxLen]; omega) (by omega) (fun C2 a2 cap2 ho2 => ?_); (repeat refine pendq ?_); refine hK _ _ ?_; clear hK K
      have e2 : l.flatMap encE ++ encE ⟨k, v, 0, 0⟩ = (l ++ [(⟨k, v, 0, 0⟩ : En V)]).flatMap encE := by simp
      have e3 : l.length + 1 = (l ++ [(⟨k, v, 0, 0⟩ : En V)]).length := by simp
      rw [e2, e3] at ho2
      rw [e3]
      (repeat (first | (with_reducible refine then_n ?_) | (with_reducible refine then_r ?_) | (with_reducible refine then_e ?_) | (with_reducible refine block_n ?_) | (with_reducible refine block_r ?_) | (with_reducible refine block_e ?_) | refine block_o ?_ | (with_reducible refine scope_n ?_) | (with_reducible refine scope_r ?_) | (with_reducible refine scope_e ?_) | (with_reducible refine code_seq ?_) | (with_reducible refine code_skip ?_) | (with_reducible refine code_label ?_) | (with_reducible refine code_block ?_) | (with_reducible refine code_scope ?_) | (with_reducible refine code_exit ?_) | (with_reducible refine code_ret ?_) | refine regq_to ?_ | (with_reducible refine run_nil ?_) | ((with_reducible refine run_probe ?_); refine runq_more ?_) | (with_reducible refine draw_nil ?_) | ((with_reducible refine draw_probe ?_); (first | refine drawq_more ?_ | refine drawq_as ?_)) | refine code_then ?_ | refine code_else ?_))
      refine mid ⟨l.length, a2, cap2, l ++ [⟨k, v, 0, 0⟩], C2, fa, fc, [], Cf, ho2, hof, ?_, ?_, ?_, by simp, by simp; omega, by simp; omega, rfl, rfl, rfl⟩
      · intro j hj
        exact List.getElem?_append_left (lk_lt _ _ _ h.rep.lk j hj)
      · simp [kv]
      · have hnd := h.rep.nd
        rw [List.append_nil] at hnd
        rw [List.nodup_append]
        exact ⟨hnd, by simp, fun x hx y hy e => by
          simp at hy; subst hy; subst e
          exact absurd (lk_lt _ _ _ h.rep.lk _ hx) (by omega)⟩
    · rw [List.concat_eq_append] at *
      have hfl : (f ++ [i]).length = f.length + 1 := by simp
      have hall := h.all
      have hof' : Ost.Own 1 3 Cf fa (f.length + 1) fc ((f ++ [i]).map nat64) := by rw [← hfl]; exact hof
      have hfc := hof'.1
      have hge : ((f ++ [i]).map nat64)[(((f.length + 1 : Nat) : Int) - 1).toNat]? = some (nat64 i) := by
        rw [show (((f.length + 1 : Nat) : Int) - 1).toNat = f.length from by omega]; simp
      rw [hfl] at hall ⊢
      refine if_d (fun _ => ?_) (fun hc => absurd (show (0 : Int) < ((f.length + 1 : Nat) : Int) by omega) hc)
      (repeat (first | (with_reducible refine then_n ?_) | (with_reducible refine then_r ?_) | (with_reducible refine then_e ?_) | (with_reducible refine block_n ?_) | (with_reducible refine block_r ?_) | (with_reducible refine block_e ?_) | refine block_o ?_ | (with_reducible refine scope_n ?_) | (with_reducible refine scope_r ?_) | (with_reducible refine scope_e ?_) | (with_reducible refine code_seq ?_) | (with_reducible refine code_skip ?_) | (with_reducible refine code_label ?_) | (with_reducible refine code_block ?_) | (with_reducible refine code_scope ?_) | (with_reducible refine code_exit ?_) | (with_reducible refine code_ret ?_) | refine regq_to ?_ | (with_reducible refine run_nil ?_) | ((with_reducible refine run_probe ?_); refine runq_more ?_) | (with_reducible refine draw_nil ?_) | ((with_reducible refine draw_probe ?_); (first | refine drawq_more ?_ | refine drawq_as ?_)) | refine code_then ?_ | refine code_else ?_))
      refine code_dr [[], [], [1], [1, 2], [1, 2, 3], [], [5], [1, 2, 3, 4, 5, 6], [1, 2, 3, 4, 5, 6, 7], [], [9], [9, 10], [9, 10, 11], [], [13], [9, 10, 11, 12, 13, 14], [1, 2, 3, 4, 5, 6, 7, 8], [0, 1, 2, 3, 4, 5, 6, 7, 8, 9, 10, 11, 12, 13, 14, 15, 16], [0, 1, 2, 3, 4, 5, 6, 7, 8, 9, 10, 11, 12, 13, 14, 15, 16, 17], [0, 1, 2, 3, 4, 5, 6, 7, 8, 9, 10, 11, 12, 13, 14, 15, 16, 17, 18]] [(0, false, []), (1, false, []), (2, false, []), (3, false, []), (4, false, []), (5, false, []), (6, false, []), (7, false, []), (8, false, []), (9, false, []), (10, false, []), (11, false, []), (12, false, []), (13, false, []), (14, false, []), (15, false, []), (16, true, [12]), (17, false, []), (18, false, []), (19, true, [])] ?_
      (repeat (first | (with_reducible refine then_n ?_) | (with_reducible refine then_r ?_) | (with_reducible refine then_e ?_) | (with_reducible refine block_n ?_) | (with_reducible refine block_r ?_) | (with_reducible refine block_e ?_) | refine block_o ?_ | (with_reducible refine scope_n ?_) | (with_reducible refine scope_r ?_) | (with_reducible refine scope_e ?_) | (with_reducible refine code_seq ?_) | (with_reducible refine code_skip ?_) | (with_reducible refine code_label ?_) | (with_reducible refine code_block ?_) | (with_reducible refine code_scope ?_) | (with_reducible refine code_exit ?_) | (with_reducible refine code_ret ?_) | refine regq_to ?_ | (with_reducible refine run_nil ?_) | ((with_reducible refine run_probe ?_); refine runq_more ?_) | (with_reducible refine draw_nil ?_) | ((with_reducible refine draw_probe ?_); (first | refine drawq_more ?_ | refine drawq_as ?_)) | refine code_then ?_ | refine code_else ?_))
      (try simp only [List.setIfInBounds_toArray, List.set_cons_succ, List.set_cons_zero, List.getElem_toArray, List.getElem_cons_succ, List.getElem_cons_zero])
      have hif : i < l.length := h.rep.lt i (by simp)
      refine code_dr [[], [0], [0, 1], [0, 1, 2], [], [], [], [5, 6], [0, 1, 2, 3, 4, 5, 6, 7], [0, 1, 2, 3, 4, 5, 6, 7, 8]] [(0, false, []), (1, false, []), (2, false, []), (3, false, []), (4, false, []), (5, false, []), (6, false, []), (7, false, []), (8, false, []), (9, true, [])] ?_
      (repeat (first | (with_reducible refine then_n ?_) | (with_reducible refine then_r ?_) | (with_reducible refine then_e ?_) | (with_reducible refine block_n ?_) | (with_reducible refine block_r ?_) | (with_reducible refine block_e ?_) | refine block_o ?_ | (with_reducible refine scope_n ?_) | (with_reducible refine scope_r ?_) | (with_reducible refine scope_e ?_) | (with_reducible refine code_seq ?_) | (with_reducible refine code_skip ?_) | (with_reducible refine code_label ?_) | (with_reducible refine code_block ?_) | (with_reducible refine code_scope ?_) | (with_reducible refine code_exit ?_) | (with_reducible refine code_ret ?_) | refine regq_to ?_ | (with_reducible refine run_nil ?_) | ((with_reducible refine run_probe ?_); refine runq_more ?_) | (with_reducible refine draw_nil ?_) | ((with_reducible refine draw_probe ?_); (first | refine drawq_more ?_ | refine drawq_as ?_)) | refine code_then ?_ | refine code_else ?_))
      refine draw_quiet (by simp only [List.getElem?_toArray, List.getElem?_cons_succ, List.getElem?_cons_zero]; rfl) fun K hK => ?_; (try simp only [gos, gob, Nat.reduceBEq, if_true, reduceIte, reduceCtorEq, Nat.reduceLT, Nat.reduceEqDiff, Nat.reduceAdd, Nat.reduceSub, Int.reduceLT, Int.reduceLE, Int.reduceBEq, Int.reduceBNe, Int.reduceToNat, Int.reduceAdd, Int.reduceSub, Int.reduceMul, Int.reduceDiv, Int.reduceMod, Int.reducePow, Int.toNat_natCast, Nat.sub_zero, goq]); (try (simp (disch := omega) only [gow, gobw]; try simp only [gos, gob, Nat.reduceBEq, if_true, reduceIte, reduceCtorEq, Nat.reduceLT, Nat.reduceEqDiff, Nat.reduceAdd, Nat.reduceSub, Int.reduceLT, Int.reduceLE, Int.reduceBEq, Int.reduceBNe, Int.reduceToNat, Int.reduceAdd, Int.reduceSub, Int.reduceMul, Int.reduceDiv, Int.reduceMod, Int.reducePow, Int.toNat_natCast, Nat.sub_zero, goq])); refine load_all (vs := encV v) (by (repeat (first | with_reducible exact Lies.one | with_reducible apply Lies.next))) rfl ?_; refine hK _ _ ?_; clear hK K
      refine draw_quiet (by simp only [List.getElem?_toArray, List.getElem?_cons_succ, List.getElem?_cons_zero]; rfl) fun K hK => ?_; (try simp only [gos, gob, Nat.reduceBEq, if_true, reduceIte, reduceCtorEq, Nat.reduceLT, Nat.reduceEqDiff, Nat.reduceAdd, Nat.reduceSub, Int.reduceLT, Int.reduceLE, Int.reduceBEq, Int.reduceBNe, Int.reduceToNat, Int.reduceAdd, Int.reduceSub, Int.reduceMul, Int.reduceDiv, Int.reduceMod, Int.reducePow, Int.toNat_natCast, Nat.sub_zero, goq]); (try (simp (disch := omega) only [gow, gobw]; try simp only [gos, gob, Nat.reduceBEq, if_true, reduceIte, reduceCtorEq, Nat.reduceLT, Nat.reduceEqDiff, Nat.reduceAdd, Nat.reduceSub, Int.reduceLT, Int.reduceLE, Int.reduceBEq, Int.reduceBNe, Int.reduceToNat, Int.reduceAdd, Int.reduceSub, Int.reduceMul, Int.reduceDiv, Int.reduceMod, Int.reducePow, Int.toNat_natCast, Nat.sub_zero, goq])); rw [build_struct (ps := [(0, .string (str k)), (1, valV v)]) (cs := (encE ⟨k, v, 0, 0⟩).toArray) rfl]; refine hK _ _ ?_; clear hK K
      (repeat (first | (with_reducible refine then_n ?_) | (with_reducible refine then_r ?_) | (with_reducible refine then_e ?_) | (with_reducible refine block_n ?_) | (with_reducible refine block_r ?_) | (with_reducible refine block_e ?_) | refine block_o ?_ | (with_reducible refine scope_n ?_) | (with_reducible refine scope_r ?_) | (with_reducible refine scope_e ?_) | (with_reducible refine code_seq ?_) | (with_reducible refine code_skip ?_) | (with_reducible refine code_label ?_) | (with_reducible refine code_block ?_) | (with_reducible refine code_scope ?_) | (with_reducible refine code_exit ?_) | (with_reducible refine code_ret ?_) | refine regq_to ?_ | (with_reducible refine run_nil ?_) | ((with_reducible refine run_probe ?_); refine runq_more ?_) | (with_reducible refine draw_nil ?_) | ((with_reducible refine draw_probe ?_); (first | refine drawq_more ?_ | refine drawq_as ?_)) | refine code_then ?_ | refine code_else ?_))
      refine draw_op fun K hK => ?_; refine store_el_agg (x' := (⟨k, v, 0, 0⟩ : En V)) hol (by (repeat (first | with_reducible exact Pick.head _ _ | with_reducible apply Pick.tail))) hs hif (by decide) (cell_E _) (fun C2 ho2 => ?_); (repeat refine pendq ?_); refine hK _ _ ?_; clear hK K
      (repeat (first | (with_reducible refine then_n ?_) | (with_reducible refine then_r ?_) | (with_reducible refine then_e ?_) | (with_reducible refine block_n ?_) | (with_reducible refine block_r ?_) | (with_reducible refine block_e ?_) | refine block_o ?_ | (with_reducible refine scope_n ?_) | (with_reducible refine scope_r ?_) | (with_reducible refine scope_e ?_) | (with_reducible refine code_seq ?_) | (with_reducible refine code_skip ?_) | (with_reducible refine code_label ?_) | (with_reducible refine code_block ?_) | (with_reducible refine code_scope ?_) | (with_reducible refine code_exit ?_) | (with_reducible refine code_ret ?_) | refine regq_to ?_ | (with_reducible refine run_nil ?_) | ((with_reducible refine run_probe ?_); refine runq_more ?_) | (with_reducible refine draw_nil ?_) | ((with_reducible refine draw_probe ?_); (first | refine drawq_more ?_ | refine drawq_as ?_)) | refine code_then ?_ | refine code_else ?_))
      have hcut := own_cut1 hof' (l := 0) (h' := f.length) (m := fc) (by omega) (by omega) (by omega) (Nat.le_refl _)
      rw [List.drop_zero, Nat.sub_zero, Nat.sub_zero, List.take_left' rfl] at hcut
      rw [show (((f.length + 1 : Nat) : Int) - 1).toNat = f.length from by omega]
      refine mid ⟨i, la, lc, l.set i ⟨k, v, 0, 0⟩, C2, cutA 1 fa 0 fc, fc, f, Cf, by unfold OwnE; rw [List.length_set]; exact ho2, hcut, ?_, ?_, ?_, ?_, by rw [List.length_set]; omega, by rw [List.length_set]; omega, rfl, rfl, by rw [List.length_set]⟩
      · intro j hj
        rw [List.getElem?_set_ne]
        rintro rfl
        exact (List.nodup_append.1 h.rep.nd).2.2 i hj i (by simp) rfl
      · simp [kv, hif]
      · have hnd := h.rep.nd
        refine (List.Perm.append_left pl ?_).nodup_iff.1 hnd
        exact List.perm_append_singleton i f
      · intro j hj; rw [List.length_set]; exact h.rep.lt j (by simp [hj])
  · rintro D L S ⟨i, la', lc', l', Cl', fa', fc', free', Cf', g1, g2, g3, g4, g5, g6, g7, g8, rfl, rfl, rfl⟩
    have hil : i < l'.length := by
      unfold kv at g4
      cases hl : l'[i]? with
      | none => rw [hl] at g4; cases g4
      | some e => exact (List.getElem?_eq_some_iff.1 hl).1
    (repeat (first | (with_reducible refine then_n ?_) | (with_reducible refine then_r ?_) | (with_reducible refine then_e ?_) | (with_reducible refine block_n ?_) | (with_reducible refine block_r ?_) | (with_reducible refine block_e ?_) | refine block_o ?_ | (with_reducible refine scope_n ?_) | (with_reducible refine scope_r ?_) | (with_reducible refine scope_e ?_) | (with_reducible refine code_seq ?_) | (with_reducible refine code_skip ?_) | (with_reducible refine code_label ?_) | (with_reducible refine code_block ?_) | (with_reducible refine code_scope ?_) | (with_reducible refine code_exit ?_) | (with_reducible refine code_ret ?_) | refine regq_to ?_ | (with_reducible refine run_nil ?_) | ((with_reducible refine run_probe ?_); refine runq_more ?_) | (with_reducible refine draw_nil ?_) | ((with_reducible refine draw_probe ?_); (first | refine drawq_more ?_ | refine drawq_as ?_)) | refine code_then ?_ | refine code_else ?_))
    refine run_op fun K hK => ?_; refine map_put him (by (repeat (first | with_reducible exact Pick.head _ _ | with_reducible apply Pick.tail))) (fun C9 him9 => ?_); refine hK _ _ ?_; clear hK K
    rw [mput_val nat64 m k i] at him9
    have hlast : lst (-1) pl = -1 ∨ ∃ j : Nat, lst (-1) pl = j ∧ j < l'.length := by
      rcases Classical.em (pl = []) with rfl | hne
      · exact .inl rfl
      · obtain ⟨j, hj, e⟩ := lst_neg pl (-1) hne
        have h1 := lk_lt _ _ _ h.rep.lk j hj
        have h2 := g3 j hj
        rw [List.getElem?_eq_getElem h1] at h2
        exact .inr ⟨j, e, (List.getElem?_eq_some_iff.1 h2).1⟩
    obtain ⟨q1, q2, q3⟩ := h.rep.put hk g3 g4 g5 g6
    (repeat (first | (with_reducible refine then_n ?_) | (with_reducible refine then_r ?_) | (with_reducible refine then_e ?_) | (with_reducible refine block_n ?_) | (with_reducible refine block_r ?_) | (with_reducible refine block_e ?_) | refine block_o ?_ | (with_reducible refine scope_n ?_) | (with_reducible refine scope_r ?_) | (with_reducible refine scope_e ?_) | (with_reducible refine code_seq ?_) | (with_reducible refine code_skip ?_) | (with_reducible refine code_label ?_) | (with_reducible refine code_block ?_) | (with_reducible refine code_scope ?_) | (with_reducible refine code_exit ?_) | (with_reducible refine code_ret ?_) | refine regq_to ?_ | (with_reducible refine run_nil ?_) | ((with_reducible refine run_probe ?_); refine runq_more ?_) | (with_reducible refine draw_nil ?_) | ((with_reducible refine draw_probe ?_); (first | refine drawq_more ?_ | refine drawq_as ?_)) | refine code_then ?_ | refine code_else ?_))
    refine run_op fun K hK => ?_; refine calls_to (hang_spec b room la' lc' fa' free'.length fc' r (hd pl (-1)) (lst (-1) pl) Cl' l' g1 i hil hlast) ?_; rintro v A ⟨C10, ho10, rfl⟩; (try simp only [List.nil_append, List.cons_append]); refine hK _ _ ?_; clear hK K; (repeat (first | (with_reducible refine then_n ?_) | (with_reducible refine then_r ?_) | (with_reducible refine then_e ?_) | (with_reducible refine block_n ?_) | (with_reducible refine block_r ?_) | (with_reducible refine block_e ?_) | refine block_o ?_ | (with_reducible refine scope_n ?_) | (with_reducible refine scope_r ?_) | (with_reducible refine scope_e ?_) | (with_reducible refine code_seq ?_) | (with_reducible refine code_skip ?_) | (with_reducible refine code_label ?_) | (with_reducible refine code_block ?_) | (with_reducible refine code_scope ?_) | (with_reducible refine code_exit ?_) | (with_reducible refine code_ret ?_) | refine regq_to ?_ | (with_reducible refine run_nil ?_) | ((with_reducible refine run_probe ?_); refine runq_more ?_) | (with_reducible refine draw_nil ?_) | ((with_reducible refine draw_probe ?_); (first | refine drawq_more ?_ | refine drawq_as ?_)) | refine code_then ?_ | refine code_else ?_))
    rw [q2, q3]
    refine back_tmp [[(b, tabO room la' l'.length lc' fa' free'.length fc' r (hd (pl ++ [i]) (-1)) (lst (-1) (pl ++ [i])))], C10, Cf', C9] ?_
    refine ⟨rfl, la', lc', haL l' i (lst (-1) pl), fa', fc', free', mput m k i, pl ++ [i], C10, Cf', C9, ⟨ho10, g2, him9, q1, hbig, by simp; omega, by rw [haL_length]; simp; omega, by rw [haL_length]; exact g8⟩, by rw [haL_length]⟩

end put
end Go.Proofs.Ytjagaagemgppcaa

/- A table: another value, a key's value, no more, the last. Conditions: as each says. -/
set_option linter.unusedSimpArgs false
set_option linter.unusedVariables false
namespace Go.Proofs.Ytjagaagemgppcaa
open Go Go.Ost Go.Tab

section ops
variable {b room : Nat} {la : Option Addr} {lc : Nat} {l : List (En V)} {fa : Option Addr} {fc : Nat} {free : List Nat} {r : Nat} {m : List (List UInt8 × Nat)} {pl : List Nat} {es : List (List UInt8 × V)} {Cl Cf Cm : Chunk}

theorem set_nil (k : List UInt8) (v : V) : Meets Try.prog 31 [.pointer none, .string (str k), valV v] [] fun v A => v = .int .i64 6 ∧ A = [] := by
  refine spec_intro Try.func31 rfl (by kernel_rfl) (by rw [Try.ntmps31]; simp) fun F => ?_; rw [Try.ntmps31, Try.results31]
  (repeat (first | (with_reducible refine then_n ?_) | (with_reducible refine then_r ?_) | (with_reducible refine then_e ?_) | (with_reducible refine block_n ?_) | (with_reducible refine block_r ?_) | (with_reducible refine block_e ?_) | refine block_o ?_ | (with_reducible refine scope_n ?_) | (with_reducible refine scope_r ?_) | (with_reducible refine scope_e ?_) | (with_reducible refine code_seq ?_) | (with_reducible refine code_skip ?_) | (with_reducible refine code_label ?_) | (with_reducible refine code_block ?_) | (with_reducible refine code_scope ?_) | (with_reducible refine code_exit ?_) | (with_reducible refine code_ret ?_) | refine regq_to ?_ | (with_reducible refine run_nil ?_) | ((with_reducible refine run_probe ?_); refine runq_more ?_) | (with_reducible refine draw_nil ?_) | ((with_reducible refine draw_probe ?_); (first | refine drawq_more ?_ | refine drawq_as ?_)) | refine code_then ?_ | refine code_else ?_))
  refine run_op fun K hK => ?_; refine box_new fun b5 => ?_; (try simp only [Value.cells]); refine hK _ _ ?_; clear hK K
  (repeat (first | (with_reducible refine then_n ?_) | (with_reducible refine then_r ?_) | (with_reducible refine then_e ?_) | (with_reducible refine block_n ?_) | (with_reducible refine block_r ?_) | (with_reducible refine block_e ?_) | refine block_o ?_ | (with_reducible refine scope_n ?_) | (with_reducible refine scope_r ?_) | (with_reducible refine scope_e ?_) | (with_reducible refine code_seq ?_) | (with_reducible refine code_skip ?_) | (with_reducible refine code_label ?_) | (with_reducible refine code_block ?_) | (with_reducible refine code_scope ?_) | (with_reducible refine code_exit ?_) | (with_reducible refine code_ret ?_) | refine regq_to ?_ | (with_reducible refine run_nil ?_) | ((with_reducible refine run_probe ?_); refine runq_more ?_) | (with_reducible refine draw_nil ?_) | ((with_reducible refine draw_probe ?_); (first | refine drawq_more ?_ | refine drawq_as ?_)) | refine code_then ?_ | refine code_else ?_))
  refine run_op fun K hK => ?_; refine calls_to (place_nil k) ?_; rintro v A ⟨rfl, rfl⟩; (try simp only [List.nil_append, List.cons_append]); refine hK _ _ ?_; clear hK K; (repeat (first | (with_reducible refine then_n ?_) | (with_reducible refine then_r ?_) | (with_reducible refine then_e ?_) | (with_reducible refine block_n ?_) | (with_reducible refine block_r ?_) | (with_reducible refine block_e ?_) | refine block_o ?_ | (with_reducible refine scope_n ?_) | (with_reducible refine scope_r ?_) | (with_reducible refine scope_e ?_) | (with_reducible refine code_seq ?_) | (with_reducible refine code_skip ?_) | (with_reducible refine code_label ?_) | (with_reducible refine code_block ?_) | (with_reducible refine code_scope ?_) | (with_reducible refine code_exit ?_) | (with_reducible refine code_ret ?_) | refine regq_to ?_ | (with_reducible refine run_nil ?_) | ((with_reducible refine run_probe ?_); refine runq_more ?_) | (with_reducible refine draw_nil ?_) | ((with_reducible refine draw_probe ?_); (first | refine drawq_more ?_ | refine drawq_as ?_)) | refine code_then ?_ | refine code_else ?_))
  refine back_tmp [] ?_; exact ⟨rfl, rfl⟩
theorem get_nil (k : List UInt8) : Meets Try.prog 44 [.pointer none, .string (str k)] [] fun v A => v = .tuple #[valV v0, .bool false] ∧ A = [] := by
  refine spec_intro Try.func44 rfl (by kernel_rfl) (by rw [Try.ntmps44]; simp) fun F => ?_; rw [Try.ntmps44, Try.results44]
  (repeat (first | (with_reducible refine then_n ?_) | (with_reducible refine then_r ?_) | (with_reducible refine then_e ?_) | (with_reducible refine block_n ?_) | (with_reducible refine block_r ?_) | (with_reducible refine block_e ?_) | refine block_o ?_ | (with_reducible refine scope_n ?_) | (with_reducible refine scope_r ?_) | (with_reducible refine scope_e ?_) | (with_reducible refine code_seq ?_) | (with_reducible refine code_skip ?_) | (with_reducible refine code_label ?_) | (with_reducible refine code_block ?_) | (with_reducible refine code_scope ?_) | (with_reducible refine code_exit ?_) | (with_reducible refine code_ret ?_) | refine regq_to ?_ | (with_reducible refine run_nil ?_) | ((with_reducible refine run_probe ?_); refine runq_more ?_) | (with_reducible refine draw_nil ?_) | ((with_reducible refine draw_probe ?_); (first | refine drawq_more ?_ | refine drawq_as ?_)) | refine code_then ?_ | refine code_else ?_))
  refine run_op fun K hK => ?_; refine alloc_as (encV v0).toArray rfl fun b4 => ?_; refine hK _ _ ?_; clear hK K
  (repeat (first | (with_reducible refine then_n ?_) | (with_reducible refine then_r ?_) | (with_reducible refine then_e ?_) | (with_reducible refine block_n ?_) | (with_reducible refine block_r ?_) | (with_reducible refine block_e ?_) | refine block_o ?_ | (with_reducible refine scope_n ?_) | (with_reducible refine scope_r ?_) | (with_reducible refine scope_e ?_) | (with_reducible refine code_seq ?_) | (with_reducible refine code_skip ?_) | (with_reducible refine code_label ?_) | (with_reducible refine code_block ?_) | (with_reducible refine code_scope ?_) | (with_reducible refine code_exit ?_) | (with_reducible refine code_ret ?_) | refine regq_to ?_ | (with_reducible refine run_nil ?_) | ((with_reducible refine run_probe ?_); refine runq_more ?_) | (with_reducible refine draw_nil ?_) | ((with_reducible refine draw_probe ?_); (first | refine drawq_more ?_ | refine drawq_as ?_)) | refine code_then ?_ | refine code_else ?_))
  refine run_op fun K hK => ?_; refine calls_to (place_nil k) ?_; rintro v A ⟨rfl, rfl⟩; (try simp only [List.nil_append, List.cons_append]); refine hK _ _ ?_; clear hK K; (repeat (first | (with_reducible refine then_n ?_) | (with_reducible refine then_r ?_) | (with_reducible refine then_e ?_) | (with_reducible refine block_n ?_) | (with_reducible refine block_r ?_) | (with_reducible refine block_e ?_) | refine block_o ?_ | (with_reducible refine scope_n ?_) | (with_reducible refine scope_r ?_) | (with_reducible refine scope_e ?_) | (with_reducible refine code_seq ?_) | (with_reducible refine code_skip ?_) | (with_reducible refine code_label ?_) | (with_reducible refine code_block ?_) | (with_reducible refine code_scope ?_) | (with_reducible refine code_exit ?_) | (with_reducible refine code_ret ?_) | refine regq_to ?_ | (with_reducible refine run_nil ?_) | ((with_reducible refine run_probe ?_); refine runq_more ?_) | (with_reducible refine draw_nil ?_) | ((with_reducible refine draw_probe ?_); (first | refine drawq_more ?_ | refine drawq_as ?_)) | refine code_then ?_ | refine code_else ?_))
  refine run_op fun K hK => ?_; refine alloc_as (encV v0).toArray rfl fun b7 => ?_; refine hK _ _ ?_; clear hK K
  (repeat (first | (with_reducible refine then_n ?_) | (with_reducible refine then_r ?_) | (with_reducible refine then_e ?_) | (with_reducible refine block_n ?_) | (with_reducible refine block_r ?_) | (with_reducible refine block_e ?_) | refine block_o ?_ | (with_reducible refine scope_n ?_) | (with_reducible refine scope_r ?_) | (with_reducible refine scope_e ?_) | (with_reducible refine code_seq ?_) | (with_reducible refine code_skip ?_) | (with_reducible refine code_label ?_) | (with_reducible refine code_block ?_) | (with_reducible refine code_scope ?_) | (with_reducible refine code_exit ?_) | (with_reducible refine code_ret ?_) | refine regq_to ?_ | (with_reducible refine run_nil ?_) | ((with_reducible refine run_probe ?_); refine runq_more ?_) | (with_reducible refine draw_nil ?_) | ((with_reducible refine draw_probe ?_); (first | refine drawq_more ?_ | refine drawq_as ?_)) | refine code_then ?_ | refine code_else ?_))
  refine run_op fun K hK => ?_; refine load_all (vs := encV v0) (by (repeat (first | with_reducible exact Lies.one | with_reducible apply Lies.next))) rfl ?_; refine hK _ _ ?_; clear hK K
  refine run_op fun K hK => ?_; refine store_all (vs := encV v0) rfl (cell_V _) (by (repeat (first | with_reducible exact Upd.one | with_reducible apply Upd.next))) (by rfl) ?_; refine hK _ _ ?_; clear hK K
  (repeat (first | (with_reducible refine then_n ?_) | (with_reducible refine then_r ?_) | (with_reducible refine then_e ?_) | (with_reducible refine block_n ?_) | (with_reducible refine block_r ?_) | (with_reducible refine block_e ?_) | refine block_o ?_ | (with_reducible refine scope_n ?_) | (with_reducible refine scope_r ?_) | (with_reducible refine scope_e ?_) | (with_reducible refine code_seq ?_) | (with_reducible refine code_skip ?_) | (with_reducible refine code_label ?_) | (with_reducible refine code_block ?_) | (with_reducible refine code_scope ?_) | (with_reducible refine code_exit ?_) | (with_reducible refine code_ret ?_) | refine regq_to ?_ | (with_reducible refine run_nil ?_) | ((with_reducible refine run_probe ?_); refine runq_more ?_) | (with_reducible refine draw_nil ?_) | ((with_reducible refine draw_probe ?_); (first | refine drawq_more ?_ | refine drawq_as ?_)) | refine code_then ?_ | refine code_else ?_))
  exact back_cells (vs := [valV v0, .bool false]) [] ⟨rfl, rfl⟩ (hr := by (intro κ hκ; simp only [resW, withV, lookT_hit, lookT_miss, Nat.reduceBEq]; exact load_all (vs := encV v0) (by (repeat (first | with_reducible exact Lies.one | with_reducible apply Lies.next))) rfl hκ))
theorem drop_nil (k : List UInt8) : Meets Try.prog 52 [.pointer none, .string (str k)] [] fun v A => v = .int .i64 6 ∧ A = [] := by
  refine spec_intro Try.func52 rfl (by kernel_rfl) (by rw [Try.ntmps52]; simp) fun F => ?_; rw [Try.ntmps52, Try.results52]
  (repeat (first | (with_reducible refine then_n ?_) | (with_reducible refine then_r ?_) | (with_reducible refine then_e ?_) | (with_reducible refine block_n ?_) | (with_reducible refine block_r ?_) | (with_reducible refine block_e ?_) | refine block_o ?_ | (with_reducible refine scope_n ?_) | (with_reducible refine scope_r ?_) | (with_reducible refine scope_e ?_) | (with_reducible refine code_seq ?_) | (with_reducible refine code_skip ?_) | (with_reducible refine code_label ?_) | (with_reducible refine code_block ?_) | (with_reducible refine code_scope ?_) | (with_reducible refine code_exit ?_) | (with_reducible refine code_ret ?_) | refine regq_to ?_ | (with_reducible refine run_nil ?_) | ((with_reducible refine run_probe ?_); refine runq_more ?_) | (with_reducible refine draw_nil ?_) | ((with_reducible refine draw_probe ?_); (first | refine drawq_more ?_ | refine drawq_as ?_)) | refine code_then ?_ | refine code_else ?_))
  refine run_op fun K hK => ?_; refine calls_to (place_nil k) ?_; rintro v A ⟨rfl, rfl⟩; (try simp only [List.nil_append, List.cons_append]); refine hK _ _ ?_; clear hK K; (repeat (first | (with_reducible refine then_n ?_) | (with_reducible refine then_r ?_) | (with_reducible refine then_e ?_) | (with_reducible refine block_n ?_) | (with_reducible refine block_r ?_) | (with_reducible refine block_e ?_) | refine block_o ?_ | (with_reducible refine scope_n ?_) | (with_reducible refine scope_r ?_) | (with_reducible refine scope_e ?_) | (with_reducible refine code_seq ?_) | (with_reducible refine code_skip ?_) | (with_reducible refine code_label ?_) | (with_reducible refine code_block ?_) | (with_reducible refine code_scope ?_) | (with_reducible refine code_exit ?_) | (with_reducible refine code_ret ?_) | refine regq_to ?_ | (with_reducible refine run_nil ?_) | ((with_reducible refine run_probe ?_); refine runq_more ?_) | (with_reducible refine draw_nil ?_) | ((with_reducible refine draw_probe ?_); (first | refine drawq_more ?_ | refine drawq_as ?_)) | refine code_then ?_ | refine code_else ?_))
  refine back_tmp [] ?_; exact ⟨rfl, rfl⟩
theorem set_miss (h : Lies4 room la lc l fa fc free r m pl es Cl Cf Cm) (k : List UInt8) (v : V) (hk : mget es k = none) :
    Meets Try.prog 31 [.pointer (some ⟨b, 0, none⟩), .string (str k), valV v] [[(b, tabO room la l.length lc fa free.length fc r (hd pl (-1)) (lst (-1) pl))], Cm]
      fun v A => v = .int .i64 6 ∧ A = [[(b, tabO room la l.length lc fa free.length fc r (hd pl (-1)) (lst (-1) pl))], Cm] := by
  have hm := h.rep.miss.2 hk
  refine spec_intro Try.func31 rfl (by kernel_rfl) (by rw [Try.ntmps31]; simp) fun F => ?_; rw [Try.ntmps31, Try.results31]
  (repeat (first | (with_reducible refine then_n ?_) | (with_reducible refine then_r ?_) | (with_reducible refine then_e ?_) | (with_reducible refine block_n ?_) | (with_reducible refine block_r ?_) | (with_reducible refine block_e ?_) | refine block_o ?_ | (with_reducible refine scope_n ?_) | (with_reducible refine scope_r ?_) | (with_reducible refine scope_e ?_) | (with_reducible refine code_seq ?_) | (with_reducible refine code_skip ?_) | (with_reducible refine code_label ?_) | (with_reducible refine code_block ?_) | (with_reducible refine code_scope ?_) | (with_reducible refine code_exit ?_) | (with_reducible refine code_ret ?_) | refine regq_to ?_ | (with_reducible refine run_nil ?_) | ((with_reducible refine run_probe ?_); refine runq_more ?_) | (with_reducible refine draw_nil ?_) | ((with_reducible refine draw_probe ?_); (first | refine drawq_more ?_ | refine drawq_as ?_)) | refine code_then ?_ | refine code_else ?_))
  refine run_op fun K hK => ?_; refine box_new fun b5 => ?_; (try simp only [Value.cells]); refine hK _ _ ?_; clear hK K
  (repeat (first | (with_reducible refine then_n ?_) | (with_reducible refine then_r ?_) | (with_reducible refine then_e ?_) | (with_reducible refine block_n ?_) | (with_reducible refine block_r ?_) | (with_reducible refine block_e ?_) | refine block_o ?_ | (with_reducible refine scope_n ?_) | (with_reducible refine scope_r ?_) | (with_reducible refine scope_e ?_) | (with_reducible refine code_seq ?_) | (with_reducible refine code_skip ?_) | (with_reducible refine code_label ?_) | (with_reducible refine code_block ?_) | (with_reducible refine code_scope ?_) | (with_reducible refine code_exit ?_) | (with_reducible refine code_ret ?_) | refine regq_to ?_ | (with_reducible refine run_nil ?_) | ((with_reducible refine run_probe ?_); refine runq_more ?_) | (with_reducible refine draw_nil ?_) | ((with_reducible refine draw_probe ?_); (first | refine drawq_more ?_ | refine drawq_as ?_)) | refine code_then ?_ | refine code_else ?_))
  refine run_op fun K hK => ?_; refine calls_to (place_spec b room la l.length lc fa free.length fc r _ _ Cm m h.im k) ?_; rintro v A ⟨rfl, rfl⟩; (try simp only [List.nil_append, List.cons_append]); refine hK _ _ ?_; clear hK K; (repeat (first | (with_reducible refine then_n ?_) | (with_reducible refine then_r ?_) | (with_reducible refine then_e ?_) | (with_reducible refine block_n ?_) | (with_reducible refine block_r ?_) | (with_reducible refine block_e ?_) | refine block_o ?_ | (with_reducible refine scope_n ?_) | (with_reducible refine scope_r ?_) | (with_reducible refine scope_e ?_) | (with_reducible refine code_seq ?_) | (with_reducible refine code_skip ?_) | (with_reducible refine code_label ?_) | (with_reducible refine code_block ?_) | (with_reducible refine code_scope ?_) | (with_reducible refine code_exit ?_) | (with_reducible refine code_ret ?_) | refine regq_to ?_ | (with_reducible refine run_nil ?_) | ((with_reducible refine run_probe ?_); refine runq_more ?_) | (with_reducible refine draw_nil ?_) | ((with_reducible refine draw_probe ?_); (first | refine drawq_more ?_ | refine drawq_as ?_)) | refine code_then ?_ | refine code_else ?_))
  rw [hm]
  (repeat (first | (with_reducible refine then_n ?_) | (with_reducible refine then_r ?_) | (with_reducible refine then_e ?_) | (with_reducible refine block_n ?_) | (with_reducible refine block_r ?_) | (with_reducible refine block_e ?_) | refine block_o ?_ | (with_reducible refine scope_n ?_) | (with_reducible refine scope_r ?_) | (with_reducible refine scope_e ?_) | (with_reducible refine code_seq ?_) | (with_reducible refine code_skip ?_) | (with_reducible refine code_label ?_) | (with_reducible refine code_block ?_) | (with_reducible refine code_scope ?_) | (with_reducible refine code_exit ?_) | (with_reducible refine code_ret ?_) | refine regq_to ?_ | (with_reducible refine run_nil ?_) | ((with_reducible refine run_probe ?_); refine runq_more ?_) | (with_reducible refine draw_nil ?_) | ((with_reducible refine draw_probe ?_); (first | refine drawq_more ?_ | refine drawq_as ?_)) | refine code_then ?_ | refine code_else ?_))
  refine back_tmp [[(b, tabO room la l.length lc fa free.length fc r (hd pl (-1)) (lst (-1) pl))], Cm] ?_; exact ⟨rfl, rfl⟩
theorem get_miss (h : Lies4 room la lc l fa fc free r m pl es Cl Cf Cm) (k : List UInt8) (hk : mget es k = none) :
    Meets Try.prog 44 [.pointer (some ⟨b, 0, none⟩), .string (str k)] [[(b, tabO room la l.length lc fa free.length fc r (hd pl (-1)) (lst (-1) pl))], Cm]
      fun v A => v = .tuple #[valV v0, .bool false] ∧ A = [[(b, tabO room la l.length lc fa free.length fc r (hd pl (-1)) (lst (-1) pl))], Cm] := by
  have hm := h.rep.miss.2 hk
  refine spec_intro Try.func44 rfl (by kernel_rfl) (by rw [Try.ntmps44]; simp) fun F => ?_; rw [Try.ntmps44, Try.results44]
  (repeat (first | (with_reducible refine then_n ?_) | (with_reducible refine then_r ?_) | (with_reducible refine then_e ?_) | (with_reducible refine block_n ?_) | (with_reducible refine block_r ?_) | (with_reducible refine block_e ?_) | refine block_o ?_ | (with_reducible refine scope_n ?_) | (with_reducible refine scope_r ?_) | (with_reducible refine scope_e ?_) | (with_reducible refine code_seq ?_) | (with_reducible refine code_skip ?_) | (with_reducible refine code_label ?_) | (with_reducible refine code_block ?_) | (with_reducible refine code_scope ?_) | (with_reducible refine code_exit ?_) | (with_reducible refine code_ret ?_) | refine regq_to ?_ | (with_reducible refine run_nil ?_) | ((with_reducible refine run_probe ?_); refine runq_more ?_) | (with_reducible refine draw_nil ?_) | ((with_reducible refine draw_probe ?_); (first | refine drawq_more ?_ | refine drawq_as ?_)) | refine code_then ?_ | refine code_else ?_))
  refine run_op fun K hK => ?_; refine alloc_as (encV v0).toArray rfl fun b4 => ?_; refine hK _ _ ?_; clear hK K
  (repeat (first | (with_reducible refine then_n ?_) | (with_reducible refine then_r ?_) | (with_reducible refine then_e ?_) | (with_reducible refine block_n ?_) | (with_reducible refine block_r ?_) | (with_reducible refine block_e ?_) | refine block_o ?_ | (with_reducible refine scope_n ?_) | (with_reducible refine scope_r ?_) | (with_reducible refine scope_e ?_) | (with_reducible refine code_seq ?_) | (with_reducible refine code_skip ?_) | (with_reducible refine code_label ?_) | (with_reducible refine code_block ?_) | (with_reducible refine code_scope ?_) | (with_reducible refine code_exit ?_) | (with_reducible refine code_ret ?_) | refine regq_to ?_ | (with_reducible refine run_nil ?_) | ((with_reducible refine run_probe ?_); refine runq_more ?_) | (with_reducible refine draw_nil ?_) | ((with_reducible refine draw_probe ?_); (first | refine drawq_more ?_ | refine drawq_as ?_)) | refine code_then ?_ | refine code_else ?_))
  refine run_op fun K hK => ?_; refine calls_to (place_spec b room la l.length lc fa free.length fc r _ _ Cm m h.im k) ?_; rintro v A ⟨rfl, rfl⟩; (try simp only [List.nil_append, List.cons_append]); refine hK _ _ ?_; clear hK K; (repeat (first | (with_reducible refine then_n ?_) | (with_reducible refine then_r ?_) | (with_reducible refine then_e ?_) | (with_reducible refine block_n ?_) | (with_reducible refine block_r ?_) | (with_reducible refine block_e ?_) | refine block_o ?_ | (with_reducible refine scope_n ?_) | (with_reducible refine scope_r ?_) | (with_reducible refine scope_e ?_) | (with_reducible refine code_seq ?_) | (with_reducible refine code_skip ?_) | (with_reducible refine code_label ?_) | (with_reducible refine code_block ?_) | (with_reducible refine code_scope ?_) | (with_reducible refine code_exit ?_) | (with_reducible refine code_ret ?_) | refine regq_to ?_ | (with_reducible refine run_nil ?_) | ((with_reducible refine run_probe ?_); refine runq_more ?_) | (with_reducible refine draw_nil ?_) | ((with_reducible refine draw_probe ?_); (first | refine drawq_more ?_ | refine drawq_as ?_)) | refine code_then ?_ | refine code_else ?_))
  rw [hm]
  (repeat (first | (with_reducible refine then_n ?_) | (with_reducible refine then_r ?_) | (with_reducible refine then_e ?_) | (with_reducible refine block_n ?_) | (with_reducible refine block_r ?_) | (with_reducible refine block_e ?_) | refine block_o ?_ | (with_reducible refine scope_n ?_) | (with_reducible refine scope_r ?_) | (with_reducible refine scope_e ?_) | (with_reducible refine code_seq ?_) | (with_reducible refine code_skip ?_) | (with_reducible refine code_label ?_) | (with_reducible refine code_block ?_) | (with_reducible refine code_scope ?_) | (with_reducible refine code_exit ?_) | (with_reducible refine code_ret ?_) | refine regq_to ?_ | (with_reducible refine run_nil ?_) | ((with_reducible refine run_probe ?_); refine runq_more ?_) | (with_reducible refine draw_nil ?_) | ((with_reducible refine draw_probe ?_); (first | refine drawq_more ?_ | refine drawq_as ?_)) | refine code_then ?_ | refine code_else ?_))
  refine run_op fun K hK => ?_; refine alloc_as (encV v0).toArray rfl fun b7 => ?_; refine hK _ _ ?_; clear hK K
  (repeat (first | (with_reducible refine then_n ?_) | (with_reducible refine then_r ?_) | (with_reducible refine then_e ?_) | (with_reducible refine block_n ?_) | (with_reducible refine block_r ?_) | (with_reducible refine block_e ?_) | refine block_o ?_ | (with_reducible refine scope_n ?_) | (with_reducible refine scope_r ?_) | (with_reducible refine scope_e ?_) | (with_reducible refine code_seq ?_) | (with_reducible refine code_skip ?_) | (with_reducible refine code_label ?_) | (with_reducible refine code_block ?_) | (with_reducible refine code_scope ?_) | (with_reducible refine code_exit ?_) | (with_reducible refine code_ret ?_) | refine regq_to ?_ | (with_reducible refine run_nil ?_) | ((with_reducible refine run_probe ?_); refine runq_more ?_) | (with_reducible refine draw_nil ?_) | ((with_reducible refine draw_probe ?_); (first | refine drawq_more ?_ | refine drawq_as ?_)) | refine code_then ?_ | refine code_else ?_))
  refine run_op fun K hK => ?_; refine load_all (vs := encV v0) (by (repeat (first | with_reducible exact Lies.one | with_reducible apply Lies.next))) rfl ?_; refine hK _ _ ?_; clear hK K
  refine run_op fun K hK => ?_; refine store_all (vs := encV v0) rfl (cell_V _) (by (repeat (first | with_reducible exact Upd.one | with_reducible apply Upd.next))) (by rfl) ?_; refine hK _ _ ?_; clear hK K
  (repeat (first | (with_reducible refine then_n ?_) | (with_reducible refine then_r ?_) | (with_reducible refine then_e ?_) | (with_reducible refine block_n ?_) | (with_reducible refine block_r ?_) | (with_reducible refine block_e ?_) | refine block_o ?_ | (with_reducible refine scope_n ?_) | (with_reducible refine scope_r ?_) | (with_reducible refine scope_e ?_) | (with_reducible refine code_seq ?_) | (with_reducible refine code_skip ?_) | (with_reducible refine code_label ?_) | (with_reducible refine code_block ?_) | (with_reducible refine code_scope ?_) | (with_reducible refine code_exit ?_) | (with_reducible refine code_ret ?_) | refine regq_to ?_ | (with_reducible refine run_nil ?_) | ((with_reducible refine run_probe ?_); refine runq_more ?_) | (with_reducible refine draw_nil ?_) | ((with_reducible refine draw_probe ?_); (first | refine drawq_more ?_ | refine drawq_as ?_)) | refine code_then ?_ | refine code_else ?_))
  exact back_cells (vs := [valV v0, .bool false]) [[(b, tabO room la l.length lc fa free.length fc r (hd pl (-1)) (lst (-1) pl))], Cm] ⟨rfl, rfl⟩ (hr := by (intro κ hκ; simp only [resW, withV, lookT_hit, lookT_miss, Nat.reduceBEq]; exact load_all (vs := encV v0) (by (repeat (first | with_reducible exact Lies.one | with_reducible apply Lies.next))) rfl hκ))
theorem drop_miss (h : Lies4 room la lc l fa fc free r m pl es Cl Cf Cm) (k : List UInt8) (hk : mget es k = none) :
    Meets Try.prog 52 [.pointer (some ⟨b, 0, none⟩), .string (str k)] [[(b, tabO room la l.length lc fa free.length fc r (hd pl (-1)) (lst (-1) pl))], Cm]
      fun v A => v = .int .i64 6 ∧ A = [[(b, tabO room la l.length lc fa free.length fc r (hd pl (-1)) (lst (-1) pl))], Cm] := by
  have hm := h.rep.miss.2 hk
  refine spec_intro Try.func52 rfl (by kernel_rfl) (by rw [Try.ntmps52]; simp) fun F => ?_; rw [Try.ntmps52, Try.results52]
  (repeat (first | (with_reducible refine then_n ?_) | (with_reducible refine then_r ?_) | (with_reducible refine then_e ?_) | (with_reducible refine block_n ?_) | (with_reducible refine block_r ?_) | (with_reducible refine block_e ?_) | refine block_o ?_ | (with_reducible refine scope_n ?_) | (with_reducible refine scope_r ?_) | (with_reducible refine scope_e ?_) | (with_reducible refine code_seq ?_) | (with_reducible refine code_skip ?_) | (with_reducible refine code_label ?_) | (with_reducible refine code_block ?_) | (with_reducible refine code_scope ?_) | (with_reducible refine code_exit ?_) | (with_reducible refine code_ret ?_) | refine regq_to ?_ | (with_reducible refine run_nil ?_) | ((with_reducible refine run_probe ?_); refine runq_more ?_) | (with_reducible refine draw_nil ?_) | ((with_reducible refine draw_probe ?_); (first | refine drawq_more ?_ | refine drawq_as ?_)) | refine code_then ?_ | refine code_else ?_))
  refine run_op fun K hK => ?_; refine calls_to (place_spec b room la l.length lc fa free.length fc r _ _ Cm m h.im k) ?_; rintro v A ⟨rfl, rfl⟩; (try simp only [List.nil_append, List.cons_append]); refine hK _ _ ?_; clear hK K; (repeat (first | (with_reducible refine then_n ?_) | (with_reducible refine then_r ?_) | (with_reducible refine then_e ?_) | (with_reducible refine block_n ?_) | (with_reducible refine block_r ?_) | (with_reducible refine block_e ?_) | refine block_o ?_ | (with_reducible refine scope_n ?_) | (with_reducible refine scope_r ?_) | (with_reducible refine scope_e ?_) | (with_reducible refine code_seq ?_) | (with_reducible refine code_skip ?_) | (with_reducible refine code_label ?_) | (with_reducible refine code_block ?_) | (with_reducible refine code_scope ?_) | (with_reducible refine code_exit ?_) | (with_reducible refine code_ret ?_) | refine regq_to ?_ | (with_reducible refine run_nil ?_) | ((with_reducible refine run_probe ?_); refine runq_more ?_) | (with_reducible refine draw_nil ?_) | ((with_reducible refine draw_probe ?_); (first | refine drawq_more ?_ | refine drawq_as ?_)) | refine code_then ?_ | refine code_else ?_))
  rw [hm]
  (repeat (first | (with_reducible refine then_n ?_) | (with_reducible refine then_r ?_) | (with_reducible refine then_e ?_) | (with_reducible refine block_n ?_) | (with_reducible refine block_r ?_) | (with_reducible refine block_e ?_) | refine block_o ?_ | (with_reducible refine scope_n ?_) | (with_reducible refine scope_r ?_) | (with_reducible refine scope_e ?_) | (with_reducible refine code_seq ?_) | (with_reducible refine code_skip ?_) | (with_reducible refine code_label ?_) | (with_reducible refine code_block ?_) | (with_reducible refine code_scope ?_) | (with_reducible refine code_exit ?_) | (with_reducible refine code_ret ?_) | refine regq_to ?_ | (with_reducible refine run_nil ?_) | ((with_reducible refine run_probe ?_); refine runq_more ?_) | (with_reducible refine draw_nil ?_) | ((with_reducible refine draw_probe ?_); (first | refine drawq_more ?_ | refine drawq_as ?_)) | refine code_then ?_ | refine code_else ?_))
  refine back_tmp [[(b, tabO room la l.length lc fa free.length fc r (hd pl (-1)) (lst (-1) pl))], Cm] ?_; exact ⟨rfl, rfl⟩
theorem Lies4.place (h : Lies4 room la lc l fa fc free r m pl es Cl Cf Cm) {k : List UInt8} {v : V} (hk : mget es k = some v) : ∃ i, mget m k = some i ∧ i < l.length ∧ kv l i = some (k, v) := by
  cases hm : mget m k with
  | none => rw [h.rep.miss.1 hm] at hk; cases hk
  | some i =>
    obtain ⟨v', p, q, pre, post, h1, h2, h3, h4, h5, _⟩ := h.rep.at hm
    rw [hk] at h5; cases h5
    refine ⟨i, rfl, ?_, h4⟩
    unfold kv at h4
    cases hl : l[i]? with
    | none => rw [hl] at h4; cases h4
    | some e => exact (List.getElem?_eq_some_iff.1 hl).1

theorem set_ok (h : Lies4 room la lc l fa fc free r m pl es Cl Cf Cm) (k : List UInt8) (v u : V) (hk : mget es k = some u) :
    Meets Try.prog 31 [.pointer (some ⟨b, 0, none⟩), .string (str k), valV v] [[(b, tabO room la l.length lc fa free.length fc r (hd pl (-1)) (lst (-1) pl))], Cl, Cm]
      fun v' A => v' = .int .i64 0 ∧ ∃ l Cl', Lies4 room la lc l fa fc free r m pl (mput es k v) Cl' Cf Cm ∧ A = [[(b, tabO room la l.length lc fa free.length fc r (hd pl (-1)) (lst (-1) pl))], Cl', Cm] := by
  obtain ⟨i, hm, hi, hkv⟩ := h.place hk
  have hs := encE_len
  have hx : l[i]? = some l[i] := List.getElem?_eq_getElem hi
  have hol := h.ol
  have hlen : (mput es k v).length = es.length := by
    have := congrArg List.length (mput_keys_old k v es (by rw [hk]; simp)); simpa using this
  refine spec_intro Try.func31 rfl (by kernel_rfl) (by rw [Try.ntmps31]; simp) fun F => ?_; rw [Try.ntmps31, Try.results31]
  (repeat (first | (with_reducible refine then_n ?_) | (with_reducible refine then_r ?_) | (with_reducible refine then_e ?_) | (with_reducible refine block_n ?_) | (with_reducible refine block_r ?_) | (with_reducible refine block_e ?_) | refine block_o ?_ | (with_reducible refine scope_n ?_) | (with_reducible refine scope_r ?_) | (with_reducible refine scope_e ?_) | (with_reducible refine code_seq ?_) | (with_reducible refine code_skip ?_) | (with_reducible refine code_label ?_) | (with_reducible refine code_block ?_) | (with_reducible refine code_scope ?_) | (with_reducible refine code_exit ?_) | (with_reducible refine code_ret ?_) | refine regq_to ?_ | (with_reducible refine run_nil ?_) | ((with_reducible refine run_probe ?_); refine runq_more ?_) | (with_reducible refine draw_nil ?_) | ((with_reducible refine draw_probe ?_); (first | refine drawq_more ?_ | refine drawq_as ?_)) | refine code_then ?_ | refine code_else ?_))
  refine run_op fun K hK => ?_; refine box_new fun b5 => ?_; (try simp only [Value.cells]); refine hK _ _ ?_; clear hK K
  (repeat (first | (with_reducible refine then_n ?_) | (with_reducible refine then_r ?_) | (with_reducible refine then_e ?_) | (with_reducible refine block_n ?_) | (with_reducible refine block_r ?_) | (with_reducible refine block_e ?_) | refine block_o ?_ | (with_reducible refine scope_n ?_) | (with_reducible refine scope_r ?_) | (with_reducible refine scope_e ?_) | (with_reducible refine code_seq ?_) | (with_reducible refine code_skip ?_) | (with_reducible refine code_label ?_) | (with_reducible refine code_block ?_) | (with_reducible refine code_scope ?_) | (with_reducible refine code_exit ?_) | (with_reducible refine code_ret ?_) | refine regq_to ?_ | (with_reducible refine run_nil ?_) | ((with_reducible refine run_probe ?_); refine runq_more ?_) | (with_reducible refine draw_nil ?_) | ((with_reducible refine draw_probe ?_); (first | refine drawq_more ?_ | refine drawq_as ?_)) | refine code_then ?_ | refine code_else ?_))
  refine run_op fun K hK => ?_; refine calls_to (place_spec b room la l.length lc fa free.length fc r _ _ Cm m h.im k) ?_; rintro v A ⟨rfl, rfl⟩; (try simp only [List.nil_append, List.cons_append]); refine hK _ _ ?_; clear hK K; (repeat (first | (with_reducible refine then_n ?_) | (with_reducible refine then_r ?_) | (with_reducible refine then_e ?_) | (with_reducible refine block_n ?_) | (with_reducible refine block_r ?_) | (with_reducible refine block_e ?_) | refine block_o ?_ | (with_reducible refine scope_n ?_) | (with_reducible refine scope_r ?_) | (with_reducible refine scope_e ?_) | (with_reducible refine code_seq ?_) | (with_reducible refine code_skip ?_) | (with_reducible refine code_label ?_) | (with_reducible refine code_block ?_) | (with_reducible refine code_scope ?_) | (with_reducible refine code_exit ?_) | (with_reducible refine code_ret ?_) | refine regq_to ?_ | (with_reducible refine run_nil ?_) | ((with_reducible refine run_probe ?_); refine runq_more ?_) | (with_reducible refine draw_nil ?_) | ((with_reducible refine draw_probe ?_); (first | refine drawq_more ?_ | refine drawq_as ?_)) | refine code_then ?_ | refine code_else ?_))
  rw [hm]
  (repeat (first | (with_reducible refine then_n ?_) | (with_reducible refine then_r ?_) | (with_reducible refine then_e ?_) | (with_reducible refine block_n ?_) | (with_reducible refine block_r ?_) | (with_reducible refine block_e ?_) | refine block_o ?_ | (with_reducible refine scope_n ?_) | (with_reducible refine scope_r ?_) | (with_reducible refine scope_e ?_) | (with_reducible refine code_seq ?_) | (with_reducible refine code_skip ?_) | (with_reducible refine code_label ?_) | (with_reducible refine code_block ?_) | (with_reducible refine code_scope ?_) | (with_reducible refine code_exit ?_) | (with_reducible refine code_ret ?_) | refine regq_to ?_ | (with_reducible refine run_nil ?_) | ((with_reducible refine run_probe ?_); refine runq_more ?_) | (with_reducible refine draw_nil ?_) | ((with_reducible refine draw_probe ?_); (first | refine drawq_more ?_ | refine drawq_as ?_)) | refine code_then ?_ | refine code_else ?_))
  refine code_dr [[], [0], [0, 1], [0, 1, 2], [], [], [0, 1, 2, 3, 4, 5], [0, 1, 2, 3, 4, 5, 6], [0, 1, 2, 3, 4, 5, 6, 7]] [(0, false, []), (1, false, []), (2, false, []), (3, false, []), (4, false, []), (5, false, []), (6, false, []), (7, false, []), (8, true, [])] ?_
  (repeat (first | (with_reducible refine then_n ?_) | (with_reducible refine then_r ?_) | (with_reducible refine then_e ?_) | (with_reducible refine block_n ?_) | (with_reducible refine block_r ?_) | (with_reducible refine block_e ?_) | refine block_o ?_ | (with_reducible refine scope_n ?_) | (with_reducible refine scope_r ?_) | (with_reducible refine scope_e ?_) | (with_reducible refine code_seq ?_) | (with_reducible refine code_skip ?_) | (with_reducible refine code_label ?_) | (with_reducible refine code_block ?_) | (with_reducible refine code_scope ?_) | (with_reducible refine code_exit ?_) | (with_reducible refine code_ret ?_) | refine regq_to ?_ | (with_reducible refine run_nil ?_) | ((with_reducible refine run_probe ?_); refine runq_more ?_) | (with_reducible refine draw_nil ?_) | ((with_reducible refine draw_probe ?_); (first | refine drawq_more ?_ | refine drawq_as ?_)) | refine code_then ?_ | refine code_else ?_))
  refine draw_quiet (by simp only [List.getElem?_toArray, List.getElem?_cons_succ, List.getElem?_cons_zero]; rfl) fun K hK => ?_; (try simp only [gos, gob, Nat.reduceBEq, if_true, reduceIte, reduceCtorEq, Nat.reduceLT, Nat.reduceEqDiff, Nat.reduceAdd, Nat.reduceSub, Int.reduceLT, Int.reduceLE, Int.reduceBEq, Int.reduceBNe, Int.reduceToNat, Int.reduceAdd, Int.reduceSub, Int.reduceMul, Int.reduceDiv, Int.reduceMod, Int.reducePow, Int.toNat_natCast, Nat.sub_zero, goq]); (try (simp (disch := omega) only [gow, gobw]; try simp only [gos, gob, Nat.reduceBEq, if_true, reduceIte, reduceCtorEq, Nat.reduceLT, Nat.reduceEqDiff, Nat.reduceAdd, Nat.reduceSub, Int.reduceLT, Int.reduceLE, Int.reduceBEq, Int.reduceBNe, Int.reduceToNat, Int.reduceAdd, Int.reduceSub, Int.reduceMul, Int.reduceDiv, Int.reduceMod, Int.reducePow, Int.toNat_natCast, Nat.sub_zero, goq])); refine load_all (vs := encV v) (by (repeat (first | with_reducible exact Lies.one | with_reducible apply Lies.next))) rfl ?_; refine hK _ _ ?_; clear hK K
  (repeat (first | (with_reducible refine then_n ?_) | (with_reducible refine then_r ?_) | (with_reducible refine then_e ?_) | (with_reducible refine block_n ?_) | (with_reducible refine block_r ?_) | (with_reducible refine block_e ?_) | refine block_o ?_ | (with_reducible refine scope_n ?_) | (with_reducible refine scope_r ?_) | (with_reducible refine scope_e ?_) | (with_reducible refine code_seq ?_) | (with_reducible refine code_skip ?_) | (with_reducible refine code_label ?_) | (with_reducible refine code_block ?_) | (with_reducible refine code_scope ?_) | (with_reducible refine code_exit ?_) | (with_reducible refine code_ret ?_) | refine regq_to ?_ | (with_reducible refine run_nil ?_) | ((with_reducible refine run_probe ?_); refine runq_more ?_) | (with_reducible refine draw_nil ?_) | ((with_reducible refine draw_probe ?_); (first | refine drawq_more ?_ | refine drawq_as ?_)) | refine code_then ?_ | refine code_else ?_))
  refine draw_op fun K hK => ?_; refine store_el_sub (n := 4) (x' := { l[i] with v := v }) hol (by (repeat (first | with_reducible exact Pick.head _ _ | with_reducible apply Pick.tail))) hs hx (by decide) rfl (cell_V v) (by decide) rfl (fun C2 ho2 => ?_); (repeat refine pendq ?_); refine hK _ _ ?_; clear hK K
  rw [setV_set v hx] at ho2
  (repeat (first | (with_reducible refine then_n ?_) | (with_reducible refine then_r ?_) | (with_reducible refine then_e ?_) | (with_reducible refine block_n ?_) | (with_reducible refine block_r ?_) | (with_reducible refine block_e ?_) | refine block_o ?_ | (with_reducible refine scope_n ?_) | (with_reducible refine scope_r ?_) | (with_reducible refine scope_e ?_) | (with_reducible refine code_seq ?_) | (with_reducible refine code_skip ?_) | (with_reducible refine code_label ?_) | (with_reducible refine code_block ?_) | (with_reducible refine code_scope ?_) | (with_reducible refine code_exit ?_) | (with_reducible refine code_ret ?_) | refine regq_to ?_ | (with_reducible refine run_nil ?_) | ((with_reducible refine run_probe ?_); refine runq_more ?_) | (with_reducible refine draw_nil ?_) | ((with_reducible refine draw_probe ?_); (first | refine drawq_more ?_ | refine drawq_as ?_)) | refine code_then ?_ | refine code_else ?_))
  refine back_tmp [[(b, tabO room la l.length lc fa free.length fc r (hd pl (-1)) (lst (-1) pl))], C2, Cm] ?_
  exact ⟨rfl, setV l i v, C2, ⟨by unfold OwnE; rw [setV_length]; exact ho2, h.ofr, h.im, h.rep.set hm v, h.big, by rw [hlen]; exact h.fits, by rw [setV_length, hlen]; exact h.all, by rw [setV_length]; exact h.ll⟩, by rw [setV_length]⟩

theorem get_ok (h : Lies4 room la lc l fa fc free r m pl es Cl Cf Cm) (k : List UInt8) (v : V) (hk : mget es k = some v) :
    Meets Try.prog 44 [.pointer (some ⟨b, 0, none⟩), .string (str k)] [[(b, tabO room la l.length lc fa free.length fc r (hd pl (-1)) (lst (-1) pl))], Cl, Cm]
      fun v' A => v' = .tuple #[valV v, .bool true] ∧ A = [[(b, tabO room la l.length lc fa free.length fc r (hd pl (-1)) (lst (-1) pl))], Cl, Cm] := by
  obtain ⟨i, hm, hi, hkv⟩ := h.place hk
  have hs := encE_len
  have hx : l[i]? = some l[i] := List.getElem?_eq_getElem hi
  have hol := h.ol
  have hv : l[i].v = v := by unfold kv at hkv; rw [hx] at hkv; simp at hkv; exact hkv.2
  refine spec_intro Try.func44 rfl (by kernel_rfl) (by rw [Try.ntmps44]; simp) fun F => ?_; rw [Try.ntmps44, Try.results44]
  (repeat (first | (with_reducible refine then_n ?_) | (with_reducible refine then_r ?_) | (with_reducible refine then_e ?_) | (with_reducible refine block_n ?_) | (with_reducible refine block_r ?_) | (with_reducible refine block_e ?_) | refine block_o ?_ | (with_reducible refine scope_n ?_) | (with_reducible refine scope_r ?_) | (with_reducible refine scope_e ?_) | (with_reducible refine code_seq ?_) | (with_reducible refine code_skip ?_) | (with_reducible refine code_label ?_) | (with_reducible refine code_block ?_) | (with_reducible refine code_scope ?_) | (with_reducible refine code_exit ?_) | (with_reducible refine code_ret ?_) | refine regq_to ?_ | (with_reducible refine run_nil ?_) | ((with_reducible refine run_probe ?_); refine runq_more ?_) | (with_reducible refine draw_nil ?_) | ((with_reducible refine draw_probe ?_); (first | refine drawq_more ?_ | refine drawq_as ?_)) | refine code_then ?_ | refine code_else ?_))
  refine run_op fun K hK => ?_; refine alloc_as (encV v0).toArray rfl fun b4 => ?_; refine hK _ _ ?_; clear hK K
  (repeat (first | (with_reducible refine then_n ?_) | (with_reducible refine then_r ?_) | (with_reducible refine then_e ?_) | (with_reducible refine block_n ?_) | (with_reducible refine block_r ?_) | (with_reducible refine block_e ?_) | refine block_o ?_ | (with_reducible refine scope_n ?_) | (with_reducible refine scope_r ?_) | (with_reducible refine scope_e ?_) | (with_reducible refine code_seq ?_) | (with_reducible refine code_skip ?_) | (with_reducible refine code_label ?_) | (with_reducible refine code_block ?_) | (with_reducible refine code_scope ?_) | (with_reducible refine code_exit ?_) | (with_reducible refine code_ret ?_) | refine regq_to ?_ | (with_reducible refine run_nil ?_) | ((with_reducible refine run_probe ?_); refine runq_more ?_) | (with_reducible refine draw_nil ?_) | ((with_reducible refine draw_probe ?_); (first | refine drawq_more ?_ | refine drawq_as ?_)) | refine code_then ?_ | refine code_else ?_))
  refine run_op fun K hK => ?_; refine calls_to (place_spec b room la l.length lc fa free.length fc r _ _ Cm m h.im k) ?_; rintro v A ⟨rfl, rfl⟩; (try simp only [List.nil_append, List.cons_append]); refine hK _ _ ?_; clear hK K; (repeat (first | (with_reducible refine then_n ?_) | (with_reducible refine then_r ?_) | (with_reducible refine then_e ?_) | (with_reducible refine block_n ?_) | (with_reducible refine block_r ?_) | (with_reducible refine block_e ?_) | refine block_o ?_ | (with_reducible refine scope_n ?_) | (with_reducible refine scope_r ?_) | (with_reducible refine scope_e ?_) | (with_reducible refine code_seq ?_) | (with_reducible refine code_skip ?_) | (with_reducible refine code_label ?_) | (with_reducible refine code_block ?_) | (with_reducible refine code_scope ?_) | (with_reducible refine code_exit ?_) | (with_reducible refine code_ret ?_) | refine regq_to ?_ | (with_reducible refine run_nil ?_) | ((with_reducible refine run_probe ?_); refine runq_more ?_) | (with_reducible refine draw_nil ?_) | ((with_reducible refine draw_probe ?_); (first | refine drawq_more ?_ | refine drawq_as ?_)) | refine code_then ?_ | refine code_else ?_))
  rw [hm]
  (repeat (first | (with_reducible refine then_n ?_) | (with_reducible refine then_r ?_) | (with_reducible refine then_e ?_) | (with_reducible refine block_n ?_) | (with_reducible refine block_r ?_) | (with_reducible refine block_e ?_) | refine block_o ?_ | (with_reducible refine scope_n ?_) | (with_reducible refine scope_r ?_) | (with_reducible refine scope_e ?_) | (with_reducible refine code_seq ?_) | (with_reducible refine code_skip ?_) | (with_reducible refine code_label ?_) | (with_reducible refine code_block ?_) | (with_reducible refine code_scope ?_) | (with_reducible refine code_exit ?_) | (with_reducible refine code_ret ?_) | refine regq_to ?_ | (with_reducible refine run_nil ?_) | ((with_reducible refine run_probe ?_); refine runq_more ?_) | (with_reducible refine draw_nil ?_) | ((with_reducible refine draw_probe ?_); (first | refine drawq_more ?_ | refine drawq_as ?_)) | refine code_then ?_ | refine code_else ?_))
  refine run_op fun K hK => ?_; refine load_el_sub (n := 4) (vs := encV v) hol hs hx (by decide) (by decide) (by rw [← hv]; rfl) (by (repeat (first | with_reducible assumption | with_reducible exact List.mem_cons_self .. | with_reducible apply List.mem_cons_of_mem))) ?_; refine hK _ _ ?_; clear hK K
  refine run_op fun K hK => ?_; refine store_all (vs := encV v) rfl (cell_V _) (by (repeat (first | with_reducible exact Upd.one | with_reducible apply Upd.next))) (by rfl) ?_; refine hK _ _ ?_; clear hK K
  (repeat (first | (with_reducible refine then_n ?_) | (with_reducible refine then_r ?_) | (with_reducible refine then_e ?_) | (with_reducible refine block_n ?_) | (with_reducible refine block_r ?_) | (with_reducible refine block_e ?_) | refine block_o ?_ | (with_reducible refine scope_n ?_) | (with_reducible refine scope_r ?_) | (with_reducible refine scope_e ?_) | (with_reducible refine code_seq ?_) | (with_reducible refine code_skip ?_) | (with_reducible refine code_label ?_) | (with_reducible refine code_block ?_) | (with_reducible refine code_scope ?_) | (with_reducible refine code_exit ?_) | (with_reducible refine code_ret ?_) | refine regq_to ?_ | (with_reducible refine run_nil ?_) | ((with_reducible refine run_probe ?_); refine runq_more ?_) | (with_reducible refine draw_nil ?_) | ((with_reducible refine draw_probe ?_); (first | refine drawq_more ?_ | refine drawq_as ?_)) | refine code_then ?_ | refine code_else ?_))
  exact back_cells (vs := [valV v, .bool true]) [[(b, tabO room la l.length lc fa free.length fc r (hd pl (-1)) (lst (-1) pl))], Cl, Cm] ⟨rfl, rfl⟩ (hr := by (intro κ hκ; simp only [resW, withV, lookT_hit, lookT_miss, Nat.reduceBEq]; exact load_all (vs := encV v) (by (repeat (first | with_reducible exact Lies.one | with_reducible apply Lies.next))) rfl hκ))

end ops
end Go.Proofs.Ytjagaagemgppcaa

/- A table: an entry that is no more, one that is the last. Conditions: as each says. -/
set_option linter.unusedSimpArgs false
set_option linter.unusedVariables false
namespace Go.Proofs.Ytjagaagemgppcaa
open Go Go.Ost Go.Tab

section ops
variable {b room : Nat} {la : Option Addr} {lc : Nat} {l : List (En V)} {fa : Option Addr} {fc : Nat} {free : List Nat} {r : Nat} {m : List (List UInt8 × Nat)} {pl : List Nat} {es : List (List UInt8 × V)} {Cl Cf Cm : Chunk}

theorem drop_ok (h : Lies4 room la lc l fa fc free r m pl es Cl Cf Cm) (k : List UInt8) (u : V) (hk : mget es k = some u) :
    Meets Try.prog 52 [.pointer (some ⟨b, 0, none⟩), .string (str k)] [[(b, tabO room la l.length lc fa free.length fc r (hd pl (-1)) (lst (-1) pl))], Cl, Cf, Cm]
      fun v' A => v' = .int .i64 0 ∧ ∃ la lc l fa fc free m pl Cl Cf Cm, Lies4 room la lc l fa fc free r m pl (mdel es k) Cl Cf Cm ∧ A = [[(b, tabO room la l.length lc fa free.length fc r (hd pl (-1)) (lst (-1) pl))], Cl, Cf, Cm] := by
  obtain ⟨i, hm, hi, hkv⟩ := h.place hk
  obtain ⟨a, n, e, hx, rfl, rfl, ha, hn, pl', hrep, q1, q2⟩ := h.rep.drop hm ⟨[], v0, 0, 0⟩
  have hs := encE_len
  have hlu := unL_length l e.ahead e.next
  have hll := h.ll
  have hbig := h.big
  have hall := h.all
  have hml := h.rep.mlen
  have hml' := hrep.mlen
  have hofr := h.ofr
  have him := h.im
  have hfits := h.fits
  have hlen : (mdel es k).length + 1 = es.length := by
    obtain ⟨pre, post, c1, _, c3, _⟩ := mget_split hk
    rw [c3, c1]; simp; omega
  refine spec_intro Try.func52 rfl (by kernel_rfl) (by rw [Try.ntmps52]; simp) fun F => ?_; rw [Try.ntmps52, Try.results52]
  (repeat (first | (with_reducible refine then_n ?_) | (with_reducible refine then_r ?_) | (with_reducible refine then_e ?_) | (with_reducible refine block_n ?_) | (with_reducible refine block_r ?_) | (with_reducible refine block_e ?_) | refine block_o ?_ | (with_reducible refine scope_n ?_) | (with_reducible refine scope_r ?_) | (with_reducible refine scope_e ?_) | (with_reducible refine code_seq ?_) | (with_reducible refine code_skip ?_) | (with_reducible refine code_label ?_) | (with_reducible refine code_block ?_) | (with_reducible refine code_scope ?_) | (with_reducible refine code_exit ?_) | (with_reducible refine code_ret ?_) | refine regq_to ?_ | (with_reducible refine run_nil ?_) | ((with_reducible refine run_probe ?_); refine runq_more ?_) | (with_reducible refine draw_nil ?_) | ((with_reducible refine draw_probe ?_); (first | refine drawq_more ?_ | refine drawq_as ?_)) | refine code_then ?_ | refine code_else ?_))
  refine run_op fun K hK => ?_; refine calls_to (place_spec b room la l.length lc fa free.length fc r _ _ Cm m h.im k) ?_; rintro v A ⟨rfl, rfl⟩; (try simp only [List.nil_append, List.cons_append]); refine hK _ _ ?_; clear hK K; (repeat (first | (with_reducible refine then_n ?_) | (with_reducible refine then_r ?_) | (with_reducible refine then_e ?_) | (with_reducible refine block_n ?_) | (with_reducible refine block_r ?_) | (with_reducible refine block_e ?_) | refine block_o ?_ | (with_reducible refine scope_n ?_) | (with_reducible refine scope_r ?_) | (with_reducible refine scope_e ?_) | (with_reducible refine code_seq ?_) | (with_reducible refine code_skip ?_) | (with_reducible refine code_label ?_) | (with_reducible refine code_block ?_) | (with_reducible refine code_scope ?_) | (with_reducible refine code_exit ?_) | (with_reducible refine code_ret ?_) | refine regq_to ?_ | (with_reducible refine run_nil ?_) | ((with_reducible refine run_probe ?_); refine runq_more ?_) | (with_reducible refine draw_nil ?_) | ((with_reducible refine draw_probe ?_); (first | refine drawq_more ?_ | refine drawq_as ?_)) | refine code_then ?_ | refine code_else ?_))
  rw [hm]
  (repeat (first | (with_reducible refine then_n ?_) | (with_reducible refine then_r ?_) | (with_reducible refine then_e ?_) | (with_reducible refine block_n ?_) | (with_reducible refine block_r ?_) | (with_reducible refine block_e ?_) | refine block_o ?_ | (with_reducible refine scope_n ?_) | (with_reducible refine scope_r ?_) | (with_reducible refine scope_e ?_) | (with_reducible refine code_seq ?_) | (with_reducible refine code_skip ?_) | (with_reducible refine code_label ?_) | (with_reducible refine code_block ?_) | (with_reducible refine code_scope ?_) | (with_reducible refine code_exit ?_) | (with_reducible refine code_ret ?_) | refine regq_to ?_ | (with_reducible refine run_nil ?_) | ((with_reducible refine run_probe ?_); refine runq_more ?_) | (with_reducible refine draw_nil ?_) | ((with_reducible refine draw_probe ?_); (first | refine drawq_more ?_ | refine drawq_as ?_)) | refine code_then ?_ | refine code_else ?_))
  refine run_op fun K hK => ?_; refine calls_to (unhang_spec b room la lc fa free.length fc r _ _ Cl l h.ol i e hx ha hn) ?_; rintro v A ⟨C1, ho1, rfl⟩; (try simp only [List.nil_append, List.cons_append]); refine hK _ _ ?_; clear hK K; (repeat (first | (with_reducible refine then_n ?_) | (with_reducible refine then_r ?_) | (with_reducible refine then_e ?_) | (with_reducible refine block_n ?_) | (with_reducible refine block_r ?_) | (with_reducible refine block_e ?_) | refine block_o ?_ | (with_reducible refine scope_n ?_) | (with_reducible refine scope_r ?_) | (with_reducible refine scope_e ?_) | (with_reducible refine code_seq ?_) | (with_reducible refine code_skip ?_) | (with_reducible refine code_label ?_) | (with_reducible refine code_block ?_) | (with_reducible refine code_scope ?_) | (with_reducible refine code_exit ?_) | (with_reducible refine code_ret ?_) | refine regq_to ?_ | (with_reducible refine run_nil ?_) | ((with_reducible refine run_probe ?_); refine runq_more ?_) | (with_reducible refine draw_nil ?_) | ((with_reducible refine draw_probe ?_); (first | refine drawq_more ?_ | refine drawq_as ?_)) | refine code_then ?_ | refine code_else ?_))
  rw [q1, q2, ← hlu]
  refine run_op fun K hK => ?_; rw [build_struct (ps := []) (cs := (encE ⟨[], v0, 0, 0⟩).toArray) rfl]; refine hK _ _ ?_; clear hK K
  (repeat (first | (with_reducible refine then_n ?_) | (with_reducible refine then_r ?_) | (with_reducible refine then_e ?_) | (with_reducible refine block_n ?_) | (with_reducible refine block_r ?_) | (with_reducible refine block_e ?_) | refine block_o ?_ | (with_reducible refine scope_n ?_) | (with_reducible refine scope_r ?_) | (with_reducible refine scope_e ?_) | (with_reducible refine code_seq ?_) | (with_reducible refine code_skip ?_) | (with_reducible refine code_label ?_) | (with_reducible refine code_block ?_) | (with_reducible refine code_scope ?_) | (with_reducible refine code_exit ?_) | (with_reducible refine code_ret ?_) | refine regq_to ?_ | (with_reducible refine run_nil ?_) | ((with_reducible refine run_probe ?_); refine runq_more ?_) | (with_reducible refine draw_nil ?_) | ((with_reducible refine draw_probe ?_); (first | refine drawq_more ?_ | refine drawq_as ?_)) | refine code_then ?_ | refine code_else ?_))
  refine run_op fun K hK => ?_; refine store_el_agg (x' := (⟨[], v0, 0, 0⟩ : En V)) ho1 (by (repeat (first | with_reducible exact Pick.head _ _ | with_reducible apply Pick.tail))) hs (by omega) (by decide) (cell_E _) (fun C2 ho2 => ?_); refine hK _ _ ?_; clear hK K
  (repeat (first | (with_reducible refine then_n ?_) | (with_reducible refine then_r ?_) | (with_reducible refine then_e ?_) | (with_reducible refine block_n ?_) | (with_reducible refine block_r ?_) | (with_reducible refine block_e ?_) | refine block_o ?_ | (with_reducible refine scope_n ?_) | (with_reducible refine scope_r ?_) | (with_reducible refine scope_e ?_) | (with_reducible refine code_seq ?_) | (with_reducible refine code_skip ?_) | (with_reducible refine code_label ?_) | (with_reducible refine code_block ?_) | (with_reducible refine code_scope ?_) | (with_reducible refine code_exit ?_) | (with_reducible refine code_ret ?_) | refine regq_to ?_ | (with_reducible refine run_nil ?_) | ((with_reducible refine run_probe ?_); refine runq_more ?_) | (with_reducible refine draw_nil ?_) | ((with_reducible refine draw_probe ?_); (first | refine drawq_more ?_ | refine drawq_as ?_)) | refine code_then ?_ | refine code_else ?_))
  refine run_op fun K hK => ?_; refine build1 rfl [nat64 i] (by decide) rfl rfl (by simp [Value.cell1]) (fun b3 C3 ho3 => ?_); refine hK _ _ ?_; clear hK K
  refine run_op fun K hK => ?_; refine app1 rfl hofr (.inr (by (repeat (first | with_reducible exact Pick.head _ _ | with_reducible apply Pick.tail)))) (ho3.rd (by (repeat (first | with_reducible assumption | with_reducible exact List.mem_cons_self .. | with_reducible apply List.mem_cons_of_mem)))) (by simp [Value.cell1]) (by omega) (by decide) (fun C4 a4 cap4 ho4 => ?_); refine hK _ _ ?_; clear hK K
  have e4 : free.map nat64 ++ [nat64 i] = (free ++ [i]).map nat64 := by simp
  have e5 : free.length + 1 = (free ++ [i]).length := by simp
  rw [e4, e5] at ho4
  rw [e5]
  (repeat (first | (with_reducible refine then_n ?_) | (with_reducible refine then_r ?_) | (with_reducible refine then_e ?_) | (with_reducible refine block_n ?_) | (with_reducible refine block_r ?_) | (with_reducible refine block_e ?_) | refine block_o ?_ | (with_reducible refine scope_n ?_) | (with_reducible refine scope_r ?_) | (with_reducible refine scope_e ?_) | (with_reducible refine code_seq ?_) | (with_reducible refine code_skip ?_) | (with_reducible refine code_label ?_) | (with_reducible refine code_block ?_) | (with_reducible refine code_scope ?_) | (with_reducible refine code_exit ?_) | (with_reducible refine code_ret ?_) | refine regq_to ?_ | (with_reducible refine run_nil ?_) | ((with_reducible refine run_probe ?_); refine runq_more ?_) | (with_reducible refine draw_nil ?_) | ((with_reducible refine draw_probe ?_); (first | refine drawq_more ?_ | refine drawq_as ?_)) | refine code_then ?_ | refine code_else ?_))
  (try simp only [List.setIfInBounds_toArray, List.set_cons_succ, List.set_cons_zero, List.getElem_toArray, List.getElem_cons_succ, List.getElem_cons_zero])
  refine run_op fun K hK => ?_; refine map_del him (by (repeat (first | with_reducible exact Pick.head _ _ | with_reducible apply Pick.tail))) (fun C6 him6 => ?_); refine hK _ _ ?_; clear hK K
  rw [mdel_val nat64 m k] at him6
  (repeat (first | (with_reducible refine then_n ?_) | (with_reducible refine then_r ?_) | (with_reducible refine then_e ?_) | (with_reducible refine block_n ?_) | (with_reducible refine block_r ?_) | (with_reducible refine block_e ?_) | refine block_o ?_ | (with_reducible refine scope_n ?_) | (with_reducible refine scope_r ?_) | (with_reducible refine scope_e ?_) | (with_reducible refine code_seq ?_) | (with_reducible refine code_skip ?_) | (with_reducible refine code_label ?_) | (with_reducible refine code_block ?_) | (with_reducible refine code_scope ?_) | (with_reducible refine code_exit ?_) | (with_reducible refine code_ret ?_) | refine regq_to ?_ | (with_reducible refine run_nil ?_) | ((with_reducible refine run_probe ?_); refine runq_more ?_) | (with_reducible refine draw_nil ?_) | ((with_reducible refine draw_probe ?_); (first | refine drawq_more ?_ | refine drawq_as ?_)) | refine code_then ?_ | refine code_else ?_))
  refine back_tmp [[(b, tabO room la (unL l e.ahead e.next).length lc a4 (free ++ [i]).length cap4 r (hd pl' (-1)) (lst (-1) pl'))], C2, C4, C6] ?_
  exact ⟨rfl, la, lc, (unL l e.ahead e.next).set i ⟨[], v0, 0, 0⟩, a4, cap4, free ++ [i], mdel m k, pl', C2, C4, C6, ⟨by unfold OwnE; rw [List.length_set]; exact ho2, ho4, him6, hrep, hbig, by omega, by rw [List.length_set, hlu]; simp; omega, by rw [List.length_set, hlu]; exact hll⟩, by rw [List.length_set]⟩

end ops
end Go.Proofs.Ytjagaagemgppcaa

/- A table: its row, and all of it. Conditions: as each says. -/
set_option linter.unusedSimpArgs false
set_option linter.unusedVariables false
namespace Go.Proofs.Ytjagaagemgppcaa
open Go Go.Ost Go.Tab

theorem lk_at {V : Type} {l : List (En V)} {pre suf : List Nat} {i : Nat} (h : Lk l (-1) (pre ++ i :: suf) (-1)) : ∃ e, l[i]? = some e ∧ e.next = hd suf (-1) := by
  obtain ⟨_, ⟨e, h1, _, h3⟩, _⟩ := (lk_app l pre (i :: suf) (-1) (-1)).1 h
  exact ⟨e, h1, h3⟩
theorem ents_of {V : Type} {l : List (En V)} : ∀ (pl : List Nat) (es : List (List UInt8 × V)), pl.map (kv l) = es.map some → ∃ ents : List (En V), ents.length = pl.length ∧ (∀ (j i : Nat), pl[j]? = some i → l[i]? = ents[j]?) ∧ ents.map (fun e => (e.key, e.v)) = es
  | [], [], _ => ⟨[], rfl, fun j i h => by simp at h, rfl⟩
  | [], _ :: _, h => by cases h
  | _ :: _, [], h => by cases h
  | i :: pl, x :: es, h => by
    simp only [List.map_cons, List.cons.injEq] at h
    obtain ⟨ents, h1, h2, h3⟩ := ents_of pl es h.2
    have hk := h.1
    unfold kv at hk
    cases hl : l[i]? with
    | none => rw [hl] at hk; cases hk
    | some e =>
      rw [hl] at hk
      simp only [Option.map_some, Option.some.injEq] at hk
      refine ⟨e :: ents, by simp [h1], fun j k hj => ?_, by rw [List.map_cons, hk, h3]⟩
      cases j with
      | zero => simp at hj; subst hj; simpa using hl
      | succ j => simp at hj ⊢; exact h2 j k hj
theorem ents_el {V : Type} {ents : List (En V)} {es : List (List UInt8 × V)} (h : ents.map (fun e => (e.key, e.v)) = es) {j : Nat} {e : En V} (he : ents[j]? = some e) : es[j]? = some (e.key, e.v) := by
  rw [← h, List.getElem?_map, he]; rfl

abbrev tabB (b room : Nat) (la : Option Addr) (l : List (En V)) (lc : Nat) (fa : Option Addr) (free : List Nat) (fc r : Nat) (pl : List Nat) : Chunk :=
  [(b, tabO room la l.length lc fa free.length fc r (hd pl (-1)) (lst (-1) pl))]
abbrev entB (c : Nat) (e : En V) : Chunk := [(c, .cells (encE e).toArray 97 (0, 0))]

section all
variable {b room : Nat} {la : Option Addr} {lc : Nat} {l : List (En V)} {fa : Option Addr} {fc : Nat} {free : List Nat} {r : Nat} {m : List (List UInt8 × Nat)} {pl : List Nat} {es : List (List UInt8 × V)} {Cl Cf Cm : Chunk}

theorem trow_nil : Meets Try.prog 59 [.pointer none] [] fun v A => v = .slice none 0 0 ∧ A = [] := by
  refine spec_intro Try.func59 rfl (by kernel_rfl) (by rw [Try.ntmps59]; simp) fun F => ?_; rw [Try.ntmps59, Try.results59]
  (repeat (first | (with_reducible refine then_n ?_) | (with_reducible refine then_r ?_) | (with_reducible refine then_e ?_) | (with_reducible refine block_n ?_) | (with_reducible refine block_r ?_) | (with_reducible refine block_e ?_) | refine block_o ?_ | (with_reducible refine scope_n ?_) | (with_reducible refine scope_r ?_) | (with_reducible refine scope_e ?_) | (with_reducible refine code_seq ?_) | (with_reducible refine code_skip ?_) | (with_reducible refine code_label ?_) | (with_reducible refine code_block ?_) | (with_reducible refine code_scope ?_) | (with_reducible refine code_exit ?_) | (with_reducible refine code_ret ?_) | refine regq_to ?_ | (with_reducible refine run_nil ?_) | ((with_reducible refine run_probe ?_); refine runq_more ?_) | (with_reducible refine draw_nil ?_) | ((with_reducible refine draw_probe ?_); (first | refine drawq_more ?_ | refine drawq_as ?_)) | refine code_then ?_ | refine code_else ?_))
  refine back_tmp [] ?_; exact ⟨rfl, rfl⟩

theorem trow_spec (h : Lies4 room la lc l fa fc free r m pl es Cl Cf Cm) :
    Meets Try.prog 59 [.pointer (some ⟨b, 0, none⟩)] [tabB b room la l lc fa free fc r pl, Cl]
      fun v A => ∃ D a c, v = .slice a pl.length c ∧ OwnF D a c pl ∧ A = [D, tabB b room la l lc fa free fc r pl, Cl] := by
  have hs := encE_len
  have hol := h.ol
  have hbig := h.big
  have hpl := h.rep.pl_len
  have hfit := h.fits
  refine spec_intro Try.func59 rfl (by kernel_rfl) (by rw [Try.ntmps59]; simp) fun F => ?_; rw [Try.ntmps59, Try.results59]
  (repeat (first | (with_reducible refine then_n ?_) | (with_reducible refine then_r ?_) | (with_reducible refine then_e ?_) | (with_reducible refine block_n ?_) | (with_reducible refine block_r ?_) | (with_reducible refine block_e ?_) | refine block_o ?_ | (with_reducible refine scope_n ?_) | (with_reducible refine scope_r ?_) | (with_reducible refine scope_e ?_) | (with_reducible refine code_seq ?_) | (with_reducible refine code_skip ?_) | (with_reducible refine code_label ?_) | (with_reducible refine code_block ?_) | (with_reducible refine code_scope ?_) | (with_reducible refine code_exit ?_) | (with_reducible refine code_ret ?_) | refine regq_to ?_ | (with_reducible refine run_nil ?_) | ((with_reducible refine run_probe ?_); refine runq_more ?_) | (with_reducible refine draw_nil ?_) | ((with_reducible refine draw_probe ?_); (first | refine drawq_more ?_ | refine drawq_as ?_)) | refine code_then ?_ | refine code_else ?_))
  refine code_nil ?_
  refine loop_i (fun q D L S => ∃ (pre suf : List Nat) (X : Chunk) (xa : Option Addr) (xc : Nat), pl = pre ++ suf ∧ OwnF X xa xc pre ∧ q = suf.length ∧ D = [] ∧
    L = [(4, .int .i64 (hd suf (-1))), (3, .slice xa pre.length xc), (0, .pointer (some ⟨b, 0, none⟩))] ∧ S = [X, tabB b room la l lc fa free fc r pl, Cl, F])
    ⟨[], pl, [], none, 0, rfl, own_nil, rfl, rfl, rfl, rfl⟩ ?_
  rintro q D L S ⟨pre, suf, X, xa, xc, e0, hX, rfl, rfl, rfl, rfl⟩
  cases suf with
  | nil =>
    rw [List.append_nil] at e0
    subst e0
    simp only [hd]
    (repeat (first | (with_reducible refine then_n ?_) | (with_reducible refine then_r ?_) | (with_reducible refine then_e ?_) | (with_reducible refine block_n ?_) | (with_reducible refine block_r ?_) | (with_reducible refine block_e ?_) | refine block_o ?_ | (with_reducible refine scope_n ?_) | (with_reducible refine scope_r ?_) | (with_reducible refine scope_e ?_) | (with_reducible refine code_seq ?_) | (with_reducible refine code_skip ?_) | (with_reducible refine code_label ?_) | (with_reducible refine code_block ?_) | (with_reducible refine code_scope ?_) | (with_reducible refine code_exit ?_) | (with_reducible refine code_ret ?_) | refine regq_to ?_ | (with_reducible refine run_nil ?_) | ((with_reducible refine run_probe ?_); refine runq_more ?_) | (with_reducible refine draw_nil ?_) | ((with_reducible refine draw_probe ?_); (first | refine drawq_more ?_ | refine drawq_as ?_)) | refine code_then ?_ | refine code_else ?_))
    refine back_tmp [X, tabB b room la l lc fa free fc r pl, Cl] ⟨X, xa, xc, rfl, hX, rfl⟩
  | cons i suf =>
    obtain ⟨e, hx, hnext⟩ := lk_at (e0 ▸ h.rep.lk)
    have hi : i < l.length := (List.getElem?_eq_some_iff.1 hx).1
    have hlen : pre.length + 1 ≤ 4096 := by
      have := congrArg List.length e0
      rw [List.length_append, List.length_cons] at this
      omega
    simp only [hd]
    (repeat (first | (with_reducible refine then_n ?_) | (with_reducible refine then_r ?_) | (with_reducible refine then_e ?_) | (with_reducible refine block_n ?_) | (with_reducible refine block_r ?_) | (with_reducible refine block_e ?_) | refine block_o ?_ | (with_reducible refine scope_n ?_) | (with_reducible refine scope_r ?_) | (with_reducible refine scope_e ?_) | (with_reducible refine code_seq ?_) | (with_reducible refine code_skip ?_) | (with_reducible refine code_label ?_) | (with_reducible refine code_block ?_) | (with_reducible refine code_scope ?_) | (with_reducible refine code_exit ?_) | (with_reducible refine code_ret ?_) | refine regq_to ?_ | (with_reducible refine run_nil ?_) | ((with_reducible refine run_probe ?_); refine runq_more ?_) | (with_reducible refine draw_nil ?_) | ((with_reducible refine draw_probe ?_); (first | refine drawq_more ?_ | refine drawq_as ?_)) | refine code_then ?_ | refine code_else ?_))
    refine run_op fun K hK => ?_; refine build1 rfl [nat64 i] (by decide) rfl rfl (by simp [Value.cell1]) (fun b3 C3 ho3 => ?_); refine hK _ _ ?_; clear hK K
    refine run_op fun K hK => ?_; refine app1 rfl hX (.inr (by (repeat (first | with_reducible exact Pick.head _ _ | with_reducible apply Pick.tail)))) (ho3.rd (by (repeat (first | with_reducible assumption | with_reducible exact List.mem_cons_self .. | with_reducible apply List.mem_cons_of_mem)))) (by simp [Value.cell1]) (by omega) (by decide) (fun C4 a4 cap4 ho4 => ?_); refine hK _ _ ?_; clear hK K
    have e4 : pre.map nat64 ++ [nat64 i] = (pre ++ [i]).map nat64 := by simp
    have e5 : pre.length + 1 = (pre ++ [i]).length := by simp
    rw [e4, e5] at ho4
    rw [e5]
    (repeat (first | (with_reducible refine then_n ?_) | (with_reducible refine then_r ?_) | (with_reducible refine then_e ?_) | (with_reducible refine block_n ?_) | (with_reducible refine block_r ?_) | (with_reducible refine block_e ?_) | refine block_o ?_ | (with_reducible refine scope_n ?_) | (with_reducible refine scope_r ?_) | (with_reducible refine scope_e ?_) | (with_reducible refine code_seq ?_) | (with_reducible refine code_skip ?_) | (with_reducible refine code_label ?_) | (with_reducible refine code_block ?_) | (with_reducible refine code_scope ?_) | (with_reducible refine code_exit ?_) | (with_reducible refine code_ret ?_) | refine regq_to ?_ | (with_reducible refine run_nil ?_) | ((with_reducible refine run_probe ?_); refine runq_more ?_) | (with_reducible refine draw_nil ?_) | ((with_reducible refine draw_probe ?_); (first | refine drawq_more ?_ | refine drawq_as ?_)) | refine code_then ?_ | refine code_else ?_))
    rw [hnext]
    exact again ⟨pre ++ [i], suf, C4, a4, cap4, by rw [e0]; simp, ho4, rfl, rfl, rfl, rfl⟩ (hm := by simp)

/-- What is told of all entries. -/
def encX (x : List UInt8 × V) : List Value := [.string (str x.1), valV x.2]
abbrev NextX (es pre : List (List UInt8 × V)) (x : List UInt8 × V) : Prop := ∃ suf, es = pre ++ x :: suf

set_option maxHeartbeats 1000000 in
theorem all_iter (c : Nat) (b room : Nat) (es : List (List UInt8 × V)) :
    IMeetsG Try.prog 58 [] [.pointer (some ⟨c, 0, none⟩)] encX [bx c (.pointer (some ⟨b, 0, none⟩)) 59]
      (fun T => IsTab T b room es) noH noH noH (NextX es) (fun pre => pre = es)
      (fun _ A => A = [bx c (.pointer (some ⟨b, 0, none⟩)) 59]) (fun _ A => A = [bx c (.pointer (some ⟨b, 0, none⟩)) 59]) false := by
  refine iter_introG (by kernel_rfl) fun l0 J Jx hN hT hY C hC => ?_
  obtain ⟨T, R, ⟨la, lc, l, fa, fc, free, r, m, pl, Cl, Cf, Cm, h, hTC⟩, hperm⟩ := hT C hC
  have hs := encE_len
  have hol := h.ol
  have hbig := h.big
  have hpl := h.rep.pl_len
  have hfit := h.fits
  obtain ⟨ents, en1, en2, en3⟩ := ents_of pl es h.rep.row
  refine spec_intro Try.func58 rfl (by kernel_rfl) (by rw [Try.ntmps58]; simp) fun F => ?_; rw [Try.ntmps58, Try.results58]
  have hp0 : [F, C, bx c (.pointer (some ⟨b, 0, none⟩)) 59].flatten.Perm [F, tabB b room la l lc fa free fc r pl, Cl, Cf, Cm, R, bx c (.pointer (some ⟨b, 0, none⟩)) 59].flatten := by
    simp only [List.flatten_cons, List.flatten_nil, List.append_nil]
    refine List.Perm.append_left F ?_
    have h2 := (hTC ▸ hperm).append_right (bx c (.pointer (some ⟨b, 0, none⟩)) 59)
    simpa only [List.append_assoc] using h2
  refine code_perm hp0 ?_
  (repeat (first | (with_reducible refine then_n ?_) | (with_reducible refine then_r ?_) | (with_reducible refine then_e ?_) | (with_reducible refine block_n ?_) | (with_reducible refine block_r ?_) | (with_reducible refine block_e ?_) | refine block_o ?_ | (with_reducible refine scope_n ?_) | (with_reducible refine scope_r ?_) | (with_reducible refine scope_e ?_) | (with_reducible refine code_seq ?_) | (with_reducible refine code_skip ?_) | (with_reducible refine code_label ?_) | (with_reducible refine code_block ?_) | (with_reducible refine code_scope ?_) | (with_reducible refine code_exit ?_) | (with_reducible refine code_ret ?_) | refine regq_to ?_ | (with_reducible refine run_nil ?_) | ((with_reducible refine run_probe ?_); refine runq_more ?_) | (with_reducible refine draw_nil ?_) | ((with_reducible refine draw_probe ?_); (first | refine drawq_more ?_ | refine drawq_as ?_)) | refine code_then ?_ | refine code_else ?_))
  refine run_op fun K hK => ?_; refine calls_to (trow_spec h) ?_; rintro v A ⟨D1, a1, c1, rfl, ho1, rfl⟩; (try simp only [List.nil_append, List.cons_append]); refine hK _ _ ?_; clear hK K; (repeat (first | (with_reducible refine then_n ?_) | (with_reducible refine then_r ?_) | (with_reducible refine then_e ?_) | (with_reducible refine block_n ?_) | (with_reducible refine block_r ?_) | (with_reducible refine block_e ?_) | refine block_o ?_ | (with_reducible refine scope_n ?_) | (with_reducible refine scope_r ?_) | (with_reducible refine scope_e ?_) | (with_reducible refine code_seq ?_) | (with_reducible refine code_skip ?_) | (with_reducible refine code_label ?_) | (with_reducible refine code_block ?_) | (with_reducible refine code_scope ?_) | (with_reducible refine code_exit ?_) | (with_reducible refine code_ret ?_) | refine regq_to ?_ | (with_reducible refine run_nil ?_) | ((with_reducible refine run_probe ?_); refine runq_more ?_) | (with_reducible refine draw_nil ?_) | ((with_reducible refine draw_probe ?_); (first | refine drawq_more ?_ | refine drawq_as ?_)) | refine code_then ?_ | refine code_else ?_))
  refine code_nil ?_
  refine loop_i (fun q D L S => ∃ (j : Nat) (X : Chunk) (xa : Option Addr) (xc : Nat), j ≤ pl.length ∧ Ost.Own 7 97 X xa j xc ((ents.take j).flatMap encE) ∧ q = pl.length - j ∧ D = [] ∧
    L = [(11, .int .i64 j), (10, .int .i64 pl.length), (9, .slice a1 pl.length c1), (3, .slice xa j xc), (0, .func (.yield l0) #[] #[]), (1, .pointer (some ⟨c, 0, none⟩))] ∧
    S = [X, D1, F, tabB b room la l lc fa free fc r pl, Cl, Cf, Cm, R, bx c (.pointer (some ⟨b, 0, none⟩)) 59])
    ⟨0, [], none, 0, by omega, own_nil, rfl, rfl, rfl, rfl⟩ ?_
  rintro q D L S ⟨j, X, xa, xc, hj, hX, rfl, rfl, rfl, rfl⟩
  (repeat (first | (with_reducible refine then_n ?_) | (with_reducible refine then_r ?_) | (with_reducible refine then_e ?_) | (with_reducible refine block_n ?_) | (with_reducible refine block_r ?_) | (with_reducible refine block_e ?_) | refine block_o ?_ | (with_reducible refine scope_n ?_) | (with_reducible refine scope_r ?_) | (with_reducible refine scope_e ?_) | (with_reducible refine code_seq ?_) | (with_reducible refine code_skip ?_) | (with_reducible refine code_label ?_) | (with_reducible refine code_block ?_) | (with_reducible refine code_scope ?_) | (with_reducible refine code_exit ?_) | (with_reducible refine code_ret ?_) | refine regq_to ?_ | (with_reducible refine run_nil ?_) | ((with_reducible refine run_probe ?_); refine runq_more ?_) | (with_reducible refine draw_nil ?_) | ((with_reducible refine draw_probe ?_); (first | refine drawq_more ?_ | refine drawq_as ?_)) | refine code_then ?_ | refine code_else ?_))
  refine if_d (fun hc => ?_) (fun hc => ?_)
  · have hjp : j < pl.length := by omega
    have hpj : pl[j]? = some pl[j] := List.getElem?_eq_getElem hjp
    have hus : (pl.map nat64)[j]? = some (nat64 pl[j]) := by rw [List.getElem?_map, hpj]; rfl
    have hx := en2 j _ hpj
    have hej : ents[j]? = some ents[j] := List.getElem?_eq_getElem (by omega)
    rw [hej] at hx
    have hi : pl[j] < l.length := (List.getElem?_eq_some_iff.1 hx).1
    generalize pl[j] = i at *
    (repeat (first | (with_reducible refine then_n ?_) | (with_reducible refine then_r ?_) | (with_reducible refine then_e ?_) | (with_reducible refine block_n ?_) | (with_reducible refine block_r ?_) | (with_reducible refine block_e ?_) | refine block_o ?_ | (with_reducible refine scope_n ?_) | (with_reducible refine scope_r ?_) | (with_reducible refine scope_e ?_) | (with_reducible refine code_seq ?_) | (with_reducible refine code_skip ?_) | (with_reducible refine code_label ?_) | (with_reducible refine code_block ?_) | (with_reducible refine code_scope ?_) | (with_reducible refine code_exit ?_) | (with_reducible refine code_ret ?_) | refine regq_to ?_ | (with_reducible refine run_nil ?_) | ((with_reducible refine run_probe ?_); refine runq_more ?_) | (with_reducible refine draw_nil ?_) | ((with_reducible refine draw_probe ?_); (first | refine drawq_more ?_ | refine drawq_as ?_)) | refine code_then ?_ | refine code_else ?_))
    refine run_op fun K hK => ?_; refine load_el_agg hol hs hx (by decide) (by (repeat (first | with_reducible assumption | with_reducible exact List.mem_cons_self .. | with_reducible apply List.mem_cons_of_mem))) ?_; refine hK _ _ ?_; clear hK K
    refine run_op fun K hK => ?_; refine build_el1 (e := 97) (s := 7) (hs := inferInstance) (vs := encE ents[j]) (by rfl) (by decide) (by decide) rfl (fun b2 C2 ho2 => ?_); refine hK _ _ ?_; clear hK K
    refine run_op fun K hK => ?_; refine append_own (e := 97) (s := 7) (hs := inferInstance) (by rfl) (by decide) hX (.inr (by (repeat (first | with_reducible exact Pick.head _ _ | with_reducible apply Pick.tail)))) (ho2.rd (by (repeat (first | with_reducible assumption | with_reducible exact List.mem_cons_self .. | with_reducible apply List.mem_cons_of_mem)))) (cell_E _) (by simp only [maxLen]; omega) (by omega) (fun C3 a3 cap3 ho3 => ?_); refine hK _ _ ?_; clear hK K
    have e3 : (ents.take j).flatMap encE ++ encE ents[j] = (ents.take (j + 1)).flatMap encE := by
      rw [List.take_succ_eq_append_getElem (by omega), List.flatMap_append]; simp
    rw [e3] at ho3
    (repeat (first | (with_reducible refine then_n ?_) | (with_reducible refine then_r ?_) | (with_reducible refine then_e ?_) | (with_reducible refine block_n ?_) | (with_reducible refine block_r ?_) | (with_reducible refine block_e ?_) | refine block_o ?_ | (with_reducible refine scope_n ?_) | (with_reducible refine scope_r ?_) | (with_reducible refine scope_e ?_) | (with_reducible refine code_seq ?_) | (with_reducible refine code_skip ?_) | (with_reducible refine code_label ?_) | (with_reducible refine code_block ?_) | (with_reducible refine code_scope ?_) | (with_reducible refine code_exit ?_) | (with_reducible refine code_ret ?_) | refine regq_to ?_ | (with_reducible refine run_nil ?_) | ((with_reducible refine run_probe ?_); refine runq_more ?_) | (with_reducible refine draw_nil ?_) | ((with_reducible refine draw_probe ?_); (first | refine drawq_more ?_ | refine drawq_as ?_)) | refine code_then ?_ | refine code_else ?_))
    exact again ⟨j + 1, C3, a3, cap3, by omega, ho3, rfl, rfl, rfl, rfl⟩
  · obtain rfl : j = pl.length := by omega
    rw [List.take_of_length_le (by omega)] at hX
    have hX2 : OwnE X xa xc ents := by unfold OwnE; rw [en1]; exact hX
    rw [← en1]
    (repeat (first | (with_reducible refine then_n ?_) | (with_reducible refine then_r ?_) | (with_reducible refine then_e ?_) | (with_reducible refine block_n ?_) | (with_reducible refine block_r ?_) | (with_reducible refine block_e ?_) | refine block_o ?_ | (with_reducible refine scope_n ?_) | (with_reducible refine scope_r ?_) | (with_reducible refine scope_e ?_) | (with_reducible refine code_seq ?_) | (with_reducible refine code_skip ?_) | (with_reducible refine code_label ?_) | (with_reducible refine code_block ?_) | (with_reducible refine code_scope ?_) | (with_reducible refine code_exit ?_) | (with_reducible refine code_ret ?_) | refine regq_to ?_ | (with_reducible refine run_nil ?_) | ((with_reducible refine run_probe ?_); refine runq_more ?_) | (with_reducible refine draw_nil ?_) | ((with_reducible refine draw_probe ?_); (first | refine drawq_more ?_ | refine drawq_as ?_)) | refine code_then ?_ | refine code_else ?_))
    refine code_perm (S' := [X, C, F, bx c (.pointer (some ⟨b, 0, none⟩)) 59, D1]) ?_ ?_
    · simp only [List.flatten_cons, List.flatten_nil, List.append_nil] at hp0 ⊢
      have h2 : (D1 ++ (F ++ (tabB b room la l lc fa free fc r pl ++ (Cl ++ (Cf ++ (Cm ++ (R ++ bx c (.pointer (some ⟨b, 0, none⟩)) 59))))))).Perm (C ++ (F ++ (bx c (.pointer (some ⟨b, 0, none⟩)) 59 ++ D1))) := by
        refine (List.Perm.append_left D1 hp0.symm).trans ?_
        refine List.perm_append_comm.trans ?_
        rw [← List.append_assoc C, ← List.append_assoc, ← List.append_assoc]
        refine List.Perm.append_right _ ?_
        rw [List.append_assoc, List.append_assoc]
        have : (F ++ (C ++ bx c (.pointer (some ⟨b, 0, none⟩)) 59)).Perm (C ++ (F ++ bx c (.pointer (some ⟨b, 0, none⟩)) 59)) := by
          rw [← List.append_assoc, ← List.append_assoc]; exact List.Perm.append_right _ List.perm_append_comm
        simpa only [List.append_assoc] using this
      exact List.Perm.append_left X h2
    refine loop_i (fun q D L S => ∃ (j : Nat) (C : Chunk), j ≤ ents.length ∧ J (es.take j) C ∧ q = ents.length - j ∧ D = [] ∧
      L = [(28, .int .i64 j), (27, .int .i64 ents.length), (26, .slice xa ents.length xc), (0, .func (.yield l0) #[] #[]), (1, .pointer (some ⟨c, 0, none⟩))] ∧
      S = [X, C, F, bx c (.pointer (some ⟨b, 0, none⟩)) 59])
      ⟨0, C, by omega, hC, rfl, rfl, rfl, rfl⟩ ?_
    rintro q D L S ⟨j, C', hj, hJ, rfl, rfl, rfl, rfl⟩
    (repeat (first | (with_reducible refine then_n ?_) | (with_reducible refine then_r ?_) | (with_reducible refine then_e ?_) | (with_reducible refine block_n ?_) | (with_reducible refine block_r ?_) | (with_reducible refine block_e ?_) | refine block_o ?_ | (with_reducible refine scope_n ?_) | (with_reducible refine scope_r ?_) | (with_reducible refine scope_e ?_) | (with_reducible refine code_seq ?_) | (with_reducible refine code_skip ?_) | (with_reducible refine code_label ?_) | (with_reducible refine code_block ?_) | (with_reducible refine code_scope ?_) | (with_reducible refine code_exit ?_) | (with_reducible refine code_ret ?_) | refine regq_to ?_ | (with_reducible refine run_nil ?_) | ((with_reducible refine run_probe ?_); refine runq_more ?_) | (with_reducible refine draw_nil ?_) | ((with_reducible refine draw_probe ?_); (first | refine drawq_more ?_ | refine drawq_as ?_)) | refine code_then ?_ | refine code_else ?_))
    refine if_d (fun hc => ?_) (fun hc => ?_)
    · have hje : j < ents.length := by omega
      have hx : ents[j]? = some ents[j] := List.getElem?_eq_getElem hje
      have hjs : j < es.length := by omega
      have hee : es[j] = (ents[j].key, ents[j].v) := by
        have := ents_el en3 hx
        rw [List.getElem?_eq_getElem hjs] at this
        exact Option.some.inj this
      have hnx : NextX es (es.take j) (ents[j].key, ents[j].v) := ⟨es.drop (j + 1), by rw [← hee, ← List.drop_eq_getElem_cons, List.take_append_drop]⟩
      have htk : es.take j ++ [(ents[j].key, ents[j].v)] = es.take (j + 1) := by rw [List.take_succ_eq_append_getElem hjs, hee]
      have hY' := hY _ _ hnx
      rw [htk] at hY'
      (repeat (first | (with_reducible refine then_n ?_) | (with_reducible refine then_r ?_) | (with_reducible refine then_e ?_) | (with_reducible refine block_n ?_) | (with_reducible refine block_r ?_) | (with_reducible refine block_e ?_) | refine block_o ?_ | (with_reducible refine scope_n ?_) | (with_reducible refine scope_r ?_) | (with_reducible refine scope_e ?_) | (with_reducible refine code_seq ?_) | (with_reducible refine code_skip ?_) | (with_reducible refine code_label ?_) | (with_reducible refine code_block ?_) | (with_reducible refine code_scope ?_) | (with_reducible refine code_exit ?_) | (with_reducible refine code_ret ?_) | refine regq_to ?_ | (with_reducible refine run_nil ?_) | ((with_reducible refine run_probe ?_); refine runq_more ?_) | (with_reducible refine draw_nil ?_) | ((with_reducible refine draw_probe ?_); (first | refine drawq_more ?_ | refine drawq_as ?_)) | refine code_then ?_ | refine code_else ?_))
      refine run_op fun K hK => ?_; refine load_el_agg hX2 hs hx (by decide) (by (repeat (first | with_reducible assumption | with_reducible exact List.mem_cons_self .. | with_reducible apply List.mem_cons_of_mem))) ?_; refine hK _ _ ?_; clear hK K
      refine run_op fun K hK => ?_; refine alloc_new fun b7 => ?_; (try simp only [Value.cells]); refine hK _ _ ?_; clear hK K
      refine run_op fun K hK => ?_; refine store_all rfl (cell_E _) (by (repeat (first | with_reducible exact Upd.one | with_reducible apply Upd.next))) (by rfl) ?_; refine hK _ _ ?_; clear hK K
      (repeat (first | (with_reducible refine then_n ?_) | (with_reducible refine then_r ?_) | (with_reducible refine then_e ?_) | (with_reducible refine block_n ?_) | (with_reducible refine block_r ?_) | (with_reducible refine block_e ?_) | refine block_o ?_ | (with_reducible refine scope_n ?_) | (with_reducible refine scope_r ?_) | (with_reducible refine scope_e ?_) | (with_reducible refine code_seq ?_) | (with_reducible refine code_skip ?_) | (with_reducible refine code_label ?_) | (with_reducible refine code_block ?_) | (with_reducible refine code_scope ?_) | (with_reducible refine code_exit ?_) | (with_reducible refine code_ret ?_) | refine regq_to ?_ | (with_reducible refine run_nil ?_) | ((with_reducible refine run_probe ?_); refine runq_more ?_) | (with_reducible refine draw_nil ?_) | ((with_reducible refine draw_probe ?_); (first | refine drawq_more ?_ | refine drawq_as ?_)) | refine code_then ?_ | refine code_else ?_))
      refine run_op fun K hK => ?_; refine load_sub (vs := encE ents[j]) (ws := encV ents[j].v) (by (repeat (first | with_reducible exact Lies.one | with_reducible apply Lies.next))) (by simp [encE, encV]) rfl ?_; refine hK _ _ ?_; clear hK K
      (repeat (first | (with_reducible refine then_n ?_) | (with_reducible refine then_r ?_) | (with_reducible refine then_e ?_) | (with_reducible refine block_n ?_) | (with_reducible refine block_r ?_) | (with_reducible refine block_e ?_) | refine block_o ?_ | (with_reducible refine scope_n ?_) | (with_reducible refine scope_r ?_) | (with_reducible refine scope_e ?_) | (with_reducible refine code_seq ?_) | (with_reducible refine code_skip ?_) | (with_reducible refine code_label ?_) | (with_reducible refine code_block ?_) | (with_reducible refine code_scope ?_) | (with_reducible refine code_exit ?_) | (with_reducible refine code_ret ?_) | refine regq_to ?_ | (with_reducible refine run_nil ?_) | ((with_reducible refine run_probe ?_); refine runq_more ?_) | (with_reducible refine draw_nil ?_) | ((with_reducible refine draw_probe ?_); (first | refine drawq_more ?_ | refine drawq_as ?_)) | refine code_then ?_ | refine code_else ?_))
      refine run_op fun K hK => ?_
      refine yield_meetsG hY' hJ rfl (by (repeat (first | with_reducible exact Take.nil _ | with_reducible exact Pick.head _ _ | with_reducible apply Pick.tail | with_reducible apply Take.cons))) (fun C4 H4 hJ4 hH4 => ?_) (fun C4 H4 hJ4 hH4 => ?_)
      · subst hH4
        (try simp only [List.nil_append])
        refine hK _ _ ?_; clear hK K
        (repeat (first | (with_reducible refine then_n ?_) | (with_reducible refine then_r ?_) | (with_reducible refine then_e ?_) | (with_reducible refine block_n ?_) | (with_reducible refine block_r ?_) | (with_reducible refine block_e ?_) | refine block_o ?_ | (with_reducible refine scope_n ?_) | (with_reducible refine scope_r ?_) | (with_reducible refine scope_e ?_) | (with_reducible refine code_seq ?_) | (with_reducible refine code_skip ?_) | (with_reducible refine code_label ?_) | (with_reducible refine code_block ?_) | (with_reducible refine code_scope ?_) | (with_reducible refine code_exit ?_) | (with_reducible refine code_ret ?_) | refine regq_to ?_ | (with_reducible refine run_nil ?_) | ((with_reducible refine run_probe ?_); refine runq_more ?_) | (with_reducible refine draw_nil ?_) | ((with_reducible refine draw_probe ?_); (first | refine drawq_more ?_ | refine drawq_as ?_)) | refine code_then ?_ | refine code_else ?_))
        exact again ⟨j + 1, C4, by omega, hJ4, rfl, rfl, rfl, rfl⟩
      · subst hH4
        (try simp only [List.nil_append])
        refine hK _ _ ?_; clear hK K
        (repeat (first | (with_reducible refine then_n ?_) | (with_reducible refine then_r ?_) | (with_reducible refine then_e ?_) | (with_reducible refine block_n ?_) | (with_reducible refine block_r ?_) | (with_reducible refine block_e ?_) | refine block_o ?_ | (with_reducible refine scope_n ?_) | (with_reducible refine scope_r ?_) | (with_reducible refine scope_e ?_) | (with_reducible refine code_seq ?_) | (with_reducible refine code_skip ?_) | (with_reducible refine code_label ?_) | (with_reducible refine code_block ?_) | (with_reducible refine code_scope ?_) | (with_reducible refine code_exit ?_) | (with_reducible refine code_ret ?_) | refine regq_to ?_ | (with_reducible refine run_nil ?_) | ((with_reducible refine run_probe ?_); refine runq_more ?_) | (with_reducible refine draw_nil ?_) | ((with_reducible refine draw_probe ?_); (first | refine drawq_more ?_ | refine drawq_as ?_)) | refine code_then ?_ | refine code_else ?_))
        exact back_none [C4, bx c (.pointer (some ⟨b, 0, none⟩)) 59] ⟨C4, [bx c (.pointer (some ⟨b, 0, none⟩)) 59], rfl, .inr ⟨_, _, hnx, by rw [htk]; exact hJ4, rfl⟩⟩
    · obtain rfl : j = ents.length := by omega
      rw [List.take_of_length_le (by omega)] at hJ
      (repeat (first | (with_reducible refine then_n ?_) | (with_reducible refine then_r ?_) | (with_reducible refine then_e ?_) | (with_reducible refine block_n ?_) | (with_reducible refine block_r ?_) | (with_reducible refine block_e ?_) | refine block_o ?_ | (with_reducible refine scope_n ?_) | (with_reducible refine scope_r ?_) | (with_reducible refine scope_e ?_) | (with_reducible refine code_seq ?_) | (with_reducible refine code_skip ?_) | (with_reducible refine code_label ?_) | (with_reducible refine code_block ?_) | (with_reducible refine code_scope ?_) | (with_reducible refine code_exit ?_) | (with_reducible refine code_ret ?_) | refine regq_to ?_ | (with_reducible refine run_nil ?_) | ((with_reducible refine run_probe ?_); refine runq_more ?_) | (with_reducible refine draw_nil ?_) | ((with_reducible refine draw_probe ?_); (first | refine drawq_more ?_ | refine drawq_as ?_)) | refine code_then ?_ | refine code_else ?_))
      exact back_none_n [C', bx c (.pointer (some ⟨b, 0, none⟩)) 59] ⟨C', [bx c (.pointer (some ⟨b, 0, none⟩)) 59], rfl, .inl ⟨es, rfl, hJ, rfl⟩⟩

theorem all_iter_nil (c : Nat) :
    IMeetsG Try.prog 58 [] [.pointer (some ⟨c, 0, none⟩)] encX [bx c (.pointer none) 59]
      (fun T => T = []) noH noH noH (fun _ _ => False) (fun pre => pre = [])
      (fun _ A => A = [bx c (.pointer none) 59]) (fun _ A => A = [bx c (.pointer none) 59]) false := by
  refine iter_introG (by kernel_rfl) fun l0 J Jx hN hT hY C hC => ?_
  refine spec_intro Try.func58 rfl (by kernel_rfl) (by rw [Try.ntmps58]; simp) fun F => ?_; rw [Try.ntmps58, Try.results58]
  (repeat (first | (with_reducible refine then_n ?_) | (with_reducible refine then_r ?_) | (with_reducible refine then_e ?_) | (with_reducible refine block_n ?_) | (with_reducible refine block_r ?_) | (with_reducible refine block_e ?_) | refine block_o ?_ | (with_reducible refine scope_n ?_) | (with_reducible refine scope_r ?_) | (with_reducible refine scope_e ?_) | (with_reducible refine code_seq ?_) | (with_reducible refine code_skip ?_) | (with_reducible refine code_label ?_) | (with_reducible refine code_block ?_) | (with_reducible refine code_scope ?_) | (with_reducible refine code_exit ?_) | (with_reducible refine code_ret ?_) | refine regq_to ?_ | (with_reducible refine run_nil ?_) | ((with_reducible refine run_probe ?_); refine runq_more ?_) | (with_reducible refine draw_nil ?_) | ((with_reducible refine draw_probe ?_); (first | refine drawq_more ?_ | refine drawq_as ?_)) | refine code_then ?_ | refine code_else ?_))
  refine run_op fun K hK => ?_; refine calls_to (trow_nil) ?_; rintro v A ⟨rfl, rfl⟩; (try simp only [List.nil_append, List.cons_append]); refine hK _ _ ?_; clear hK K; (repeat (first | (with_reducible refine then_n ?_) | (with_reducible refine then_r ?_) | (with_reducible refine then_e ?_) | (with_reducible refine block_n ?_) | (with_reducible refine block_r ?_) | (with_reducible refine block_e ?_) | refine block_o ?_ | (with_reducible refine scope_n ?_) | (with_reducible refine scope_r ?_) | (with_reducible refine scope_e ?_) | (with_reducible refine code_seq ?_) | (with_reducible refine code_skip ?_) | (with_reducible refine code_label ?_) | (with_reducible refine code_block ?_) | (with_reducible refine code_scope ?_) | (with_reducible refine code_exit ?_) | (with_reducible refine code_ret ?_) | refine regq_to ?_ | (with_reducible refine run_nil ?_) | ((with_reducible refine run_probe ?_); refine runq_more ?_) | (with_reducible refine draw_nil ?_) | ((with_reducible refine draw_probe ?_); (first | refine drawq_more ?_ | refine drawq_as ?_)) | refine code_then ?_ | refine code_else ?_))
  refine loop_i (fun q D L S => q = 0 ∧ D = [] ∧ L = [(11, .int .i64 0), (10, .int .i64 0), (3, .slice none 0 0)] ∧ S = [C, F, bx c (.pointer none) 59]) ⟨rfl, rfl, rfl, rfl⟩ ?_
  rintro q D L S ⟨rfl, rfl, rfl, rfl⟩
  (repeat (first | (with_reducible refine then_n ?_) | (with_reducible refine then_r ?_) | (with_reducible refine then_e ?_) | (with_reducible refine block_n ?_) | (with_reducible refine block_r ?_) | (with_reducible refine block_e ?_) | refine block_o ?_ | (with_reducible refine scope_n ?_) | (with_reducible refine scope_r ?_) | (with_reducible refine scope_e ?_) | (with_reducible refine code_seq ?_) | (with_reducible refine code_skip ?_) | (with_reducible refine code_label ?_) | (with_reducible refine code_block ?_) | (with_reducible refine code_scope ?_) | (with_reducible refine code_exit ?_) | (with_reducible refine code_ret ?_) | refine regq_to ?_ | (with_reducible refine run_nil ?_) | ((with_reducible refine run_probe ?_); refine runq_more ?_) | (with_reducible refine draw_nil ?_) | ((with_reducible refine draw_probe ?_); (first | refine drawq_more ?_ | refine drawq_as ?_)) | refine code_then ?_ | refine code_else ?_))
  refine loop_i (fun q D L S => q = 0 ∧ D = [] ∧ L = [(28, .int .i64 0), (27, .int .i64 0)] ∧ S = [C, F, bx c (.pointer none) 59]) ⟨rfl, rfl, rfl, rfl⟩ ?_
  rintro q D L S ⟨rfl, rfl, rfl, rfl⟩
  (repeat (first | (with_reducible refine then_n ?_) | (with_reducible refine then_r ?_) | (with_reducible refine then_e ?_) | (with_reducible refine block_n ?_) | (with_reducible refine block_r ?_) | (with_reducible refine block_e ?_) | refine block_o ?_ | (with_reducible refine scope_n ?_) | (with_reducible refine scope_r ?_) | (with_reducible refine scope_e ?_) | (with_reducible refine code_seq ?_) | (with_reducible refine code_skip ?_) | (with_reducible refine code_label ?_) | (with_reducible refine code_block ?_) | (with_reducible refine code_scope ?_) | (with_reducible refine code_exit ?_) | (with_reducible refine code_ret ?_) | refine regq_to ?_ | (with_reducible refine run_nil ?_) | ((with_reducible refine run_probe ?_); refine runq_more ?_) | (with_reducible refine draw_nil ?_) | ((with_reducible refine draw_probe ?_); (first | refine drawq_more ?_ | refine drawq_as ?_)) | refine code_then ?_ | refine code_else ?_))
  exact back_none_n [C, bx c (.pointer none) 59] ⟨C, [bx c (.pointer none) 59], rfl, .inl ⟨[], rfl, hC, rfl⟩⟩

theorem all_spec (p : Option Addr) : Meets Try.prog 56 [.pointer p] []
    fun u A => ∃ c, u = .func (.func 58) #[] #[.pointer (some ⟨c, 0, none⟩)] ∧ A = [bx c (.pointer p) 59] := by
  refine spec_intro Try.func56 rfl (by kernel_rfl) (by rw [Try.ntmps56]; simp) fun F => ?_; rw [Try.ntmps56, Try.results56]
  (repeat (first | (with_reducible refine then_n ?_) | (with_reducible refine then_r ?_) | (with_reducible refine then_e ?_) | (with_reducible refine block_n ?_) | (with_reducible refine block_r ?_) | (with_reducible refine block_e ?_) | refine block_o ?_ | (with_reducible refine scope_n ?_) | (with_reducible refine scope_r ?_) | (with_reducible refine scope_e ?_) | (with_reducible refine code_seq ?_) | (with_reducible refine code_skip ?_) | (with_reducible refine code_label ?_) | (with_reducible refine code_block ?_) | (with_reducible refine code_scope ?_) | (with_reducible refine code_exit ?_) | (with_reducible refine code_ret ?_) | refine regq_to ?_ | (with_reducible refine run_nil ?_) | ((with_reducible refine run_probe ?_); refine runq_more ?_) | (with_reducible refine draw_nil ?_) | ((with_reducible refine draw_probe ?_); (first | refine drawq_more ?_ | refine drawq_as ?_)) | refine code_then ?_ | refine code_else ?_))
  refine run_op fun K hK => ?_; refine box_new fun p1 => ?_; (try simp only [Value.cells]); refine hK _ _ ?_; clear hK K
  (repeat (first | (with_reducible refine then_n ?_) | (with_reducible refine then_r ?_) | (with_reducible refine then_e ?_) | (with_reducible refine block_n ?_) | (with_reducible refine block_r ?_) | (with_reducible refine block_e ?_) | refine block_o ?_ | (with_reducible refine scope_n ?_) | (with_reducible refine scope_r ?_) | (with_reducible refine scope_e ?_) | (with_reducible refine code_seq ?_) | (with_reducible refine code_skip ?_) | (with_reducible refine code_label ?_) | (with_reducible refine code_block ?_) | (with_reducible refine code_scope ?_) | (with_reducible refine code_exit ?_) | (with_reducible refine code_ret ?_) | refine regq_to ?_ | (with_reducible refine run_nil ?_) | ((with_reducible refine run_probe ?_); refine runq_more ?_) | (with_reducible refine draw_nil ?_) | ((with_reducible refine draw_probe ?_); (first | refine drawq_more ?_ | refine drawq_as ?_)) | refine code_then ?_ | refine code_else ?_))
  refine back_tmp [bx p1 (.pointer p) 59] ⟨p1, rfl, rfl⟩

end all
end Go.Proofs.Ytjagaagemgppcaa
