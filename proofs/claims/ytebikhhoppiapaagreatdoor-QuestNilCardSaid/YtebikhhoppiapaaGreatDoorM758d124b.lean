/- Texts in a row: the walk's rules and contracts, as each says. Conditions: as each says. -/
import Derived.Test.YtebikhhoppiapaaGreatDoorMe08888da
import Derived.Test.YtebikhhoppiapaaGreatDoorMd0dd61dd
import Derived.Test.YtebikhhoppiapaaGreatDoorM8c24a9bc
import Derived.Shelf.Strings.OnBuilder
import Derived.Shelf.Small.Strs
set_option linter.unusedSimpArgs false
set_option linter.defProp false
set_option linter.unusedVariables false
set_option maxRecDepth 100000
set_option maxHeartbeats 8000000
namespace Go.Proofs.YtebikhhoppiapaaGreatDoor
open Go Go.Ost Go.Nam
theorem YP {s : List UInt8} (h : badB s = false) : prep s = match prepL (rs s) with | none => ([], 5) | some b => (b, 0) := by
 rw [ZD]
 unfold badB at h
 unfold prep
 rw [if_neg (by rw [h]; simp)]
 cases (keep (rs s)).any qt <;> rfl
theorem Xs (s : List UInt8) (hs : s.length <= 100000) : Meets Tryz.prog 127 [.string (str s)] [] fun v A => v = .tuple #[.string (str (prep s).1), .int .i64 (prep s).2] /\ A = [] := by
 have hsl := encS_len
 have hgl : (sg 0 s).length <= s.length := by rw [sg_len]; exact Wq _ s (Nat.le_refl _)
 have hrs := Jr _ 0 s (Nat.le_refl _)
 refine eN Tryz.func127 Tryz.ntmps127 Tryz.results127 fun F => ?_
 refine gg ?_
 refine cA (Vl s (by omega)) ?_; rintro v A ⟨X, xa, xc, rfl, hX, rfl⟩; refine gA ?_
 obtain ⟨sl, hsg⟩ : ∃ sl, sg 0 s = sl := ⟨_, rfl⟩
 rw [hsg] at hX hgl hrs ⊢
 refine zB (fun q D L S => ∃ (i : Nat), i <= sl.length /\ (∀ x ∈ sl.take i, 0 <= x.2) /\ q = sl.length - i /\ D = [] /\
  L = [(14, .int .i64 i), (13, .int .i64 sl.length), (12, .slice xa sl.length xc), (4, .slice xa sl.length xc)] /\ S = [X, F])
  ⟨0, by omega, by simp, rfl, rfl, rfl, rfl⟩ ?_
 rintro q D L S ⟨i, hi, hok, rfl, rfl, rfl, rfl⟩
 refine gg ?_
 refine if_d (fun hc => ?_) (fun hc => ?_)
 ·have hil : i < sl.length := by omega
  have hx : sl[i]? = some sl[i] := List.getElem?_eq_getElem hil
  have htk : sl.take (i + 1) = sl.take i ++ [sl[i]] := by rw [List.take_add_one, hx]; rfl
  have hm : sl[i] ∈ sl := List.getElem_mem hil
  generalize sl[i] = x at *
  obtain ⟨k, v⟩ := x
  refine gg ?_
  refine ze fun K hK => ?_; refine xe hX hsl hx (by decide) mmA ?_; refine hK _ _ ?_; clear hK K
  refine ze fun K hK => ?_; refine zv fun b6 => ?_; (try simp only [Value.cells]); refine hK _ _ ?_; clear hK K
  refine gg ?_
  refine oS [.int .i64 k, .int .i64 v] rfl (by simp [Value.cell1]) ?_
  refine gg ?_
  refine if_d (fun hc => ?_) (fun hc => ?_)
  ·have hb : (rs s).any (fun r => decide (r < 0)) = true := by
    rw [<- hrs, List.any_eq_true]
    exact ⟨v, List.mem_map.2 ⟨(k, v), hm, rfl⟩, decide_eq_true hc⟩
   rw [show prep s = ([], 4) from by unfold prep; rw [if_pos hb]]
   refine gg ?_
   refine zf [] ?_; exact ⟨rfl, rfl⟩
  ·have hok' : ∀ x ∈ sl.take (i + 1), 0 <= x.2 := fun x hx => by
    rw [htk] at hx
    rcases List.mem_append.1 hx with hx | hx
    ·exact hok x hx
    ·rw [List.mem_singleton.1 hx]; simp only; omega
   refine gg ?_
   exact zA ⟨i + 1, by omega, hok', rfl, rfl, rfl, rfl⟩
 ·obtain rfl : i = sl.length := by omega
  rw [List.take_length] at hok
  have hb : badB s = false := by
   unfold badB
   rw [<- hrs, Ze]
   intro r hr
   obtain ⟨x, hx, rfl⟩ := List.mem_map.1 hr
   exact hok x hx
  rw [YP hb, <- hrs]
  refine gg ?_
  refine zE ?_
  refine zB (fun q D L S => ∃ (i : Nat) (o : List UInt8) (Y : Chunk) (ya : Option Addr) (yc : Nat), i <= sl.length /\ o.length <= 4 * i /\ (prepL (sl.map (·.2)) = (prepL ((sl.drop i).map (·.2))).map (o ++ ·)) /\ Own8 5 Y ya o.length yc o /\ q = sl.length - i /\ D = [] /\
   L = [(24, .int .i64 i), (23, .int .i64 sl.length), (22, .slice xa sl.length xc), (7, .slice ya o.length yc)] /\ S = [Y, X, F])
   ⟨0, [], [], none, 0, by omega, by simp, by rw [List.drop_zero]; cases prepL (sl.map (·.2)) <;> rfl, own_nil, rfl, rfl, rfl, rfl⟩ ?_
  rintro q D L S ⟨i, o, Y, ya, yc, hi, hol, hp, hY, rfl, rfl, rfl, rfl⟩
  refine gg ?_
  refine if_d (fun hc => ?_) (fun hc => ?_)
  ·have hil : i < sl.length := by omega
   have hx : sl[i]? = some sl[i] := List.getElem?_eq_getElem hil
   have hm : sl[i] ∈ sl := List.getElem_mem hil
   have h0 := hok _ hm
   have hrg : sl[i].2 <= 1114111 := (Ow _ s (Nat.le_refl _) sl[i].2 (by rw [<- hrs]; exact List.mem_map.2 ⟨_, hm, rfl⟩)).2
   rw [List.drop_eq_getElem_cons hil, List.map_cons, prepL] at hp
   generalize sl[i] = x at *
   obtain ⟨k, v⟩ := x
   simp only at h0 hrg hp
   have hel := (XT v).2
   have mm : ∀ (c : List UInt8) (z : Option (List UInt8)), ((z.map (c ++ ·)).map (o ++ ·)) = z.map ((o ++ c) ++ ·) := fun c z => by cases z <;> simp
   refine gg ?_
   (try rw [Int.toNat_natCast])
   refine ze fun K hK => ?_; refine xe hX hsl hx (by decide) mmA ?_; refine hK _ _ ?_; clear hK K
   refine ze fun K hK => ?_; refine zv fun b9 => ?_; (try simp only [Value.cells]); refine hK _ _ ?_; clear hK K
   refine gg ?_
   refine oS [.int .i64 k, .int .i64 v] rfl (by simp [Value.cell1]) ?_
   refine gg ?_
   refine cA (Vv v) ?_; rintro v A ⟨rfl, rfl⟩; refine gA ?_
   cases hb1 : xv v with
   | true =>
    rw [hb1, if_pos rfl, show (fun x : List UInt8 => 32 :: x) = fun x => [32] ++ x from rfl, mm] at hp
    refine gg ?_
    refine ze fun K hK => ?_; refine zR ([32]) (by decide) rfl (rfl) (fun b6 C6 ho6 => ?_); refine hK _ _ ?_; clear hK K
    refine gg ?_
    refine ze fun K hK => ?_; refine app8 (hY) pkA ((ho6.rd (List.mem_cons_self ..)).mem mmA) (by omega) (fun C8 a8 cap8 ho8 => ?_); refine hK _ _ ?_; clear hK K
    refine gg ?_
    rw [show o.length + 1 = (o ++ [32]).length from by simp] at ho8 ⊢
    exact zA ⟨i + 1, o ++ [32], C8, a8, cap8, by omega, by simp; omega, hp, ho8, rfl, rfl, rfl, rfl⟩
   | false =>
    rw [hb1] at hp
    refine gg ?_
    refine cA (YG v) ?_; rintro v A ⟨rfl, rfl⟩; refine gA ?_
    cases hb2 : xM v with
    | true =>
     rw [hb2] at hp
     refine gg ?_
     exact zA ⟨i + 1, o, Y, ya, yc, by omega, by omega, hp, hY, rfl, rfl, rfl, rfl⟩
    | false =>
     rw [hb2] at hp
     refine gg ?_
     refine cA (YI v h0 hrg) ?_; rintro v A ⟨rfl, rfl⟩; refine gA ?_
     cases hb3 : qt v with
     | true =>
      rw [hb3] at hp
      simp only [Bool.false_eq_true, if_false, if_true, Option.map_none] at hp
      rw [hp]
      refine gg ?_
      refine zf [] ?_; exact ⟨rfl, rfl⟩
     | false =>
      rw [hb3] at hp
      simp only [Bool.false_eq_true, if_false] at hp
      rw [mm] at hp
      refine gg ?_
      refine cA (Vu v (by omega)) ?_; rintro v A ⟨Z, za, zc, rfl, hZ, rfl⟩; refine gA ?_
      refine ze fun K hK => ?_; refine app8 (hY) pkA ((hZ.rd (List.mem_cons_self ..)).mem mmA) (by omega) (fun C8 a8 cap8 ho8 => ?_); refine hK _ _ ?_; clear hK K
      refine gg ?_
      rw [show o.length + (enc v).length = (o ++ enc v).length from by simp] at ho8 ⊢
      exact zA ⟨i + 1, o ++ enc v, C8, a8, cap8, by omega, by simp; omega, hp, ho8, rfl, rfl, rfl, rfl⟩
  ·obtain rfl : i = sl.length := by omega
   rw [List.drop_length] at hp
   rw [hp]
   simp only [List.map_nil, prepL, Option.map_some, List.append_nil]
   refine gg ?_
   refine ze fun K hK => ?_; refine xf (hY.rd mmA) ?_; refine hK _ _ ?_; clear hK K
   refine gg ?_
   refine zf [] ?_; exact ⟨rfl, rfl⟩
theorem yF {C : Chunk} (hG : GNam C) (s : List UInt8) (hs : s.length <= 100000) (most : Nat) (hm : most <= 1000) :
  Meets Tryz.prog 128 [.string (str s), .int .i64 most] [C] fun v A => v = .tuple #[.string (str (xF s most).1), .int .i64 (xF s most).2] /\ A = [C] := by
 refine eN Tryz.func128 Tryz.ntmps128 Tryz.results128 fun F => ?_
 refine gg ?_
 refine cA (JG hG s hs) ?_; rintro v A ⟨rfl, rfl⟩; refine gA ?_
 unfold xF
 obtain ⟨p, e⟩ := prep s
 simp only
 by_cases h1 : e = 0
 ·subst h1
  rw [if_neg (by simp)]
  refine gg ?_
  by_cases h2 : p = []
  ·subst h2
   rw [if_pos rfl]
   refine gg ?_
   refine zf [C] ?_; exact ⟨rfl, rfl⟩
  ·rw [if_neg h2]
   rw [show (p == []) = false from beq_eq_false_iff_ne.2 h2]
   refine gg ?_
   by_cases h3 : most < p.length
   ·rw [if_pos h3, decide_eq_true (show (most : Int) < p.length by omega)]
    refine gg ?_
    refine zf [C] ?_; exact ⟨rfl, rfl⟩
   ·rw [if_neg h3, decide_eq_false (show ¬ (most : Int) < p.length by omega)]
    refine gg ?_
    refine zf [C] ?_; exact ⟨rfl, rfl⟩
 ·rw [if_pos h1]
  refine gg ?_
  rw [bne_iff_ne.2 h1]
  refine gg ?_
  refine zf [C] ?_; exact ⟨rfl, rfl⟩
theorem kU {C : Chunk} (hG : GNam C) (s : List UInt8) (hs : s.length <= 100000) :
  Meets Tryz.prog 76 [.string (str s)] [C] fun v A => v = .tuple #[.string (str (xF s 32).1), .int .i64 (xF s 32).2] /\ A = [C] := by
 refine eN Tryz.func76 Tryz.ntmps76 Tryz.results76 fun F => ?_
 refine gg ?_
 refine cA (yF hG s hs 32 (by decide)) ?_; rintro v A ⟨rfl, rfl⟩; refine gA ?_
 refine zf [C] ?_; exact ⟨rfl, rfl⟩
theorem OT {C : Chunk} (hG : GNam C) (s : List UInt8) (hs : s.length <= 100000) :
  Meets Tryz.prog 77 [.string (str s)] [C] fun v A => v = .tuple #[.string (str (xF s 64).1), .int .i64 (xF s 64).2] /\ A = [C] := by
 refine eN Tryz.func77 Tryz.ntmps77 Tryz.results77 fun F => ?_
 refine gg ?_
 refine cA (yF hG s hs 64 (by decide)) ?_; rintro v A ⟨rfl, rfl⟩; refine gA ?_
 refine zf [C] ?_; exact ⟨rfl, rfl⟩
theorem ve (s : List UInt8) (hs : s.length <= 100000) (most : Nat) (hm : most <= 1000) :
  Meets Tryz.prog 67 [.string (str s), .int .i64 most] [] fun v A => v = .tuple #[.string (str (xF s most).1), .int .i64 (xF s most).2] /\ A = [] := by
 refine eN Tryz.func67 Tryz.ntmps67 Tryz.results67 fun F => ?_
 refine gg ?_
 refine cA (Xs s hs) ?_; rintro v A ⟨rfl, rfl⟩; refine gA ?_
 unfold xF
 obtain ⟨p, e⟩ := prep s
 simp only
 by_cases h1 : e = 0
 ·subst h1
  rw [if_neg (by simp)]
  refine gg ?_
  by_cases h2 : p = []
  ·subst h2
   rw [if_pos rfl]
   refine gg ?_
   (try simp only [List.length_nil])
   (try refine gg ?_)
   refine zf [] ?_; exact ⟨rfl, rfl⟩
  ·have hp : p.length ≠ 0 := fun h => h2 (List.length_eq_zero_iff.1 h)
   rw [if_neg h2]
   rw [show ((p.length : Int) == 0) = false from beq_eq_false_iff_ne.2 (by omega)]
   refine gg ?_
   by_cases h3 : most < p.length
   ·rw [if_pos h3, decide_eq_true (show (most : Int) < p.length by omega)]
    refine gg ?_
    refine zf [] ?_; exact ⟨rfl, rfl⟩
   ·rw [if_neg h3, decide_eq_false (show ¬ (most : Int) < p.length by omega)]
    refine gg ?_
    refine zf [] ?_; exact ⟨rfl, rfl⟩
 ·rw [if_pos h1]
  refine gg ?_
  rw [bne_iff_ne.2 h1]
  refine gg ?_
  refine zf [] ?_; exact ⟨rfl, rfl⟩
theorem ZE (c : UInt8) (z : Int) (h : (c.toNat : Int) = z) : ke c = ((decide (97 <= z) && decide (z <= 122)) || ((decide (48 <= z) && decide (z <= 57)) || (z == 45 || z == 95))) := by
 subst h
 exact eq_of_beq (all8 (fun c => ke c == ((decide (97 <= (c.toNat : Int)) && decide ((c.toNat : Int) <= 122)) || ((decide (48 <= (c.toNat : Int)) && decide ((c.toNat : Int) <= 57)) || ((c.toNat : Int) == 45 || (c.toNat : Int) == 95)))) (by decide +kernel) c)
theorem wN (s : List UInt8) (n : Nat) : Meets Tryz.prog 10 [.string (str s), .int .i64 n] [] fun v A => v = .string (str (s.take n)) /\ A = [] := by
 refine eN Tryz.func10 Tryz.ntmps10 Tryz.results10 fun F => ?_
 refine gg ?_
 have e : s.take (if (n : Int) < s.length then (n : Int) else s.length).toNat = s.take n := by
  split
  ·rw [show ((n : Int)).toNat = n from by omega]
  ·rw [List.take_of_length_le (by omega), List.take_of_length_le (by omega)]
 rw [e]
 refine zb [] ?_; exact ⟨rfl, rfl⟩
theorem notall {s : List UInt8} {i : Nat} (h : i < s.length) (hp : ke (s.getD i 0) = false) : qK s = false := by
 unfold qK
 rw [show s.all ke = false from by
  rw [List.all_eq_false]
  exact ⟨s.getD i 0, by rw [List.getD, List.getElem?_eq_getElem h]; exact List.getElem_mem h, by rw [hp]; simp⟩, Bool.false_and]
theorem Yi {s : List UInt8} {i : Nat} (h : i < s.length) (ha : (s.take i).all ke = true) (hp : ke (s.getD i 0) = true) : (s.take (i + 1)).all ke = true := by
 rw [UX h, List.all_append, ha, List.all_cons, hp]; rfl
theorem vQ (s : List UInt8) (hs : s.length <= 100000) : Meets Tryz.prog 56 [.string (str s)] [] fun v A => v = .bool (qK s) /\ A = [] := by
 refine eN Tryz.func56 Tryz.ntmps56 Tryz.results56 fun F => ?_
 refine gg ?_
 refine ze fun K hK => ?_; refine zH (by simp only [maxLen]; omega) (fun X xa xc hX => ?_); refine hK _ _ ?_; clear hK K
 refine gg ?_
 refine zB (fun q D L S => ∃ (i : Nat), i <= s.length /\ (s.take i).all ke = true /\ q = s.length - i /\ D = [] /\
  L = [(8, .int .i64 i), (7, .int .i64 s.length), (6, .slice (some xa) s.length xc), (0, .string (str s))] /\ S = [X, F])
  ⟨0, by omega, rfl, rfl, rfl, rfl, rfl⟩ ?_
 rintro q D L S ⟨i, hi, hall, rfl, rfl, rfl, rfl⟩
 refine gg ?_
 refine if_d (fun hc => ?_) (fun hc => ?_)
 ·have hil : i < s.length := by omega
  obtain ⟨z, hz⟩ : ∃ z : Int, ((s.getD i 0).toNat : Int) = z := ⟨_, rfl⟩
  have hp1 := ZE _ z hz
  have yes := fun h => Yi hil hall h
  have no := fun h => notall hil h
  refine gg ?_
  rw [hz]
  by_cases h1 : 97 <= z
  ·rw [decide_eq_true h1] at hp1 ⊢
   refine gg ?_
   rw [hz]
   by_cases h2 : z <= 122
   ·rw [decide_eq_true h2] at hp1 ⊢
    refine gg ?_
    exact zA ⟨i + 1, by omega, yes (by rw [hp1]; rfl), rfl, rfl, rfl, rfl⟩
   ·rw [decide_eq_false h2] at hp1 ⊢
    refine gg ?_
    rw [hz, decide_eq_true (show 48 <= z by omega)]
    refine gg ?_
    rw [hz, decide_eq_false (show ¬ z <= 57 by omega)]
    refine gg ?_
    rw [hz, beq_eq_false_iff_ne.2 (show z ≠ 45 by omega)]
    refine gg ?_
    rw [hz, beq_eq_false_iff_ne.2 (show z ≠ 95 by omega)]
    refine gg ?_
    rw [no (by rw [hp1]; simp; omega)]
    refine zb [] ?_; exact ⟨rfl, rfl⟩
  ·rw [decide_eq_false h1] at hp1 ⊢
   refine gg ?_
   rw [hz]
   by_cases h3 : 48 <= z
   ·rw [decide_eq_true h3] at hp1 ⊢
    refine gg ?_
    rw [hz]
    by_cases h4 : z <= 57
    ·rw [decide_eq_true h4] at hp1 ⊢
     refine gg ?_
     exact zA ⟨i + 1, by omega, yes (by rw [hp1]; rfl), rfl, rfl, rfl, rfl⟩
    ·rw [decide_eq_false h4] at hp1 ⊢
     refine gg ?_
     rw [hz, beq_eq_false_iff_ne.2 (show z ≠ 45 by omega)]
     refine gg ?_
     rw [hz]
     by_cases h5 : z = 95
     ·rw [beq_iff_eq.2 h5] at hp1 ⊢
      refine gg ?_
      exact zA ⟨i + 1, by omega, yes (by rw [hp1]; simp), rfl, rfl, rfl, rfl⟩
     ·rw [beq_eq_false_iff_ne.2 h5] at hp1 ⊢
      refine gg ?_
      rw [no (by rw [hp1]; simp; omega)]
      refine zb [] ?_; exact ⟨rfl, rfl⟩
   ·rw [decide_eq_false h3] at hp1 ⊢
    refine gg ?_
    rw [hz]
    by_cases h4 : z = 45
    ·rw [beq_iff_eq.2 h4] at hp1 ⊢
     refine gg ?_
     exact zA ⟨i + 1, by omega, yes (by rw [hp1]; simp), rfl, rfl, rfl, rfl⟩
    ·rw [beq_eq_false_iff_ne.2 h4] at hp1 ⊢
     refine gg ?_
     rw [hz, beq_eq_false_iff_ne.2 (show z ≠ 95 by omega)]
     refine gg ?_
     rw [no (by rw [hp1]; simp; omega)]
     refine zb [] ?_; exact ⟨rfl, rfl⟩
 ·obtain rfl : i = s.length := by omega
  rw [List.take_length] at hall
  have hpl : qK s = (decide (1 <= s.length) && decide (s.length <= 32)) := by unfold qK; rw [hall, Bool.true_and]
  rw [hpl]
  refine gg ?_
  by_cases h0 : s = []
  ·subst h0
   refine gg ?_
   refine zb [] ?_; exact ⟨rfl, rfl⟩
  ·have hpos : s.length ≠ 0 := fun h => h0 (List.length_eq_zero_iff.1 h)
   rw [bne_iff_ne.2 h0, decide_eq_true (show 1 <= s.length by omega), Bool.true_and]
   refine gg ?_
   rw [show decide ((s.length : Int) <= 32) = decide (s.length <= 32) from by
    by_cases h : s.length <= 32
    ·rw [decide_eq_true h, decide_eq_true (by omega)]
    ·rw [decide_eq_false h, decide_eq_false (by omega)]]
   refine zb [] ?_; exact ⟨rfl, rfl⟩
theorem yx (s : List UInt8) (hs : s.length <= 100000) : Meets Tryz.prog 73 [.string (str s)] [] fun v A => v = .bool (qK s) /\ A = [] := by
 refine eN Tryz.func73 Tryz.ntmps73 Tryz.results73 fun F => ?_
 refine gg ?_
 refine zB (fun q D L S => ∃ (i : Nat), i <= s.length /\ (s.take i).all ke = true /\ q = s.length - i /\ D = [] /\
  L = [(3, .int .i64 i), (0, .string (str s))] /\ S = [F])
  ⟨0, by omega, rfl, rfl, rfl, rfl, rfl⟩ ?_
 rintro q D L S ⟨i, hi, hall, rfl, rfl, rfl, rfl⟩
 refine gg ?_
 refine if_d (fun hc => ?_) (fun hc => ?_)
 ·have hil : i < s.length := by omega
  obtain ⟨z, hz⟩ : ∃ z : Int, ((s.getD i 0).toNat : Int) = z := ⟨_, rfl⟩
  have hp1 := ZE _ z hz
  have yes := fun h => Yi hil hall h
  have no := fun h => notall hil h
  refine gg ?_
  rw [hz]
  by_cases h1 : 97 <= z
  ·rw [decide_eq_true h1] at hp1 ⊢
   refine gg ?_
   rw [hz]
   by_cases h2 : z <= 122
   ·rw [decide_eq_true h2] at hp1 ⊢
    refine gg ?_
    exact zA ⟨i + 1, by omega, yes (by rw [hp1]; rfl), rfl, rfl, rfl, rfl⟩
   ·rw [decide_eq_false h2] at hp1 ⊢
    refine gg ?_
    rw [hz, decide_eq_true (show 48 <= z by omega)]
    refine gg ?_
    rw [hz, decide_eq_false (show ¬ z <= 57 by omega)]
    refine gg ?_
    rw [hz, beq_eq_false_iff_ne.2 (show z ≠ 45 by omega)]
    refine gg ?_
    rw [hz, beq_eq_false_iff_ne.2 (show z ≠ 95 by omega)]
    refine gg ?_
    rw [no (by rw [hp1]; simp; omega)]
    refine zb [] ?_; exact ⟨rfl, rfl⟩
  ·rw [decide_eq_false h1] at hp1 ⊢
   refine gg ?_
   rw [hz]
   by_cases h3 : 48 <= z
   ·rw [decide_eq_true h3] at hp1 ⊢
    refine gg ?_
    rw [hz]
    by_cases h4 : z <= 57
    ·rw [decide_eq_true h4] at hp1 ⊢
     refine gg ?_
     exact zA ⟨i + 1, by omega, yes (by rw [hp1]; rfl), rfl, rfl, rfl, rfl⟩
    ·rw [decide_eq_false h4] at hp1 ⊢
     refine gg ?_
     rw [hz, beq_eq_false_iff_ne.2 (show z ≠ 45 by omega)]
     refine gg ?_
     rw [hz]
     by_cases h5 : z = 95
     ·rw [beq_iff_eq.2 h5] at hp1 ⊢
      refine gg ?_
      exact zA ⟨i + 1, by omega, yes (by rw [hp1]; simp), rfl, rfl, rfl, rfl⟩
     ·rw [beq_eq_false_iff_ne.2 h5] at hp1 ⊢
      refine gg ?_
      rw [no (by rw [hp1]; simp; omega)]
      refine zb [] ?_; exact ⟨rfl, rfl⟩
   ·rw [decide_eq_false h3] at hp1 ⊢
    refine gg ?_
    rw [hz]
    by_cases h4 : z = 45
    ·rw [beq_iff_eq.2 h4] at hp1 ⊢
     refine gg ?_
     exact zA ⟨i + 1, by omega, yes (by rw [hp1]; simp), rfl, rfl, rfl, rfl⟩
    ·rw [beq_eq_false_iff_ne.2 h4] at hp1 ⊢
     refine gg ?_
     rw [hz, beq_eq_false_iff_ne.2 (show z ≠ 95 by omega)]
     refine gg ?_
     rw [no (by rw [hp1]; simp; omega)]
     refine zb [] ?_; exact ⟨rfl, rfl⟩
 ·obtain rfl : i = s.length := by omega
  rw [List.take_length] at hall
  have hpl : qK s = (decide (1 <= s.length) && decide (s.length <= 32)) := by unfold qK; rw [hall, Bool.true_and]
  rw [hpl]
  refine gg ?_
  by_cases h0 : 1 <= s.length
  ·rw [decide_eq_true h0, decide_eq_true (show (1 : Int) <= s.length by omega), Bool.true_and]
   refine gg ?_
   rw [show decide ((s.length : Int) <= 32) = decide (s.length <= 32) from by
    by_cases h : s.length <= 32
    ·rw [decide_eq_true h, decide_eq_true (by omega)]
    ·rw [decide_eq_false h, decide_eq_false (by omega)]]
   refine zb [] ?_; exact ⟨rfl, rfl⟩
  ·rw [decide_eq_false h0, decide_eq_false (show ¬ (1 : Int) <= s.length by omega), Bool.false_and]
   refine gg ?_
   refine zb [] ?_; exact ⟨rfl, rfl⟩
open Go.Sha
def tagC : List UInt8 := [67, 108, 105, 101, 110, 116, 32, 75, 101, 121]
def tagS : List UInt8 := [83, 101, 114, 118, 101, 114, 32, 75, 101, 121]
structure Sec where
 st : List UInt8
 sv : List UInt8
 ha : List UInt8
def xi (a b c : List UInt8) : List UInt8 := a ++ [58] ++ b ++ [58] ++ c
def jO (x : BX) (n q : List UInt8) : Sec × BX :=
 let k := strX x q [1] 1
 let c := macX k.2 k.1 tagC
 let h := xx c.2 c.1
 let s := macX h.2 k.1 tagS
 let a := xx s.2 (xi n [116] q)
 (⟨h.1, s.1, a.1⟩, a.2)
theorem makeX_ts (x : BX) (n q : List UInt8) : (jO x n q).2.ts.length <= x.ts.length + 5 /\ (jO x n q).2.sym = x.sym := by
 unfold jO
 simp only
 have h1 := yl x q [1] 1
 generalize strX x q [1] 1 = k at *
 have h2 := vF k.2 k.1 tagC
 generalize macX k.2 k.1 tagC = c at *
 have h3 := xK c.2 c.1
 generalize xx c.2 c.1 = h at *
 have h4 := vF h.2 k.1 tagS
 generalize macX h.2 k.1 tagS = s at *
 have h5 := xK s.2 (xi n [116] q)
 generalize xx s.2 (xi n [116] q) = a at *
 exact ⟨by omega, by rw [h5.2, h4.2, h3.2, h2.2, h1.2]⟩
theorem Jl (p s : List UInt8) (r : Nat) : (qB p s r 32).length <= 100000 := by
 unfold qB; rw [List.length_take]; omega
theorem Wb (x : BX) (p s : List UInt8) (r : Nat) : (strX x p s r).1.length <= 100000 := by
 unfold strX; split
 ·rw [Xi]; omega
 ·exact Jl _ _ _
theorem wY (x : BX) (k m : List UInt8) : (macX x k m).1.length = 32 := by
 unfold macX; split
 ·exact Xi _ _
 ·exact vE _ _
theorem ju (x : BX) (m : List UInt8) : (xx x m).1.length = 32 := by
 unfold xx; split
 ·exact Xi _ _
 ·exact qS _
theorem Zy (a : Option Addr) (c : Nat) : Meets Tryz.prog 78 [.slice a 1 c, .int .i64 1] [] fun v A => v = .bool true /\ A = [] := by
 refine eN Tryz.func78 Tryz.ntmps78 Tryz.results78 fun F => ?_
 refine gg ?_
 refine zb [] ?_; exact ⟨rfl, rfl⟩
def SecW (W : Chunk) (vs : List Value) (s : Sec) : Prop := ∃ (sa ta ua ha : Option Addr) (sc tc uc hc : Nat), vs = [.slice sa 1 sc, .int .i64 1, .slice ta s.st.length tc, .slice ua s.sv.length uc, .slice ha s.ha.length hc] /\
 (1 <= sc /\ s.st.length <= tc /\ s.sv.length <= uc /\ s.ha.length <= hc) /\ s.st.length = 32 /\ s.sv.length = 32 /\ s.ha.length = 32 /\
 Rd 1 [W] sa 1 (([1] : List UInt8).map b8) /\ Rd 1 [W] ta s.st.length (s.st.map b8) /\ Rd 1 [W] ua s.sv.length (s.sv.map b8) /\ Rd 1 [W] ha s.ha.length (s.ha.map b8)
instance tpSec : TPlaces Tryz.prog 45 [(0, 1), (1, 1), (2, 1), (3, 1), (4, 1)] := ⟨by kernel_rfl⟩
theorem Ij {G : Chunk} (hg : Globs G) (hn : GNam G) {C S : Chunk} {b : Nat} {x : BX} (hC : qG C b x) (hts : x.ts.length <= 900) (u p n q : List UInt8) (hu : u.length <= 1000) (hp : p.length <= 1000) (hnl : n.length <= 1000) (hql : q.length <= 1000) (hun : xF u 32 = (n, 0)) (hpq : xF p 64 = (q, 0)) {sa : Option Addr} {sc : Nat} (hsc : 1 <= sc) (hS : Rd 1 [S] sa 1 (([1] : List UInt8).map b8)) :
  Meets Tryz.prog 30 [.pointer (some ⟨b, 0, none⟩), .string (str [116]), .string (str u), .string (str p), .slice sa 1 sc, .int .i64 1] [C, G, S]
  fun v A => ∃ (W0 W1 W2 W3 C' : Chunk) (vs : List Value), v = .tuple #[.agg vs.toArray, .int .i64 0] /\ SecW (W0 ++ (W1 ++ (W2 ++ W3))) vs (jO x n q).1 /\ qG C' b (jO x n q).2 /\ A = [W0, W1, W2, W3, C', G, S] := by
 have hnm := kU hn u (by omega)
 have hpw := OT hn p (by omega)
 rw [hun] at hnm
 rw [hpq] at hpw
 refine eN Tryz.func30 Tryz.ntmps30 Tryz.results30 fun F => ?_
 refine gg ?_
 refine oA ([.slice none 0 0, .int .i64 0, .slice none 0 0, .slice none 0 0, .slice none 0 0] : List Value).toArray fun b12 => ?_
 refine gg ?_
 refine cA (vQ [116] (by decide)) ?_; rintro v A ⟨rfl, rfl⟩; refine gA ?_
 rw [show qK [116] = true from by decide +kernel]
 refine gg ?_
 refine cA (hnm) ?_; rintro v A ⟨rfl, rfl⟩; refine gA ?_
 refine cA (hpw) ?_; rintro v A ⟨rfl, rfl⟩; refine gA ?_
 refine cA (Zy sa sc) ?_; rintro v A ⟨rfl, rfl⟩; refine gA ?_
 refine ze fun K hK => ?_; refine zH (by simp only [maxLen]; omega) (fun Q qa qc hQ => ?_); refine hK _ _ ?_; clear hK K
 refine gg ?_
 have kl1 := Wb x q [1] 1
 have kt := yl x q [1] 1
 refine cA (bstr_spec hg (by omega) hQ.1 (hQ.rd (List.mem_cons_self ..)) (by decide) hsc hS 1 (by decide) (by decide) hC (by omega)) ?_; rintro v A ⟨w, rfl, Kk, C1, ka, kc, rfl, hKk, hC1, rfl⟩; refine gA ?_
 unfold jO
 simp only
 generalize strX x q [1] 1 = k at *
 refine ze fun K hK => ?_; refine zR ([67, 108, 105, 101, 110, 116, 32, 75, 101, 121]) (by decide) rfl (rfl) (fun b62 C62 ho62 => ?_); refine hK _ _ ?_; clear hK K
 refine gg ?_
 refine ze fun K hK => ?_; refine wi ho62 pkA (by decide) (fun C63 ho63 => ?_); refine hK _ _ ?_; clear hK K
 refine gg ?_
 refine ze fun K hK => ?_; refine xY rfl [.slice (some ⟨b62, 0, none⟩) 10 10] (by decide) rfl rfl (by simp [Value.cell1]) (fun b64 C64 ho64 => ?_); refine hK _ _ ?_; clear hK K
 refine gg ?_
 have hp1 : Part1 C64 C63 (some ⟨b64, 0, none⟩) (some ⟨b62, 0, none⟩) 10 tagC := ⟨ho64.rd (List.mem_cons_self ..), Nat.le_refl _, ho63.rd (List.mem_cons_self ..), by decide⟩
 have cl1 := wY k.2 k.1 tagC
 have ct := vF k.2 k.1 tagC
 refine cA (Qy hg kl1 hKk.1 (hKk.rd (List.mem_cons_self ..)) hp1 hC1 (by omega)) ?_; rintro v A ⟨M, C2, ma, mc, rfl, hM, hC2, rfl⟩; refine gA ?_
 generalize macX k.2 k.1 tagC = c at *
 refine cA (xt S sa sc [1] (by decide) hS) ?_; rintro v A ⟨W0, wa, wc, rfl, hW0, rfl⟩; refine gA ?_
 refine ze fun K hK => ?_; refine xY rfl [.slice ma c.1.length mc] (by decide) rfl rfl (by simp [Value.cell1]) (fun b71 C71 ho71 => ?_); refine hK _ _ ?_; clear hK K
 refine gg ?_
 have hp2 : Part1 C71 M (some ⟨b71, 0, none⟩) ma mc c.1 := ⟨ho71.rd (List.mem_cons_self ..), hM.1, hM.rd (List.mem_cons_self ..), by omega⟩
 have hl1 := ju c.2 c.1
 have ht := xK c.2 c.1
 refine cA (qX hg hp2 hC2 (by omega)) ?_; rintro v A ⟨W1, C3, va, vc, rfl, hW1, hC3, rfl⟩; refine gA ?_
 generalize xx c.2 c.1 = h at *
 refine ze fun K hK => ?_; refine zR ([83, 101, 114, 118, 101, 114, 32, 75, 101, 121]) (by decide) rfl (rfl) (fun b75 C75 ho75 => ?_); refine hK _ _ ?_; clear hK K
 refine gg ?_
 refine ze fun K hK => ?_; refine wi ho75 pkA (by decide) (fun C76 ho76 => ?_); refine hK _ _ ?_; clear hK K
 refine gg ?_
 refine ze fun K hK => ?_; refine xY rfl [.slice (some ⟨b75, 0, none⟩) 10 10] (by decide) rfl rfl (by simp [Value.cell1]) (fun b77 C77 ho77 => ?_); refine hK _ _ ?_; clear hK K
 refine gg ?_
 have hp3 : Part1 C77 C76 (some ⟨b77, 0, none⟩) (some ⟨b75, 0, none⟩) 10 tagS := ⟨ho77.rd (List.mem_cons_self ..), Nat.le_refl _, ho76.rd (List.mem_cons_self ..), by decide⟩
 have sl1 := wY h.2 k.1 tagS
 have st := vF h.2 k.1 tagS
 refine cA (Qy hg kl1 hKk.1 (hKk.rd (List.mem_cons_self ..)) hp3 hC3 (by omega)) ?_; rintro v A ⟨W2, C4, ua, uc, rfl, hW2, hC4, rfl⟩; refine gA ?_
 generalize macX h.2 k.1 tagS = s at *
 have s58 : Value.string ⟨#[58]⟩ = .string (str [58]) := rfl
 rw [s58]
 refine ze fun K hK => ?_; rw [zF (by rw [List.length_singleton]; omega)]; refine hK _ _ ?_; clear hK K
 refine gg ?_
 refine ze fun K hK => ?_; rw [zF (by rw [List.length_append, List.length_singleton, List.length_singleton]; omega)]; refine hK _ _ ?_; clear hK K
 refine gg ?_
 (try rw [s58])
 refine ze fun K hK => ?_; rw [zF (by rw [List.length_append, List.length_append, List.length_singleton, List.length_singleton]; omega)]; refine hK _ _ ?_; clear hK K
 refine gg ?_
 refine ze fun K hK => ?_; rw [zF (by rw [List.length_append, List.length_append, List.length_append, List.length_singleton, List.length_singleton]; omega)]; refine hK _ _ ?_; clear hK K
 refine gg ?_
 rw [show n ++ [58] ++ [116] ++ [58] ++ q = xi n [116] q from rfl]
 have hcl : (xi n [116] q).length <= 3000 := by unfold xi; simp only [List.length_append, List.length_singleton]; omega
 refine ze fun K hK => ?_; refine zH (by simp only [maxLen]; omega) (fun X xa xc hX => ?_); refine hK _ _ ?_; clear hK K
 refine gg ?_
 refine ze fun K hK => ?_; refine xY rfl [.slice (some xa) (xi n [116] q).length xc] (by decide) rfl rfl (by simp [Value.cell1]) (fun b88 C88 ho88 => ?_); refine hK _ _ ?_; clear hK K
 refine gg ?_
 have hp4 : Part1 C88 X (some ⟨b88, 0, none⟩) (some xa) xc (xi n [116] q) := ⟨ho88.rd (List.mem_cons_self ..), hX.1, hX.rd (List.mem_cons_self ..), by omega⟩
 have al1 := ju s.2 (xi n [116] q)
 have at_ := xK s.2 (xi n [116] q)
 refine cA (qX hg hp4 hC4 (by omega)) ?_; rintro v A ⟨W3, C5, ya, yc, rfl, hW3, hC5, rfl⟩; refine gA ?_
 generalize xx s.2 (xi n [116] q) = a at *
 have hvc : ∀ v ∈ ([.slice wa ([1] : List UInt8).length wc, .int .i64 1, .slice va h.1.length vc, .slice ua s.1.length uc, .slice ya a.1.length yc] : List Value), Value.cell1 v := by
  intro v hv
  simp only [List.mem_cons, List.not_mem_nil, or_false] at hv
  rcases hv with rfl | rfl | rfl | rfl | rfl <;> simp [Value.cell1]
 refine oT [(0, .slice wa ([1] : List UInt8).length wc), (1, .int .i64 1), (2, .slice va h.1.length vc), (3, .slice ua s.1.length uc), (4, .slice ya a.1.length yc)] ([.slice wa ([1] : List UInt8).length wc, .int .i64 1, .slice va h.1.length vc, .slice ua s.1.length uc, .slice ya a.1.length yc] : List Value).toArray ?_
 refine gg ?_
 refine oS [.slice wa ([1] : List UInt8).length wc, .int .i64 1, .slice va h.1.length vc, .slice ua s.1.length uc, .slice ya a.1.length yc] rfl hvc ?_
 refine gg ?_
 refine zf (vs := [.agg ([.slice wa ([1] : List UInt8).length wc, .int .i64 1, .slice va h.1.length vc, .slice ua s.1.length uc, .slice ya a.1.length yc] : List Value).toArray, .int .i64 0]) [W0, W1, W2, W3, C5, G, S] ?_ (hr := by (intro κ hκ; simp only [resW, withV, lookT_hit, lookT_miss, Nat.reduceBEq]; exact zm (vs := [.slice wa ([1] : List UInt8).length wc, .int .i64 1, .slice va h.1.length vc, .slice ua s.1.length uc, .slice ya a.1.length yc]) lkA rfl hκ))
 exact ⟨W0, W1, W2, W3, C5, _, rfl, ⟨wa, va, ua, ya, wc, vc, uc, yc, rfl, ⟨hW0.1, hW1.1, hW2.1, hW3.1⟩, hl1, sl1, al1, rd_l (hW0.rd (List.mem_cons_self ..)), rd_r (rd_l (hW1.rd (List.mem_cons_self ..))), rd_r (rd_r (rd_l (hW2.rd (List.mem_cons_self ..)))), rd_r (rd_r (rd_r (hW3.rd (List.mem_cons_self ..))))⟩, hC5, rfl⟩
theorem Ii {G : Chunk} (hg : Globs G) (hn : GNam G) {C S : Chunk} {b : Nat} {x : BX} (hC : qG C b x) (hts : x.ts.length <= 900) (u p n q : List UInt8) (hu : u.length <= 1000) (hp : p.length <= 1000) (hnl : n.length <= 1000) (hql : q.length <= 1000) (hun : xF u 32 = (n, 0)) (hpq : xF p 64 = (q, 0)) {sa : Option Addr} {sc : Nat} (hsc : 1 <= sc) (hS : Rd 1 [S] sa 1 (([1] : List UInt8).map b8)) :
  Meets Tryz.prog 30 [.pointer (some ⟨b, 0, none⟩), .string (str [116]), .string (str u), .string (str p), .slice sa 1 sc, .int .i64 1] [C, G, S]
  fun v A => ∃ (W C' : Chunk) (vs : List Value), v = .tuple #[.agg vs.toArray, .int .i64 0] /\ SecW W vs (jO x n q).1 /\ qG C' b (jO x n q).2 /\ A = [W, C', G, S] :=
 (Ij hg hn hC hts u p n q hu hp hnl hql hun hpq hsc hS).perm (by simp) (fun v A' ⟨W0, W1, W2, W3, C', vs, hv, hW, hC', hA⟩ => ⟨[W0 ++ (W1 ++ (W2 ++ W3)), C', G, S], by rw [hA]; simp, _, C', vs, hv, hW, hC', rfl⟩)
end Go.Proofs.YtebikhhoppiapaaGreatDoor
namespace Go.Proofs.YtebikhhoppiapaaGreatDoor
open Go Go.Ost Go.Sha
section
variable {P : Program}
theorem zeros_b8 (n : Nat) : Builtin.zeroCells (Value.int .u8 0).cells n = ((List.replicate n (0 : UInt8)).map b8).toArray := by
 have hz : (Value.int .u8 0).cells = #[.int .u8 0] := rfl
 apply Array.ext'
 rw [hz]
 simp only [Builtin.zeroCells, Array.toList_map, Array.toList_range]
 apply List.ext_getElem?
 intro i
 by_cases h : i < n
 ·simp [List.getElem?_range, h, Nat.mod_one, b8]
 ·simp [h]
theorem app_zero {t t2 ty e : TypeId} [ht : TSlice P t e] [ht2 : TInt P t2 .i64] [hs : TSized P e (.int .u8 0) 1 1] {S G : State} {κ : Value -> State -> Prop} {C : Chunk} {a : Option Addr} {len cap n : Nat} {us : List UInt8}
  (ho : Ost.Own 1 e C a len cap (us.map b8)) (hC : Pick C S G) (hroom : cap < len + n) (hn0 : 0 < n) (hm : len + n <= 1000)
  (k : ∀ C' a' cap', Ost.Own 1 e C' a' (len + n) cap' ((us ++ List.replicate n 0).map b8) -> κ (.slice a' (len + n) cap') (C' :: G)) : ValW P (Builtin.append_ #[t, t2] ty #[.slice a len cap, .int .i64 n]) S κ := by
 refine ⟨fun w hw => ?_⟩
 have hCG : Hold w (C :: G) := hw.perm hC.perm
 have hrd : Rd 1 (C :: G) a len (us.map b8) := ho.rd (List.mem_cons_self ..)
 have f1 := fun (w : World) hw => vP (P := P) (c := cap) hrd (w := w) hw
 obtain ⟨i, hi, hz1, hsz, hby⟩ := xP hs.info
 obtain ⟨hle, hmax, hlen, hcase⟩ := ho
 have hge := grownCap_ge w (len + n) cap e
 have hcm := grownCap_le_maxLen w (len + n) cap e (by simp only [maxLen]; omega)
 have hn : ¬ (len + n <= cap) := by omega
 have h63' : ¬ (9223372036854775807 < ((len : Int) + (n : Int))) := by omega
 have h48' : ¬ (281474976710656 < Builtin.nextslicecap (len + n) cap * i.bytes) := by
  rw [hby]
  have := growslice_fits (bytes := 1) (by omega : cap < len + n) (by omega)
  omega
 have f1' := f1 w.drew ⟨hCG.nd, hCG.get⟩
 have hw1 : IntKind.i64.wrap (n : Int) = n := vL (by omega) (by omega)
 have hl0 : ¬ ((n : Int) < 0) := by omega
 have hl1 : ¬ (281474976710656 < (n : Int) * (i.bytes : Int)) := by rw [hby]; omega
 have hn1 : ¬ (n = 0) := by omega
 obtain ⟨cells, hcells⟩ : ∃ cells : Array Value, cells = (us.map b8).toArray ++ ((List.replicate n (0 : UInt8)).map b8).toArray ++ Builtin.zeroCells (Value.int .u8 0).cells (grownCap w (len + n) cap e - (len + n)) := ⟨_, rfl⟩
 refine ⟨.slice (some ⟨w.heap.size, 0, none⟩) (len + n) (grownCap w (len + n) cap e), w.drew.alloc (.cells cells e), [(w.heap.size, .cells cells e (0, 0))] :: G, ?_, ⟨rfl, rfl, rfl, by simp⟩, ?_, k _ _ _ ⟨hge, hcm, ?_, .inr ⟨_, 0, cells, (0, 0), rfl, rfl, .inl rfl, ?_, ?_⟩⟩⟩
 ·rw [hcells]
  simp [Builtin.append_, Sem.run_bind, zx ht.und, zx ht2.und, zt hs, zC hs, Result.andThen, typeInfo, program, Sem.run, hi, hn, h63', h48', Question.forced, asInt, asIntOf, hw1, hl0, hl1, hn1, hn0, zeros_b8, f1', newRow]
  exact ⟨rfl, rfl⟩
 ·refine Hold.new (w := w) (o := .cells cells e (0, 0)) ?_ rfl
  exact hCG.sub (by simp)
 ·rw [List.length_map] at hlen
  rw [List.length_map, List.length_append, List.length_replicate]; omega
 ·rw [List.length_map] at hlen
  have hz : (Value.int .u8 0).cells.size = 1 := rfl
  rw [hcells]
  simp only [Array.size_append, List.size_toArray, size_zeroCells, List.length_map, List.length_replicate, hz]
  omega
 ·intro j hj
  rw [hcells, Nat.zero_add, Array.getElem?_append_left (by simp at hj ⊢; omega)]
  rw [show (us.map b8).toArray ++ ((List.replicate n (0 : UInt8)).map b8).toArray = ((us ++ List.replicate n 0).map b8).toArray from by apply Array.ext'; simp, List.getElem?_toArray]
end
theorem Uf : Meets Tryz.prog 235 [] [] (New8 5 frontB []) := by
 refine eN Tryz.func235 Tryz.ntmps235 Tryz.results235 fun F => ?_
 refine gg ?_
 refine ze fun K hK => ?_; refine zR ([241, 84, 82, 77]) (by decide) rfl (rfl) (fun b1 C1 ho1 => ?_); refine hK _ _ ?_; clear hK K
 refine gg ?_
 refine ze fun K hK => ?_; refine app_zero (len := 4) (n := 24) ho1 pkA (by decide) (by decide) (by decide) (fun C2 a2 c2 ho2 => ?_); refine hK _ _ ?_; clear hK K
 refine gg ?_
 refine zb ([C2]) ?_; exact ⟨_, _, _, rfl, ho2, rfl⟩
theorem qv (n : Nat) (hn : n < 1000000) : Meets Tryz.prog 189 [.int .i64 n] [] (New8 5 (hdl n) []) := by
 refine eN Tryz.func189 Tryz.ntmps189 Tryz.results189 fun F => ?_
 refine gg ?_
 refine cA (Uf) ?_; rintro v A ⟨C3, a3, c3, rfl, ho3, rfl⟩; refine gA ?_
 refine cA (xU n 4 (by omega) (by decide)) ?_; rintro v A ⟨C5, a5, c5, rfl, ho5, rfl⟩; refine gA ?_
 rw [xZ]
 rw [xZ] at ho5
 refine ze fun K hK => ?_; refine app8 (ho3) pkA (ho5.rd mmA) (by decide) (fun C6 a6 cap6 ho6 => ?_); refine hK _ _ ?_; clear hK K
 refine gg ?_
 refine zb ([C6]) ?_; exact ⟨_, _, _, rfl, ho6, rfl⟩
theorem Iv : Meets Tryz.prog 234 [.slice none 0 0, .slice none 0 0] [] fun v A => v = .bool true /\ A = [] := by
 refine eN Tryz.func234 Tryz.ntmps234 Tryz.results234 fun F => ?_
 refine gg ?_
 refine zB (fun q D L S => q = 0 /\ D = [] /\ L = [(13, .int .i64 0), (12, .int .i64 0), (0, .slice none 0 0), (1, .slice none 0 0)] /\ S = [F]) ⟨rfl, rfl, rfl, rfl⟩ ?_
 rintro q D L S ⟨rfl, rfl, rfl, rfl⟩
 refine gg ?_
 refine zb [] ?_; exact ⟨rfl, rfl⟩
theorem tm_eq (t u : Tm) : decide (t = u) = (((t.k : Int) == (u.k : Int)) && ((t.key == u.key) && ((t.txt == u.txt) && ((t.rnd : Int) == (u.rnd : Int))))) := by
 obtain ⟨a, b, c, d⟩ := t
 obtain ⟨a', b', c', d'⟩ := u
 simp only [Tm.mk.injEq]
 by_cases h1 : a = a' <;> by_cases h2 : b = b' <;> by_cases h3 : c = c' <;> by_cases h4 : d = d' <;> simp [h1, h2, h3, h4] <;> omega
theorem QS (t u : Tm) {A B : Chunk} {ka xa la ya : Option Addr} {kc xc lc yc : Nat} (hk : Rd 1 [A] ka t.key.length (t.key.map b8)) (hx : Rd 1 [A] xa t.txt.length (t.txt.map b8)) (hl : Rd 1 [B] la u.key.length (u.key.map b8)) (hy : Rd 1 [B] ya u.txt.length (u.txt.map b8)) :
  Meets Tryz.prog 188 [.agg #[.int .i64 t.k, .slice ka t.key.length kc, .slice xa t.txt.length xc, .int .i64 t.rnd, .slice none 0 0, .slice none 0 0], .agg #[.int .i64 u.k, .slice la u.key.length lc, .slice ya u.txt.length yc, .int .i64 u.rnd, .slice none 0 0, .slice none 0 0]] [A, B]
  fun v S => v = .bool (decide (t = u)) /\ S = [A, B] := by
 rw [tm_eq]
 refine eN Tryz.func188 Tryz.ntmps188 Tryz.results188 fun F => ?_
 refine gg ?_
 refine oB fun b1 => ?_
 refine gg ?_
 refine oB fun b2 => ?_
 refine gg ?_
 cases h1 : ((t.k : Int) == (u.k : Int)) with
 | false =>
  refine gg ?_
  refine zb [A, B] ?_; exact ⟨rfl, rfl⟩
 | true =>
  refine gg ?_
  refine cA (yp [A, B] ka la t.key.length u.key.length kc lc t.key u.key (hk.mem (by simp)) (hl.mem (by simp))) ?_; rintro v A ⟨rfl, rfl⟩; refine gA ?_
  cases h2 : (t.key == u.key) with
  | false =>
   refine gg ?_
   refine zb [A, B] ?_; exact ⟨rfl, rfl⟩
  | true =>
   refine gg ?_
   refine cA (yp [A, B] xa ya t.txt.length u.txt.length xc yc t.txt u.txt (hx.mem (by simp)) (hy.mem (by simp))) ?_; rintro v A ⟨rfl, rfl⟩; refine gA ?_
   cases h3 : (t.txt == u.txt) with
   | false =>
    refine gg ?_
    refine zb [A, B] ?_; exact ⟨rfl, rfl⟩
   | true =>
    refine gg ?_
    cases h4 : ((t.rnd : Int) == (u.rnd : Int)) with
    | false =>
     refine gg ?_
     refine zb [A, B] ?_; exact ⟨rfl, rfl⟩
    | true =>
     refine gg ?_
     refine cA (Iv) ?_; rintro v A ⟨rfl, rfl⟩; refine gA ?_
     refine cA (yp [A, B] none none 0 0 0 0 [] [] Rd.nil Rd.nil) ?_; rintro v A ⟨rfl, rfl⟩; refine gA ?_
     refine zb [A, B] ?_; exact ⟨rfl, rfl⟩
theorem Vr (A B : Chunk) (a b : Option Addr) (ca cb : Nat) (xs ys : List UInt8) (hx : xs.length <= 100000) (hy : ys.length <= 100000) (h1 : Rd 1 [A] a xs.length (xs.map b8)) (h2 : Rd 1 [B] b ys.length (ys.map b8)) :
  Meets Tryz.prog 190 [.slice a xs.length ca, .slice b ys.length cb] [A, B] (New8 5 (xorB xs ys) [A, B]) := by
 have hm : min xs.length ys.length <= xs.length /\ min xs.length ys.length <= ys.length := ⟨Nat.min_le_left _ _, Nat.min_le_right _ _⟩
 have hxl := vK xs ys
 have hg : ∀ i, i < min xs.length ys.length -> (xorB xs ys).getD i 0 = xs.getD i 0 ^^^ ys.getD i 0 := fun i hi => by rw [List.getD, Xc xs ys i hi]; rfl
 have hb : List.replicate (min xs.length ys.length) (0 : UInt8) = (List.range (min xs.length ys.length)).map fun j => if j < 0 then (xorB xs ys).getD j 0 else 0 := by
  apply List.ext_getElem
  ·simp
  ·intro i g1 g2; rw [List.getElem_replicate, List.getElem_map, if_neg (Nat.not_lt_zero _)]
 have he : ((List.range (min xs.length ys.length)).map fun j => if j < min xs.length ys.length then (xorB xs ys).getD j 0 else 0) = xorB xs ys := by
  apply List.ext_getElem
  ·simp [hxl]
  ·intro i g1 g2
   simp only [List.length_map, List.length_range] at g1
   simp [List.getD, g1, hxl]
 refine eN Tryz.func190 Tryz.ntmps190 Tryz.results190 fun F => ?_
 refine gg ?_
 rw [If]
 refine gg ?_
 generalize hn : min xs.length ys.length = n at *
 refine ze fun K hK => ?_; refine Ik (n := n) (by omega) (fun b2 C2 ho2 => ?_); refine hK _ _ ?_; clear hK K
 rw [hb] at ho2
 refine gg ?_
 generalize (some (⟨b2, 0, none⟩ : Addr)) = p at *
 refine zB (fun q D L S => ∃ (i : Nat) (C' : Chunk), i <= n /\ Own8 5 C' p n n ((List.range n).map fun j => if j < i then (xorB xs ys).getD j 0 else 0) /\ q = n - i /\ D = [] /\
  L = [(17, .int .i64 i), (16, .int .i64 n), (0, .slice a xs.length ca), (1, .slice b ys.length cb), (6, .slice p n n)] /\ S = [C', F, A, B]) ⟨0, C2, by omega, ho2, rfl, rfl, rfl, rfl⟩ ?_
 rintro q D L S ⟨i, C', hi, ho, rfl, rfl, rfl, rfl⟩
 refine gg ?_
 refine if_d (fun hc => ?_) (fun hc => ?_)
 ·refine gg ?_
  refine zn [(0, false, []), (1, false, []), (2, false, []), (3, false, []), (4, false, []), (5, false, []), (6, false, []), (7, false, []), (8, false, []), (9, false, []), (10, false, []), (11, false, []), (12, true, [])] ?_
  refine gg ?_
  refine zh fun K hK => ?_; (apply jX ho); (· (repeat (first | with_reducible exact Pick.head _ _ | with_reducible apply Pick.tail))); (· simp; omega); (intro C4 ho4); refine hK _ _ ?_; clear hK K
  rw [<- hg i (by omega), Xo n (fun _ => (0 : UInt8)) (fun j => (xorB xs ys).getD j 0) i (by omega)] at ho4
  refine gg ?_
  exact zA ⟨i + 1, C4, by omega, ho4, rfl, rfl, rfl, rfl⟩
 ·refine gg ?_
  obtain rfl : i = n := by omega
  rw [he] at ho
  refine zb [C', A, B] ?_
  exact ⟨C', p, i, by rw [hxl], by rw [hxl]; exact ho, rfl⟩
theorem Zj {G : Chunk} (hg : Globs3 G) (Hp Hs : Chunk) (pa sa : Option Addr) (pcap scap : Nat) (pass salt : List UInt8) (rounds size : Nat) (hr1 : 1 <= rounds) (hr2 : rounds <= 64) (hz1 : 1 <= size) (hz2 : size <= 128)
  (hp1 : pass.length <= 10000) (hp2 : pass.length <= pcap) (hp3 : Rd 1 [Hp] pa pass.length (pass.map b8)) (hs1 : salt.length <= 10000) (hs2 : salt.length <= scap) (hs3 : Rd 1 [Hs] sa salt.length (salt.map b8)) :
  Meets Tryz.prog 135 [.slice pa pass.length pcap, .slice sa salt.length scap, .int .i64 rounds, .int .i64 size] [G, Hp, Hs] (New8 5 (qB pass salt rounds size) [G, Hp, Hs]) := by
 have hpl := fun k => JH pass salt rounds k
 have hcl := XY (fun k => qj pass salt rounds (k + 1)) (fun k => hpl _)
 refine eN Tryz.func135 Tryz.ntmps135 Tryz.results135 fun F => ?_
 refine gg ?_
 rw [decide_eq_false (show ¬ (rounds : Int) < 1 by omega)]
 refine gg ?_
 rw [decide_eq_false (show ¬ (64 : Int) < rounds by omega)]
 refine gg ?_
 rw [decide_eq_false (show ¬ (size : Int) < 1 by omega)]
 refine gg ?_
 rw [decide_eq_false (show ¬ (128 : Int) < size by omega)]
 refine gg ?_
 refine zE ?_
 refine zB (fun q D L S => ∃ (k : Nat) (O : Chunk) (oa : Option Addr) (oc : Nat), 32 * k < size + 32 /\ Own8 5 O oa (cat (fun k => qj pass salt rounds (k + 1)) k).length oc (cat (fun k => qj pass salt rounds (k + 1)) k) /\ q = size + 32 - 32 * k /\ D = [] /\
  L = [(9, .slice oa (cat (fun k => qj pass salt rounds (k + 1)) k).length oc), (10, .int .u64 (k + 1 : Nat)), (0, .slice pa pass.length pcap), (1, .slice sa salt.length scap), (2, .int .i64 rounds), (3, .int .i64 size)] /\ S = [O, F, G, Hp, Hs])
  ⟨0, [], none, 0, by omega, own_nil, rfl, rfl, rfl, rfl⟩ ?_
 rintro q D L S ⟨k, O, oa, oc, hk, ho, rfl, rfl, rfl, rfl⟩
 have hck := hcl k
 refine gg ?_
 refine if_d (fun hc => ?_) (fun hc => ?_)
 ·refine gg ?_
  refine cA (qr Hs sa scap salt (by omega) hs3) ?_; rintro v A ⟨C1, a1, c1, rfl, ho1, rfl⟩; (try simp only [List.nil_append, List.cons_append])
  refine gg ?_
  refine cA (xU (k + 1) 4 (by omega) (by decide)) ?_; rintro v A ⟨C2, a2, c2, rfl, ho2, rfl⟩; (try simp only [List.nil_append, List.cons_append])
  have hbl : (be 4 (k + 1)).length = 4 := xZ _ _
  rw [hbl] at ho2 ⊢
  refine gg ?_
  refine ze fun K hK => ?_; refine app8 (ho1) pkA (ho2.rd mmA) (by omega) (fun C3 a3 cap3 ho3 => ?_); refine hK _ _ ?_; clear hK K
  have e3 : salt.length + 4 = (salt ++ be 4 (k + 1)).length := by rw [List.length_append, hbl]
  rw [e3] at ho3 ⊢
  refine gg ?_
  refine cA (kn hg Hp C3 pa a3 pcap _ pass (salt ++ be 4 (k + 1)) (by omega) hp2 hp3 (by rw [List.length_append, hbl]; omega) (ho3.rd (by simp))) ?_; rintro v A ⟨D1, da, dc, rfl, hd1, rfl⟩; (try simp only [List.nil_append, List.cons_append])
  rw [vE] at hd1 ⊢
  generalize hu0 : mac pass (salt ++ be 4 (k + 1)) = u0 at *
  have hpc : qj pass salt rounds (k + 1) = strT pass u0 u0 (rounds - 1) := by unfold qj; rw [hu0]
  have hul : u0.length = 32 := by rw [<- hu0]; exact vE _ _
  refine gg ?_
  refine zE ?_
  refine zB (fun q D L S => ∃ (i : Nat) (X U T : Chunk) (u t : List UInt8) (ua ta : Option Addr) (uc tc : Nat), 1 <= i /\ i <= rounds /\ u.length = 32 /\ t.length = 32 /\ Own8 5 U ua 32 uc u /\ T ∈ [U, X] /\ 32 <= tc /\ Rd 1 [T] ta 32 (t.map b8) /\
    qj pass salt rounds (k + 1) = strT pass u t (rounds - i) /\ q = rounds - i /\ D = [] /\
   L = [(13, .int .i64 i), (11, .slice ua 32 uc), (12, .slice ta 32 tc), (9, .slice oa (cat (fun k => qj pass salt rounds (k + 1)) k).length oc), (10, .int .u64 (k + 1 : Nat)), (0, .slice pa pass.length pcap), (1, .slice sa salt.length scap), (2, .int .i64 rounds), (3, .int .i64 size)] /\
   S = [U, X, O, F, G, Hp, Hs])
   ⟨1, [], D1, D1, u0, u0, da, da, dc, dc, by omega, hr1, hul, hul, hd1, by simp, hd1.1, hd1.rd (by simp), hpc, rfl, rfl, rfl, rfl⟩ ?_
  rintro q D L S ⟨i, X, U, T, u, t, ua, ta, uc, tc, hi1, hi2, hul, htl, hoU, hT, htc, hrt, hpi, rfl, rfl, rfl, rfl⟩
  have hrU := hoU.rd (S := [U]) (by simp)
  have hml : (mac pass u).length = 32 := vE _ _
  have hT' := hT
  simp only [List.mem_cons, List.not_mem_nil, or_false] at hT'
  refine gg ?_
  refine if_d (fun hc => ?_) (fun hc => ?_)
  ·have hmc := kn hg Hp U pa ua pcap uc pass u (by omega) hp2 hp3 (by omega) (by rw [hul]; exact hrU)
   rw [hul] at hmc
   refine gg ?_
   refine cA (hmc) ?_; rintro v A ⟨D2, a2, c2, rfl, ho2, rfl⟩; refine gA ?_
   rw [hml] at ho2 ⊢
   have hxs := Vr T D2 ta a2 tc c2 t (mac pass u) (by omega) (by omega) (by rw [htl]; exact hrt) (by rw [hml]; exact ho2.rd (by simp))
   rw [htl, hml] at hxs
   have hxl : (xorB t (mac pass u)).length = 32 := by rw [vK, htl, hml]; decide
   have hst : strT pass u t (rounds - i) = strT pass (mac pass u) (xorB t (mac pass u)) (rounds - (i + 1)) := by
    rw [show rounds - i = (rounds - (i + 1)) + 1 from by omega]; rfl
   rw [hst] at hpi
   rcases hT' with rfl | rfl
   ·refine cA (hxs) ?_; rintro v A ⟨D6, a6, c6, rfl, ho6, rfl⟩; refine gA ?_
    rw [hxl] at ho6 ⊢
    exact zA ⟨i + 1, D6, D2, D6, mac pass u, xorB t (mac pass u), a2, a6, c2, c6, by omega, by omega, hml, hxl, ho2, by simp, ho6.1, ho6.rd (by simp), hpi, rfl, rfl, rfl, rfl⟩
   ·refine cA (hxs) ?_; rintro v A ⟨D6, a6, c6, rfl, ho6, rfl⟩; refine gA ?_
    rw [hxl] at ho6 ⊢
    exact zA ⟨i + 1, D6, D2, D6, mac pass u, xorB t (mac pass u), a2, a6, c2, c6, by omega, by omega, hml, hxl, ho2, by simp, ho6.1, ho6.rd (by simp), hpi, rfl, rfl, rfl, rfl⟩
  ·obtain rfl : i = rounds := by omega
   rw [Nat.sub_self] at hpi
   have ht : qj pass salt i (k + 1) = t := hpi
   refine gg ?_
   refine ze fun K hK => ?_; refine app8 ho pkA (hrt.mem (by rcases hT' with rfl | rfl <;> simp)) (by omega) (fun C7 a7 cap7 ho7 => ?_); refine hK _ _ ?_; clear hK K
   have e7 : cat (fun k => qj pass salt i (k + 1)) k ++ t = cat (fun k => qj pass salt i (k + 1)) (k + 1) := by rw [cat, ht]
   have e8 : (cat (fun k => qj pass salt i (k + 1)) k).length + 32 = (cat (fun k => qj pass salt i (k + 1)) (k + 1)).length := by rw [<- e7, List.length_append, htl]
   rw [e7, e8] at ho7
   rw [e8]
   refine gg ?_
   exact zA ⟨k + 1, C7, a7, cap7, by omega, ho7, rfl, rfl, rfl, rfl⟩
 ·have hoc := ho.1
  have hmc := WM (fun k => qj pass salt rounds (k + 1)) (fun k => hpl _) size k (by omega) (by omega) hz1
  have hcut := WB ho (l := 0) (h' := size) (m := oc) (by omega) (by omega) (by omega) (Nat.le_refl _)
  rw [List.drop_zero, Nat.sub_zero, Nat.sub_zero, hmc] at hcut
  have es : (qB pass salt rounds size).length = size := by unfold qB; rw [List.length_take, XY _ (fun k => hpl _)]; unfold many; omega
  refine gg ?_
  refine zb [O, G, Hp, Hs] ?_
  exact ⟨O, _, oc, by rw [es], by rw [es]; exact hcut, rfl⟩
structure TD where
 t : Tm
 ka : Option Addr
 kc : Nat
 xa : Option Addr
 xc : Nat
def TD.vs (d : TD) : List Value := tmV d.t d.ka d.kc d.xa d.xc
def TD.ok (B : Chunk) (d : TD) : Prop := Rd 1 [B] d.ka d.t.key.length (d.t.key.map b8) /\ Rd 1 [B] d.xa d.t.txt.length (d.t.txt.map b8)
abbrev rbB (b : Nat) (sym : Bool) (la : Option Addr) (n lc : Nat) : Chunk := [(b, .cells #[.bool sym, .slice la n lc, .bool false] 92 (0, 0))]
theorem vs_len (d : TD) : d.vs.length = 6 := rfl
theorem QK (d : TD) : ∀ v ∈ d.vs, Value.cell1 v := by
 intro v hv
 simp only [TD.vs, tmV, List.mem_cons, List.not_mem_nil, or_false] at hv
 rcases hv with rfl | rfl | rfl | rfl | rfl | rfl <;> simp [Value.cell1]
theorem yQ (ds : List TD) : ∀ v ∈ ds.flatMap TD.vs, Value.cell1 v := by
 intro v hv
 obtain ⟨d, _, h⟩ := List.mem_flatMap.1 hv
 exact QK d v h
instance tpRTm : TPlaces Tryz.prog 258 [(0, 1), (1, 1), (2, 1), (3, 1), (4, 1), (5, 1)] := ⟨by kernel_rfl⟩
theorem Jf {t : Tm} : ∀ (l : List Tm) (k i : Nat), (∀ j, j < i -> ∀ u, l[j]? = some u -> u ≠ t) -> l[i]? = some t -> tix t l k = some (k + i)
 | [], _, i, _, h => by simp at h
 | u :: l, k, 0, _, h => by
  rw [List.getElem?_cons_zero, Option.some.injEq] at h
  unfold tix
  rw [if_pos h]; rfl
 | u :: l, k, i + 1, hn, h => by
  have h0 := hn 0 (by omega) u rfl
  unfold tix
  rw [if_neg h0, Jf l (k + 1) i (fun j hj v hv => hn (j + 1) (by omega) v (by rw [List.getElem?_cons_succ]; exact hv)) (by rw [List.getElem?_cons_succ] at h; exact h)]
  congr 1; omega
theorem UW {t : Tm} : ∀ (l : List Tm) (k : Nat), (∀ u ∈ l, u ≠ t) -> tix t l k = none
 | [], _, _ => rfl
 | u :: l, k, h => by
  unfold tix
  rw [if_neg (h u (List.mem_cons_self ..))]
  exact UW l (k + 1) fun v hv => h v (List.mem_cons_of_mem _ hv)
theorem Jt (t : Tm) {H : Chunk} {ka xa : Option Addr} {kc xc : Nat} (hk : Rd 1 [H] ka t.key.length (t.key.map b8)) (hx : Rd 1 [H] xa t.txt.length (t.txt.map b8))
  (b : Nat) (sym : Bool) (ds : List TD) (hts : ds.length <= 1000) {la : Option Addr} {lc : Nat} {CL B : Chunk} (hL : Ost.Own 6 258 CL la ds.length lc (ds.flatMap TD.vs)) (hB : ∀ d ∈ ds, d.ok B) :
  Meets Tryz.prog 134 [.pointer (some ⟨b, 0, none⟩), .agg (tmV t ka kc xa xc).toArray] [rbB b sym la ds.length lc, CL, B, H]
  fun v A => ∃ (O : Chunk) (oa : Option Addr) (oc : Nat) (la' : Option Addr) (lc' : Nat) (CL' : Chunk) (ds' : List TD), v = .slice oa (tagX ⟨sym, ds.map TD.t⟩ t).1.length oc /\ Own8 5 O oa (tagX ⟨sym, ds.map TD.t⟩ t).1.length oc (tagX ⟨sym, ds.map TD.t⟩ t).1 /\
   ds'.map TD.t = (tagX ⟨sym, ds.map TD.t⟩ t).2.ts /\ Ost.Own 6 258 CL' la' ds'.length lc' (ds'.flatMap TD.vs) /\ (∀ d ∈ ds', d.ok (B ++ H)) /\ A = [O, rbB b sym la' ds'.length lc', CL', B, H] := by
 have hs := vs_len
 refine eN Tryz.func134 Tryz.ntmps134 Tryz.results134 fun F => ?_
 refine gg ?_
 refine oB fun b3 => ?_
 refine gg ?_
 have hcv : ∀ v ∈ tmV t ka kc xa xc, Value.cell1 v := QK ⟨t, ka, kc, xa, xc⟩
 refine zB (fun q D L S => ∃ i : Nat, i <= ds.length /\ (∀ j, j < i -> ∀ u, (ds.map TD.t)[j]? = some u -> u ≠ t) /\ q = ds.length - i /\ D = [] /\
  L = [(12, .int .i64 i), (11, .int .i64 ds.length), (10, .slice la ds.length lc), (3, .pointer (some ⟨b3, 0, none⟩)), (0, .pointer (some ⟨b, 0, none⟩))] /\
  S = [[(b3, .cells (tmV t ka kc xa xc).toArray 258 (0, 0))], F, rbB b sym la ds.length lc, CL, B, H])
  ⟨0, by omega, (fun j hj => absurd hj (by omega)), rfl, rfl, rfl, rfl⟩ ?_
 rintro q D L S ⟨i, hi, hno, rfl, rfl, rfl, rfl⟩
 refine gg ?_
 refine if_d (fun hc => ?_) (fun hc => ?_)
 ·have hil : i < ds.length := by omega
  have hx0 : ds[i]? = some ds[i] := List.getElem?_eq_getElem hil
  have hd := hB _ (List.getElem_mem hil)
  have hxt : (ds.map TD.t)[i]? = some ds[i].t := by rw [List.getElem?_map, hx0]; rfl
  generalize ds[i] = d at *
  refine gg ?_
  refine ze fun K hK => ?_; refine xe hL hs hx0 (by decide) mmA ?_; refine hK _ _ ?_; clear hK K
  refine oA ([.int .i64 0, .slice none 0 0, .slice none 0 0, .int .i64 0, .slice none 0 0, .slice none 0 0] : List Value).toArray fun b6 => ?_
  refine gg ?_
  refine oS d.vs rfl (QK d) ?_
  refine gg ?_
  refine oL d.vs rfl ?_
  refine gg ?_
  refine oL (tmV t ka kc xa xc) rfl ?_
  refine gg ?_
  refine cA (QS d.t t hd.1 hd.2 hk hx) ?_; rintro v A ⟨rfl, rfl⟩; refine gA ?_
  by_cases he : d.t = t
  ·rw [decide_eq_true he]
   refine gg ?_
   refine cA (qv (i + 1) (by omega)) ?_; rintro v A ⟨O, oa, oc, rfl, hO, rfl⟩; refine gA ?_
   have htag : tagX ⟨sym, ds.map TD.t⟩ t = (hdl (i + 1), ⟨sym, ds.map TD.t⟩) := by
    unfold tagX
    rw [Jf (ds.map TD.t) 0 i hno (by rw [hxt, he]), Nat.zero_add]
   rw [htag]
   refine zb [O, rbB b sym la ds.length lc, CL, B, H] ?_
   exact ⟨O, oa, oc, la, lc, CL, ds, rfl, hO, rfl, hL, fun d hd => ⟨rd_l (hB d hd).1, rd_l (hB d hd).2⟩, rfl⟩
  ·rw [decide_eq_false he]
   refine gg ?_
   refine zA ⟨i + 1, by omega, fun j hj u hu => ?_, rfl, rfl, rfl, rfl⟩
   by_cases hji : j = i
   ·subst hji
    rw [hxt, Option.some.injEq] at hu
    rw [<- hu]; exact he
   ·exact hno j (by omega) u hu
 ·obtain rfl : i = ds.length := by omega
  have hnone : tix t (ds.map TD.t) 0 = none := UW _ 0 fun u hu => by
   obtain ⟨j, hj, rfl⟩ := List.mem_iff_getElem.1 hu
   rw [List.length_map] at hj
   exact hno j hj _ (List.getElem?_eq_getElem (by rw [List.length_map]; exact hj))
  have htag : tagX ⟨sym, ds.map TD.t⟩ t = (hdl ((ds.map TD.t).length + 1), ⟨sym, ds.map TD.t ++ [t]⟩) := by
   unfold tagX
   rw [hnone]
  rw [List.length_map] at htag
  rw [htag]
  refine gg ?_
  rw [decide_eq_false (show ¬ (4096 : Int) <= ds.length by omega)]
  refine gg ?_
  refine vW 1 6 8 [[], [], [], [2], [2, 3], [2, 3, 4], [1, 2, 3, 4, 5], [], [1, 2, 3, 4, 5, 6, 7], [1, 2, 3, 4, 5, 6, 7, 8], [0, 1, 2, 3, 4, 5, 6, 7, 8, 9], [0, 1, 2, 3, 4, 5, 6, 7, 8, 9, 10], [0, 1, 2, 3, 4, 5, 6, 7, 8, 9, 10, 11]] [(0, false, []), (2, false, []), (3, false, []), (4, false, []), (5, false, []), (7, false, []), (1, true, [5, 7]), (6, true, [7]), (8, true, []), (9, true, []), (10, false, []), (11, false, []), (12, true, [])] [[], [], [], [2], [2, 3], [2, 3, 4], [1, 2, 3, 4, 5, 7, 8], [], [1, 7], [1, 2, 3, 4, 5, 6, 7, 8], [0, 1, 2, 3, 4, 5, 6, 7, 8, 9], [0, 1, 2, 3, 4, 5, 6, 7, 8, 9, 10], [0, 1, 2, 3, 4, 5, 6, 7, 8, 9, 10, 11]] [(0, false, []), (2, false, []), (3, false, []), (4, false, []), (5, false, []), (7, false, []), (1, true, [5, 7]), (8, true, [5]), (6, true, []), (9, true, []), (10, false, []), (11, false, []), (12, true, [])] [[], [7, 8], [], [2], [2, 3], [2, 3, 4], [1, 2, 3, 4, 5, 7, 8], [], [7], [1, 2, 3, 4, 5, 6, 7, 8], [0, 1, 2, 3, 4, 5, 6, 7, 8, 9], [0, 1, 2, 3, 4, 5, 6, 7, 8, 9, 10], [0, 1, 2, 3, 4, 5, 6, 7, 8, 9, 10, 11]] [(0, false, []), (2, false, []), (3, false, []), (4, false, []), (5, false, []), (7, false, []), (8, true, [5]), (1, true, [5]), (6, true, []), (9, true, []), (10, false, []), (11, false, []), (12, true, [])] ?_ ?_ ?_
  ·refine gg ?_
   refine qO fun K hK => ?_; refine zm (vs := tmV t ka kc xa xc) lkA rfl ?_; refine hK _ _ ?_; clear hK K
   refine gg ?_
   refine zh fun K hK => ?_; refine jv fun b0 C0 ho0 => ?_; refine pend ?_; refine pend ?_ (zm (vs := tmV t ka kc xa xc) lkA rfl rfl); refine hK _ _ ?_; clear hK K
   refine gg ?_
   refine zh fun K hK => ?_; refine zu (e := 258) (s := 6) (hs := inferInstance) (by rfl) (by decide) ho0 (.inr pkA) (hL.rd mmA) (yQ ds) (by simp only [maxLen]; omega) (by omega) (fun C2 a2 c2 ho2 => ?_); refine pend ?_ (zm (vs := tmV t ka kc xa xc) lkA rfl rfl); refine hK _ _ ?_; clear hK K
   refine gg ?_
   (try rw [List.nil_append, Nat.zero_add] at ho2)
   (try rw [Nat.zero_add])
   refine zh fun K hK => ?_; refine xd (e := 258) (s := 6) (hs := inferInstance) (vs := tmV t ka kc xa xc) (by rfl) (by decide) (by decide) rfl (fun b1 C1 ho1 => ?_); refine hK _ _ ?_; clear hK K
   refine gg ?_
   refine zh fun K hK => ?_; refine zu (e := 258) (s := 6) (hs := inferInstance) (by rfl) (by decide) ho2 (.inr pkA) (ho1.rd mmA) hcv (by simp only [maxLen]; omega) (by omega) (fun C3 a3 c3 ho3 => ?_); refine hK _ _ ?_; clear hK K
   refine gg ?_
   refine gM ?_
   refine cA (qv (ds.length + 1) (by omega)) ?_; rintro v A ⟨O, oa, oc, rfl, hO, rfl⟩; refine gA ?_
   have hl1 : ds.length + 1 = (ds ++ [(⟨t, ka, kc, xa, xc⟩ : TD)]).length := by simp
   have e2 : ds.flatMap TD.vs ++ tmV t ka kc xa xc = (ds ++ [(⟨t, ka, kc, xa, xc⟩ : TD)]).flatMap TD.vs := by rw [List.flatMap_append]; congr 1
   rw [hl1, e2] at ho3
   refine zb [O, rbB b sym a3 (ds.length + 1) c3, C3, B, H] ?_
   refine ⟨O, oa, oc, a3, c3, C3, ds ++ [(⟨t, ka, kc, xa, xc⟩ : TD)], rfl, hO, by simp, ho3, fun d hd => ?_, by rw [hl1]⟩
   rcases List.mem_append.1 hd with hd | hd
   ·exact ⟨rd_l (hB d hd).1, rd_l (hB d hd).2⟩
   ·rw [List.mem_singleton] at hd; subst hd; exact ⟨rd_r hk, rd_r hx⟩
  ·refine gg ?_
   refine qO fun K hK => ?_; refine zm (vs := tmV t ka kc xa xc) lkA rfl ?_; refine hK _ _ ?_; clear hK K
   refine gg ?_
   refine zh fun K hK => ?_; refine jv fun b0 C0 ho0 => ?_; refine pend ?_; refine pend ?_ (zm (vs := tmV t ka kc xa xc) lkA rfl rfl); refine hK _ _ ?_; clear hK K
   refine gg ?_
   refine zh fun K hK => ?_; refine xd (e := 258) (s := 6) (hs := inferInstance) (vs := tmV t ka kc xa xc) (by rfl) (by decide) (by decide) rfl (fun b1 C1 ho1 => ?_); refine pend ?_; refine hK _ _ ?_; clear hK K
   refine gg ?_
   refine zh fun K hK => ?_; refine zu (e := 258) (s := 6) (hs := inferInstance) (by rfl) (by decide) ho0 (.inr pkA) (hL.rd mmA) (yQ ds) (by simp only [maxLen]; omega) (by omega) (fun C2 a2 c2 ho2 => ?_); refine hK _ _ ?_; clear hK K
   refine gg ?_
   (try rw [List.nil_append, Nat.zero_add] at ho2)
   (try rw [Nat.zero_add])
   refine zh fun K hK => ?_; refine zu (e := 258) (s := 6) (hs := inferInstance) (by rfl) (by decide) ho2 (.inr pkA) (ho1.rd mmA) hcv (by simp only [maxLen]; omega) (by omega) (fun C3 a3 c3 ho3 => ?_); refine hK _ _ ?_; clear hK K
   refine gg ?_
   refine gM ?_
   refine cA (qv (ds.length + 1) (by omega)) ?_; rintro v A ⟨O, oa, oc, rfl, hO, rfl⟩; refine gA ?_
   have hl1 : ds.length + 1 = (ds ++ [(⟨t, ka, kc, xa, xc⟩ : TD)]).length := by simp
   have e2 : ds.flatMap TD.vs ++ tmV t ka kc xa xc = (ds ++ [(⟨t, ka, kc, xa, xc⟩ : TD)]).flatMap TD.vs := by rw [List.flatMap_append]; congr 1
   rw [hl1, e2] at ho3
   refine zb [O, rbB b sym a3 (ds.length + 1) c3, C3, B, H] ?_
   refine ⟨O, oa, oc, a3, c3, C3, ds ++ [(⟨t, ka, kc, xa, xc⟩ : TD)], rfl, hO, by simp, ho3, fun d hd => ?_, by rw [hl1]⟩
   rcases List.mem_append.1 hd with hd | hd
   ·exact ⟨rd_l (hB d hd).1, rd_l (hB d hd).2⟩
   ·rw [List.mem_singleton] at hd; subst hd; exact ⟨rd_r hk, rd_r hx⟩
  ·refine gg ?_
   refine qO fun K hK => ?_; refine zm (vs := tmV t ka kc xa xc) lkA rfl ?_; refine hK _ _ ?_; clear hK K
   refine gg ?_
   refine zh fun K hK => ?_; refine xd (e := 258) (s := 6) (hs := inferInstance) (vs := tmV t ka kc xa xc) (by rfl) (by decide) (by decide) rfl (fun b1 C1 ho1 => ?_); refine pend ?_; refine hK _ _ ?_; clear hK K
   refine gg ?_
   refine zh fun K hK => ?_; refine jv fun b0 C0 ho0 => ?_; refine pend ?_; refine hK _ _ ?_; clear hK K
   refine gg ?_
   refine zh fun K hK => ?_; refine zu (e := 258) (s := 6) (hs := inferInstance) (by rfl) (by decide) ho0 (.inr pkA) (hL.rd mmA) (yQ ds) (by simp only [maxLen]; omega) (by omega) (fun C2 a2 c2 ho2 => ?_); refine hK _ _ ?_; clear hK K
   refine gg ?_
   (try rw [List.nil_append, Nat.zero_add] at ho2)
   (try rw [Nat.zero_add])
   refine zh fun K hK => ?_; refine zu (e := 258) (s := 6) (hs := inferInstance) (by rfl) (by decide) ho2 (.inr pkA) (ho1.rd mmA) hcv (by simp only [maxLen]; omega) (by omega) (fun C3 a3 c3 ho3 => ?_); refine hK _ _ ?_; clear hK K
   refine gg ?_
   refine gM ?_
   refine cA (qv (ds.length + 1) (by omega)) ?_; rintro v A ⟨O, oa, oc, rfl, hO, rfl⟩; refine gA ?_
   have hl1 : ds.length + 1 = (ds ++ [(⟨t, ka, kc, xa, xc⟩ : TD)]).length := by simp
   have e2 : ds.flatMap TD.vs ++ tmV t ka kc xa xc = (ds ++ [(⟨t, ka, kc, xa, xc⟩ : TD)]).flatMap TD.vs := by rw [List.flatMap_append]; congr 1
   rw [hl1, e2] at ho3
   refine zb [O, rbB b sym a3 (ds.length + 1) c3, C3, B, H] ?_
   refine ⟨O, oa, oc, a3, c3, C3, ds ++ [(⟨t, ka, kc, xa, xc⟩ : TD)], rfl, hO, by simp, ho3, fun d hd => ?_, by rw [hl1]⟩
   rcases List.mem_append.1 hd with hd | hd
   ·exact ⟨rd_l (hB d hd).1, rd_l (hB d hd).2⟩
   ·rw [List.mem_singleton] at hd; subst hd; exact ⟨rd_r hk, rd_r hx⟩
theorem Wo (t : Tm) {H J : Chunk} {ka xa : Option Addr} {kc xc : Nat} (hk : Rd 1 [H] ka t.key.length (t.key.map b8)) (hx : Rd 1 [J] xa t.txt.length (t.txt.map b8))
  (b : Nat) (sym : Bool) (ds : List TD) (hts : ds.length <= 1000) {la : Option Addr} {lc : Nat} {CL B : Chunk} (hL : Ost.Own 6 258 CL la ds.length lc (ds.flatMap TD.vs)) (hB : ∀ d ∈ ds, d.ok B) :
  Meets Tryz.prog 134 [.pointer (some ⟨b, 0, none⟩), .agg (tmV t ka kc xa xc).toArray] [rbB b sym la ds.length lc, CL, B, H, J]
  fun v A => ∃ (O : Chunk) (oa : Option Addr) (oc : Nat) (la' : Option Addr) (lc' : Nat) (CL' : Chunk) (ds' : List TD), v = .slice oa (tagX ⟨sym, ds.map TD.t⟩ t).1.length oc /\ Own8 5 O oa (tagX ⟨sym, ds.map TD.t⟩ t).1.length oc (tagX ⟨sym, ds.map TD.t⟩ t).1 /\
   ds'.map TD.t = (tagX ⟨sym, ds.map TD.t⟩ t).2.ts /\ Ost.Own 6 258 CL' la' ds'.length lc' (ds'.flatMap TD.vs) /\ (∀ d ∈ ds', d.ok (B ++ (H ++ J))) /\ A = [O, rbB b sym la' ds'.length lc', CL', B, H, J] :=
 (Jt t (H := H ++ J) (rd_l hk) (rd_r hx) b sym ds hts hL hB).perm (by simp) (fun v A' ⟨O, oa, oc, la', lc', CL', ds', hv, hO, hm, hL', hB', hA⟩ =>
  ⟨[O, rbB b sym la' ds'.length lc', CL', B, H, J], by rw [hA]; simp, O, oa, oc, la', lc', CL', ds', hv, hO, hm, hL', hB', rfl⟩)
def RBox (C : Chunk) (b : Nat) (x : BX) : Prop := ∃ (la : Option Addr) (lc : Nat) (CL B : Chunk) (ds : List TD), ds.map TD.t = x.ts /\ C = rbB b x.sym la ds.length lc ++ (CL ++ B) /\ Ost.Own 6 258 CL la ds.length lc (ds.flatMap TD.vs) /\ ∀ d ∈ ds, d.ok B
def ROut (b : Nat) (y : List UInt8 × BX) (R : State) (v : Value) (A : State) : Prop := ∃ (O C' : Chunk) (oa : Option Addr) (oc : Nat), v = .slice oa y.1.length oc /\ Own8 5 O oa y.1.length oc y.1 /\ RBox C' b y.2 /\ A = O :: C' :: R
theorem qI {G : Chunk} (hg : Globs3 G) {H : Chunk} {ma : Option Addr} {mc : Nat} {m : List UInt8} (hml : m.length <= 100000) (hm : Rd 1 [H] ma m.length (m.map b8)) {C : Chunk} {b : Nat} {x : BX} (hC : RBox C b x) (hts : x.ts.length <= 1000) :
  Meets Tryz.prog 87 [.pointer (some ⟨b, 0, none⟩), .slice ma m.length mc] [C, G, H] (ROut b (xx x m) [G, H]) := by
 obtain ⟨la, lc, CL, B, ds, hds, rfl, hL, hB⟩ := hC
 obtain ⟨sym, ts⟩ := x
 simp only at hds hts
 subst hds
 rw [List.length_map] at hts
 have k : Meets Tryz.prog 87 [.pointer (some ⟨b, 0, none⟩), .slice ma m.length mc] [rbB b sym la ds.length lc, CL, B, G, H]
   fun v A => ∃ (O J : Chunk) (oa : Option Addr) (oc : Nat) (la' : Option Addr) (lc' : Nat) (CL' : Chunk) (ds' : List TD), v = .slice oa (xx ⟨sym, ds.map TD.t⟩ m).1.length oc /\ Own8 5 O oa (xx ⟨sym, ds.map TD.t⟩ m).1.length oc (xx ⟨sym, ds.map TD.t⟩ m).1 /\
    ds'.map TD.t = (xx ⟨sym, ds.map TD.t⟩ m).2.ts /\ Ost.Own 6 258 CL' la' ds'.length lc' (ds'.flatMap TD.vs) /\ (∀ d ∈ ds', d.ok (B ++ J)) /\ A = [O, rbB b sym la' ds'.length lc', CL', B, J, G, H] := by
  unfold xx
  refine eN Tryz.func87 Tryz.ntmps87 Tryz.results87 fun F => ?_
  refine zE ?_
  refine gg ?_
  cases sym with
  | true =>
   rw [if_pos rfl]
   refine gg ?_
   refine cA (qr H ma mc m (by omega) hm) ?_; rintro v A ⟨J, ja, jc, rfl, hJ, rfl⟩; refine gA ?_
   refine oT [(0, .int .i64 1), (2, .slice ja m.length jc)] (tmV ⟨1, [], m, 0⟩ none 0 ja jc).toArray ?_
   refine gg ?_
   refine cA (Jt (ka := none) (kc := 0) ⟨1, [], m, 0⟩ Rd.nil (hJ.rd (List.mem_cons_self ..)) b true ds hts hL hB) ?_; rintro v A ⟨O, oa, oc, la', lc', CL', ds', rfl, hO, hm', hL', hB', rfl⟩; refine gA ?_
   refine zb [O, rbB b true la' ds'.length lc', CL', B, J, G, H] ?_
   exact ⟨O, J, oa, oc, la', lc', CL', ds', rfl, hO, hm', hL', hB', rfl⟩
  | false =>
   rw [if_neg (by simp)]
   refine gg ?_
   refine cA (refS hg H ma mc m (by omega) hm) ?_; rintro v A ⟨O, oa, oc, rfl, hO, rfl⟩; refine gA ?_
   refine zb [O, rbB b false la ds.length lc, CL, B, [], G, H] ?_
   exact ⟨O, [], oa, oc, la, lc, CL, ds, rfl, hO, rfl, hL, fun d hd => ⟨rd_l (hB d hd).1, rd_l (hB d hd).2⟩, rfl⟩
 refine Meets.conv [rbB b sym la ds.length lc, CL, B, G, H] (k) flA tkA ?_; rintro v A ⟨O, J, oa, oc, la', lc', CL', ds', rfl, hO, hm', hL', hB', rfl⟩
 exact ⟨[O, rbB b sym la' ds'.length lc' ++ (CL' ++ (B ++ J)), G, H], [O, rbB b sym la' ds'.length lc', CL', B, J, G, H], flA, amA, O, _, oa, oc, rfl, hO, ⟨la', lc', CL', B ++ J, ds', hm', by rw [(xK ⟨sym, ds.map TD.t⟩ m).2], hL', hB'⟩, rfl⟩
theorem Jv {G : Chunk} (hg : Globs3 G) {Kc H : Chunk} {ka ma : Option Addr} {kc mc : Nat} {key m : List UInt8} (hkl : key.length <= 100000) (hk0 : key.length <= kc) (hk : Rd 1 [Kc] ka key.length (key.map b8)) (hml : m.length <= 100000) (hm : Rd 1 [H] ma m.length (m.map b8)) {C : Chunk} {b : Nat} {x : BX} (hC : RBox C b x) (hts : x.ts.length <= 1000) :
  Meets Tryz.prog 85 [.pointer (some ⟨b, 0, none⟩), .slice ka key.length kc, .slice ma m.length mc] [C, G, Kc, H] (ROut b (macX x key m) [G, Kc, H]) := by
 obtain ⟨la, lc, CL, B, ds, hds, rfl, hL, hB⟩ := hC
 obtain ⟨sym, ts⟩ := x
 simp only at hds hts
 subst hds
 rw [List.length_map] at hts
 have k : Meets Tryz.prog 85 [.pointer (some ⟨b, 0, none⟩), .slice ka key.length kc, .slice ma m.length mc] [rbB b sym la ds.length lc, CL, B, G, Kc, H]
   fun v A => ∃ (O J J2 : Chunk) (oa : Option Addr) (oc : Nat) (la' : Option Addr) (lc' : Nat) (CL' : Chunk) (ds' : List TD), v = .slice oa (macX ⟨sym, ds.map TD.t⟩ key m).1.length oc /\ Own8 5 O oa (macX ⟨sym, ds.map TD.t⟩ key m).1.length oc (macX ⟨sym, ds.map TD.t⟩ key m).1 /\
    ds'.map TD.t = (macX ⟨sym, ds.map TD.t⟩ key m).2.ts /\ Ost.Own 6 258 CL' la' ds'.length lc' (ds'.flatMap TD.vs) /\ (∀ d ∈ ds', d.ok (B ++ (J ++ J2))) /\ A = [O, rbB b sym la' ds'.length lc', CL', B, J, J2, G, Kc, H] := by
  unfold macX
  refine eN Tryz.func85 Tryz.ntmps85 Tryz.results85 fun F => ?_
  refine zE ?_
  refine zE ?_
  refine gg ?_
  cases sym with
  | true =>
   rw [if_pos rfl]
   refine gg ?_
   refine cA (qr Kc ka kc key (by omega) hk) ?_; rintro v A ⟨J, ja, jc, rfl, hJ, rfl⟩; refine gA ?_
   refine cA (qr H ma mc m (by omega) hm) ?_; rintro v A ⟨J2, ia, ic, rfl, hJ2, rfl⟩; refine gA ?_
   refine oT [(0, .int .i64 2), (1, .slice ja key.length jc), (2, .slice ia m.length ic)] (tmV ⟨2, key, m, 0⟩ ja jc ia ic).toArray ?_
   refine gg ?_
   refine cA (Wo ⟨2, key, m, 0⟩ (hJ.rd (List.mem_cons_self ..)) (hJ2.rd (List.mem_cons_self ..)) b true ds hts hL hB) ?_; rintro v A ⟨O, oa, oc, la', lc', CL', ds', rfl, hO, hm', hL', hB', rfl⟩; refine gA ?_
   refine zb [O, rbB b true la' ds'.length lc', CL', B, J, J2, G, Kc, H] ?_
   exact ⟨O, J, J2, oa, oc, la', lc', CL', ds', rfl, hO, hm', hL', hB', rfl⟩
  | false =>
   rw [if_neg (by simp)]
   refine gg ?_
   refine cA (kn hg Kc H ka ma kc mc key m hkl hk0 hk hml hm) ?_; rintro v A ⟨O, oa, oc, rfl, hO, rfl⟩; refine gA ?_
   refine zb [O, rbB b false la ds.length lc, CL, B, [], [], G, Kc, H] ?_
   exact ⟨O, [], [], oa, oc, la, lc, CL, ds, rfl, hO, rfl, hL, fun d hd => ⟨rd_l (hB d hd).1, rd_l (hB d hd).2⟩, rfl⟩
 refine Meets.conv [rbB b sym la ds.length lc, CL, B, G, Kc, H] (k) flA tkA ?_; rintro v A ⟨O, J, J2, oa, oc, la', lc', CL', ds', rfl, hO, hm', hL', hB', rfl⟩
 exact ⟨[O, rbB b sym la' ds'.length lc' ++ (CL' ++ (B ++ (J ++ J2))), G, Kc, H], [O, rbB b sym la' ds'.length lc', CL', B, J, J2, G, Kc, H], flA, amA, O, _, oa, oc, rfl, hO, ⟨la', lc', CL', B ++ (J ++ J2), ds', hm', by rw [(vF ⟨sym, ds.map TD.t⟩ key m).2], hL', hB'⟩, rfl⟩
theorem Ov {G : Chunk} (hg : Globs3 G) {Pc Sc : Chunk} {pa sa : Option Addr} {pc sc : Nat} {pass salt : List UInt8} (hp1 : pass.length <= 10000) (hp2 : pass.length <= pc) (hp3 : Rd 1 [Pc] pa pass.length (pass.map b8)) (hs1 : salt.length <= 10000) (hs2 : salt.length <= sc) (hs3 : Rd 1 [Sc] sa salt.length (salt.map b8)) (rounds : Nat) (hr1 : 1 <= rounds) (hr2 : rounds <= 64) {C : Chunk} {b : Nat} {x : BX} (hC : RBox C b x) (hts : x.ts.length <= 1000) :
  Meets Tryz.prog 84 [.pointer (some ⟨b, 0, none⟩), .slice pa pass.length pc, .slice sa salt.length sc, .int .i64 rounds] [C, G, Pc, Sc] (ROut b (strX x pass salt rounds) [G, Pc, Sc]) := by
 obtain ⟨la, lc, CL, B, ds, hds, rfl, hL, hB⟩ := hC
 obtain ⟨sym, ts⟩ := x
 simp only at hds hts
 subst hds
 rw [List.length_map] at hts
 have k : Meets Tryz.prog 84 [.pointer (some ⟨b, 0, none⟩), .slice pa pass.length pc, .slice sa salt.length sc, .int .i64 rounds] [rbB b sym la ds.length lc, CL, B, G, Pc, Sc]
   fun v A => ∃ (O J J2 : Chunk) (oa : Option Addr) (oc : Nat) (la' : Option Addr) (lc' : Nat) (CL' : Chunk) (ds' : List TD), v = .slice oa (strX ⟨sym, ds.map TD.t⟩ pass salt rounds).1.length oc /\ Own8 5 O oa (strX ⟨sym, ds.map TD.t⟩ pass salt rounds).1.length oc (strX ⟨sym, ds.map TD.t⟩ pass salt rounds).1 /\
    ds'.map TD.t = (strX ⟨sym, ds.map TD.t⟩ pass salt rounds).2.ts /\ Ost.Own 6 258 CL' la' ds'.length lc' (ds'.flatMap TD.vs) /\ (∀ d ∈ ds', d.ok (B ++ (J ++ J2))) /\ A = [O, rbB b sym la' ds'.length lc', CL', B, J, J2, G, Pc, Sc] := by
  unfold strX
  refine eN Tryz.func84 Tryz.ntmps84 Tryz.results84 fun F => ?_
  refine zE ?_
  refine zE ?_
  refine gg ?_
  rw [decide_eq_false (show ¬ (rounds : Int) < 1 by omega)]
  refine gg ?_
  rw [decide_eq_false (show ¬ (64 : Int) < rounds by omega)]
  refine gg ?_
  cases sym with
  | true =>
   rw [if_pos rfl]
   refine gg ?_
   refine cA (qr Pc pa pc pass (by omega) hp3) ?_; rintro v A ⟨J, ja, jc, rfl, hJ, rfl⟩; refine gA ?_
   refine cA (qr Sc sa sc salt (by omega) hs3) ?_; rintro v A ⟨J2, ia, ic, rfl, hJ2, rfl⟩; refine gA ?_
   refine oT [(0, .int .i64 3), (1, .slice ja pass.length jc), (2, .slice ia salt.length ic), (3, .int .i64 rounds)] (tmV ⟨3, pass, salt, rounds⟩ ja jc ia ic).toArray ?_
   refine gg ?_
   refine cA (Wo ⟨3, pass, salt, rounds⟩ (hJ.rd (List.mem_cons_self ..)) (hJ2.rd (List.mem_cons_self ..)) b true ds hts hL hB) ?_; rintro v A ⟨O, oa, oc, la', lc', CL', ds', rfl, hO, hm', hL', hB', rfl⟩; refine gA ?_
   refine zb [O, rbB b true la' ds'.length lc', CL', B, J, J2, G, Pc, Sc] ?_
   exact ⟨O, J, J2, oa, oc, la', lc', CL', ds', rfl, hO, hm', hL', hB', rfl⟩
  | false =>
   rw [if_neg (by simp)]
   refine gg ?_
   refine cA (Zj hg Pc Sc pa sa pc sc pass salt rounds 32 hr1 hr2 (by decide) (by decide) hp1 hp2 hp3 hs1 hs2 hs3) ?_; rintro v A ⟨O, oa, oc, rfl, hO, rfl⟩; refine gA ?_
   refine zb [O, rbB b false la ds.length lc, CL, B, [], [], G, Pc, Sc] ?_
   exact ⟨O, [], [], oa, oc, la, lc, CL, ds, rfl, hO, rfl, hL, fun d hd => ⟨rd_l (hB d hd).1, rd_l (hB d hd).2⟩, rfl⟩
 refine Meets.conv [rbB b sym la ds.length lc, CL, B, G, Pc, Sc] (k) flA tkA ?_; rintro v A ⟨O, J, J2, oa, oc, la', lc', CL', ds', rfl, hO, hm', hL', hB', rfl⟩
 exact ⟨[O, rbB b sym la' ds'.length lc' ++ (CL' ++ (B ++ (J ++ J2))), G, Pc, Sc], [O, rbB b sym la' ds'.length lc', CL', B, J, J2, G, Pc, Sc], flA, amA, O, _, oa, oc, rfl, hO, ⟨la', lc', CL', B ++ (J ++ J2), ds', hm', by rw [(yl ⟨sym, ds.map TD.t⟩ pass salt rounds).2], hL', hB'⟩, rfl⟩
open Go.Nam
theorem yv (a : Option Addr) (c : Nat) : Meets Tryz.prog 83 [.slice a 1 c, .int .i64 1] [] fun v A => v = .bool true /\ A = [] := by
 refine eN Tryz.func83 Tryz.ntmps83 Tryz.results83 fun F => ?_
 refine gg ?_
 refine zb [] ?_; exact ⟨rfl, rfl⟩
instance tpRSec : TPlaces Tryz.prog 82 [(0, 1), (1, 1), (2, 1), (3, 1), (4, 1)] := ⟨by kernel_rfl⟩
theorem YF {G : Chunk} (hg : Globs3 G) {C S : Chunk} {b : Nat} {x : BX} (hC : RBox C b x) (hts : x.ts.length <= 900) (u p n q : List UInt8) (hu : u.length <= 1000) (hp : p.length <= 1000) (hnl : n.length <= 1000) (hql : q.length <= 1000) (hun : xF u 32 = (n, 0)) (hpq : xF p 64 = (q, 0)) {sa : Option Addr} {sc : Nat} (hsc : 1 <= sc) (hS : Rd 1 [S] sa 1 (([1] : List UInt8).map b8)) :
  Meets Tryz.prog 31 [.pointer (some ⟨b, 0, none⟩), .string (str [116]), .string (str u), .string (str p), .slice sa 1 sc, .int .i64 1] [C, G, S]
  fun v A => ∃ (W0 W1 W2 W3 C' : Chunk) (vs : List Value), v = .tuple #[.agg vs.toArray, .int .i64 0] /\ SecW (W0 ++ (W1 ++ (W2 ++ W3))) vs (jO x n q).1 /\ RBox C' b (jO x n q).2 /\ A = [W0, W1, W2, W3, C', G, S] := by
 have hnm := ve u (by omega) 32 (by decide)
 have hpw := ve p (by omega) 64 (by decide)
 rw [hun] at hnm
 rw [hpq] at hpw
 refine eN Tryz.func31 Tryz.ntmps31 Tryz.results31 fun F => ?_
 refine gg ?_
 refine oA ([.slice none 0 0, .int .i64 0, .slice none 0 0, .slice none 0 0, .slice none 0 0] : List Value).toArray fun b12 => ?_
 refine gg ?_
 refine cA (yx [116] (by decide)) ?_; rintro v A ⟨rfl, rfl⟩; refine gA ?_
 rw [show qK [116] = true from by decide +kernel]
 refine gg ?_
 refine cA (hnm) ?_; rintro v A ⟨rfl, rfl⟩; refine gA ?_
 refine cA (hpw) ?_; rintro v A ⟨rfl, rfl⟩; refine gA ?_
 refine cA (yv sa sc) ?_; rintro v A ⟨rfl, rfl⟩; refine gA ?_
 refine ze fun K hK => ?_; refine zH (by simp only [maxLen]; omega) (fun Q qa qc hQ => ?_); refine hK _ _ ?_; clear hK K
 refine gg ?_
 have kl1 := Wb x q [1] 1
 have kt := yl x q [1] 1
 refine cA (Ov hg (by omega) hQ.1 (hQ.rd (List.mem_cons_self ..)) (by decide) hsc hS 1 (by decide) (by decide) hC (by omega)) ?_; rintro v A ⟨Kk, C1, ka, kc, rfl, hKk, hC1, rfl⟩; refine gA ?_
 unfold jO
 simp only
 generalize strX x q [1] 1 = k at *
 refine ze fun K hK => ?_; refine zR ([67, 108, 105, 101, 110, 116, 32, 75, 101, 121]) (by decide) rfl (rfl) (fun b55 C55 ho55 => ?_); refine hK _ _ ?_; clear hK K
 refine gg ?_
 refine ze fun K hK => ?_; refine wi ho55 pkA (by decide) (fun C56 ho56 => ?_); refine hK _ _ ?_; clear hK K
 refine gg ?_
 have cl1 := wY k.2 k.1 tagC
 have ct := vF k.2 k.1 tagC
 refine cA (Jv hg kl1 hKk.1 (hKk.rd (List.mem_cons_self ..)) (m := tagC) (by decide) (ho56.rd (List.mem_cons_self ..)) hC1 (by omega)) ?_; rintro v A ⟨M, C2, ma, mc, rfl, hM, hC2, rfl⟩; refine gA ?_
 generalize macX k.2 k.1 tagC = c at *
 refine cA (qr S sa sc [1] (by decide) hS) ?_; rintro v A ⟨W0, wa, wc, rfl, hW0, rfl⟩; refine gA ?_
 refine oT [(0, .slice wa ([1] : List UInt8).length wc), (1, .int .i64 1)] ([.slice wa ([1] : List UInt8).length wc, .int .i64 1, .slice none 0 0, .slice none 0 0, .slice none 0 0] : List Value).toArray ?_
 refine gg ?_
 refine oA ([.slice none 0 0, .int .i64 0, .slice none 0 0, .slice none 0 0, .slice none 0 0] : List Value).toArray fun b19 => ?_
 refine gg ?_
 refine ze fun K hK => ?_; refine xz (vs := [.slice wa ([1] : List UInt8).length wc, .int .i64 1, .slice none 0 0, .slice none 0 0, .slice none 0 0]) rfl (by
  intro v hv
  simp only [List.mem_cons, List.not_mem_nil, or_false] at hv
  rcases hv with rfl | rfl | rfl | rfl | rfl <;> simp [Value.cell1]) upA (by rfl) ?_; refine hK _ _ ?_; clear hK K
 refine gg ?_
 have hl1 := ju c.2 c.1
 have ht := xK c.2 c.1
 refine cA (qI hg (by omega) (hM.rd (List.mem_cons_self ..)) hC2 (by omega)) ?_; rintro v A ⟨W1, C3, va, vc, rfl, hW1, hC3, rfl⟩; refine gA ?_
 generalize xx c.2 c.1 = h at *
 refine gM ?_
 refine ze fun K hK => ?_; refine zR ([83, 101, 114, 118, 101, 114, 32, 75, 101, 121]) (by decide) rfl (rfl) (fun b68 C68 ho68 => ?_); refine hK _ _ ?_; clear hK K
 refine gg ?_
 refine ze fun K hK => ?_; refine wi ho68 pkA (by decide) (fun C69 ho69 => ?_); refine hK _ _ ?_; clear hK K
 refine gg ?_
 have sl1 := wY h.2 k.1 tagS
 have st := vF h.2 k.1 tagS
 refine cA (Jv hg kl1 hKk.1 (hKk.rd (List.mem_cons_self ..)) (m := tagS) (by decide) (ho69.rd (List.mem_cons_self ..)) hC3 (by omega)) ?_; rintro v A ⟨W2, C4, ua, uc, rfl, hW2, hC4, rfl⟩; refine gA ?_
 generalize macX h.2 k.1 tagS = s at *
 refine gM ?_
 have s58 : Value.string ⟨#[58]⟩ = .string (str [58]) := rfl
 rw [s58]
 refine ze fun K hK => ?_; rw [zF (by rw [List.length_singleton]; omega)]; refine hK _ _ ?_; clear hK K
 refine gg ?_
 refine ze fun K hK => ?_; rw [zF (by rw [List.length_append, List.length_singleton, List.length_singleton]; omega)]; refine hK _ _ ?_; clear hK K
 refine gg ?_
 (try rw [s58])
 refine ze fun K hK => ?_; rw [zF (by rw [List.length_append, List.length_append, List.length_singleton, List.length_singleton]; omega)]; refine hK _ _ ?_; clear hK K
 refine gg ?_
 refine ze fun K hK => ?_; rw [zF (by rw [List.length_append, List.length_append, List.length_append, List.length_singleton, List.length_singleton]; omega)]; refine hK _ _ ?_; clear hK K
 refine gg ?_
 rw [show n ++ [58] ++ [116] ++ [58] ++ q = xi n [116] q from rfl]
 have hcl : (xi n [116] q).length <= 3000 := by unfold xi; simp only [List.length_append, List.length_singleton]; omega
 refine ze fun K hK => ?_; refine zH (by simp only [maxLen]; omega) (fun X xa xc hX => ?_); refine hK _ _ ?_; clear hK K
 refine gg ?_
 have al1 := ju s.2 (xi n [116] q)
 have at_ := xK s.2 (xi n [116] q)
 refine cA (qI hg (by omega) (hX.rd (List.mem_cons_self ..)) hC4 (by omega)) ?_; rintro v A ⟨W3, C5, ya, yc, rfl, hW3, hC5, rfl⟩; refine gA ?_
 generalize xx s.2 (xi n [116] q) = a at *
 refine gM ?_
 have hvc : ∀ v ∈ ([.slice wa ([1] : List UInt8).length wc, .int .i64 1, .slice va h.1.length vc, .slice ua s.1.length uc, .slice ya a.1.length yc] : List Value), Value.cell1 v := by
  intro v hv
  simp only [List.mem_cons, List.not_mem_nil, or_false] at hv
  rcases hv with rfl | rfl | rfl | rfl | rfl <;> simp [Value.cell1]
 refine oL [.slice wa ([1] : List UInt8).length wc, .int .i64 1, .slice va h.1.length vc, .slice ua s.1.length uc, .slice ya a.1.length yc] rfl ?_
 refine gg ?_
 refine oS [.slice wa ([1] : List UInt8).length wc, .int .i64 1, .slice va h.1.length vc, .slice ua s.1.length uc, .slice ya a.1.length yc] rfl hvc ?_
 refine gg ?_
 refine zf (vs := [.agg ([.slice wa ([1] : List UInt8).length wc, .int .i64 1, .slice va h.1.length vc, .slice ua s.1.length uc, .slice ya a.1.length yc] : List Value).toArray, .int .i64 0]) [W0, W1, W2, W3, C5, G, S] ?_ (hr := by (intro κ hκ; simp only [resW, withV, lookT_hit, lookT_miss, Nat.reduceBEq]; exact zm (vs := [.slice wa ([1] : List UInt8).length wc, .int .i64 1, .slice va h.1.length vc, .slice ua s.1.length uc, .slice ya a.1.length yc]) lkA rfl hκ))
 exact ⟨W0, W1, W2, W3, C5, _, rfl, ⟨wa, va, ua, ya, wc, vc, uc, yc, rfl, ⟨hW0.1, hW1.1, hW2.1, hW3.1⟩, hl1, sl1, al1, rd_l (hW0.rd (List.mem_cons_self ..)), rd_r (rd_l (hW1.rd (List.mem_cons_self ..))), rd_r (rd_r (rd_l (hW2.rd (List.mem_cons_self ..)))), rd_r (rd_r (rd_r (hW3.rd (List.mem_cons_self ..))))⟩, hC5, rfl⟩
theorem YE {G : Chunk} (hg : Globs3 G) {C S : Chunk} {b : Nat} {x : BX} (hC : RBox C b x) (hts : x.ts.length <= 900) (u p n q : List UInt8) (hu : u.length <= 1000) (hp : p.length <= 1000) (hnl : n.length <= 1000) (hql : q.length <= 1000) (hun : xF u 32 = (n, 0)) (hpq : xF p 64 = (q, 0)) {sa : Option Addr} {sc : Nat} (hsc : 1 <= sc) (hS : Rd 1 [S] sa 1 (([1] : List UInt8).map b8)) :
  Meets Tryz.prog 31 [.pointer (some ⟨b, 0, none⟩), .string (str [116]), .string (str u), .string (str p), .slice sa 1 sc, .int .i64 1] [C, G, S]
  fun v A => ∃ (W C' : Chunk) (vs : List Value), v = .tuple #[.agg vs.toArray, .int .i64 0] /\ SecW W vs (jO x n q).1 /\ RBox C' b (jO x n q).2 /\ A = [W, C', G, S] :=
 (YF hg hC hts u p n q hu hp hnl hql hun hpq hsc hS).perm (by simp) (fun v A' ⟨W0, W1, W2, W3, C', vs, hv, hW, hC', hA⟩ => ⟨[W0 ++ (W1 ++ (W2 ++ W3)), C', G, S], by rw [hA]; simp, _, C', vs, hv, hW, hC', rfl⟩)
abbrev stB (s r1 : Nat) (last reads : Int) : Chunk := [(s, .cells #[.map (some r1), .int .u64 last, .int .u64 reads] 158 (0, 0))]
abbrev credV (n : List UInt8) (vs : List Value) (gen : Int) (rev : Bool) : List Value := .string (str [116]) :: .string (str n) :: (vs ++ [.int .u64 gen, .slice none 0 0, .bool rev])
abbrev crB (p : Nat) (n : List UInt8) (vs : List Value) (gen : Int) (rev : Bool) : Chunk := [(p, .cells (credV n vs gen rev).toArray 48 (0, 0))]
abbrev tenM (r2 : Nat) : List (List UInt8 × Value) := [([116], .map (some r2))]
instance tpSt : TPlaces Tryz.prog 158 [(0, 1), (1, 1), (2, 1)] := ⟨by kernel_rfl⟩
section
variable {P : Program}
theorem wg {t k e : TypeId} (h : TMap P t k e) (d : Nat) (a : Option Nat) (w : World) : (Op.equalIn (d + 1) t (.map a) (.map none)).run P w = .ok a.isNone w := by
 rw [Op.equalIn, Sem.run_bind, zx h.und]
 cases a <;> rfl
theorem map_eqlN {t k e : TypeId} {x y : Operand} {κ : Value -> Prop} [h : TMap P t k e] (a : Option Nat) :
  PureW P (do eqGuard .eql t x y (.map a) (.map none); binOp .eql t (.map a) (.map none)) κ = κ (.bool a.isNone) :=
 zk (fun w => by
  have e : (do eqGuard .eql t x y (.map a) (.map none); binOp .eql t (.map a) (.map none) : Sem Value) = (do pure (.bool (<- Op.equalIn (9999 + 1) t (.map a) (.map none)))) := by
   cases a <;> rfl
  rw [e, Sem.run_bind, wg h]; rfl) κ
theorem map_neqN {t k e : TypeId} {x y : Operand} {κ : Value -> Prop} [h : TMap P t k e] (a : Option Nat) :
  PureW P (do eqGuard .neq t x y (.map a) (.map none); binOp .neq t (.map a) (.map none)) κ = κ (.bool a.isSome) :=
 zk (fun w => by
  have e : (do eqGuard .neq t x y (.map a) (.map none); binOp .neq t (.map a) (.map none) : Sem Value) = (do pure (.bool (!(<- Op.equalIn (9999 + 1) t (.map a) (.map none))))) := by
   cases a <;> rfl
  rw [e, Sem.run_bind, wg h]; cases a <;> rfl) κ
end
theorem cnew_spec : Meets Tryz.prog 27 [] [] fun v A => ∃ s r1 M1, v = .pointer (some ⟨s, 0, none⟩) /\ xB M1 r1 [] /\ A = [stB s r1 0 0, M1] := by
 refine eN Tryz.func27 Tryz.ntmps27 Tryz.results27 fun F => ?_
 refine gg ?_
 refine ze fun K hK => ?_; refine XH fun r1 M1 hM => ?_; refine hK _ _ ?_; clear hK K
 refine gg ?_
 refine oT [(0, .map (some r1))] ([.map (some r1), .int .u64 0, .int .u64 0] : List Value).toArray ?_
 refine gg ?_
 refine oB fun s => ?_
 refine gg ?_
 refine zb [stB s r1 0 0, M1] ?_
 exact ⟨s, r1, M1, rfl, hM, rfl⟩
theorem Zp {s r1 r2 : Nat} {last reads : Int} {M1 : Chunk} (h1 : xB M1 r1 (tenM r2)) : Meets Tryz.prog 72 [.pointer (some ⟨s, 0, none⟩), .string (str [116])] [stB s r1 last reads, M1] fun v A => v = .map (some r2) /\ A = [stB s r1 last reads, M1] := by
 refine eN Tryz.func72 Tryz.ntmps72 Tryz.results72 fun F => ?_
 refine gg ?_
 rw [show mget (tenM r2) [116] = some (.map (some r2)) from by simp [mget, tenM]]
 refine zb [stB s r1 last reads, M1] ?_; exact ⟨rfl, rfl⟩
theorem KM {s r1 : Nat} {last reads : Int} {M1 : Chunk} (h1 : xB M1 r1 []) : Meets Tryz.prog 28 [.pointer (some ⟨s, 0, none⟩), .string (str [116])] [stB s r1 last reads, M1]
  fun v A => ∃ r2 M1' M2, v = .int .i64 0 /\ xB M1' r1 (tenM r2) /\ xB M2 r2 [] /\ A = [stB s r1 last reads, M1', M2] := by
 have hus : Meets Tryz.prog 72 [.pointer (some ⟨s, 0, none⟩), .string (str [116])] [stB s r1 last reads, M1] fun v A => v = .map none /\ A = [stB s r1 last reads, M1] := by
  refine eN Tryz.func72 Tryz.ntmps72 Tryz.results72 fun F => ?_
  refine gg ?_
  rw [show mget ([] : List (List UInt8 × Value)) [116] = none from rfl]
  refine zb [stB s r1 last reads, M1] ?_; exact ⟨rfl, rfl⟩
 refine eN Tryz.func28 Tryz.ntmps28 Tryz.results28 fun F => ?_
 refine gg ?_
 refine cA (vQ [116] (by decide)) ?_; rintro v A ⟨rfl, rfl⟩; refine gA ?_
 rw [show qK [116] = true from by decide +kernel]
 refine gg ?_
 refine cA (hus) ?_; rintro v A ⟨rfl, rfl⟩; refine gA ?_
 refine ze fun K hK => ?_; rw [map_neqN]; refine hK _ _ ?_; clear hK K
 refine gg ?_
 refine ze fun K hK => ?_; refine XH fun r2 M2 hM2 => ?_; refine hK _ _ ?_; clear hK K
 refine gg ?_
 refine ze fun K hK => ?_; refine XG h1 pkA (fun M1' hM1 => ?_); refine hK _ _ ?_; clear hK K
 refine gg ?_
 refine zb [stB s r1 last reads, M1', M2] ?_
 exact ⟨r2, M1', M2, rfl, hM1, hM2, rfl⟩
theorem Je {s r1 p : Nat} {last reads gen : Int} {n : List UInt8} {vs : List Value} {rev : Bool} (hvl : vs.length = 5) (h0 : 0 <= last) (h1 : last < 1000000) : Meets Tryz.prog 59 [.pointer (some ⟨s, 0, none⟩), .pointer (some ⟨p, 0, none⟩)] [stB s r1 last reads, crB p n vs gen rev]
  fun v A => v = .int .i64 0 /\ A = [stB s r1 (last + 1) reads, crB p n vs (last + 1) rev] := by
 obtain ⟨v0, v1, v2, v3, v4, rfl⟩ : ∃ v0 v1 v2 v3 v4, vs = [v0, v1, v2, v3, v4] := by
  match vs, hvl with
  | [a, b, c, d, e], _ => exact ⟨a, b, c, d, e, rfl⟩
 simp only [crB, credV, List.cons_append, List.nil_append]
 refine eN Tryz.func59 Tryz.ntmps59 Tryz.results59 fun F => ?_
 refine gg ?_
 refine zb [stB s r1 (last + 1) reads, crB p n [v0, v1, v2, v3, v4] (last + 1) rev] ?_; exact ⟨rfl, rfl⟩
theorem get_spec {s r1 r2 : Nat} {last reads : Int} {M1 M2 G : Chunk} {m : List (List UInt8 × Value)} (hn : GNam G) (h1 : xB M1 r1 (tenM r2)) (h2 : xB M2 r2 m) (u : List UInt8) (hu : u.length <= 100000) :
  Meets Tryz.prog 58 [.pointer (some ⟨s, 0, none⟩), .string (str [116]), .string (str u)] [stB s r1 last reads, M1, M2, G]
  fun v A => v = (if (xF u 32).2 = 0 then (mget m (xF u 32).1).getD (.pointer none) else .pointer none) /\ A = [stB s r1 last reads, M1, M2, G] := by
 refine eN Tryz.func58 Tryz.ntmps58 Tryz.results58 fun F => ?_
 refine gg ?_
 refine cA (kU hn u hu) ?_; rintro v A ⟨rfl, rfl⟩; refine gA ?_
 by_cases h0 : (xF u 32).2 = 0
 ·rw [if_pos h0, h0]
  refine gg ?_
  refine cA (Zp h1) ?_; rintro v A ⟨rfl, rfl⟩; refine gA ?_
  refine zb [stB s r1 last reads, M1, M2, G] ?_; exact ⟨rfl, rfl⟩
 ·rw [if_neg h0, bne_iff_ne.2 h0]
  refine gg ?_
  refine zb [stB s r1 last reads, M1, M2, G] ?_; exact ⟨rfl, rfl⟩
theorem QY (a0 a1 a2 a3 : Option Addr) (c0 c1 c2 c3 n1 n2 n3 : Nat) (h1 : n1 = 32) (h2 : n2 = 32) (h3 : n3 = 32) : Meets Tryz.prog 88 [.agg ([.slice a0 1 c0, .int .i64 1, .slice a1 n1 c1, .slice a2 n2 c2, .slice a3 n3 c3] : List Value).toArray] [] fun v A => v = .bool true /\ A = [] := by
 subst h1 h2 h3
 refine eN Tryz.func88 Tryz.ntmps88 Tryz.results88 fun F => ?_
 refine gg ?_
 refine oB fun b1 => ?_
 refine gg ?_
 refine cA (Zy a0 c0) ?_; rintro v A ⟨rfl, rfl⟩; refine gA ?_
 refine zb [] ?_; exact ⟨rfl, rfl⟩
theorem YB {W : Chunk} {vs : List Value} {s : Sec} (hW : SecW W vs s) : Meets Tryz.prog 89 [.agg vs.toArray] [W]
  fun v A => ∃ (W0 W1 W2 W3 : Chunk) (vs' : List Value), v = .agg vs'.toArray /\ SecW (W0 ++ (W1 ++ (W2 ++ W3))) vs' s /\ A = [W0, W1, W2, W3, W] := by
 obtain ⟨a0, a1, a2, a3, c0, c1, c2, c3, rfl, ⟨k0, k1, k2, k3⟩, l1, l2, l3, r0, r1, r2, r3⟩ := hW
 refine eN Tryz.func89 Tryz.ntmps89 Tryz.results89 fun F => ?_
 refine gg ?_
 refine oB fun b1 => ?_
 refine gg ?_
 refine oA ([.slice none 0 0, .int .i64 0, .slice none 0 0, .slice none 0 0, .slice none 0 0] : List Value).toArray fun b2 => ?_
 refine gg ?_
 refine zn [(0, false, []), (1, false, []), (3, false, []), (4, false, []), (6, false, []), (7, false, []), (9, false, []), (10, false, []), (2, true, [4, 7, 10]), (12, false, []), (5, true, [7, 10]), (8, true, [10]), (11, true, []), (13, true, []), (14, false, []), (15, true, []), (16, false, []), (17, true, []), (18, false, []), (19, true, [])] ?_
 refine gg ?_
 refine zh fun K hK => ?_; refine zq (xt W a0 c0 [1] (by decide) r0) ?_; rintro v A ⟨C3, d0, e0, rfl, ho3, rfl⟩; refine pA hK ?_; clear hK K
 refine gg ?_
 refine zh fun K hK => ?_; refine zq (xt W a1 c1 s.st (by omega) r1) ?_; rintro v A ⟨C4, d1, e1, rfl, ho4, rfl⟩; refine pA hK ?_; clear hK K
 refine gg ?_
 refine zh fun K hK => ?_; refine zq (xt W a2 c2 s.sv (by omega) r2) ?_; rintro v A ⟨C5, d2, e2, rfl, ho5, rfl⟩; refine pA hK ?_; clear hK K
 refine gg ?_
 refine zh fun K hK => ?_; refine zq (xt W a3 c3 s.ha (by omega) r3) ?_; rintro v A ⟨C6, d3, e3, rfl, ho6, rfl⟩; refine pA hK ?_; clear hK K
 refine gg ?_
 (try (refine zh fun K hK => ?_; (first | refine zS trivial upA ?_ | refine zG trivial upA (by simp) ?_); refine pBk hK ?_; clear hK K; refine gg ?_))
 (try (refine zh fun K hK => ?_; (first | refine zS trivial upA ?_ | refine zG trivial upA (by simp) ?_); refine pBk hK ?_; clear hK K; refine gg ?_))
 (try (refine zh fun K hK => ?_; (first | refine zS trivial upA ?_ | refine zG trivial upA (by simp) ?_); refine pBk hK ?_; clear hK K; refine gg ?_))
 (try (refine zh fun K hK => ?_; (first | refine zS trivial upA ?_ | refine zG trivial upA (by simp) ?_); refine pBk hK ?_; clear hK K; refine gg ?_))
 refine gM ?_
 have hc1 : ∀ u ∈ ([.slice d0 ([1] : List UInt8).length e0, .int .i64 1, .slice d1 s.st.length e1, .slice d2 s.sv.length e2, .slice d3 s.ha.length e3] : List Value), Value.cell1 u := by
  intro u hu
  simp only [List.mem_cons, List.not_mem_nil, or_false] at hu
  rcases hu with rfl | rfl | rfl | rfl | rfl <;> simp [Value.cell1]
 refine oL [.slice d0 ([1] : List UInt8).length e0, .int .i64 1, .slice d1 s.st.length e1, .slice d2 s.sv.length e2, .slice d3 s.ha.length e3] rfl ?_
 refine oS [.slice d0 ([1] : List UInt8).length e0, .int .i64 1, .slice d1 s.st.length e1, .slice d2 s.sv.length e2, .slice d3 s.ha.length e3] rfl hc1 ?_
 refine gg ?_
 refine zf (vs := [.agg ([.slice d0 ([1] : List UInt8).length e0, .int .i64 1, .slice d1 s.st.length e1, .slice d2 s.sv.length e2, .slice d3 s.ha.length e3] : List Value).toArray]) [C3, C4, C5, C6, W] ?_ (hr := by (intro κ hκ; simp only [resW, withV, lookT_hit, lookT_miss, Nat.reduceBEq]; exact zm (vs := [.slice d0 ([1] : List UInt8).length e0, .int .i64 1, .slice d1 s.st.length e1, .slice d2 s.sv.length e2, .slice d3 s.ha.length e3]) lkA rfl hκ))
 exact ⟨C3, C4, C5, C6, _, rfl, ⟨d0, d1, d2, d3, e0, e1, e2, e3, rfl, ⟨ho3.1, ho4.1, ho5.1, ho6.1⟩, l1, l2, l3, rd_l (ho3.rd (List.mem_cons_self ..)), rd_r (rd_l (ho4.rd (List.mem_cons_self ..))), rd_r (rd_r (rd_l (ho5.rd (List.mem_cons_self ..)))), rd_r (rd_r (rd_r (ho6.rd (List.mem_cons_self ..))))⟩, rfl⟩
theorem JL {α : Type} (k : List UInt8) (v : α) : ∀ m : List (List UInt8 × α), mget (mput m k v) k = some v
 | [] => by simp [mput, mget]
 | (k', u) :: m => by
  simp only [mput]
  split
  ·simp [mget]
  ·rename_i h
   simp only [mget, if_neg h]
   exact JL k v m
theorem Zx {W : Chunk} {vs : List Value} {s : Sec} (hW : SecW W vs s) : Meets Tryz.prog 89 [.agg vs.toArray] [W]
  fun v A => ∃ (W' : Chunk) (vs' : List Value), v = .agg vs'.toArray /\ SecW W' vs' s /\ A = [W', W] :=
 (YB hW).perm (by simp) (fun v A' ⟨W0, W1, W2, W3, vs', hv, hW', hA⟩ => ⟨[W0 ++ (W1 ++ (W2 ++ W3)), W], by rw [hA]; simp, _, vs', hv, hW', rfl⟩)
theorem jr {W : Chunk} {vs : List Value} {s : Sec} (hW : SecW W vs s) : vs.length = 5 /\ ∀ v ∈ vs, Value.cell1 v := by
 obtain ⟨a0, a1, a2, a3, c0, c1, c2, c3, rfl, _⟩ := hW
 refine ⟨rfl, fun v hv => ?_⟩
 simp only [List.mem_cons, List.not_mem_nil, or_false] at hv
 rcases hv with rfl | rfl | rfl | rfl | rfl <;> simp [Value.cell1]
instance tpCr : TPlaces Tryz.prog 48 [(0, 1), (1, 1), (2, 5), (7, 1), (8, 1), (9, 1)] := ⟨by kernel_rfl⟩
theorem add_spec {s r1 r2 : Nat} {last reads : Int} {M1 M2 G W : Chunk} {m : List (List UInt8 × Value)} (hn : GNam G) (h1 : xB M1 r1 (tenM r2)) (h2 : xB M2 r2 m) (hml : m.length < 32) (hl0 : 0 <= last) (hl1 : last < 1000) (u n : List UInt8) (hu : u.length <= 1000) (hun : xF u 32 = (n, 0)) (hno : mget m n = none) {vs : List Value} {sec : Sec} (hW : SecW W vs sec) :
  Meets Tryz.prog 32 [.pointer (some ⟨s, 0, none⟩), .string (str [116]), .string (str u), .agg vs.toArray] [stB s r1 last reads, M1, M2, G, W]
  fun v A => ∃ p M2' W' vs', v = .int .i64 0 /\ xB M2' r2 (mput m n (.pointer (some ⟨p, 0, none⟩))) /\ SecW W' vs' sec /\ A = [stB s r1 (last + 1) reads, M1, M2', crB p n vs' (last + 1) false, W', G, W] := by
 have hnm := kU hn u (by omega)
 rw [hun] at hnm
 obtain ⟨hvl, hvc⟩ := jr hW
 have hr := hW
 obtain ⟨a0, a1, a2, a3, c0, c1, c2, c3, rfl, _, l1, l2, l3, _⟩ := hr
 refine eN Tryz.func32 Tryz.ntmps32 Tryz.results32 fun F => ?_
 refine gg ?_
 refine oB fun b7 => ?_
 refine gg ?_
 refine cA (Zp h1) ?_; rintro v A ⟨rfl, rfl⟩; refine gA ?_
 refine ze fun K hK => ?_; rw [map_eqlN]; refine hK _ _ ?_; clear hK K
 refine gg ?_
 refine cA (hnm) ?_; rintro v A ⟨rfl, rfl⟩; refine gA ?_
 refine oL [.slice a0 1 c0, .int .i64 1, .slice a1 sec.st.length c1, .slice a2 sec.sv.length c2, .slice a3 sec.ha.length c3] rfl ?_
 refine gg ?_
 refine cA (QY a0 a1 a2 a3 c0 c1 c2 c3 _ _ _ l1 l2 l3) ?_; rintro v A ⟨rfl, rfl⟩; refine gA ?_
 rw [hno]
 simp only [Option.getD_none]
 refine gg ?_
 rw [decide_eq_false (show ¬ (32 : Int) <= m.length by omega)]
 refine gg ?_
 rw [decide_eq_false (show ¬ (9007199254740992 : Int) <= last by omega)]
 refine gg ?_
 refine oL [.slice a0 1 c0, .int .i64 1, .slice a1 sec.st.length c1, .slice a2 sec.sv.length c2, .slice a3 sec.ha.length c3] rfl ?_
 refine gg ?_
 refine cA (Zx hW) ?_; rintro v A ⟨W', vs', rfl, hW', rfl⟩; refine gA ?_
 have hW2 := hW'
 obtain ⟨e0, e1, e2, e3, f0, f1, f2, f3, rfl, _⟩ := hW2
 refine oT [(0, .string (str [116])), (1, .string (str n)), (2, .agg ([.slice e0 1 f0, .int .i64 1, .slice e1 sec.st.length f1, .slice e2 sec.sv.length f2, .slice e3 sec.ha.length f3] : List Value).toArray)] (credV n [.slice e0 1 f0, .int .i64 1, .slice e1 sec.st.length f1, .slice e2 sec.sv.length f2, .slice e3 sec.ha.length f3] 0 false).toArray ?_
 refine gg ?_
 refine oB fun p => ?_
 refine gg ?_
 refine ze fun K hK => ?_; refine XG h2 pkA (fun M2' hM2 => ?_); refine hK _ _ ?_; clear hK K
 refine gg ?_
 rw [JL]
 simp only [Option.getD_some]
 refine cA (Je (s := s) (r1 := r1) (p := p) (reads := reads) (gen := 0) (n := n) (vs := [.slice e0 1 f0, .int .i64 1, .slice e1 sec.st.length f1, .slice e2 sec.sv.length f2, .slice e3 sec.ha.length f3]) (rev := false) rfl hl0 (by omega)) ?_; rintro v A ⟨rfl, rfl⟩; refine gA ?_
 refine zb [stB s r1 (last + 1) reads, M1, M2', crB p n [.slice e0 1 f0, .int .i64 1, .slice e1 sec.st.length f1, .slice e2 sec.sv.length f2, .slice e3 sec.ha.length f3] (last + 1) false, W', G, W] ?_
 exact ⟨p, M2', W', _, rfl, hM2, hW', rfl⟩
abbrev rsB (s : Nat) (ta : Option Addr) (tn tc : Nat) (la : Option Addr) (ln lc : Nat) (last reads : Int) : Chunk := [(s, .cells #[.slice ta tn tc, .slice la ln lc, .int .u64 last, .int .u64 reads] 95 (0, 0))]
abbrev UD (C : Chunk) (a : Option Addr) (c : Nat) : Prop := Ost.Own 1 9 C a 1 c [.string (str [116])]
theorem in_none : Meets Tryz.prog 74 [.slice none 0 0, .string (str [116])] [] fun v A => v = .bool false /\ A = [] := by
 refine eN Tryz.func74 Tryz.ntmps74 Tryz.results74 fun F => ?_
 refine gg ?_
 refine zB (fun q D L S => q = 0 /\ D = [] /\ L = [(9, .int .i64 0), (8, .int .i64 0)] /\ S = [F]) ⟨rfl, rfl, rfl, rfl⟩ ?_
 rintro q D L S ⟨rfl, rfl, rfl, rfl⟩
 refine gg ?_
 refine zb [] ?_; exact ⟨rfl, rfl⟩
theorem in_one {T : Chunk} {a : Option Addr} {c : Nat} (hT : UD T a c) : Meets Tryz.prog 74 [.slice a 1 c, .string (str [116])] [T] fun v A => v = .bool true /\ A = [T] := by
 refine eN Tryz.func74 Tryz.ntmps74 Tryz.results74 fun F => ?_
 refine gg ?_
 refine zB (fun q D L S => q = 1 /\ D = [] /\ L = [(9, .int .i64 0), (8, .int .i64 1), (7, .slice a 1 c), (1, .string (str [116]))] /\ S = [F, T]) ⟨rfl, rfl, rfl, rfl⟩ ?_
 rintro q D L S ⟨rfl, rfl, rfl, rfl⟩
 refine gg ?_
 (try rw [show Int.toNat 0 = 0 from rfl])
 refine ze fun K hK => ?_; refine qw (i := 0) hT rfl mmA ?_; refine hK _ _ ?_; clear hK K
 refine gg ?_
 refine zb [T] ?_; exact ⟨rfl, rfl⟩
theorem put_none : Meets Tryz.prog 75 [.slice none 0 0, .string (str [116])] [] fun v A => ∃ T a c, v = .slice a 1 c /\ UD T a c /\ A = [T] := by
 refine eN Tryz.func75 Tryz.ntmps75 Tryz.results75 fun F => ?_
 refine zE ?_
 refine gg ?_
 refine zB (fun q D L S => q = 0 /\ D = [] /\ L = [(5, .int .i64 0), (0, .slice none 0 0), (1, .string (str [116]))] /\ S = [[], F]) ⟨rfl, rfl, rfl, rfl⟩ ?_
 rintro q D L S ⟨rfl, rfl, rfl, rfl⟩
 refine gg ?_
 refine vW 0 4 6 [[], [], [], [1, 2], [0, 1, 2, 3], [], [0, 1, 2, 3, 4, 5], [0, 1, 2, 3, 4, 5, 6], [], [], [8, 9], [0, 1, 2, 3, 4, 5, 6, 7, 8, 9, 10], [0, 1, 2, 3, 4, 5, 6, 7, 8, 9, 10, 11]] [(1, false, []), (2, false, []), (3, false, []), (5, false, []), (8, false, []), (9, false, []), (10, false, []), (0, true, []), (4, true, []), (6, true, []), (7, true, []), (11, true, []), (12, true, [])] [[], [], [], [1, 2], [0, 1, 2, 3, 5, 6], [], [0, 5], [0, 1, 2, 3, 4, 5, 6], [], [], [8, 9], [0, 1, 2, 3, 4, 5, 6, 7, 8, 9, 10], [0, 1, 2, 3, 4, 5, 6, 7, 8, 9, 10, 11]] [(1, false, []), (2, false, []), (3, false, []), (5, false, []), (8, false, []), (9, false, []), (10, false, []), (0, true, []), (6, true, []), (4, true, []), (7, true, []), (11, true, []), (12, true, [])] [[5, 6], [], [], [1, 2], [0, 1, 2, 3, 5, 6], [], [5], [0, 1, 2, 3, 4, 5, 6], [], [], [8, 9], [0, 1, 2, 3, 4, 5, 6, 7, 8, 9, 10], [0, 1, 2, 3, 4, 5, 6, 7, 8, 9, 10, 11]] [(1, false, []), (2, false, []), (3, false, []), (5, false, []), (8, false, []), (9, false, []), (10, false, []), (6, true, []), (0, true, []), (4, true, []), (7, true, []), (11, true, []), (12, true, [])] ?_ ?_ ?_
 ·refine gg ?_
  refine zh fun K hK => ?_; refine jv fun b0 C0 ho0 => ?_; refine hK _ _ ?_; clear hK K
  refine gg ?_
  refine zh fun K hK => ?_; refine zu (e := 9) (s := 1) (hs := inferInstance) (by rfl) (by decide) ho0 (.inr pkA) (vs := []) Rd.nil (by simp) (by decide) (by decide) (fun C2 a2 c2 ho2 => ?_); refine hK _ _ ?_; clear hK K
  refine gg ?_
  refine zh fun K hK => ?_; refine xY rfl [.string (str [116])] (by decide) rfl rfl (by simp [Value.cell1]) (fun b1 C1 ho1 => ?_); refine hK _ _ ?_; clear hK K
  refine gg ?_
  refine zh fun K hK => ?_; refine zu (e := 9) (s := 1) (hs := inferInstance) (by rfl) (by decide) ho2 (.inr pkA) (ho1.rd mmA) (by simp [Value.cell1]) (by decide) (by decide) (fun C3 a3 c3 ho3 => ?_); refine hK _ _ ?_; clear hK K
  refine gg ?_
  refine zh fun K hK => ?_; refine zu (e := 9) (s := 1) (hs := inferInstance) (by rfl) (by decide) ho3 (.inr pkA) (vs := []) Rd.nil (by simp) (by decide) (by decide) (fun C4 a4 c4 ho4 => ?_); refine hK _ _ ?_; clear hK K
  refine gg ?_
  (try (try (refine zh fun K hK => ?_; refine hK _ _ ?_; clear hK K)))
  (try refine gg ?_)
  exact zb [C4] ⟨C4, a4, c4, rfl, ho4, rfl⟩
 ·refine gg ?_
  refine zh fun K hK => ?_; refine jv fun b0 C0 ho0 => ?_; refine hK _ _ ?_; clear hK K
  refine gg ?_
  refine zh fun K hK => ?_; refine xY rfl [.string (str [116])] (by decide) rfl rfl (by simp [Value.cell1]) (fun b1 C1 ho1 => ?_); refine hK _ _ ?_; clear hK K
  refine gg ?_
  refine zh fun K hK => ?_; refine zu (e := 9) (s := 1) (hs := inferInstance) (by rfl) (by decide) ho0 (.inr pkA) (vs := []) Rd.nil (by simp) (by decide) (by decide) (fun C2 a2 c2 ho2 => ?_); refine hK _ _ ?_; clear hK K
  refine gg ?_
  refine zh fun K hK => ?_; refine zu (e := 9) (s := 1) (hs := inferInstance) (by rfl) (by decide) ho2 (.inr pkA) (ho1.rd mmA) (by simp [Value.cell1]) (by decide) (by decide) (fun C3 a3 c3 ho3 => ?_); refine hK _ _ ?_; clear hK K
  refine gg ?_
  refine zh fun K hK => ?_; refine zu (e := 9) (s := 1) (hs := inferInstance) (by rfl) (by decide) ho3 (.inr pkA) (vs := []) Rd.nil (by simp) (by decide) (by decide) (fun C4 a4 c4 ho4 => ?_); refine hK _ _ ?_; clear hK K
  refine gg ?_
  (try (try (refine zh fun K hK => ?_; refine hK _ _ ?_; clear hK K)))
  (try refine gg ?_)
  exact zb [C4] ⟨C4, a4, c4, rfl, ho4, rfl⟩
 ·refine gg ?_
  refine zh fun K hK => ?_; refine xY rfl [.string (str [116])] (by decide) rfl rfl (by simp [Value.cell1]) (fun b1 C1 ho1 => ?_); refine hK _ _ ?_; clear hK K
  refine gg ?_
  refine zh fun K hK => ?_; refine jv fun b0 C0 ho0 => ?_; refine hK _ _ ?_; clear hK K
  refine gg ?_
  refine zh fun K hK => ?_; refine zu (e := 9) (s := 1) (hs := inferInstance) (by rfl) (by decide) ho0 (.inr pkA) (vs := []) Rd.nil (by simp) (by decide) (by decide) (fun C2 a2 c2 ho2 => ?_); refine hK _ _ ?_; clear hK K
  refine gg ?_
  refine zh fun K hK => ?_; refine zu (e := 9) (s := 1) (hs := inferInstance) (by rfl) (by decide) ho2 (.inr pkA) (ho1.rd mmA) (by simp [Value.cell1]) (by decide) (by decide) (fun C3 a3 c3 ho3 => ?_); refine hK _ _ ?_; clear hK K
  refine gg ?_
  refine zh fun K hK => ?_; refine zu (e := 9) (s := 1) (hs := inferInstance) (by rfl) (by decide) ho3 (.inr pkA) (vs := []) Rd.nil (by simp) (by decide) (by decide) (fun C4 a4 c4 ho4 => ?_); refine hK _ _ ?_; clear hK K
  refine gg ?_
  (try (try (refine zh fun K hK => ?_; refine hK _ _ ?_; clear hK K)))
  (try refine gg ?_)
  exact zb [C4] ⟨C4, a4, c4, rfl, ho4, rfl⟩
theorem JD {s : Nat} {last reads : Int} : Meets Tryz.prog 29 [.pointer (some ⟨s, 0, none⟩), .string (str [116])] [rsB s none 0 0 none 0 0 last reads]
  fun v A => ∃ T a c, v = .int .i64 0 /\ UD T a c /\ A = [rsB s a 1 c none 0 0 last reads, T] := by
 refine eN Tryz.func29 Tryz.ntmps29 Tryz.results29 fun F => ?_
 refine gg ?_
 refine cA (yx [116] (by decide)) ?_; rintro v A ⟨rfl, rfl⟩; refine gA ?_
 rw [show qK [116] = true from by decide +kernel]
 refine gg ?_
 refine cA (in_none) ?_; rintro v A ⟨rfl, rfl⟩; refine gA ?_
 refine cA (put_none) ?_; rintro v A ⟨T, a, c, rfl, hT, rfl⟩; refine gA ?_
 refine gM ?_
 refine zb [rsB s a 1 c none 0 0 last reads, T] ?_
 exact ⟨T, a, c, rfl, hT, rfl⟩
theorem Vm (a0 a1 a2 a3 : Option Addr) (c0 c1 c2 c3 n1 n2 n3 : Nat) (h1 : n1 = 32) (h2 : n2 = 32) (h3 : n3 = 32) : Meets Tryz.prog 90 [.agg ([.slice a0 1 c0, .int .i64 1, .slice a1 n1 c1, .slice a2 n2 c2, .slice a3 n3 c3] : List Value).toArray] [] fun v A => v = .bool true /\ A = [] := by
 subst h1 h2 h3
 refine eN Tryz.func90 Tryz.ntmps90 Tryz.results90 fun F => ?_
 refine gg ?_
 refine oB fun b1 => ?_
 refine gg ?_
 refine cA (yv a0 c0) ?_; rintro v A ⟨rfl, rfl⟩; refine gA ?_
 refine zb [] ?_; exact ⟨rfl, rfl⟩
structure CD where
 n : List UInt8
 v0 : Value
 v1 : Value
 v2 : Value
 v3 : Value
 v4 : Value
 gen : Int
 rev : Bool
abbrev CD.vs (d : CD) : List Value := [d.v0, d.v1, d.v2, d.v3, d.v4]
abbrev CD.v (d : CD) : List Value := [.string (str [116]), .string (str d.n), d.v0, d.v1, d.v2, d.v3, d.v4, .int .u64 d.gen, .slice none 0 0, .bool d.rev]
def CD.ok (d : CD) : Prop := ∀ v ∈ d.v, Value.cell1 v
theorem cd_len (d : CD) : d.v.length = 10 := rfl
abbrev OwnC (C : Chunk) (a : Option Addr) (c : Nat) (ds : List CD) : Prop := Ost.Own 10 84 C a ds.length c (ds.flatMap CD.v)
theorem Kh {ds : List CD} (h : ∀ d ∈ ds, d.ok) : ∀ v ∈ ds.flatMap CD.v, Value.cell1 v := by
 intro v hv
 obtain ⟨d, hd, h1⟩ := List.mem_flatMap.1 hv
 exact h d hd v h1
instance tpRCr : TPlaces Tryz.prog 84 [(0, 1), (1, 1), (2, 5), (7, 1), (8, 1), (9, 1)] := ⟨by kernel_rfl⟩
abbrev zcd : List Value := [.string ⟨#[]⟩, .string ⟨#[]⟩, .slice none 0 0, .int .i64 0, .slice none 0 0, .slice none 0 0, .slice none 0 0, .int .u64 0, .slice none 0 0, .bool false]
theorem Vi {s : Nat} {ta la : Option Addr} {tn tc lc : Nat} {last reads : Int} {CL : Chunk} {ds : List CD} (hds : ds.length <= 100) (hok : ∀ d ∈ ds, d.ok) (hL : OwnC CL la lc ds) :
  Meets Tryz.prog 91 [.pointer (some ⟨s, 0, none⟩), .string (str [116])] [rsB s ta tn tc la ds.length lc last reads, CL] fun v A => ∃ a c, v = .slice a ds.length c /\ A = [rsB s ta tn tc la ds.length lc last reads, CL] := by
 have hs := cd_len
 refine eN Tryz.func91 Tryz.ntmps91 Tryz.results91 fun F => ?_
 refine gg ?_
 refine zE ?_
 refine zB (fun q D L S => ∃ (i : Nat) (U : Chunk) (ua : Option Addr) (uc : Nat), i <= ds.length /\ OwnC U ua uc (ds.take i) /\ q = ds.length - i /\ D = [] /\
  L = [(15, .int .i64 i), (14, .int .i64 ds.length), (13, .slice la ds.length lc), (5, .slice ua (ds.take i).length uc), (1, .string (str [116]))] /\
  S = [U, F, rsB s ta tn tc la ds.length lc last reads, CL]) ⟨0, [], none, 0, by omega, own_nil, rfl, rfl, rfl, rfl⟩ ?_
 rintro q D L S ⟨i, U, ua, uc, hi, hU, rfl, rfl, rfl, rfl⟩
 refine gg ?_
 refine if_d (fun hc => ?_) (fun hc => ?_)
 ·have hil : i < ds.length := by omega
  have hx0 : ds[i]? = some ds[i] := List.getElem?_eq_getElem hil
  have hdo := hok _ (List.getElem_mem hil)
  have hnx : ds.take (i + 1) = ds.take i ++ [ds[i]] := by rw [List.take_add_one, hx0]; rfl
  have htl : (ds.take i).length <= 100 := by rw [List.length_take]; omega
  generalize ds[i] = d at *
  refine gg ?_
  refine ze fun K hK => ?_; refine xe hL hs hx0 (by decide) mmA ?_; refine hK _ _ ?_; clear hK K
  refine oA zcd.toArray fun b7 => ?_
  refine oS d.v rfl hdo ?_
  refine gg ?_
  refine oL d.v rfl ?_
  refine ze fun K hK => ?_; refine xd (e := 84) (s := 10) (hs := inferInstance) (vs := d.v) (by rfl) (by decide) (by decide) rfl (fun b1 C1 ho1 => ?_); refine hK _ _ ?_; clear hK K
  refine ze fun K hK => ?_; refine zu (e := 84) (s := 10) (hs := inferInstance) (by rfl) (by decide) hU (.inr pkA) (ho1.rd mmA) hdo (by simp only [maxLen]; omega) (by omega) (fun C3 a3 cap3 ho3 => ?_); refine hK _ _ ?_; clear hK K
  have e1 : (ds.take i).length + 1 = (ds.take (i + 1)).length := by rw [hnx]; simp
  have e2 : (ds.take i).flatMap CD.v ++ d.v = (ds.take (i + 1)).flatMap CD.v := by rw [hnx]; simp
  rw [e1, e2] at ho3
  rw [e1]
  refine gg ?_
  exact zA ⟨i + 1, C3, a3, cap3, by omega, ho3, rfl, rfl, rfl, rfl⟩
 ·refine gg ?_
  refine zb [rsB s ta tn tc la ds.length lc last reads, CL] ?_
  obtain rfl : i = ds.length := by omega
  rw [List.take_length]
  exact ⟨ua, uc, rfl, rfl⟩
def cix (n : List UInt8) : List CD -> Nat -> Int
 | [], _ => -1
 | d :: l, i => if d.n = n then (i : Int) else cix n l (i + 1)
theorem Qu {n : List UInt8} : ∀ (l : List CD) (k i : Nat), (∀ j, j < i -> ∀ d, l[j]? = some d -> d.n ≠ n) -> (∃ d, l[i]? = some d /\ d.n = n) -> cix n l k = ((k + i : Nat) : Int)
 | [], _, i, _, ⟨d, h, _⟩ => by simp at h
 | u :: l, k, 0, _, ⟨d, h, e⟩ => by
  rw [List.getElem?_cons_zero, Option.some.injEq] at h
  subst h
  unfold cix
  rw [if_pos e]; rfl
 | u :: l, k, i + 1, hn, ⟨d, h, e⟩ => by
  have h0 := hn 0 (by omega) u rfl
  unfold cix
  rw [if_neg h0, Qu l (k + 1) i (fun j hj v hv => hn (j + 1) (by omega) v (by rw [List.getElem?_cons_succ]; exact hv)) ⟨d, by rw [List.getElem?_cons_succ] at h; exact h, e⟩]
  congr 1; omega
theorem Ky {n : List UInt8} : ∀ (l : List CD) (k : Nat), (∀ d ∈ l, d.n ≠ n) -> cix n l k = -1
 | [], _, _ => rfl
 | u :: l, k, h => by
  unfold cix
  rw [if_neg (h u (List.mem_cons_self ..))]
  exact Ky l (k + 1) fun v hv => h v (List.mem_cons_of_mem _ hv)
theorem Vt {s : Nat} {ta la : Option Addr} {tn tc lc : Nat} {last reads : Int} {CL : Chunk} {ds : List CD} (hds : ds.length <= 100) (hok : ∀ d ∈ ds, d.ok) (hL : OwnC CL la lc ds) (u : List UInt8) (hu : u.length <= 100000) :
  Meets Tryz.prog 60 [.pointer (some ⟨s, 0, none⟩), .string (str [116]), .string (str u)] [rsB s ta tn tc la ds.length lc last reads, CL] fun v A => v = .int .i64 (if (xF u 32).2 = 0 then cix (xF u 32).1 ds 0 else -1) /\ A = [rsB s ta tn tc la ds.length lc last reads, CL] := by
 have hs := cd_len
 refine eN Tryz.func60 Tryz.ntmps60 Tryz.results60 fun F => ?_
 refine gg ?_
 refine cA (ve u hu 32 (by decide)) ?_; rintro v A ⟨rfl, rfl⟩; refine gA ?_
 by_cases h0 : (xF u 32).2 = 0
 ·rw [if_pos h0, h0]
  refine gg ?_
  generalize (xF u 32).1 = n at *
  refine zB (fun q D L S => ∃ i : Nat, i <= ds.length /\ (∀ j, j < i -> ∀ d, ds[j]? = some d -> d.n ≠ n) /\ q = ds.length - i /\ D = [] /\
   L = [(27, .int .i64 i), (26, .int .i64 ds.length), (25, .slice la ds.length lc), (7, .string (str n)), (1, .string (str [116]))] /\ S = [F, rsB s ta tn tc la ds.length lc last reads, CL])
   ⟨0, by omega, (fun j hj => absurd hj (by omega)), rfl, rfl, rfl, rfl⟩ ?_
  rintro q D L S ⟨i, hi, hno, rfl, rfl, rfl, rfl⟩
  refine gg ?_
  refine if_d (fun hc => ?_) (fun hc => ?_)
  ·have hil : i < ds.length := by omega
   have hx0 : ds[i]? = some ds[i] := List.getElem?_eq_getElem hil
   have hdo := hok _ (List.getElem_mem hil)
   generalize ds[i] = d at *
   refine gg ?_
   refine ze fun K hK => ?_; refine xe hL hs hx0 (by decide) mmA ?_; refine hK _ _ ?_; clear hK K
   refine oA zcd.toArray fun b7 => ?_
   refine gg ?_
   refine oS d.v rfl hdo ?_
   refine gg ?_
   cases hb : (d.n == n) with
   | true =>
    refine gg ?_
    refine zb [rsB s ta tn tc la ds.length lc last reads, CL] ?_
    refine ⟨?_, rfl⟩
    rw [Qu ds 0 i hno ⟨d, hx0, by simpa using hb⟩, Nat.zero_add]
   | false =>
    refine gg ?_
    refine zA ⟨i + 1, by omega, fun j hj u hu => ?_, rfl, rfl, rfl, rfl⟩
    by_cases hji : j = i
    ·subst hji
     rw [hx0, Option.some.injEq] at hu
     rw [<- hu]; simpa using hb
    ·exact hno j (by omega) u hu
  ·obtain rfl : i = ds.length := by omega
   refine gg ?_
   refine zb [rsB s ta tn tc la ds.length lc last reads, CL] ?_
   refine ⟨?_, rfl⟩
   rw [Ky ds 0 fun d hd => by
    obtain ⟨j, hj, rfl⟩ := List.mem_iff_getElem.1 hd
    exact hno j hj _ (List.getElem?_eq_getElem hj)]
 ·rw [if_neg h0, beq_eq_false_iff_ne.2 h0]
  refine gg ?_
  refine zb [rsB s ta tn tc la ds.length lc last reads, CL] ?_; exact ⟨rfl, rfl⟩
theorem Oc {P : Program} {t : TypeId} {x y : Operand} {a b : List UInt8} {κ : Value -> Prop} [h : TStr P t] : PureW P (do eqGuard .lss t x y (.string (str a)) (.string (str b)); binOp .lss t (.string (str a)) (.string (str b))) κ = κ (.bool (Op.bytesLess a b)) :=
 zk (fun w => by
  have e : Op.bytesLess a b = Op.bytesLess (str a).toList (str b).toList := by rw [ByteArray.toList_eq, ByteArray.toList_eq]; rfl
  rw [e]; rfl) κ
theorem VV {s : Nat} {ta la : Option Addr} {tn tc lc : Nat} {last reads : Int} {CL : Chunk} {ds : List CD} (hds : ds.length <= 100) (hok : ∀ d ∈ ds, d.ok) (hL : OwnC CL la lc ds) (c : CD) (hc : c.ok) (hlt : ∀ d ∈ ds, Op.bytesLess d.n c.n = true) :
  Meets Tryz.prog 92 [.pointer (some ⟨s, 0, none⟩), .agg c.v.toArray] [rsB s ta tn tc la ds.length lc last reads, CL] fun v A => ∃ la' lc' CL', OwnC CL' la' lc' (ds ++ [c]) /\ A = [rsB s ta tn tc la' (ds ++ [c]).length lc' last reads, CL'] := by
 have hs := cd_len
 have hcap := hL.1
 refine eN Tryz.func92 Tryz.ntmps92 Tryz.results92 fun F => ?_
 refine gg ?_
 refine oB fun b3 => ?_
 refine gg ?_
 refine zB (fun q D L S => ∃ i : Nat, i <= ds.length /\ q = ds.length - i /\ D = [] /\ L = [(4, .int .i64 i), (3, .pointer (some ⟨b3, 0, none⟩)), (0, .pointer (some ⟨s, 0, none⟩))] /\
  S = [[(b3, .cells c.v.toArray 84 (0, 0))], F, rsB s ta tn tc la ds.length lc last reads, CL]) ⟨0, by omega, rfl, rfl, rfl, rfl⟩ ?_
 rintro q D L S ⟨i, hi, rfl, rfl, rfl, rfl⟩
 refine gg ?_
 refine zn [(0, false, []), (1, false, []), (2, false, []), (3, false, []), (4, false, []), (5, false, []), (6, false, []), (7, false, []), (8, false, []), (9, false, []), (10, false, []), (11, false, []), (12, false, []), (13, false, []), (14, false, []), (15, false, []), (16, false, []), (17, false, []), (18, false, []), (19, false, []), (20, false, []), (21, false, []), (22, false, []), (23, false, []), (24, false, []), (25, false, []), (26, false, []), (27, false, []), (28, false, []), (29, false, []), (30, false, []), (31, false, []), (32, false, []), (33, false, []), (34, false, []), (35, false, []), (36, false, []), (37, false, []), (38, false, []), (39, false, []), (40, false, []), (41, false, []), (42, false, []), (43, false, []), (44, false, []), (45, false, [])] ?_
 dsimp only
 refine gg ?_
 by_cases h1 : (i : Int) < ds.length
 ·rw [decide_eq_true h1]
  have hil : i < ds.length := by omega
  have hx0 : ds[i]? = some ds[i] := List.getElem?_eq_getElem hil
  have hdn := hlt _ (List.getElem_mem hil)
  generalize ds[i] = d at *
  refine gg ?_
  refine qO fun K hK => ?_; (try rw [show c.v.toArray[0] = Value.string (str [116]) from rfl]); rw [Oc, show Op.bytesLess [116] [116] = false from rfl]; refine hK _ _ ?_; clear hK K
  refine gg ?_
  refine qO fun K hK => ?_; (try rw [show c.v.toArray[1] = Value.string (str c.n) from rfl]); rw [Oc, hdn]; refine hK _ _ ?_; clear hK K
  refine gg ?_
  exact zA ⟨i + 1, by omega, rfl, rfl, rfl, rfl⟩
 ·rw [decide_eq_false h1]
  obtain rfl : i = ds.length := by omega
  refine gg ?_
  have hr0 : Rd 10 [CL] (cutA 10 la 0 lc) ds.length (ds.flatMap CD.v) := by
   have e : cutA 10 la 0 lc = la := by
    unfold cutA
    split
    ·rfl
    ·cases la <;> simp [Addr.add]
   rw [e]; exact hL.rd (List.mem_cons_self ..)
  refine vW 1 8 10 [[], [], [], [2], [2, 3], [2, 3, 4], [], [2, 3, 4, 5, 6], [1, 2, 3, 4, 5, 6, 7], [], [1, 2, 3, 4, 5, 6, 7, 8, 9], [1, 2, 3, 4, 5, 6, 7, 8, 9, 10], [], [12], [12, 13], [12, 13, 14], [], [12, 13, 14, 15, 16], [1, 2, 3, 4, 5, 6, 7, 8, 9, 10, 11, 12, 13, 14, 15, 16, 17], [0, 1, 2, 3, 4, 5, 6, 7, 8, 9, 10, 11, 12, 13, 14, 15, 16, 17, 18], [0, 1, 2, 3, 4, 5, 6, 7, 8, 9, 10, 11, 12, 13, 14, 15, 16, 17, 18, 19], [0, 1, 2, 3, 4, 5, 6, 7, 8, 9, 10, 11, 12, 13, 14, 15, 16, 17, 18, 19, 20]] [(0, false, []), (2, false, []), (3, false, []), (4, false, []), (5, false, []), (6, false, []), (7, false, []), (9, false, []), (12, false, []), (13, false, []), (14, false, []), (15, false, []), (16, false, []), (17, false, []), (1, true, [5, 9, 15]), (8, true, [9, 15]), (10, true, [15]), (11, true, [15]), (18, true, []), (19, false, []), (20, false, []), (21, true, [])] [[], [], [], [2], [2, 3], [2, 3, 4], [], [2, 3, 4, 5, 6], [1, 2, 3, 4, 5, 6, 7, 9, 10], [], [1, 9], [1, 2, 3, 4, 5, 6, 7, 8, 9, 10], [], [12], [12, 13], [12, 13, 14], [], [12, 13, 14, 15, 16], [1, 2, 3, 4, 5, 6, 7, 8, 9, 10, 11, 12, 13, 14, 15, 16, 17], [0, 1, 2, 3, 4, 5, 6, 7, 8, 9, 10, 11, 12, 13, 14, 15, 16, 17, 18], [0, 1, 2, 3, 4, 5, 6, 7, 8, 9, 10, 11, 12, 13, 14, 15, 16, 17, 18, 19], [0, 1, 2, 3, 4, 5, 6, 7, 8, 9, 10, 11, 12, 13, 14, 15, 16, 17, 18, 19, 20]] [(0, false, []), (2, false, []), (3, false, []), (4, false, []), (5, false, []), (6, false, []), (7, false, []), (9, false, []), (12, false, []), (13, false, []), (14, false, []), (15, false, []), (16, false, []), (17, false, []), (1, true, [5, 9, 15]), (10, true, [5, 15]), (8, true, [15]), (11, true, [15]), (18, true, []), (19, false, []), (20, false, []), (21, true, [])] [[], [9, 10], [], [2], [2, 3], [2, 3, 4], [], [2, 3, 4, 5, 6], [1, 2, 3, 4, 5, 6, 7, 9, 10], [], [9], [1, 2, 3, 4, 5, 6, 7, 8, 9, 10], [], [12], [12, 13], [12, 13, 14], [], [12, 13, 14, 15, 16], [1, 2, 3, 4, 5, 6, 7, 8, 9, 10, 11, 12, 13, 14, 15, 16, 17], [0, 1, 2, 3, 4, 5, 6, 7, 8, 9, 10, 11, 12, 13, 14, 15, 16, 17, 18], [0, 1, 2, 3, 4, 5, 6, 7, 8, 9, 10, 11, 12, 13, 14, 15, 16, 17, 18, 19], [0, 1, 2, 3, 4, 5, 6, 7, 8, 9, 10, 11, 12, 13, 14, 15, 16, 17, 18, 19, 20]] [(0, false, []), (2, false, []), (3, false, []), (4, false, []), (5, false, []), (6, false, []), (7, false, []), (9, false, []), (12, false, []), (13, false, []), (14, false, []), (15, false, []), (16, false, []), (17, false, []), (10, true, [5, 15]), (1, true, [5, 15]), (8, true, [15]), (11, true, [15]), (18, true, []), (19, false, []), (20, false, []), (21, true, [])] ?_ ?_ ?_
  ·refine gg ?_
   refine qO fun K hK => ?_; refine zm (vs := c.v) lkA rfl ?_; refine hK _ _ ?_; clear hK K
   refine gg ?_
   (try rw [Nat.sub_self])
   refine zh fun K hK => ?_; refine jv fun b0 C0 ho0 => ?_; refine pend ?_; refine pend ?_ (zm (vs := c.v) lkA rfl rfl); refine pend ?_; refine hK _ _ ?_; clear hK K
   refine gg ?_
   refine zh fun K hK => ?_; refine zu (e := 84) (s := 10) (hs := inferInstance) (by rfl) (by decide) ho0 (.inr pkA) (hr0.mem mmA) (Kh hok) (by simp only [maxLen]; omega) (by omega) (fun C2 a2 c2 ho2 => ?_); refine pend ?_ (zm (vs := c.v) lkA rfl rfl); refine pend ?_; refine hK _ _ ?_; clear hK K
   refine gg ?_
   (try rw [List.nil_append, Nat.zero_add] at ho2)
   (try rw [Nat.zero_add])
   refine zh fun K hK => ?_; refine xd (e := 84) (s := 10) (hs := inferInstance) (vs := c.v) (by rfl) (by decide) (by decide) rfl (fun b1 C1 ho1 => ?_); refine pend ?_; refine hK _ _ ?_; clear hK K
   refine gg ?_
   refine zh fun K hK => ?_; refine zu (e := 84) (s := 10) (hs := inferInstance) (by rfl) (by decide) ho2 (.inr pkA) (ho1.rd mmA) hc (by simp only [maxLen]; omega) (by omega) (fun C3 a3 c3 ho3 => ?_); refine pend ?_; refine hK _ _ ?_; clear hK K
   refine gg ?_
   refine zh fun K hK => ?_; refine zu (e := 84) (s := 10) (hs := inferInstance) (by rfl) (by decide) ho3 (.inr pkA) (vs := []) Rd.nil (by simp) (by simp only [maxLen]; omega) (by omega) (fun C4 a4 c4 ho4 => ?_); refine hK _ _ ?_; clear hK K
   refine gg ?_
   (try rw [List.append_nil, Nat.add_zero] at ho4)
   (try rw [Nat.add_zero])
   refine gM ?_
   have e1 : ds.length + 1 = (ds ++ [c]).length := by simp
   have e2 : ds.flatMap CD.v ++ c.v = (ds ++ [c]).flatMap CD.v := by rw [List.flatMap_append]; congr 1
   rw [e1, e2] at ho4
   rw [e1]
   exact zJ [rsB s ta tn tc a4 (ds ++ [c]).length c4 last reads, C4] ⟨a4, c4, C4, ho4, rfl⟩
  ·refine gg ?_
   refine qO fun K hK => ?_; refine zm (vs := c.v) lkA rfl ?_; refine hK _ _ ?_; clear hK K
   refine gg ?_
   (try rw [Nat.sub_self])
   refine zh fun K hK => ?_; refine jv fun b0 C0 ho0 => ?_; refine pend ?_; refine pend ?_ (zm (vs := c.v) lkA rfl rfl); refine pend ?_; refine hK _ _ ?_; clear hK K
   refine gg ?_
   refine zh fun K hK => ?_; refine xd (e := 84) (s := 10) (hs := inferInstance) (vs := c.v) (by rfl) (by decide) (by decide) rfl (fun b1 C1 ho1 => ?_); refine pend ?_; refine pend ?_; refine hK _ _ ?_; clear hK K
   refine gg ?_
   refine zh fun K hK => ?_; refine zu (e := 84) (s := 10) (hs := inferInstance) (by rfl) (by decide) ho0 (.inr pkA) (hr0.mem mmA) (Kh hok) (by simp only [maxLen]; omega) (by omega) (fun C2 a2 c2 ho2 => ?_); refine pend ?_; refine hK _ _ ?_; clear hK K
   refine gg ?_
   (try rw [List.nil_append, Nat.zero_add] at ho2)
   (try rw [Nat.zero_add])
   refine zh fun K hK => ?_; refine zu (e := 84) (s := 10) (hs := inferInstance) (by rfl) (by decide) ho2 (.inr pkA) (ho1.rd mmA) hc (by simp only [maxLen]; omega) (by omega) (fun C3 a3 c3 ho3 => ?_); refine pend ?_; refine hK _ _ ?_; clear hK K
   refine gg ?_
   refine zh fun K hK => ?_; refine zu (e := 84) (s := 10) (hs := inferInstance) (by rfl) (by decide) ho3 (.inr pkA) (vs := []) Rd.nil (by simp) (by simp only [maxLen]; omega) (by omega) (fun C4 a4 c4 ho4 => ?_); refine hK _ _ ?_; clear hK K
   refine gg ?_
   (try rw [List.append_nil, Nat.add_zero] at ho4)
   (try rw [Nat.add_zero])
   refine gM ?_
   have e1 : ds.length + 1 = (ds ++ [c]).length := by simp
   have e2 : ds.flatMap CD.v ++ c.v = (ds ++ [c]).flatMap CD.v := by rw [List.flatMap_append]; congr 1
   rw [e1, e2] at ho4
   rw [e1]
   exact zJ [rsB s ta tn tc a4 (ds ++ [c]).length c4 last reads, C4] ⟨a4, c4, C4, ho4, rfl⟩
  ·refine gg ?_
   refine qO fun K hK => ?_; refine zm (vs := c.v) lkA rfl ?_; refine hK _ _ ?_; clear hK K
   refine gg ?_
   (try rw [Nat.sub_self])
   refine zh fun K hK => ?_; refine xd (e := 84) (s := 10) (hs := inferInstance) (vs := c.v) (by rfl) (by decide) (by decide) rfl (fun b1 C1 ho1 => ?_); refine pend ?_; refine pend ?_; refine hK _ _ ?_; clear hK K
   refine gg ?_
   refine zh fun K hK => ?_; refine jv fun b0 C0 ho0 => ?_; refine pend ?_; refine pend ?_; refine hK _ _ ?_; clear hK K
   refine gg ?_
   refine zh fun K hK => ?_; refine zu (e := 84) (s := 10) (hs := inferInstance) (by rfl) (by decide) ho0 (.inr pkA) (hr0.mem mmA) (Kh hok) (by simp only [maxLen]; omega) (by omega) (fun C2 a2 c2 ho2 => ?_); refine pend ?_; refine hK _ _ ?_; clear hK K
   refine gg ?_
   (try rw [List.nil_append, Nat.zero_add] at ho2)
   (try rw [Nat.zero_add])
   refine zh fun K hK => ?_; refine zu (e := 84) (s := 10) (hs := inferInstance) (by rfl) (by decide) ho2 (.inr pkA) (ho1.rd mmA) hc (by simp only [maxLen]; omega) (by omega) (fun C3 a3 c3 ho3 => ?_); refine pend ?_; refine hK _ _ ?_; clear hK K
   refine gg ?_
   refine zh fun K hK => ?_; refine zu (e := 84) (s := 10) (hs := inferInstance) (by rfl) (by decide) ho3 (.inr pkA) (vs := []) Rd.nil (by simp) (by simp only [maxLen]; omega) (by omega) (fun C4 a4 c4 ho4 => ?_); refine hK _ _ ?_; clear hK K
   refine gg ?_
   (try rw [List.append_nil, Nat.add_zero] at ho4)
   (try rw [Nat.add_zero])
   refine gM ?_
   have e1 : ds.length + 1 = (ds ++ [c]).length := by simp
   have e2 : ds.flatMap CD.v ++ c.v = (ds ++ [c]).flatMap CD.v := by rw [List.flatMap_append]; congr 1
   rw [e1, e2] at ho4
   rw [e1]
   exact zJ [rsB s ta tn tc a4 (ds ++ [c]).length c4 last reads, C4] ⟨a4, c4, C4, ho4, rfl⟩
theorem Zv {u n : List UInt8} (h : xF u 32 = (n, 0)) : xF n 32 = (n, 0) /\ n.length <= 32 := by
 have hp := (OP u).1
 unfold xF at h ⊢
 split at h
 ·rename_i h1; simp only [Prod.mk.injEq] at h; exact absurd h.2 h1
 split at h
 ·simp at h
 split at h
 ·simp at h
 ·rename_i h1 h2 h3
  simp only [Prod.mk.injEq, and_true] at h
  rw [h] at hp h2 h3
  refine ⟨?_, by omega⟩
  rw [hp, if_neg (by simp), if_neg h2, if_neg h3]
theorem OD {s : Nat} {ta la : Option Addr} {tc lc : Nat} {last reads : Int} {T CL W : Chunk} {ds : List CD} (hT : UD T ta tc) (hds : ds.length <= 20) (hok : ∀ d ∈ ds, d.ok) (hL : OwnC CL la lc ds) (hl0 : 0 <= last) (hl1 : last < 1000) (u n : List UInt8) (hu : u.length <= 1000) (hun : xF u 32 = (n, 0)) (hno : ∀ d ∈ ds, d.n ≠ n) (hlt : ∀ d ∈ ds, Op.bytesLess d.n n = true) {vs : List Value} {sec : Sec} (hW : SecW W vs sec) :
  Meets Tryz.prog 33 [.pointer (some ⟨s, 0, none⟩), .string (str [116]), .string (str u), .agg vs.toArray] [rsB s ta 1 tc la ds.length lc last reads, T, CL, W]
  fun v A => ∃ (la' : Option Addr) (lc' : Nat) (CL' : Chunk) (c : CD), v = .int .i64 0 /\ c.n = n /\ c.vs = vs /\ c.gen = last + 1 /\ c.rev = false /\ c.ok /\ OwnC CL' la' lc' (ds ++ [c]) /\ A = [rsB s ta 1 tc la' (ds ++ [c]).length lc' (last + 1) reads, T, CL', W] := by
 obtain ⟨hst, hnl⟩ := Zv hun
 have hnm := ve u (by omega) 32 (by decide)
 rw [hun] at hnm
 have hfd := Vt (s := s) (ta := ta) (tn := 1) (tc := tc) (last := last) (reads := reads) (by omega) hok hL n (by omega)
 rw [hst, if_pos rfl, Ky ds 0 hno] at hfd
 obtain ⟨hvl, hvc⟩ := jr hW
 have hr := hW
 obtain ⟨a0, a1, a2, a3, c0, c1, c2, c3, rfl, _, l1, l2, l3, _⟩ := hr
 refine eN Tryz.func33 Tryz.ntmps33 Tryz.results33 fun F => ?_
 refine gg ?_
 refine oB fun b7 => ?_
 refine gg ?_
 refine cA (in_one hT) ?_; rintro v A ⟨rfl, rfl⟩; refine gA ?_
 refine cA (hnm) ?_; rintro v A ⟨rfl, rfl⟩; refine gA ?_
 refine oL [.slice a0 1 c0, .int .i64 1, .slice a1 sec.st.length c1, .slice a2 sec.sv.length c2, .slice a3 sec.ha.length c3] rfl ?_
 refine gg ?_
 refine cA (Vm a0 a1 a2 a3 c0 c1 c2 c3 _ _ _ l1 l2 l3) ?_; rintro v A ⟨rfl, rfl⟩; refine gA ?_
 refine cA (hfd) ?_; rintro v A ⟨rfl, rfl⟩; refine gA ?_
 refine cA (Vi (s := s) (ta := ta) (tn := 1) (tc := tc) (last := last) (reads := reads) (by omega) hok hL) ?_; rintro v A ⟨ua, uc, rfl, rfl⟩; refine gA ?_
 rw [decide_eq_false (show ¬ (32 : Int) <= ds.length by omega)]
 refine gg ?_
 rw [decide_eq_false (show ¬ (9007199254740992 : Int) <= last by omega)]
 refine gg ?_
 refine gM ?_
 have hcok : (⟨n, .slice a0 1 c0, .int .i64 1, .slice a1 sec.st.length c1, .slice a2 sec.sv.length c2, .slice a3 sec.ha.length c3, last + 1, false⟩ : CD).ok := by
  intro v hv
  simp only [CD.v, List.mem_cons, List.not_mem_nil, or_false] at hv
  rcases hv with rfl | rfl | rfl | rfl | rfl | rfl | rfl | rfl | rfl | rfl <;> simp [Value.cell1]
 have hins := VV (s := s) (ta := ta) (tn := 1) (tc := tc) (last := last + 1) (reads := reads) (by omega) hok hL (⟨n, .slice a0 1 c0, .int .i64 1, .slice a1 sec.st.length c1, .slice a2 sec.sv.length c2, .slice a3 sec.ha.length c3, last + 1, false⟩ : CD) hcok hlt
 refine zn [(0, false, []), (1, false, []), (2, false, []), (3, false, []), (4, false, []), (5, false, []), (6, false, []), (7, false, []), (8, false, []), (9, true, [])] ?_
 refine gg ?_
 refine qO fun K hK => ?_; refine zm (vs := [.slice a0 1 c0, .int .i64 1, .slice a1 sec.st.length c1, .slice a2 sec.sv.length c2, .slice a3 sec.ha.length c3]) lkA rfl ?_; refine hK _ _ ?_; clear hK K
 refine gg ?_
 refine qO fun K hK => ?_; rw [zP (ps := [(0, .string (str [116])), (1, .string (str n)), (2, .agg ([.slice a0 1 c0, .int .i64 1, .slice a1 sec.st.length c1, .slice a2 sec.sv.length c2, .slice a3 sec.ha.length c3] : List Value).toArray), (3, .int .u64 (last + 1))]) (cs := (⟨n, .slice a0 1 c0, .int .i64 1, .slice a1 sec.st.length c1, .slice a2 sec.sv.length c2, .slice a3 sec.ha.length c3, last + 1, false⟩ : CD).v.toArray) rfl]; refine hK _ _ ?_; clear hK K
 refine gg ?_
 refine zh fun K hK => ?_; refine zq (hins) ?_; rintro v A ⟨la', lc', CL', hL', rfl⟩; refine pA hK ?_; clear hK K
 refine gg ?_
 refine zb [rsB s ta 1 tc la' (ds ++ [(⟨n, .slice a0 1 c0, .int .i64 1, .slice a1 sec.st.length c1, .slice a2 sec.sv.length c2, .slice a3 sec.ha.length c3, last + 1, false⟩ : CD)]).length lc' (last + 1) reads, T, CL', W] ?_
 exact ⟨la', lc', CL', (⟨n, .slice a0 1 c0, .int .i64 1, .slice a1 sec.st.length c1, .slice a2 sec.sv.length c2, .slice a3 sec.ha.length c3, last + 1, false⟩ : CD), rfl, rfl, rfl, rfl, rfl, hcok, hL', rfl⟩
open Go.Tab
structure PU where
 n : List UInt8
 sec : Sec
 gen : Int
 rev : Bool
structure CU where
 u : PU
 p : Nat
 vs : List Value
 W : Chunk
def CU.C (c : CU) : Chunk := crB c.p c.u.n c.vs c.u.gen c.u.rev ++ c.W
def mU (cs : List CU) : List (List UInt8 × Value) := cs.map fun c => (c.u.n, .pointer (some ⟨c.p, 0, none⟩))
theorem Il {n : List UInt8} : ∀ cs : List CU, (∀ c ∈ cs, c.u.n ≠ n) -> mget (mU cs) n = none
 | [], _ => rfl
 | c :: l, h => by
  simp only [mU, List.map_cons, mget]
  rw [if_neg (fun e => h c (List.mem_cons_self ..) e.symm)]
  exact Il l fun d hd => h d (List.mem_cons_of_mem _ hd)
def IsSt (K : Chunk) (s : Nat) (us : List PU) (last reads : Int) : Prop := ∃ (r1 r2 : Nat) (M1 M2 : Chunk) (cs : List CU), cs.map CU.u = us /\ xB M1 r1 (tenM r2) /\ xB M2 r2 (mU cs) /\ (∀ c ∈ cs, SecW c.W c.vs c.u.sec) /\ K = stB s r1 last reads ++ (M1 ++ (M2 ++ cs.flatMap CU.C))
theorem cadd_spec {K G W : Chunk} {s : Nat} {us : List PU} {last reads : Int} (hn : GNam G) (hK : IsSt K s us last reads) (hul : us.length < 32) (hl0 : 0 <= last) (hl1 : last < 1000) (u n : List UInt8) (hu : u.length <= 1000) (hun : xF u 32 = (n, 0)) (hno : ∀ x ∈ us, x.n ≠ n) {vs : List Value} {sec : Sec} (hW : SecW W vs sec) :
  Meets Tryz.prog 32 [.pointer (some ⟨s, 0, none⟩), .string (str [116]), .string (str u), .agg vs.toArray] [K, G, W]
  fun v A => ∃ K', v = .int .i64 0 /\ IsSt K' s (us ++ [⟨n, sec, last + 1, false⟩]) (last + 1) reads /\ A = [K', G, W] := by
 obtain ⟨r1, r2, M1, M2, cs, rfl, h1, h2, hs, rfl⟩ := hK
 have hm : mget (mU cs) n = none := Il cs fun c hc => hno c.u (List.mem_map_of_mem hc)
 have hml : (mU cs).length < 32 := by rw [mU, List.length_map]; rwa [List.length_map] at hul
 refine Meets.conv [stB s r1 last reads, M1, M2, cs.flatMap CU.C, G, W] (add_spec hn h1 h2 hml hl0 hl1 u n hu hun hm hW) flA tkA ?_; rintro v A ⟨p, M2', W', vs', rfl, hM, hW', rfl⟩
 refine ⟨[stB s r1 (last + 1) reads ++ (M1 ++ (M2' ++ (cs.flatMap CU.C ++ (crB p n vs' (last + 1) false ++ W')))), G, W], [stB s r1 (last + 1) reads, M1, M2', cs.flatMap CU.C, crB p n vs' (last + 1) false, W', G, W], flA, amA, _, rfl, ⟨r1, r2, M1, M2', cs ++ [⟨⟨n, sec, last + 1, false⟩, p, vs', W'⟩], by simp, h1, ?_, ?_, ?_⟩, rfl⟩
 ·rw [wX _ _ _ hm] at hM
  simpa [mU] using hM
 ·intro c hc
  rcases List.mem_append.1 hc with hc | hc
  ·exact hs c hc
  ·obtain rfl := List.mem_singleton.1 hc
   exact hW'
 ·simp [List.flatMap_append, CU.C]
structure RD where
 u : PU
 v0 : Value
 v1 : Value
 v2 : Value
 v3 : Value
 v4 : Value
def RD.cd (d : RD) : CD := ⟨d.u.n, d.v0, d.v1, d.v2, d.v3, d.v4, d.u.gen, d.u.rev⟩
def IsRs (K : Chunk) (s : Nat) (us : List PU) (last reads : Int) : Prop := ∃ (ta la : Option Addr) (tc lc : Nat) (T CL V : Chunk) (ds : List RD), ds.map RD.u = us /\ UD T ta tc /\ OwnC CL la lc (ds.map RD.cd) /\ (∀ d ∈ ds, d.cd.ok) /\ (∀ d ∈ ds, SecW V d.cd.vs d.u.sec) /\ K = rsB s ta 1 tc la (ds.map RD.cd).length lc last reads ++ (T ++ (CL ++ V))
theorem secw_l {A B : Chunk} {vs : List Value} {s : Sec} (h : SecW A vs s) : SecW (A ++ B) vs s := by
 obtain ⟨a0, a1, a2, a3, c0, c1, c2, c3, e, l0, l1, l2, l3, r0, r1, r2, r3⟩ := h
 exact ⟨a0, a1, a2, a3, c0, c1, c2, c3, e, l0, l1, l2, l3, rd_l r0, rd_l r1, rd_l r2, rd_l r3⟩
theorem secw_r {A B : Chunk} {vs : List Value} {s : Sec} (h : SecW B vs s) : SecW (A ++ B) vs s := by
 obtain ⟨a0, a1, a2, a3, c0, c1, c2, c3, e, l0, l1, l2, l3, r0, r1, r2, r3⟩ := h
 exact ⟨a0, a1, a2, a3, c0, c1, c2, c3, e, l0, l1, l2, l3, rd_r r0, rd_r r1, rd_r r2, rd_r r3⟩
theorem is_rs0 {s : Nat} {T : Chunk} {a : Option Addr} {c : Nat} {last reads : Int} (hT : UD T a c) : IsRs (rsB s a 1 c none 0 0 last reads ++ T) s [] last reads :=
 ⟨a, none, c, 0, T, [], [], [], rfl, hT, own_nil, (fun _ h => nomatch h), (fun _ h => nomatch h), by simp⟩
theorem UA {K W : Chunk} {s : Nat} {us : List PU} {last reads : Int} (hK : IsRs K s us last reads) (hul : us.length <= 20) (hl0 : 0 <= last) (hl1 : last < 1000) (u n : List UInt8) (hu : u.length <= 1000) (hun : xF u 32 = (n, 0)) (hno : ∀ x ∈ us, x.n ≠ n) (hlt : ∀ x ∈ us, Op.bytesLess x.n n = true) {vs : List Value} {sec : Sec} (hW : SecW W vs sec) :
  Meets Tryz.prog 33 [.pointer (some ⟨s, 0, none⟩), .string (str [116]), .string (str u), .agg vs.toArray] [K, W]
  fun v A => ∃ K', v = .int .i64 0 /\ IsRs K' s (us ++ [⟨n, sec, last + 1, false⟩]) (last + 1) reads /\ A = [K'] := by
 obtain ⟨ta, la, tc, lc, T, CL, V, ds, rfl, hT, hL, hok, hs, rfl⟩ := hK
 rw [List.length_map] at hul
 have hh := OD (s := s) (reads := reads) hT (by rw [List.length_map]; exact hul) (by intro d hd; obtain ⟨x, hx, rfl⟩ := List.mem_map.1 hd; exact hok x hx) hL hl0 hl1 u n hu hun (by intro d hd; obtain ⟨x, hx, rfl⟩ := List.mem_map.1 hd; exact hno x.u (List.mem_map_of_mem hx)) (by intro d hd; obtain ⟨x, hx, rfl⟩ := List.mem_map.1 hd; exact hlt x.u (List.mem_map_of_mem hx)) hW
 refine Meets.conv [rsB s ta 1 tc la (ds.map RD.cd).length lc last reads, T, CL, V, W] (hh) flA tkA ?_; rintro v A ⟨la', lc', CL', ⟨cn, v0, v1, v2, v3, v4, cg, cr⟩, rfl, hc1, hc2, hc3, hc4, hcok, hL', rfl⟩
 simp only at hc1 hc2 hc3 hc4
 subst hc1 hc2 hc3 hc4
 refine ⟨[rsB s ta 1 tc la' (ds.map RD.cd ++ [(⟨cn, v0, v1, v2, v3, v4, last + 1, false⟩ : CD)]).length lc' (last + 1) reads ++ (T ++ (CL' ++ (V ++ W)))], [rsB s ta 1 tc la' (ds.map RD.cd ++ [(⟨cn, v0, v1, v2, v3, v4, last + 1, false⟩ : CD)]).length lc' (last + 1) reads, T, CL', V, W], flA, amA, _, rfl, ⟨ta, la', tc, lc', T, CL', V ++ W, ds ++ [⟨⟨cn, sec, last + 1, false⟩, v0, v1, v2, v3, v4⟩], by simp, hT, ?_, ?_, ?_, ?_⟩, rfl⟩
 ·simpa [RD.cd] using hL'
 ·intro c hc
  rcases List.mem_append.1 hc with hc | hc
  ·exact hok c hc
  ·obtain rfl := List.mem_singleton.1 hc
   exact hcok
 ·intro c hc
  rcases List.mem_append.1 hc with hc | hc
  ·exact secw_l (hs c hc)
  ·obtain rfl := List.mem_singleton.1 hc
   exact secw_r hW
 ·simp [RD.cd]
end Go.Proofs.YtebikhhoppiapaaGreatDoor
namespace Go.Proofs.YtebikhhoppiapaaGreatDoor
open Go Go.Ost Go.Shelf Go.RowKit
def renS : Ren := ⟨fun x => if x = 156 then 153 else if x = 165 then 204 else if x = 166 then 146 else if x = 169 then 150 else if x = 240 then 201 else if x = 241 then 238 else if x = 276 then 237 else if x = 277 then 183 else x, fun x => if x = 31 then 46 else if x = 37 then 43 else if x = 70 then 270 else if x = 72 then 272 else if x = 75 then 274 else if x = 76 then 275 else if x = 80 then 277 else if x = 127 then 330 else if x = 164 then 358 else x, fun x => x⟩
instance iOJ_1 : TSized Tryz.prog 0 (.tuple #[]) 1 0 := ⟨by kernel_rfl⟩
instance iOJ_2 : TFlat Tryz.prog 0 := ⟨by kernel_rfl⟩
instance iOJ_3 : TSized Tryz.prog 20 .nilIface 1 16 := ⟨by kernel_rfl⟩
instance iOJ_4 : TFlat Tryz.prog 20 := ⟨by kernel_rfl⟩
instance iOJ_5 : TSized Tryz.prog 274 .nilIface 1 16 := ⟨by kernel_rfl⟩
instance iOJ_6 : TFlat Tryz.prog 274 := ⟨by kernel_rfl⟩
instance iOJ_7 : TSized Tryz.prog 275 (.tuple #[.int .i64 0, .nilIface]) 1 0 := ⟨by kernel_rfl⟩
instance iOJ_8 : TFlat Tryz.prog 275 := ⟨by kernel_rfl⟩
theorem laysS : Lays.n156 Tryz.prog renS where
 mixed := by kernel_rfl
 f156 := by kernel_rfl
 f165 := by kernel_rfl
 f166 := by kernel_rfl
 f169 := by kernel_rfl
 f240 := by kernel_rfl
 f241 := by kernel_rfl
 f276 := by kernel_rfl
 f277 := by kernel_rfl
 t0 := by kernel_rfl
 a0 := zr (t := 0) inferInstance
 z0 := zt (t := 0) inferInstance
 v0 := zC (t := 0) inferInstance
 t3 := by kernel_rfl
 a3 := zr (t := 3) inferInstance
 z3 := zt (t := 3) inferInstance
 v3 := zC (t := 3) inferInstance
 t4 := by kernel_rfl
 a4 := zr (t := 4) inferInstance
 z4 := zt (t := 4) inferInstance
 v4 := zC (t := 4) inferInstance
 t9 := by kernel_rfl
 a9 := zr (t := 9) inferInstance
 z9 := zt (t := 9) inferInstance
 v9 := zC (t := 9) inferInstance
 t20 := by kernel_rfl
 a20 := zr (t := 20) inferInstance
 z20 := zt (t := 20) inferInstance
 v20 := zC (t := 20) inferInstance
 t31 := by kernel_rfl
 a31 := zr (t := 46) inferInstance
 z31 := zt (t := 46) inferInstance
 v31 := zC (t := 46) inferInstance
 t37 := by kernel_rfl
 a37 := zr (t := 43) inferInstance
 z37 := zt (t := 43) inferInstance
 v37 := zC (t := 43) inferInstance
 t70 := by kernel_rfl
 a70 := zr (t := 270) inferInstance
 z70 := zt (t := 270) inferInstance
 v70 := zC (t := 270) inferInstance
 t72 := by kernel_rfl
 a72 := qC (t := 272) inferInstance
 z72 := zt (t := 272) inferInstance
 v72 := zC (t := 272) inferInstance
 t75 := by kernel_rfl
 a75 := zr (t := 274) inferInstance
 z75 := zt (t := 274) inferInstance
 v75 := zC (t := 274) inferInstance
 t76 := by kernel_rfl
 a76 := zr (t := 275) inferInstance
 z76 := zt (t := 275) inferInstance
 v76 := zC (t := 275) inferInstance
 t127 := by kernel_rfl
 a127 := zr (t := 330) inferInstance
 z127 := zt (t := 330) inferInstance
 v127 := zC (t := 330) inferInstance
 t164 := by kernel_rfl
 a164 := zr (t := 358) inferInstance
 z164 := zt (t := 358) inferInstance
 v164 := zC (t := 358) inferInstance
theorem extraS : Builder.Extra Tryz.prog renS where
 sizeBuilder := by kernel_rfl
 liesBuilder := by kernel_rfl
 t5 := by kernel_rfl
 a5 := zr (t := 5) inferInstance
 z5 := zt (t := 5) inferInstance
 v5 := zC (t := 5) inferInstance
 infoByte := by kernel_rfl
 cellsByte := by kernel_rfl
 sizeByte := by kernel_rfl
 neB5 := by decide
theorem Yy (A : State) (a : Option Addr) (c : Nat) (ls : List (List UInt8)) (sep : List UInt8) (h : Rd 1 A a ls.length (ls.map fun l => Value.string (str l))) (hne : ls ≠ []) (hnc : ls.length <= c) (hn : ls.length <= 1000000) (hlen : (sep.intercalate ls).length <= 1000000000) :
  Meets Tryz.prog 153 [.slice a ls.length c, .string (str sep)] A fun v A' => v = .string (str (sep.intercalate ls)) /\ A' = [] :: A := by
 refine jF rfl rfl (by kernel_rfl) fun w hw => ?_
 obtain ⟨l0, r, rfl⟩ := List.exists_cons_of_ne_nil hne
 obtain ⟨b, o, rfl, h0⟩ := ko h hw (i := 0) (v := .string (str l0)) rfl
 have hx : ((l0 :: r).map str).map (fun s => s.data.toList) = l0 :: r := by
  rw [List.map_map]
  exact List.map_id _
 have hl : ((l0 :: r).map str).length = (l0 :: r).length := List.length_map ..
 have key := Any.strings_Join laysS extraS b o c ((l0 :: r).map str) (str sep) w (fun j x hj => by
   rw [List.getElem?_map, Option.map_eq_some_iff] at hj
   obtain ⟨l, hl, rfl⟩ := hj
   obtain ⟨b', o', e', hc'⟩ := ko h hw (i := j) (v := .string (str l)) (by rw [List.getElem?_map, hl]; rfl)
   cases e'
   exact hc') (by
   obtain ⟨b', o', cs, e, m, e1, e2⟩ := Uy h0
   cases e1
   exact (Array.getElem?_eq_some_iff.1 e2).1) (by rw [hl]; omega) (by rw [hl]; exact hnc) (by rw [hx]; show (sep.intercalate (l0 :: r)).length <= _; omega)
 rw [hl, hx] at key
 refine key.mono ?_
 rintro e w' ⟨rfl, hb⟩
 exact ⟨_, rfl, hb, [], fun k o hm => (by cases hm), by simp, rfl, rfl⟩
def renI : Ren := ⟨fun x => if x = 137 then 160 else if x = 217 then 209 else if x = 266 then 240 else x, fun x => x, fun x => x⟩
theorem laysI : Lays.n137 Tryz.prog renI where
 mixed := by kernel_rfl
 f137 := by kernel_rfl
 f217 := by kernel_rfl
 f266 := by kernel_rfl
 t3 := by kernel_rfl
 a3 := zr (t := 3) inferInstance
 z3 := zt (t := 3) inferInstance
 v3 := zC (t := 3) inferInstance
 t5 := by kernel_rfl
 a5 := zr (t := 5) inferInstance
 z5 := zt (t := 5) inferInstance
 v5 := zC (t := 5) inferInstance
 t9 := by kernel_rfl
 a9 := zr (t := 9) inferInstance
 z9 := zt (t := 9) inferInstance
 v9 := zC (t := 9) inferInstance
def sgn_DA : List UInt8 := [33, 35, 36, 37, 38, 39, 42, 43, 45, 46, 94, 95, 124, 126, 96]
theorem Uc (c : UInt8) : Meets Tryz.prog 160 [.string (str sgn_DA), b8 c] [] fun v A => v = .int .i64 (Lib.indexByte sgn_DA c) /\ A = [] := by
 have h : Meets Tryz.prog 160 [.string (str sgn_DA), b8 c] [] fun v A => v = .int .i64 (Lib.indexByte sgn_DA c) /\ A = [[]] := by
  refine jF rfl rfl (by kernel_rfl) fun w hw => ?_
  refine (Any.strings_IndexByte laysI ⟨sgn_DA.toArray⟩ c.toNat w).mono ?_
  rintro e w' ⟨rfl, rfl⟩
  refine ⟨_, rfl, Below.refl _ _, [], fun k o hm => (by cases hm), by simp, ?_, rfl⟩
  rw [show ((c.toNat : Int).toNat.toUInt8) = c from by simp]
 refine Meets.conv [] h rfl (.nil _) ?_
 rintro v A ⟨rfl, rfl⟩
 exact ⟨[], [[]], rfl, Among.refl _, rfl, rfl⟩
def tcB (c : UInt8) : Bool := decide (97 <= c.toNat /\ c.toNat <= 122) || (decide (65 <= c.toNat /\ c.toNat <= 90) || (decide (48 <= c.toNat /\ c.toNat <= 57) || sgn_DA.contains c))
theorem index_ge (c : UInt8) : ∀ l : List UInt8, 0 <= Lib.indexByte l c ↔ c ∈ l
 | [] => by simp [Lib.indexByte]
 | b :: l => by
  have ih := index_ge c l
  have hg := Lib.indexByte_ge l c
  by_cases hb : b = c
  ·subst hb; simp [Lib.indexByte]
  ·have h1 : (b == c) = false := beq_eq_false_iff_ne.2 hb
   have e : Lib.indexByte (b :: l) c = if (Lib.indexByte l c == -1) = true then -1 else Lib.indexByte l c + 1 := by
    show (if (b == c) = true then (0 : Int) else _) = _
    rw [h1]; rfl
   rw [e, List.mem_cons, <- ih]
   by_cases h3 : Lib.indexByte l c = -1
   ·rw [if_pos (by rw [h3]; rfl)]
    constructor
    ·intro h; omega
    ·rintro (h | h)
     ·exact (hb h.symm).elim
     ·omega
   ·rw [if_neg (by simp [h3])]
    constructor
    ·intro _; exact .inr (by omega)
    ·intro _; omega
theorem ibyte_ge (c : UInt8) : decide (0 <= Lib.indexByte sgn_DA c) = sgn_DA.contains c := by
 rw [Bool.eq_iff_iff, decide_eq_true_eq, index_ge, List.contains_iff_mem]
theorem Zu (c : UInt8) : Meets Tryz.prog 202 [b8 c] [] fun v A => v = .bool (tcB c) /\ A = [] := by
 have hlt := c.toNat_lt
 have hi := Uc c
 have hge := ibyte_ge c
 have key : tcB c = (decide (97 <= c.toNat /\ c.toNat <= 122) || (decide (65 <= c.toNat /\ c.toNat <= 90) || (decide (48 <= c.toNat /\ c.toNat <= 57) || sgn_DA.contains c))) := rfl
 rw [key, <- hge]
 rw [show b8 c = .int .u8 (c.toNat : Int) from rfl] at hi ⊢
 obtain ⟨n, hn⟩ : ∃ n : Int, (c.toNat : Int) = n := ⟨_, rfl⟩
 rw [show decide (97 <= c.toNat /\ c.toNat <= 122) = decide (97 <= n /\ n <= 122) from by rw [decide_eq_decide]; omega,
  show decide (65 <= c.toNat /\ c.toNat <= 90) = decide (65 <= n /\ n <= 90) from by rw [decide_eq_decide]; omega,
  show decide (48 <= c.toNat /\ c.toNat <= 57) = decide (48 <= n /\ n <= 57) from by rw [decide_eq_decide]; omega]
 rw [hn] at hi ⊢
 refine eN Tryz.func202 Tryz.ntmps202 Tryz.results202 fun F => ?_
 refine gg ?_
 have sgs : Value.string ⟨#[33, 35, 36, 37, 38, 39, 42, 43, 45, 46, 94, 95, 124, 126, 96]⟩ = .string (str sgn_DA) := rfl
 by_cases b1 : 97 <= n
 ·rw [decide_eq_true b1]
  refine gg ?_
  by_cases d1 : n <= 122
  ·rw [decide_eq_true d1, decide_eq_true (show 97 <= n /\ n <= 122 from ⟨b1, d1⟩)]
   refine gg ?_
   refine zb [] ?_; exact ⟨by simp, rfl⟩
  ·rw [decide_eq_false d1, decide_eq_false (show ¬ (97 <= n /\ n <= 122) by omega)]
   refine gg ?_
   by_cases b2 : 65 <= n
   ·rw [decide_eq_true b2]
    refine gg ?_
    by_cases d2 : n <= 90
    ·rw [decide_eq_true d2, decide_eq_true (show 65 <= n /\ n <= 90 from ⟨b2, d2⟩)]
     refine gg ?_
     refine zb [] ?_; exact ⟨by simp, rfl⟩
    ·rw [decide_eq_false d2, decide_eq_false (show ¬ (65 <= n /\ n <= 90) by omega)]
     refine gg ?_
     by_cases b3 : 48 <= n
     ·rw [decide_eq_true b3]
      refine gg ?_
      by_cases d3 : n <= 57
      ·rw [decide_eq_true d3, decide_eq_true (show 48 <= n /\ n <= 57 from ⟨b3, d3⟩)]
       refine gg ?_
       refine zb [] ?_; exact ⟨by simp, rfl⟩
      ·rw [decide_eq_false d3, decide_eq_false (show ¬ (48 <= n /\ n <= 57) by omega)]
       refine gg ?_
       (try rw [sgs])
       refine cA (hi) ?_; rintro v A ⟨rfl, rfl⟩; refine gA ?_
       refine zb [] ?_; exact ⟨by simp, rfl⟩
     ·rw [decide_eq_false b3, decide_eq_false (show ¬ (48 <= n /\ n <= 57) by omega)]
      refine gg ?_
      (try rw [sgs])
      refine cA (hi) ?_; rintro v A ⟨rfl, rfl⟩; refine gA ?_
      refine zb [] ?_; exact ⟨by simp, rfl⟩
   ·rw [decide_eq_false b2, decide_eq_false (show ¬ (65 <= n /\ n <= 90) by omega)]
    refine gg ?_
    by_cases b3 : 48 <= n
    ·rw [decide_eq_true b3]
     refine gg ?_
     by_cases d3 : n <= 57
     ·rw [decide_eq_true d3, decide_eq_true (show 48 <= n /\ n <= 57 from ⟨b3, d3⟩)]
      refine gg ?_
      refine zb [] ?_; exact ⟨by simp, rfl⟩
     ·rw [decide_eq_false d3, decide_eq_false (show ¬ (48 <= n /\ n <= 57) by omega)]
      refine gg ?_
      (try rw [sgs])
      refine cA (hi) ?_; rintro v A ⟨rfl, rfl⟩; refine gA ?_
      refine zb [] ?_; exact ⟨by simp, rfl⟩
    ·rw [decide_eq_false b3, decide_eq_false (show ¬ (48 <= n /\ n <= 57) by omega)]
     refine gg ?_
     (try rw [sgs])
     refine cA (hi) ?_; rintro v A ⟨rfl, rfl⟩; refine gA ?_
     refine zb [] ?_; exact ⟨by simp, rfl⟩
 ·rw [decide_eq_false b1, decide_eq_false (show ¬ (97 <= n /\ n <= 122) by omega)]
  refine gg ?_
  by_cases b2 : 65 <= n
  ·rw [decide_eq_true b2]
   refine gg ?_
   by_cases d2 : n <= 90
   ·rw [decide_eq_true d2, decide_eq_true (show 65 <= n /\ n <= 90 from ⟨b2, d2⟩)]
    refine gg ?_
    refine zb [] ?_; exact ⟨by simp, rfl⟩
   ·rw [decide_eq_false d2, decide_eq_false (show ¬ (65 <= n /\ n <= 90) by omega)]
    refine gg ?_
    by_cases b3 : 48 <= n
    ·rw [decide_eq_true b3]
     refine gg ?_
     by_cases d3 : n <= 57
     ·rw [decide_eq_true d3, decide_eq_true (show 48 <= n /\ n <= 57 from ⟨b3, d3⟩)]
      refine gg ?_
      refine zb [] ?_; exact ⟨by simp, rfl⟩
     ·rw [decide_eq_false d3, decide_eq_false (show ¬ (48 <= n /\ n <= 57) by omega)]
      refine gg ?_
      (try rw [sgs])
      refine cA (hi) ?_; rintro v A ⟨rfl, rfl⟩; refine gA ?_
      refine zb [] ?_; exact ⟨by simp, rfl⟩
    ·rw [decide_eq_false b3, decide_eq_false (show ¬ (48 <= n /\ n <= 57) by omega)]
     refine gg ?_
     (try rw [sgs])
     refine cA (hi) ?_; rintro v A ⟨rfl, rfl⟩; refine gA ?_
     refine zb [] ?_; exact ⟨by simp, rfl⟩
  ·rw [decide_eq_false b2, decide_eq_false (show ¬ (65 <= n /\ n <= 90) by omega)]
   refine gg ?_
   by_cases b3 : 48 <= n
   ·rw [decide_eq_true b3]
    refine gg ?_
    by_cases d3 : n <= 57
    ·rw [decide_eq_true d3, decide_eq_true (show 48 <= n /\ n <= 57 from ⟨b3, d3⟩)]
     refine gg ?_
     refine zb [] ?_; exact ⟨by simp, rfl⟩
    ·rw [decide_eq_false d3, decide_eq_false (show ¬ (48 <= n /\ n <= 57) by omega)]
     refine gg ?_
     (try rw [sgs])
     refine cA (hi) ?_; rintro v A ⟨rfl, rfl⟩; refine gA ?_
     refine zb [] ?_; exact ⟨by simp, rfl⟩
   ·rw [decide_eq_false b3, decide_eq_false (show ¬ (48 <= n /\ n <= 57) by omega)]
    refine gg ?_
    (try rw [sgs])
    refine cA (hi) ?_; rintro v A ⟨rfl, rfl⟩; refine gA ?_
    refine zb [] ?_; exact ⟨by simp, rfl⟩
end Go.Proofs.YtebikhhoppiapaaGreatDoor
namespace Go.Proofs.YtebikhhoppiapaaGreatDoor
open Go Go.Ost Go.Sha
def nonB (c : UInt8) : Bool := !(decide ((c.toNat : Int) < 33) || (decide ((126 : Int) < (c.toNat : Int)) || ((c.toNat : Int) == 44)))
def XV (s : List UInt8) : Bool := s.all nonB && (decide (1 <= s.length) && decide (s.length <= 40))
theorem xX {p : UInt8 -> Bool} (s : List UInt8) (i : Nat) (h : i < s.length) : (s.take (i + 1)).all p = ((s.take i).all p && p (s.getD i 0)) := by
 rw [List.take_add_one, List.all_append, List.getD_eq_getElem?_getD, List.getElem?_eq_getElem h]
 simp
theorem Zg {p : UInt8 -> Bool} {s : List UInt8} {i : Nat} (h : i < s.length) (hp : p (s.getD i 0) = false) : s.all p = false := by
 rw [List.all_eq_false]
 refine ⟨s.getD i 0, ?_, by rw [hp]; simp⟩
 rw [List.getD_eq_getElem?_getD, List.getElem?_eq_getElem h]
 exact List.getElem_mem h
theorem Va (s : List UInt8) (hs : s.length <= 1000000) : Meets Tryz.prog 137 [.string (str s)] [] fun v A => v = .bool (s.all nonB && (decide (1 <= s.length) && decide (s.length <= 64))) /\ A = [] := by
 refine eN Tryz.func137 Tryz.ntmps137 Tryz.results137 fun F => ?_
 refine gg ?_
 refine zB (fun q D L S => ∃ i : Nat, i <= s.length /\ (s.take i).all nonB = true /\ q = s.length - i /\ D = [] /\ L = [(6, .int .i64 i), (5, .int .i64 s.length), (0, .string (str s))] /\ S = [F])
  ⟨0, by omega, by simp, rfl, rfl, rfl, rfl⟩ ?_
 rintro q D L S ⟨i, hi, hall, rfl, rfl, rfl, rfl⟩
 refine gg ?_
 refine if_d (fun hc => ?_) (fun hc => ?_)
 ·have hil : i < s.length := by omega
  have hnx := xX (p := nonB) s i hil
  have hct := Zg (p := nonB) hil
  have hx := (s.getD i 0).toNat_lt
  refine gg ?_
  cases h1 : decide (((s.getD i 0).toNat : Int) < 33) with
  | true =>
   rw [hct (by simp only [nonB, h1]; rfl)]
   refine gg ?_
   refine zb [] ?_; exact ⟨rfl, rfl⟩
  | false =>
   refine gg ?_
   cases h2 : decide ((126 : Int) < ((s.getD i 0).toNat : Int)) with
   | true =>
    rw [hct (by simp only [nonB, h1, h2]; rfl)]
    refine gg ?_
    refine zb [] ?_; exact ⟨rfl, rfl⟩
   | false =>
    refine gg ?_
    cases h3 : (((s.getD i 0).toNat : Int) == 44) with
    | true =>
     rw [hct (by simp only [nonB, h1, h2, h3]; rfl)]
     refine gg ?_
     refine zb [] ?_; exact ⟨rfl, rfl⟩
    | false =>
     refine gg ?_
     exact zA ⟨i + 1, by omega, by rw [hnx, hall]; simp only [nonB, h1, h2, h3]; rfl, rfl, rfl, rfl, rfl⟩
 ·obtain rfl : i = s.length := by omega
  rw [List.take_length] at hall
  rw [hall]
  refine gg ?_
  have e : decide ((s.length : Int) <= 64) = decide (s.length <= 64) := by
   by_cases h : s.length <= 64
   ·rw [decide_eq_true h, decide_eq_true (by omega)]
   ·rw [decide_eq_false h, decide_eq_false (by omega)]
  by_cases h : s = []
  ·subst h
   rw [bne_self_eq_false]
   refine gg ?_
   refine zb [] ?_; exact ⟨rfl, rfl⟩
  ·have hp : 0 < s.length := List.length_pos_iff.2 h
   rw [bne_iff_ne.2 h]
   refine gg ?_
   rw [decide_eq_true (show 1 <= s.length by omega), <- e]
   refine zb [] ?_; exact ⟨rfl, rfl⟩
theorem Un (s : List UInt8) (hs : s.length <= 1000000) : Meets Tryz.prog 93 [.string (str s)] [] fun v A => v = .bool (XV s) /\ A = [] := by
 have key : XV s = ((s.all nonB && (decide (1 <= s.length) && decide (s.length <= 64))) && decide ((s.length : Int) <= 40)) := by
  unfold XV
  by_cases h : s.length <= 40
  ·rw [decide_eq_true h, decide_eq_true (show s.length <= 64 by omega), decide_eq_true (show (s.length : Int) <= 40 by omega), Bool.and_true, Bool.and_true]
  ·rw [decide_eq_false h, decide_eq_false (show ¬ (s.length : Int) <= 40 by omega), Bool.and_false, Bool.and_false, Bool.and_false]
 have hn := Va s hs
 rw [key]
 cases hB : (s.all nonB && (decide (1 <= s.length) && decide (s.length <= 64))) with
 | false =>
  rw [hB] at hn
  refine eN Tryz.func93 Tryz.ntmps93 Tryz.results93 fun F => ?_
  refine gg ?_
  refine cA (hn) ?_; rintro v A ⟨rfl, rfl⟩; refine gA ?_
  refine zb [] ?_; exact ⟨rfl, rfl⟩
 | true =>
  rw [hB] at hn
  refine eN Tryz.func93 Tryz.ntmps93 Tryz.results93 fun F => ?_
  refine gg ?_
  refine cA (hn) ?_; rintro v A ⟨rfl, rfl⟩; refine gA ?_
  refine zb [] ?_; exact ⟨rfl, rfl⟩
theorem getD_mid (d h : List UInt8) (k : Nat) : (d ++ (46 : UInt8) :: h).getD k 0 = if k < d.length then d.getD k 0 else if k = d.length then 46 else h.getD (k - d.length - 1) 0 := by
 simp only [List.getD_eq_getElem?_getD]
 by_cases h1 : k < d.length
 ·rw [if_pos h1, List.getElem?_append_left h1]
 ·rw [if_neg h1, List.getElem?_append_right (by omega)]
  by_cases h2 : k = d.length
  ·rw [if_pos h2, h2]; simp
  ·rw [if_neg h2, show k - d.length = (k - d.length - 1) + 1 from by omega]; simp
theorem XM (d h : List UInt8) (hd : d.length <= 1000000) (hl : h.length <= 1000000) (hh : ∀ c ∈ h, c ≠ 46) : Meets Tryz.prog 194 [.string (str (d ++ 46 :: h)), .int .u8 46] [] fun v A => v = .int .i64 d.length /\ A = [] := by
 obtain ⟨s, hs⟩ : ∃ s, d ++ (46 : UInt8) :: h = s := ⟨_, rfl⟩
 have hsl : s.length = d.length + h.length + 1 := by rw [<- hs]; simp; omega
 have hg := getD_mid d h
 rw [hs] at hg ⊢
 refine eN Tryz.func194 Tryz.ntmps194 Tryz.results194 fun F => ?_
 refine gg ?_
 rw [show ((s.length : Int) - 1) = ((s.length - 1 : Nat) : Int) from by omega]
 refine zB (fun q D L S => ∃ k : Nat, d.length <= k /\ k < s.length /\ q = k + 1 /\ D = [] /\ L = [(5, .int .i64 k), (0, .string (str s)), (1, .int .u8 46)] /\ S = [F])
  ⟨s.length - 1, by omega, by omega, rfl, rfl, rfl, rfl⟩ ?_
 rintro q D L S ⟨k, hk1, hk2, rfl, rfl, rfl, rfl⟩
 refine gg ?_
 rw [decide_eq_true (show (0 : Int) <= k by omega)]
 refine gg ?_
 rw [show (b8 (s.getD k 0)) = .int .u8 (s.getD k 0).toNat from rfl]
 by_cases h2 : k = d.length
 ·have e : s.getD k 0 = 46 := by rw [hg, if_neg (by omega), if_pos h2]
  rw [e]
  refine gg ?_
  subst h2
  refine zb [] ?_; exact ⟨rfl, rfl⟩
 ·have e : s.getD k 0 ≠ 46 := by
   rw [hg, if_neg (by omega), if_neg h2]
   refine hh _ ?_
   rw [List.getD_eq_getElem?_getD, List.getElem?_eq_getElem (by omega)]
   exact List.getElem_mem _
  have e2 : (((s.getD k 0).toNat : Int) == 46) = false := beq_eq_false_iff_ne.2 (fun h => e (UInt8.toNat_inj.1 (by rw [show (46 : UInt8).toNat = 46 from rfl]; omega)))
  refine gg ?_
  rw [e2]
  refine gg ?_
  rw [show ((k : Int) - 1) = ((k - 1 : Nat) : Int) from by omega]
  exact zA ⟨k - 1, by omega, by omega, rfl, rfl, rfl, rfl⟩
theorem JT (d h : List UInt8) (hd : d.length <= 1000000) (hl : h.length <= 1000000) (hh : ∀ c ∈ h, c ≠ 46) : Meets Tryz.prog 140 [.string (str (d ++ 46 :: h)), .string (str [46])] [] fun v A => v = .int .i64 d.length /\ A = [] := by
 refine eN Tryz.func140 Tryz.ntmps140 Tryz.results140 fun F => ?_
 refine gg ?_
 refine ze fun K hK => ?_; rw [sidx (by decide) (by decide)]; refine hK _ _ ?_; clear hK K
 refine gg ?_
 refine cA (XM d h hd hl hh) ?_; rintro v A ⟨rfl, rfl⟩; refine gA ?_
 refine zb [] ?_; exact ⟨rfl, rfl⟩
theorem Uo (d h : List UInt8) (hd : d.length <= 1000000) (hl : h.length <= 1000000) (hh : ∀ c ∈ h, c ≠ 46) : Meets Tryz.prog 95 [.string (str (d ++ 46 :: h))] [] fun v A => v = .string (str d) /\ A = [] := by
 have hz : (d ++ (46 : UInt8) :: h).length = d.length + h.length + 1 := by simp; omega
 refine eN Tryz.func95 Tryz.ntmps95 Tryz.results95 fun F => ?_
 refine gg ?_
 refine cA (JT d h hd hl hh) ?_; rintro v A ⟨rfl, rfl⟩; refine gA ?_
 refine gg ?_
 rw [List.take_left' rfl]
 refine zb [] ?_; exact ⟨rfl, rfl⟩
def hx (n : Nat) : List UInt8 := hex (be 8 n)
theorem Iy (n : Nat) : (hx n).length = 16 := by unfold hx; rw [hex_len, xZ]
theorem Vh (n : Nat) (hn : n < 18446744073709551616) : Meets Tryz.prog 97 [.int .u64 n] [] fun v A => v = .string (str (hx n)) /\ A = [] := by
 refine eN Tryz.func97 Tryz.ntmps97 Tryz.results97 fun F => ?_
 refine gg ?_
 refine ze fun K hK => ?_; refine Ik (n := 8) (by decide) (fun b1 C1 ho1 => ?_); refine hK _ _ ?_; clear hK K
 refine gg ?_
 refine zB (fun q D L S => ∃ (i : Nat) (C : Chunk), i <= 8 /\ Own8 5 C (some ⟨b1, 0, none⟩) 8 8 ((be 8 n).take i ++ List.replicate (8 - i) 0) /\ q = 8 - i /\ D = [] /\
  L = [(8, .int .i64 i), (7, .int .i64 8), (3, .slice (some ⟨b1, 0, none⟩) 8 8), (0, .int .u64 n)] /\ S = [C, F])
  ⟨0, C1, by omega, ho1, rfl, rfl, rfl, rfl⟩ ?_
 rintro q D L S ⟨i, C, hi, ho, rfl, rfl, rfl, rfl⟩
 refine gg ?_
 refine if_d (fun hc => ?_) (fun hc => ?_)
 ·have hi8 : i < 8 := by omega
  have hl : ((be 8 n).take i).length = i := by rw [List.length_take, xZ]; omega
  have hset : ((be 8 n).take i ++ List.replicate (8 - i) 0).set i (UInt8.ofNat (n / 256 ^ (8 - 1 - i))) = (be 8 n).take (i + 1) ++ List.replicate (8 - (i + 1)) 0 := by
   rw [be_next 8 n i hi8, show 8 - i = (8 - (i + 1)) + 1 from by omega, List.replicate_succ, List.set_append_right _ _ (by omega), hl, Nat.sub_self, List.set_cons_zero, List.append_assoc]; rfl
  have e1 : Value.int .u8 (IntKind.u8.wrap ((n : Int) / 2 ^ (8 * ((7 : Int) - i)).toNat)) = b8 (UInt8.ofNat (n / 256 ^ (8 - 1 - i))) := by
   rw [show (8 * ((7 : Int) - i)).toNat = 8 * (8 - 1 - i) from by omega, shift8, jZ]; rfl
  have e2 : (⟨b1, 0 + i * 1, none⟩ : Addr) = elA (some ⟨b1, 0, none⟩) i := by
   simp only [elA, Option.getD_some, add_mk]; congr 1; omega
  refine gg ?_
  refine ze fun K hK => ?_; rw [e1, e2]; refine jX ho pkA (by simp [xZ]; omega) (fun C2 ho2 => ?_); refine hK _ _ ?_; clear hK K
  rw [hset] at ho2
  refine gg ?_
  exact zA ⟨i + 1, C2, by omega, ho2, rfl, rfl, rfl, rfl⟩
 ·obtain rfl : i = 8 := by omega
  rw [show (be 8 n).take 8 ++ List.replicate (8 - 8) 0 = be 8 n from by rw [List.take_of_length_le (by rw [xZ]; omega)]; simp] at ho
  have hb := wm C (some ⟨b1, 0, none⟩) 8 (be 8 n) (by rw [xZ]; decide) (by rw [xZ]; exact ho.rd (by simp))
  rw [xZ] at hb
  refine gg ?_
  refine cA (hb) ?_; rintro v A ⟨rfl, rfl⟩; refine gA ?_
  refine zb [] ?_; exact ⟨rfl, rfl⟩
end Go.Proofs.YtebikhhoppiapaaGreatDoor
namespace Go.Proofs.YtebikhhoppiapaaGreatDoor
open Go Go.Ost
theorem beq_n (c k : UInt8) : (c == k) = decide ((c.toNat : Int) = (k.toNat : Int)) := by
 rw [Bool.eq_iff_iff, beq_iff_eq, decide_eq_true_eq]
 constructor
 ·rintro rfl; rfl
 ·intro h; exact UInt8.toNat_inj.1 (by omega)
def sgN (n : Int) : Bool := decide (n = 33) || (decide (n = 35) || (decide (n = 36) || (decide (n = 37) || (decide (n = 38) || (decide (n = 39) || (decide (n = 42) || (decide (n = 43) || (decide (n = 45) || (decide (n = 46) || (decide (n = 94) || (decide (n = 95) || (decide (n = 124) || (decide (n = 126) || (decide (n = 96)))))))))))))))
theorem sgn_has (c : UInt8) : sgn_DA.contains c = sgN c.toNat := by
 simp only [sgn_DA, List.contains_cons, List.contains_nil, Bool.or_false, beq_n]; rfl
def tcN (n : Int) : Bool := decide (97 <= n /\ n <= 122) || (decide (65 <= n /\ n <= 90) || (decide (48 <= n /\ n <= 57) || sgN n))
theorem tc_n (c : UInt8) : tcB c = tcN c.toNat := by
 unfold tcB tcN
 rw [sgn_has]
 rw [show decide (97 <= c.toNat /\ c.toNat <= 122) = decide (97 <= (c.toNat : Int) /\ (c.toNat : Int) <= 122) from by rw [decide_eq_decide]; omega,
  show decide (65 <= c.toNat /\ c.toNat <= 90) = decide (65 <= (c.toNat : Int) /\ (c.toNat : Int) <= 90) from by rw [decide_eq_decide]; omega,
  show decide (48 <= c.toNat /\ c.toNat <= 57) = decide (48 <= (c.toNat : Int) /\ (c.toNat : Int) <= 57) from by rw [decide_eq_decide]; omega]
theorem rtchar_n (n : Int) (h0 : 0 <= n) (h1 : n < 256) : Meets Tryz.prog 166 [.int .u8 n] [] fun v A => v = .bool (tcN n) /\ A = [] := by
 unfold tcN
 refine eN Tryz.func166 Tryz.ntmps166 Tryz.results166 fun F => ?_
 (with_reducible refine xb ?_); refine zZ (fun D L S => D = [] /\ L = [(0, .int .u8 n)] /\ S = [F]) ?_ ?_
 ·refine gg ?_
  exact mid ⟨rfl, rfl, rfl⟩
 rintro D L S ⟨rfl, rfl, rfl⟩
 (with_reducible refine xb ?_); refine zZ (fun D L S => ¬ (97 <= n /\ n <= 122) /\ ¬ (65 <= n /\ n <= 90) /\ ¬ (48 <= n /\ n <= 57) /\ D = [] /\ L = [(0, .int .u8 n)] /\ S = [F]) ?_ ?_
 ·refine gg ?_
  by_cases b1 : 97 <= n
  ·rw [decide_eq_true b1]
   refine gg ?_
   by_cases d1 : n <= 122
   ·rw [decide_eq_true d1, decide_eq_true (show 97 <= n /\ n <= 122 from ⟨b1, d1⟩)]
    refine gg ?_
    refine zb [] ?_; exact ⟨by simp, rfl⟩
   ·rw [decide_eq_false d1]
    refine gg ?_
    rw [decide_eq_true (show 65 <= n by omega)]
    refine gg ?_
    rw [decide_eq_false (show ¬ n <= 90 by omega)]
    refine gg ?_
    rw [decide_eq_true (show 48 <= n by omega)]
    refine gg ?_
    rw [decide_eq_false (show ¬ n <= 57 by omega)]
    refine gg ?_
    exact mid ⟨by omega, by omega, by omega, rfl, rfl, rfl⟩
  ·rw [decide_eq_false b1]
   refine gg ?_
   by_cases b2 : 65 <= n
   ·rw [decide_eq_true b2]
    refine gg ?_
    by_cases d2 : n <= 90
    ·rw [decide_eq_true d2, decide_eq_true (show 65 <= n /\ n <= 90 from ⟨b2, d2⟩)]
     refine gg ?_
     refine zb [] ?_; exact ⟨by simp, rfl⟩
    ·rw [decide_eq_false d2]
     refine gg ?_
     rw [decide_eq_true (show 48 <= n by omega)]
     refine gg ?_
     rw [decide_eq_false (show ¬ n <= 57 by omega)]
     refine gg ?_
     exact mid ⟨by omega, by omega, by omega, rfl, rfl, rfl⟩
   ·rw [decide_eq_false b2]
    refine gg ?_
    by_cases b3 : 48 <= n
    ·rw [decide_eq_true b3]
     refine gg ?_
     by_cases d3 : n <= 57
     ·rw [decide_eq_true d3, decide_eq_true (show 48 <= n /\ n <= 57 from ⟨b3, d3⟩)]
      refine gg ?_
      refine zb [] ?_; exact ⟨by simp, rfl⟩
     ·rw [decide_eq_false d3]
      refine gg ?_
      exact mid ⟨by omega, by omega, by omega, rfl, rfl, rfl⟩
    ·rw [decide_eq_false b3]
     refine gg ?_
     exact mid ⟨by omega, by omega, by omega, rfl, rfl, rfl⟩
 rintro D L S ⟨a1, a2, a3, rfl, rfl, rfl⟩
 rw [decide_eq_false a1, decide_eq_false a2, decide_eq_false a3]
 unfold sgN
 refine gg ?_
 refine if_b (fun hc => ?_) (fun hc => ?_)
 ·refine gg ?_
  (try rw [beq_iff_eq.2 hc])
  (try refine gg ?_)
  refine zb [] ?_; exact ⟨by simp [hc], rfl⟩
 ·have hc0 := hc
  refine gg ?_
  refine if_b (fun hc => ?_) (fun hc => ?_)
  ·refine gg ?_
   (try rw [beq_iff_eq.2 hc])
   (try refine gg ?_)
   refine zb [] ?_; exact ⟨by simp [hc], rfl⟩
  ·have hc1 := hc
   refine gg ?_
   refine if_b (fun hc => ?_) (fun hc => ?_)
   ·refine gg ?_
    (try rw [beq_iff_eq.2 hc])
    (try refine gg ?_)
    refine zb [] ?_; exact ⟨by simp [hc], rfl⟩
   ·have hc2 := hc
    refine gg ?_
    refine if_b (fun hc => ?_) (fun hc => ?_)
    ·refine gg ?_
     (try rw [beq_iff_eq.2 hc])
     (try refine gg ?_)
     refine zb [] ?_; exact ⟨by simp [hc], rfl⟩
    ·have hc3 := hc
     refine gg ?_
     refine if_b (fun hc => ?_) (fun hc => ?_)
     ·refine gg ?_
      (try rw [beq_iff_eq.2 hc])
      (try refine gg ?_)
      refine zb [] ?_; exact ⟨by simp [hc], rfl⟩
     ·have hc4 := hc
      refine gg ?_
      refine if_b (fun hc => ?_) (fun hc => ?_)
      ·refine gg ?_
       (try rw [beq_iff_eq.2 hc])
       (try refine gg ?_)
       refine zb [] ?_; exact ⟨by simp [hc], rfl⟩
      ·have hc5 := hc
       refine gg ?_
       refine if_b (fun hc => ?_) (fun hc => ?_)
       ·refine gg ?_
        (try rw [beq_iff_eq.2 hc])
        (try refine gg ?_)
        refine zb [] ?_; exact ⟨by simp [hc], rfl⟩
       ·have hc6 := hc
        refine gg ?_
        refine if_b (fun hc => ?_) (fun hc => ?_)
        ·refine gg ?_
         (try rw [beq_iff_eq.2 hc])
         (try refine gg ?_)
         refine zb [] ?_; exact ⟨by simp [hc], rfl⟩
        ·have hc7 := hc
         refine gg ?_
         refine if_b (fun hc => ?_) (fun hc => ?_)
         ·refine gg ?_
          (try rw [beq_iff_eq.2 hc])
          (try refine gg ?_)
          refine zb [] ?_; exact ⟨by simp [hc], rfl⟩
         ·have hc8 := hc
          refine gg ?_
          refine if_b (fun hc => ?_) (fun hc => ?_)
          ·refine gg ?_
           (try rw [beq_iff_eq.2 hc])
           (try refine gg ?_)
           refine zb [] ?_; exact ⟨by simp [hc], rfl⟩
          ·have hc9 := hc
           refine gg ?_
           refine if_b (fun hc => ?_) (fun hc => ?_)
           ·refine gg ?_
            (try rw [beq_iff_eq.2 hc])
            (try refine gg ?_)
            refine zb [] ?_; exact ⟨by simp [hc], rfl⟩
           ·have hc10 := hc
            refine gg ?_
            refine if_b (fun hc => ?_) (fun hc => ?_)
            ·refine gg ?_
             (try rw [beq_iff_eq.2 hc])
             (try refine gg ?_)
             refine zb [] ?_; exact ⟨by simp [hc], rfl⟩
            ·have hc11 := hc
             refine gg ?_
             refine if_b (fun hc => ?_) (fun hc => ?_)
             ·refine gg ?_
              (try rw [beq_iff_eq.2 hc])
              (try refine gg ?_)
              refine zb [] ?_; exact ⟨by simp [hc], rfl⟩
             ·have hc12 := hc
              refine gg ?_
              refine if_b (fun hc => ?_) (fun hc => ?_)
              ·refine gg ?_
               (try rw [beq_iff_eq.2 hc])
               (try refine gg ?_)
               refine zb [] ?_; exact ⟨by simp [hc], rfl⟩
              ·have hc13 := hc
               refine gg ?_
               refine if_b (fun hc => ?_) (fun hc => ?_)
               ·refine gg ?_
                (try rw [beq_iff_eq.2 hc])
                (try refine gg ?_)
                refine zb [] ?_; exact ⟨by simp [hc], rfl⟩
               ·have hc14 := hc
                refine gg ?_
                refine zb [] ?_; exact ⟨by simp [hc0, hc1, hc2, hc3, hc4, hc5, hc6, hc7, hc8, hc9, hc10, hc11, hc12, hc13, hc14], rfl⟩
theorem Vk (c : UInt8) : Meets Tryz.prog 166 [b8 c] [] fun v A => v = .bool (tcB c) /\ A = [] := by
 have := c.toNat_lt
 have h := rtchar_n c.toNat (by omega) (by omega)
 rw [<- tc_n] at h
 exact h
def tokB (s : List UInt8) : Bool := s.all tcB && decide (1 <= s.length)
theorem Zt (s : List UInt8) (hs : s.length <= 1000000) : Meets Tryz.prog 147 [.string (str s)] [] fun v A => v = .bool (tokB s) /\ A = [] := by
 unfold tokB
 refine eN Tryz.func147 Tryz.ntmps147 Tryz.results147 fun F => ?_
 refine gg ?_
 refine zB (fun q D L S => ∃ i : Nat, i <= s.length /\ (s.take i).all tcB = true /\ q = s.length - i /\ D = [] /\ L = [(6, .int .i64 i), (5, .int .i64 s.length), (0, .string (str s))] /\ S = [F])
  ⟨0, by omega, by simp, rfl, rfl, rfl, rfl⟩ ?_
 rintro q D L S ⟨i, hi, hall, rfl, rfl, rfl, rfl⟩
 refine gg ?_
 refine if_d (fun hc => ?_) (fun hc => ?_)
 ·have hil : i < s.length := by omega
  have hnx := xX (p := tcB) s i hil
  have hct := Zg (p := tcB) hil
  refine gg ?_
  refine cA (Zu (s.getD i 0)) ?_; rintro v A ⟨rfl, rfl⟩; refine gA ?_
  cases h1 : tcB (s.getD i 0) with
  | false =>
   rw [hct h1]
   refine gg ?_
   refine zb [] ?_; exact ⟨rfl, rfl⟩
  | true =>
   refine gg ?_
   exact zA ⟨i + 1, by omega, by rw [hnx, hall, h1]; rfl, rfl, rfl, rfl, rfl⟩
 ·obtain rfl : i = s.length := by omega
  rw [List.take_length] at hall
  rw [hall]
  refine gg ?_
  by_cases h : s = []
  ·subst h
   rw [bne_self_eq_false]
   refine gg ?_
   refine zb [] ?_; exact ⟨rfl, rfl⟩
  ·have hp : 0 < s.length := List.length_pos_iff.2 h
   rw [bne_iff_ne.2 h, decide_eq_true (show 1 <= s.length by omega)]
   refine gg ?_
   refine zb [] ?_; exact ⟨rfl, rfl⟩
theorem yu (s : List UInt8) (hs : s.length <= 1000000) : Meets Tryz.prog 122 [.string (str s)] [] fun v A => v = .bool (tokB s) /\ A = [] := by
 unfold tokB
 refine eN Tryz.func122 Tryz.ntmps122 Tryz.results122 fun F => ?_
 refine gg ?_
 refine zB (fun q D L S => ∃ i : Nat, i <= s.length /\ (s.take i).all tcB = true /\ q = s.length - i /\ D = [] /\ L = [(3, .int .i64 i), (0, .string (str s))] /\ S = [F])
  ⟨0, by omega, by simp, rfl, rfl, rfl, rfl⟩ ?_
 rintro q D L S ⟨i, hi, hall, rfl, rfl, rfl, rfl⟩
 refine gg ?_
 refine if_d (fun hc => ?_) (fun hc => ?_)
 ·have hil : i < s.length := by omega
  have hnx := xX (p := tcB) s i hil
  have hct := Zg (p := tcB) hil
  refine gg ?_
  refine cA (Vk (s.getD i 0)) ?_; rintro v A ⟨rfl, rfl⟩; refine gA ?_
  cases h1 : tcB (s.getD i 0) with
  | false =>
   rw [hct h1]
   refine gg ?_
   refine zb [] ?_; exact ⟨rfl, rfl⟩
  | true =>
   refine gg ?_
   exact zA ⟨i + 1, by omega, by rw [hnx, hall, h1]; rfl, rfl, rfl, rfl, rfl⟩
 ·obtain rfl : i = s.length := by omega
  rw [List.take_length] at hall
  rw [hall]
  refine gg ?_
  have e : decide ((0 : Int) < s.length) = decide (1 <= s.length) := by rw [decide_eq_decide]; omega
  rw [e]
  refine zb [] ?_; exact ⟨rfl, rfl⟩
def inB (c : UInt8) : Bool := decide ((c.toNat : Int) = 9) || (decide (32 <= (c.toNat : Int)) && decide ((c.toNat : Int) ≠ 127))
theorem ky (c : UInt8) : Meets Tryz.prog 203 [b8 c] [] fun v A => v = .bool (inB c) /\ A = [] := by
 have hlt := c.toNat_lt
 unfold inB
 rw [show b8 c = .int .u8 (c.toNat : Int) from rfl]
 obtain ⟨n, hn⟩ : ∃ n : Int, (c.toNat : Int) = n := ⟨_, rfl⟩
 have h1 : n < 256 := by omega
 rw [hn]
 refine eN Tryz.func203 Tryz.ntmps203 Tryz.results203 fun F => ?_
 refine gg ?_
 by_cases h9 : n = 9
 ·subst h9
  refine gg ?_
  refine zb [] ?_; exact ⟨by simp, rfl⟩
 ·rw [beq_eq_false_iff_ne.2 h9]
  refine gg ?_
  by_cases h32 : 32 <= n
  ·rw [decide_eq_true h32]
   refine gg ?_
   by_cases h126 : n <= 126
   ·rw [decide_eq_true h126]
    refine gg ?_
    refine zb [] ?_; exact ⟨by simp [h9, h32]; omega, rfl⟩
   ·rw [decide_eq_false h126]
    refine gg ?_
    by_cases h127 : n = 127
    ·subst h127
     refine gg ?_
     refine zb [] ?_; exact ⟨by simp, rfl⟩
    ·rw [decide_eq_true (show 128 <= n by omega)]
     refine gg ?_
     refine zb [] ?_; exact ⟨by simp [h9, h32, h127], rfl⟩
  ·rw [decide_eq_false h32]
   refine gg ?_
   rw [decide_eq_false (show ¬ 128 <= n by omega)]
   refine gg ?_
   refine zb [] ?_; exact ⟨by simp [h9, h32], rfl⟩
theorem may_spec (c : UInt8) : Meets Tryz.prog 165 [b8 c] [] fun v A => v = .bool (inB c) /\ A = [] := by
 have hlt := c.toNat_lt
 unfold inB
 rw [show b8 c = .int .u8 (c.toNat : Int) from rfl]
 obtain ⟨n, hn⟩ : ∃ n : Int, (c.toNat : Int) = n := ⟨_, rfl⟩
 have h1 : n < 256 := by omega
 rw [hn]
 refine eN Tryz.func165 Tryz.ntmps165 Tryz.results165 fun F => ?_
 refine gg ?_
 by_cases h9 : n = 9
 ·subst h9
  refine gg ?_
  refine zb [] ?_; exact ⟨by simp, rfl⟩
 ·rw [beq_eq_false_iff_ne.2 h9]
  refine gg ?_
  by_cases h32 : 32 <= n
  ·rw [decide_eq_true h32]
   refine gg ?_
   by_cases h127 : n = 127
   ·subst h127
    refine gg ?_
    refine zb [] ?_; exact ⟨by simp, rfl⟩
   ·rw [bne_iff_ne.2 h127]
    refine gg ?_
    refine zb [] ?_; exact ⟨by simp [h9, h32, h127], rfl⟩
  ·rw [decide_eq_false h32]
   refine gg ?_
   refine zb [] ?_; exact ⟨by simp [h9, h32], rfl⟩
def xj (c : UInt8) : List UInt8 := if c = 34 ∨ c = 92 then [92, c] else [c]
def quo (s : List UInt8) : List UInt8 := 34 :: (s.flatMap xj ++ [34])
def quoE (s : List UInt8) : List UInt8 × Bool := if s.all inB then (quo s, true) else ([], false)
theorem WY (s : List UInt8) (i : Nat) (h : i < s.length) : (s.take (i + 1)).flatMap xj = (s.take i).flatMap xj ++ xj (s.getD i 0) := by
 rw [List.take_add_one, List.flatMap_append, List.getD_eq_getElem?_getD, List.getElem?_eq_getElem h]
 simp
theorem wF (s : List UInt8) : (s.flatMap xj).length <= 2 * s.length := by
 induction s with
 | nil => simp
 | cons c s ih =>
  rw [List.flatMap_cons, List.length_append, List.length_cons]
  have : (xj c).length <= 2 := by unfold xj; split <;> simp
  omega
theorem YJ (s : List UInt8) (hs : s.length <= 100000) : Meets Tryz.prog 148 [.string (str s)] [] fun v A => v = .tuple #[.string (str (quoE s).1), .bool (quoE s).2] /\ A = [] := by
 have h34 : Value.int .u8 34 = b8 34 := rfl
 have h92 : Value.int .u8 92 = b8 92 := rfl
 unfold quoE
 refine eN Tryz.func148 Tryz.ntmps148 Tryz.results148 fun F => ?_
 refine gg ?_
 refine ze fun K hK => ?_; refine zv fun b4 => ?_; (try simp only [Value.cells]); refine hK _ _ ?_; clear hK K
 refine zE ?_
 refine gg ?_
 have hw := xR (Bd.new b4) (by simp) 34
 rw [List.length_nil] at hw
 rw [h34]
 refine cA (hw) ?_; rintro v A ⟨rfl, p1, a1, cap1, X1, hB1, rfl⟩; refine gA ?_
 refine zB (fun q D L S => ∃ (i : Nat) (p a' : Option Addr) (cap' : Nat) (X : Chunk), i <= s.length /\ (s.take i).all inB = true /\ Bd b4 (34 :: (s.take i).flatMap xj) p a' cap' X /\ q = s.length - i /\ D = [] /\
  L = [(9, .int .i64 i), (8, .int .i64 s.length), (4, .pointer (some ⟨b4, 0, none⟩)), (0, .string (str s))] /\ S = [bdB b4 p a' (34 :: (s.take i).flatMap xj).length cap', X, F])
  ⟨0, p1, a1, cap1, X1, by omega, by simp, hB1, rfl, rfl, rfl, rfl⟩ ?_
 rintro q D L S ⟨i, p, a', cap', X, hi, hall, hB, rfl, rfl, rfl, rfl⟩
 have hel := wF (s.take i)
 rw [List.length_take] at hel
 refine gg ?_
 refine if_d (fun hc => ?_) (fun hc => ?_)
 ·have hil : i < s.length := by omega
  have hnx := xX (p := inB) s i hil
  have hct := Zg (p := inB) hil
  have hen := WY s i hil
  have hlt := (s.getD i 0).toNat_lt
  refine gg ?_
  refine cA (ky (s.getD i 0)) ?_; rintro v A ⟨rfl, rfl⟩; refine gA ?_
  cases h1 : inB (s.getD i 0) with
  | false =>
   rw [hct h1]
   refine gg ?_
   refine zf (vs := [.string (str []), .bool false]) [] ⟨rfl, rfl⟩
  | true =>
   refine gg ?_
   by_cases e1 : s.getD i 0 = 34
   ·have hes : xj (s.getD i 0) = [92, s.getD i 0] := if_pos (.inl e1)
    rw [beq_iff_eq.2 e1]
    refine gg ?_
    rw [h92]
    refine cA (xR hB (by rw [List.length_cons]; omega) 92) ?_; rintro v A ⟨rfl, p2, a2, cap2, X2, hB2, rfl⟩; refine gA ?_
    rw [List.cons_append] at hB2
    refine cA (xR hB2 (by rw [List.length_cons, List.length_append, List.length_singleton]; omega) (s.getD i 0)) ?_; rintro v A ⟨rfl, p3, a3, cap3, X3, hB3, rfl⟩; refine gA ?_
    rw [List.cons_append] at hB3
    rw [show 34 :: ((s.take i).flatMap xj ++ [92] ++ [s.getD i 0]) = 34 :: (s.take (i + 1)).flatMap xj from by rw [hen, hes]; simp] at hB3 ⊢
    exact zA ⟨i + 1, p3, a3, cap3, X3, by omega, by rw [hnx, hall, h1]; rfl, hB3, rfl, rfl, rfl, rfl⟩
   ·rw [beq_eq_false_iff_ne.2 e1]
    refine gg ?_
    by_cases e2 : s.getD i 0 = 92
    ·have hes : xj (s.getD i 0) = [92, s.getD i 0] := if_pos (.inr e2)
     rw [beq_iff_eq.2 (show ((s.getD i 0).toNat : Int) = 92 by rw [e2]; rfl)]
     refine gg ?_
     rw [h92]
     refine cA (xR hB (by rw [List.length_cons]; omega) 92) ?_; rintro v A ⟨rfl, p2, a2, cap2, X2, hB2, rfl⟩; refine gA ?_
     rw [List.cons_append] at hB2
     refine cA (xR hB2 (by rw [List.length_cons, List.length_append, List.length_singleton]; omega) (s.getD i 0)) ?_; rintro v A ⟨rfl, p3, a3, cap3, X3, hB3, rfl⟩; refine gA ?_
     rw [List.cons_append] at hB3
     rw [show 34 :: ((s.take i).flatMap xj ++ [92] ++ [s.getD i 0]) = 34 :: (s.take (i + 1)).flatMap xj from by rw [hen, hes]; simp] at hB3 ⊢
     exact zA ⟨i + 1, p3, a3, cap3, X3, by omega, by rw [hnx, hall, h1]; rfl, hB3, rfl, rfl, rfl, rfl⟩
    ·have hes : xj (s.getD i 0) = [s.getD i 0] := if_neg (fun h => by
      rcases h with h | h
      ·exact e1 h
      ·exact e2 h)
     rw [beq_eq_false_iff_ne.2 (show ((s.getD i 0).toNat : Int) ≠ 92 from fun h => e2 (UInt8.toNat_inj.1 (show (s.getD i 0).toNat = 92 by omega)))]
     refine gg ?_
     refine cA (xR hB (by rw [List.length_cons]; omega) (s.getD i 0)) ?_; rintro v A ⟨rfl, p3, a3, cap3, X3, hB3, rfl⟩; refine gA ?_
     rw [List.cons_append] at hB3
     rw [show 34 :: ((s.take i).flatMap xj ++ [s.getD i 0]) = 34 :: (s.take (i + 1)).flatMap xj from by rw [hen, hes]] at hB3 ⊢
     exact zA ⟨i + 1, p3, a3, cap3, X3, by omega, by rw [hnx, hall, h1]; rfl, hB3, rfl, rfl, rfl, rfl⟩
 ·obtain rfl : i = s.length := by omega
  rw [List.take_length] at hall hB hel ⊢
  rw [hall, if_pos rfl]
  refine gg ?_
  have hw3 := xR hB (by rw [List.length_cons]; omega) 34
  rw [<- h34] at hw3
  refine cA (hw3) ?_; rintro v A ⟨rfl, p3, a3, cap3, X3, hB3, rfl⟩; refine gA ?_
  rw [List.cons_append] at hB3
  rw [show 34 :: (s.flatMap xj ++ [34]) = quo s from rfl] at hB3 ⊢
  refine cA (vJ hB3 (by unfold quo; rw [List.length_cons, List.length_append, List.length_singleton]; omega)) ?_; rintro v A ⟨rfl, rfl⟩; refine gA ?_
  refine zf (vs := [.string (str (quo s)), .bool true]) [] ⟨rfl, rfl⟩
theorem cut_one (s : List UInt8) (i : Nat) (h : i < s.length) : (s.take ((i : Int) + 1).toNat).drop i = [s.getD i 0] := by
 rw [show ((i : Int) + 1).toNat = i + 1 from by omega, List.drop_take, show i + 1 - i = 1 from by omega]
 rw [List.drop_eq_getElem_cons h, List.getD_eq_getElem?_getD, List.getElem?_eq_getElem h]; rfl
theorem Vn (s : List UInt8) (hs : s.length <= 100000) : Meets Tryz.prog 121 [.string (str s)] [] fun v A => v = .tuple #[.string (str (quoE s).1), .bool (quoE s).2] /\ A = [] := by
 have s34 : Value.string ⟨#[34]⟩ = .string (str [34]) := rfl
 have s92 : Value.string ⟨#[92]⟩ = .string (str [92]) := rfl
 unfold quoE
 refine eN Tryz.func121 Tryz.ntmps121 Tryz.results121 fun F => ?_
 refine gg ?_
 rw [s34]
 refine zB (fun q D L S => ∃ i : Nat, i <= s.length /\ (s.take i).all inB = true /\ q = s.length - i /\ D = [] /\ L = [(5, .int .i64 i), (4, .string (str (34 :: (s.take i).flatMap xj))), (0, .string (str s))] /\ S = [F])
  ⟨0, by omega, by simp, rfl, rfl, rfl, rfl⟩ ?_
 rintro q D L S ⟨i, hi, hall, rfl, rfl, rfl, rfl⟩
 have hel := wF (s.take i)
 rw [List.length_take] at hel
 refine gg ?_
 refine if_d (fun hc => ?_) (fun hc => ?_)
 ·have hil : i < s.length := by omega
  have hnx := xX (p := inB) s i hil
  have hct := Zg (p := inB) hil
  have hen := WY s i hil
  have hc1 := cut_one s i hil
  refine gg ?_
  refine cA (may_spec (s.getD i 0)) ?_; rintro v A ⟨rfl, rfl⟩; refine gA ?_
  cases h1 : inB (s.getD i 0) with
  | false =>
   rw [hct h1]
   refine gg ?_
   refine zf (vs := [.string (str []), .bool false]) [] ⟨rfl, rfl⟩
  | true =>
   refine gg ?_
   by_cases e1 : s.getD i 0 = 34
   ·have hes : xj (s.getD i 0) = [92, s.getD i 0] := if_pos (.inl e1)
    rw [beq_iff_eq.2 (show ((s.getD i 0).toNat : Int) = 34 by rw [e1]; rfl)]
    refine gg ?_
    refine ze fun K hK => ?_; rw [s92, zF (by simp only [List.length_cons, List.length_append, List.length_nil, List.length_singleton]; omega)]; refine hK _ _ ?_; clear hK K
    refine gg ?_
    rw [hc1]
    refine ze fun K hK => ?_; rw [zF (by simp only [List.length_cons, List.length_append, List.length_nil, List.length_singleton]; omega)]; refine hK _ _ ?_; clear hK K
    rw [show 34 :: ((s.take i).flatMap xj ++ [92]) ++ [s.getD i 0] = 34 :: (s.take (i + 1)).flatMap xj from by rw [hen, hes]; simp]
    refine gg ?_
    exact zA ⟨i + 1, by omega, by rw [hnx, hall, h1]; rfl, rfl, rfl, rfl, rfl⟩
   ·rw [beq_eq_false_iff_ne.2 (show ((s.getD i 0).toNat : Int) ≠ 34 from fun h => e1 (UInt8.toNat_inj.1 (show (s.getD i 0).toNat = 34 by omega)))]
    refine gg ?_
    by_cases e2 : s.getD i 0 = 92
    ·have hes : xj (s.getD i 0) = [92, s.getD i 0] := if_pos (.inr e2)
     rw [beq_iff_eq.2 (show ((s.getD i 0).toNat : Int) = 92 by rw [e2]; rfl)]
     refine gg ?_
     refine ze fun K hK => ?_; rw [s92, zF (by simp only [List.length_cons, List.length_append, List.length_nil, List.length_singleton]; omega)]; refine hK _ _ ?_; clear hK K
     refine gg ?_
     rw [hc1]
     refine ze fun K hK => ?_; rw [zF (by simp only [List.length_cons, List.length_append, List.length_nil, List.length_singleton]; omega)]; refine hK _ _ ?_; clear hK K
     rw [show 34 :: ((s.take i).flatMap xj ++ [92]) ++ [s.getD i 0] = 34 :: (s.take (i + 1)).flatMap xj from by rw [hen, hes]; simp]
     refine gg ?_
     exact zA ⟨i + 1, by omega, by rw [hnx, hall, h1]; rfl, rfl, rfl, rfl, rfl⟩
    ·have hes : xj (s.getD i 0) = [s.getD i 0] := if_neg (fun h => by
      rcases h with h | h
      ·exact e1 h
      ·exact e2 h)
     rw [beq_eq_false_iff_ne.2 (show ((s.getD i 0).toNat : Int) ≠ 92 from fun h => e2 (UInt8.toNat_inj.1 (show (s.getD i 0).toNat = 92 by omega)))]
     refine gg ?_
     rw [hc1]
     refine ze fun K hK => ?_; rw [zF (by simp only [List.length_cons, List.length_append, List.length_nil, List.length_singleton]; omega)]; refine hK _ _ ?_; clear hK K
     rw [show 34 :: (s.take i).flatMap xj ++ [s.getD i 0] = 34 :: (s.take (i + 1)).flatMap xj from by rw [hen, hes]; simp]
     refine gg ?_
     exact zA ⟨i + 1, by omega, by rw [hnx, hall, h1]; rfl, rfl, rfl, rfl, rfl⟩
 ·obtain rfl : i = s.length := by omega
  rw [List.take_length] at hall hel ⊢
  rw [hall, if_pos rfl]
  refine gg ?_
  refine ze fun K hK => ?_; rw [zF (by simp only [List.length_cons, List.length_append, List.length_nil, List.length_singleton]; omega)]; refine hK _ _ ?_; clear hK K
  rw [show 34 :: s.flatMap xj ++ [34] = quo s from rfl]
  refine gg ?_
  refine zf (vs := [.string (str (quo s)), .bool true]) [] ⟨rfl, rfl⟩
def low1 (c : UInt8) : UInt8 := if 65 <= c.toNat /\ c.toNat <= 90 then UInt8.ofNat (c.toNat + 32) else c
def lowL (s : List UInt8) : List UInt8 := s.map low1
theorem low_set (s : List UInt8) (i : Nat) (h : i < s.length) : ((s.take i).map low1 ++ s.drop i).set i (low1 (s.getD i 0)) = (s.take (i + 1)).map low1 ++ s.drop (i + 1) := by
 have hl : ((s.take i).map low1).length = i := by simp; omega
 rw [List.set_append_right _ _ (by omega), hl, Nat.sub_self, List.drop_eq_getElem_cons h, List.set_cons_zero, List.take_add_one, List.getD_eq_getElem?_getD, List.getElem?_eq_getElem h]
 simp only [Option.getD_some, Option.toList_some, List.map_append, List.map_cons, List.map_nil, List.append_assoc, List.cons_append, List.nil_append]
theorem low_at (s : List UInt8) (i : Nat) (h : i < s.length) : ((s.take i).map low1 ++ s.drop i).getD i 0 = s.getD i 0 := by
 have hl : ((s.take i).map low1).length = i := by simp; omega
 simp only [List.getD_eq_getElem?_getD]
 rw [List.getElem?_append_right (by omega), hl, Nat.sub_self, List.getElem?_drop, Nat.add_zero]
theorem qP (s : List UInt8) (hs : s.length <= 100000) : Meets Tryz.prog 149 [.string (str s)] [] fun v A => v = .string (str (lowL s)) /\ A = [] := by
 refine eN Tryz.func149 Tryz.ntmps149 Tryz.results149 fun F => ?_
 refine gg ?_
 refine ze fun K hK => ?_; refine zH (by simp only [maxLen]; omega) (fun X xa xc hX => ?_); refine hK _ _ ?_; clear hK K
 refine gg ?_
 refine zB (fun q D L S => ∃ (i : Nat) (X : Chunk), i <= s.length /\ Own8 5 X (some xa) s.length xc ((s.take i).map low1 ++ s.drop i) /\ q = s.length - i /\ D = [] /\
  L = [(10, .int .i64 i), (9, .int .i64 s.length), (8, .slice (some xa) s.length xc), (3, .slice (some xa) s.length xc)] /\ S = [X, F])
  ⟨0, X, by omega, hX, rfl, rfl, rfl, rfl⟩ ?_
 rintro q D L S ⟨i, X, hi, hX, rfl, rfl, rfl, rfl⟩
 have hlen : ((s.take i).map low1 ++ s.drop i).length = s.length := by simp; omega
 refine gg ?_
 refine if_d (fun hc => ?_) (fun hc => ?_)
 ·have hil : i < s.length := by omega
  have hst := low_set s i hil
  have hat := low_at s i hil
  have hlt := (s.getD i 0).toNat_lt
  refine gg ?_
  rw [hat]
  have keep : ¬ (65 <= (s.getD i 0).toNat /\ (s.getD i 0).toNat <= 90) -> (s.take i).map low1 ++ s.drop i = (s.take (i + 1)).map low1 ++ s.drop (i + 1) := fun hn => by
   rw [<- hst, show low1 (s.getD i 0) = s.getD i 0 from if_neg hn]
   refine (List.ext_getElem? fun j => ?_).symm
   rw [List.getElem?_set]
   split
   ·rename_i hj
    subst hj
    rw [hlen, if_pos hil, <- hat, List.getD_eq_getElem?_getD, List.getElem?_eq_getElem (by omega)]; rfl
   ·rfl
  by_cases h1 : (65 : Int) <= (s.getD i 0).toNat
  ·rw [decide_eq_true h1]
   refine gg ?_
   by_cases h2 : ((s.getD i 0).toNat : Int) <= 90
   ·rw [decide_eq_true h2]
    have e1 : Value.int .u8 (((s.getD i 0).toNat : Int) - 65 + 97) = b8 (low1 (s.getD i 0)) := by
     unfold low1
     rw [if_pos ⟨by omega, by omega⟩]
     simp only [b8, UInt8.toNat_ofNat']
     congr 1; omega
    refine gg ?_
    rw [show b8 (s.getD i 0) = Value.int .u8 ((s.getD i 0).toNat : Int) from rfl]
    refine gg ?_
    refine ze fun K hK => ?_; rw [e1]; refine jX hX pkA (by omega) (fun X2 hX2 => ?_); refine hK _ _ ?_; clear hK K
    rw [hst] at hX2
    refine gg ?_
    exact zA ⟨i + 1, X2, by omega, hX2, rfl, rfl, rfl, rfl⟩
   ·rw [decide_eq_false h2]
    rw [keep (by omega)] at hX
    refine gg ?_
    exact zA ⟨i + 1, X, by omega, hX, rfl, rfl, rfl, rfl⟩
  ·rw [decide_eq_false h1]
   rw [keep (by omega)] at hX
   refine gg ?_
   exact zA ⟨i + 1, X, by omega, hX, rfl, rfl, rfl, rfl⟩
 ·obtain rfl : i = s.length := by omega
  rw [List.take_length, List.drop_length, List.append_nil] at hX
  refine gg ?_
  refine ze fun K hK => ?_; refine xf (hX.rd mmA) ?_; refine hK _ _ ?_; clear hK K
  refine gg ?_
  refine zb [] ?_; exact ⟨rfl, rfl⟩
def alph : List UInt8 := [97, 98, 99, 100, 101, 102, 103, 104, 105, 106, 107, 108, 109, 110, 111, 112, 113, 114, 115, 116, 117, 118, 119, 120, 121, 122]
theorem alph_at : ∀ k < 26, (alph.drop k).take 1 = [UInt8.ofNat (k + 97)] := by decide
theorem low_next (s : List UInt8) (i : Nat) (h : i < s.length) : lowL (s.take (i + 1)) = lowL (s.take i) ++ [low1 (s.getD i 0)] := by
 unfold lowL
 rw [List.take_add_one, List.map_append, List.getD_eq_getElem?_getD, List.getElem?_eq_getElem h]
 simp
theorem OA (s : List UInt8) (hs : s.length <= 100000) : Meets Tryz.prog 49 [.string (str s)] [] fun v A => v = .string (str (lowL s)) /\ A = [] := by
 have sal : Value.string ⟨#[97, 98, 99, 100, 101, 102, 103, 104, 105, 106, 107, 108, 109, 110, 111, 112, 113, 114, 115, 116, 117, 118, 119, 120, 121, 122]⟩ = .string (str alph) := rfl
 have snil : Value.string ⟨#[]⟩ = .string (str []) := rfl
 refine eN Tryz.func49 Tryz.ntmps49 Tryz.results49 fun F => ?_
 refine gg ?_
 refine zB (fun q D L S => ∃ i : Nat, i <= s.length /\ q = s.length - i /\ D = [] /\ L = [(4, .int .i64 i), (3, .string (str (lowL (s.take i)))), (0, .string (str s))] /\ S = [F])
  ⟨0, by omega, rfl, rfl, rfl, rfl⟩ ?_
 rintro q D L S ⟨i, hi, rfl, rfl, rfl, rfl⟩
 have hll : (lowL (s.take i)).length <= s.length := by unfold lowL; rw [List.length_map, List.length_take]; omega
 refine gg ?_
 refine if_d (fun hc => ?_) (fun hc => ?_)
 ·have hil : i < s.length := by omega
  have hnx := low_next s i hil
  have hc1 := cut_one s i hil
  have hlt := (s.getD i 0).toNat_lt
  refine gg ?_
  by_cases h1 : (65 : Int) <= (s.getD i 0).toNat
  ·rw [decide_eq_true h1]
   refine gg ?_
   by_cases h2 : ((s.getD i 0).toNat : Int) <= 90
   ·rw [decide_eq_true h2]
    refine gg ?_
    refine zn [(0, false, []), (1, false, []), (2, false, []), (3, false, []), (4, false, []), (5, false, []), (6, false, []), (7, false, []), (8, false, []), (9, false, []), (10, false, []), (11, false, []), (12, true, [])] ?_
    refine gg ?_
    rw [show b8 (s.getD i 0) = Value.int .u8 ((s.getD i 0).toNat : Int) from rfl]
    refine gg ?_
    rw [show b8 (s.getD i 0) = Value.int .u8 ((s.getD i 0).toNat : Int) from rfl]
    refine gg ?_
    obtain ⟨k, hk, hk2⟩ : ∃ k : Nat, ((s.getD i 0).toNat : Int) - 65 = k /\ k < 26 := ⟨(s.getD i 0).toNat - 65, by omega, by omega⟩
    have hlw : low1 (s.getD i 0) = UInt8.ofNat (k + 97) := by
     unfold low1
     rw [if_pos ⟨by omega, by omega⟩]
     congr 1; omega
    rw [hk]
    refine qO fun K hK => ?_
    rw [sal, QX (by omega) (by omega) (by show _ <= (26 : Int); omega), show ((k : Int) + 1).toNat - ((k : Int)).toNat = 1 from by omega, show ((k : Int)).toNat = k from by omega, alph_at k hk2]
    refine hK _ _ ?_; clear hK K
    refine gg ?_
    refine qO fun K hK => ?_
    rw [zF (by simp only [List.length_singleton]; omega)]
    refine hK _ _ ?_; clear hK K
    rw [show lowL (s.take i) ++ [UInt8.ofNat (k + 97)] = lowL (s.take (i + 1)) from by rw [hnx, hlw]]
    refine gg ?_
    exact zA ⟨i + 1, by omega, rfl, rfl, rfl, rfl⟩
   ·rw [decide_eq_false h2]
    refine gg ?_
    rw [hc1]
    refine ze fun K hK => ?_; rw [zF (by simp only [List.length_singleton]; omega)]; refine hK _ _ ?_; clear hK K
    rw [show lowL (s.take i) ++ [s.getD i 0] = lowL (s.take (i + 1)) from by rw [hnx, show low1 (s.getD i 0) = s.getD i 0 from if_neg (by omega)]]
    refine gg ?_
    exact zA ⟨i + 1, by omega, rfl, rfl, rfl, rfl⟩
  ·rw [decide_eq_false h1]
   refine gg ?_
   rw [hc1]
   refine ze fun K hK => ?_; rw [zF (by simp only [List.length_singleton]; omega)]; refine hK _ _ ?_; clear hK K
   rw [show lowL (s.take i) ++ [s.getD i 0] = lowL (s.take (i + 1)) from by rw [hnx, show low1 (s.getD i 0) = s.getD i 0 from if_neg (by omega)]]
   refine gg ?_
   exact zA ⟨i + 1, by omega, rfl, rfl, rfl, rfl⟩
 ·obtain rfl : i = s.length := by omega
  rw [List.take_length]
  refine gg ?_
  refine zb [] ?_; exact ⟨rfl, rfl⟩
abbrev scB (b : Nat) (s : List UInt8) : Chunk := [(b, .cells #[.string (str s)] 285 (0, 0))]
def zK (s : List UInt8) (c : UInt8) : Bool × List UInt8 := match s with
 | [] => (false, [])
 | d :: r => if d = c then (true, r) else (false, d :: r)
theorem jJ (b : Nat) (s : List UInt8) (c : UInt8) (hs : s.length <= 100000) : Meets Tryz.prog 156 [.pointer (some ⟨b, 0, none⟩), b8 c] [scB b s] fun v A => v = .bool (zK s c).1 /\ A = [scB b (zK s c).2] := by
 cases s with
 | nil =>
  refine eN Tryz.func156 Tryz.ntmps156 Tryz.results156 fun F => ?_
  refine gg ?_
  (try rw [beq_self_eq_true])
  (try refine gg ?_)
  refine zb [scB b []] ?_; exact ⟨rfl, rfl⟩
 | cons d r =>
  rw [List.length_cons] at hs
  have hl1 : 0 < (d :: r).length := by simp
  simp only [zK]
  refine eN Tryz.func156 Tryz.ntmps156 Tryz.results156 fun F => ?_
  refine gg ?_
  rw [show ((d :: r : List UInt8) == []) = false from rfl]
  refine gg ?_
  rw [show (d :: r).getD 0 0 = d from rfl]
  by_cases hd : d = c
  ·subst hd
   rw [if_pos rfl, bne_self_eq_false]
   refine gg ?_
   (try rw [show ((d :: r).take (d :: r).length).drop (1 : Int).toNat = r from by simp])
   (try rw [show ((d :: r).drop (1 : Int).toNat).take ((d :: r).length - (1 : Int).toNat) = r from by simp])
   (try refine gg ?_)
   refine zb [scB b r] ?_; exact ⟨rfl, rfl⟩
  ·rw [if_neg hd, bne_iff_ne.2 hd]
   refine gg ?_
   refine zb [scB b (d :: r)] ?_; exact ⟨rfl, rfl⟩
def vo (c : UInt8) : Bool := decide (c = 32) || decide (c = 9)
def zl (s : List UInt8) : List UInt8 := s.dropWhile vo
theorem jW (b : Nat) (s : List UInt8) (hs : s.length <= 100000) : Meets Tryz.prog 207 [.pointer (some ⟨b, 0, none⟩)] [scB b s] fun v A => v = .tuple #[] /\ A = [scB b (zl s)] := by
 refine eN Tryz.func207 Tryz.ntmps207 Tryz.results207 fun F => ?_
 refine gg ?_
 refine zB (fun q D L S => ∃ t : List UInt8, t.length <= s.length /\ zl t = zl s /\ q = t.length /\ D = [] /\ L = [(0, .pointer (some ⟨b, 0, none⟩))] /\ S = [scB b t, F])
  ⟨s, Nat.le_refl _, rfl, rfl, rfl, rfl, rfl⟩ ?_
 rintro q D L S ⟨t, htl, ht, rfl, rfl, rfl, rfl⟩
 cases t with
 | nil =>
  rw [<- ht]
  refine gg ?_
  (try rw [bne_self_eq_false])
  (try refine gg ?_)
  refine zJ [scB b []] ⟨rfl, rfl⟩
 | cons d r =>
  have hl1 : 0 < (d :: r).length := by simp
  have hl2 : (d :: r).length = r.length + 1 := rfl
  refine gg ?_
  rw [show ((d :: r : List UInt8) != []) = true from rfl]
  refine gg ?_
  rw [show (d :: r).getD 0 0 = d from rfl]
  by_cases e1 : d = 32
  ·have hb : vo d = true := by rw [e1]; rfl
   rw [beq_iff_eq.2 (show (d.toNat : Int) = 32 by rw [e1]; rfl)]
   refine gg ?_
   (try rw [show ((d :: r).take (d :: r).length).drop (1 : Int).toNat = r from by simp])
   (try rw [show ((d :: r).drop (1 : Int).toNat).take ((d :: r).length - (1 : Int).toNat) = r from by simp])
   (try refine gg ?_)
   exact zA ⟨r, by omega, by rw [<- ht]; unfold zl; rw [List.dropWhile_cons, if_pos hb], rfl, rfl, rfl, rfl⟩
  ·rw [beq_eq_false_iff_ne.2 (show (d.toNat : Int) ≠ 32 from fun h => e1 (UInt8.toNat_inj.1 (show d.toNat = 32 by omega)))]
   refine gg ?_
   (try rw [show (d :: r).getD 0 0 = d from rfl])
   by_cases e2 : d = 9
   ·have hb : vo d = true := by rw [e2]; rfl
    rw [beq_iff_eq.2 (show (d.toNat : Int) = 9 by rw [e2]; rfl)]
    refine gg ?_
    (try rw [show ((d :: r).take (d :: r).length).drop (1 : Int).toNat = r from by simp])
    (try rw [show ((d :: r).drop (1 : Int).toNat).take ((d :: r).length - (1 : Int).toNat) = r from by simp])
    (try refine gg ?_)
    exact zA ⟨r, by omega, by rw [<- ht]; unfold zl; rw [List.dropWhile_cons, if_pos hb], rfl, rfl, rfl, rfl⟩
   ·have hb : vo d = false := by unfold vo; simp [e1, e2]
    rw [beq_eq_false_iff_ne.2 (show (d.toNat : Int) ≠ 9 from fun h => e2 (UInt8.toNat_inj.1 (show d.toNat = 9 by omega)))]
    rw [<- ht, show zl (d :: r) = d :: r from by unfold zl; rw [List.dropWhile_cons, if_neg (by rw [hb]; simp)]]
    refine gg ?_
    refine zJ [scB b (d :: r)] ⟨rfl, rfl⟩
structure Par where
 n : List UInt8
 v : List UInt8
 q : Bool
def tokL (s : List UInt8) : List UInt8 := s.takeWhile tcB
def tokR (s : List UInt8) : List UInt8 := s.dropWhile tcB
def qgo : List UInt8 -> Option (List UInt8 × List UInt8)
 | [] => none
 | [c] => if c = 34 then some ([], []) else none
 | c :: d :: r => if c = 34 then some ([], d :: r) else if inB c = false then none else
  if c = 92 then (if inB d = true then (qgo r).map (fun x => (d :: x.1, x.2)) else none) else (qgo (d :: r)).map (fun x => (c :: x.1, x.2))
def oneE (s : List UInt8) : Option (Par × List UInt8) :=
 if tokL s = [] ∨ (zK (zl (tokR s)) 61).1 = false then none else
 if (zK (zl (zK (zl (tokR s)) 61).2) 34).1 = true then
  (qgo (zK (zl (zK (zl (tokR s)) 61).2) 34).2).map fun z => (⟨lowL (tokL s), z.1, true⟩, z.2)
 else if tokL (zl (zK (zl (tokR s)) 61).2) = [] then none
 else some (⟨lowL (tokL s), tokL (zl (zK (zl (tokR s)) 61).2), false⟩, tokR (zl (zK (zl (tokR s)) 61).2))
def JS : Nat -> List UInt8 -> List Par × Bool
 | 0, _ => ([], false)
 | n + 1, s => match oneE s with
  | none => ([], false)
  | some (p, r) => if r = [] then ([p], true) else
   if (zK (zl r) 44).1 = true then (p :: (JS n (zl (zK (zl r) 44).2)).1, (JS n (zl (zK (zl r) 44).2)).2) else ([p], false)
def jg (s : List UInt8) : List Par × Bool := JS (s.length + 1) s
theorem xD (s : List UInt8) : (zl s).length <= s.length := (List.dropWhile_sublist _).length_le
theorem Xh (s : List UInt8) : (tokR s).length <= s.length := (List.dropWhile_sublist _).length_le
theorem KT (s : List UInt8) : (tokL s).length <= s.length := (List.takeWhile_sublist _).length_le
theorem KS (s : List UInt8) : tokL s ++ tokR s = s := List.takeWhile_append_dropWhile
theorem qZ (s : List UInt8) (c : UInt8) : (zK s c).2.length <= s.length := by
 unfold zK; split
 ·simp
 ·split
  ·simp
  ·simp
theorem Of (s : List UInt8) (c : UInt8) (h : (zK s c).1 = false) : (zK s c).2 = s := by
 unfold zK at h ⊢; split
 ·rfl
 ·split
  ·rename_i hd; simp [hd] at h
  ·rfl
theorem sign_yes (c : UInt8) (r : List UInt8) : zK (c :: r) c = (true, r) := by simp [zK]
theorem sign_not {c d : UInt8} (r : List UInt8) (h : d ≠ c) : zK (d :: r) c = (false, d :: r) := by simp [zK, h]
theorem jI (s : List UInt8) (c : UInt8) (h : (zK s c).1 = true) : (zK s c).2.length + 1 = s.length := by
 unfold zK at h ⊢; split
 ·simp at h
 ·split
  ·simp
  ·rename_i hd; simp [hd] at h
theorem Vz : ∀ (k : Nat) (s : List UInt8), s.length <= k -> ∀ v r, qgo s = some (v, r) -> v.length + r.length < s.length
 | 0, s, hk, v, r, h => by
  obtain rfl : s = [] := List.length_eq_zero_iff.1 (by omega)
  simp [qgo] at h
 | k + 1, [], hk, v, r, h => by simp [qgo] at h
 | k + 1, [c], hk, v, r, h => by
  simp only [qgo] at h
  split at h
  ·cases h; simp
  ·cases h
 | k + 1, c :: d :: t, hk, v, r, h => by
  simp only [qgo] at h
  simp only [List.length_cons] at hk ⊢
  split at h
  ·cases h; simp
  ·split at h
   ·cases h
   ·split at h
    ·split at h
     ·cases hq : qgo t with
      | none => rw [hq] at h; cases h
      | some x =>
       rw [hq] at h; cases h
       have := Vz k t (by omega) x.1 x.2 hq
       simp only [List.length_cons]; omega
     ·cases h
    ·cases hq : qgo (d :: t) with
     | none => rw [hq] at h; cases h
     | some x =>
      rw [hq] at h; cases h
      have := Vz k (d :: t) (by simp only [List.length_cons]; omega) x.1 x.2 hq
      simp only [List.length_cons] at this ⊢; omega
theorem XD {s : List UInt8} {p : Par} {r : List UInt8} (h : oneE s = some (p, r)) : p.n.length + p.v.length + r.length < s.length /\ r.length < s.length /\ 1 <= p.n.length := by
 unfold oneE at h
 split at h
 ·cases h
 rename_i hno
 rw [not_or] at hno
 obtain ⟨h1, h2⟩ := hno
 have h2' : (zK (zl (tokR s)) 61).1 = true := by simpa using h2
 have e1 := jI _ _ h2'
 have e2 := xD (tokR s)
 have e3 := congrArg List.length (KS s)
 rw [List.length_append] at e3
 have e4 := xD (zK (zl (tokR s)) 61).2
 have e5 : 0 < (tokL s).length := List.length_pos_iff.2 h1
 have e6 : (lowL (tokL s)).length = (tokL s).length := by unfold lowL; simp
 generalize (zl (zK (zl (tokR s)) 61).2) = y at *
 split at h
 ·rename_i h3
  have e7 := jI _ _ h3
  cases hq : qgo (zK y 34).2 with
  | none => rw [hq] at h; cases h
  | some x =>
   rw [hq] at h; cases h
   have := Vz _ _ (Nat.le_refl _) _ _ hq
   refine ⟨?_, by omega, ?_⟩
   ·show (lowL (tokL s)).length + x.1.length + x.2.length < _
    omega
   ·show 1 <= (lowL (tokL s)).length
    omega
 ·split at h
  ·cases h
  ·cases h
   have e8 := congrArg List.length (KS y)
   rw [List.length_append] at e8
   refine ⟨?_, by omega, ?_⟩
   ·show (lowL (tokL s)).length + (tokL y).length + (tokR y).length < _
    omega
   ·show 1 <= (lowL (tokL s)).length
    omega
theorem ZJ : ∀ (n m : Nat) (s : List UInt8), s.length < n -> s.length < m -> JS n s = JS m s
 | 0, m, s, hn, hm => by omega
 | n + 1, 0, s, hn, hm => by omega
 | n + 1, m + 1, s, hn, hm => by
  simp only [JS]
  cases h : oneE s with
  | none => rfl
  | some x =>
   obtain ⟨p, r⟩ := x
   have hl := (XD h).2.1
   have e1 := xD r
   have e2 := qZ (zl r) 44
   have e3 := xD (zK (zl r) 44).2
   simp only
   rw [ZJ n m _ (by omega) (by omega)]
theorem kV {s : List UInt8} : jg s = match oneE s with
  | none => ([], false)
  | some (p, r) => if r = [] then ([p], true) else
   if (zK (zl r) 44).1 = true then (p :: (jg (zl (zK (zl r) 44).2)).1, (jg (zl (zK (zl r) 44).2)).2) else ([p], false) := by
 show JS (s.length + 1) s = _
 rw [JS]
 cases h : oneE s with
 | none => rfl
 | some x =>
  obtain ⟨p, r⟩ := x
  have hl := (XD h).2.1
  have e1 := xD r
  have e2 := qZ (zl r) 44
  have e3 := xD (zK (zl r) 44).2
  simp only
  rw [ZJ s.length _ _ (by omega) (Nat.lt_succ_self _)]
  rfl
theorem JQ {s : List UInt8} (h : oneE s = none) : jg s = ([], false) := by rw [kV, h]
theorem kW {s : List UInt8} {p : Par} (h : oneE s = some (p, [])) : jg s = ([p], true) := by rw [kV, h]; rfl
theorem yK {s r : List UInt8} {p : Par} (h : oneE s = some (p, r)) (hr : r ≠ []) (hs : (zK (zl r) 44).1 = false) : jg s = ([p], false) := by
 rw [kV, h]; simp only [if_neg hr, hs]; rfl
theorem XI {s r : List UInt8} {p : Par} (h : oneE s = some (p, r)) (hr : r ≠ []) (hs : (zK (zl r) 44).1 = true) :
  jg s = (p :: (jg (zl (zK (zl r) 44).2)).1, (jg (zl (zK (zl r) 44).2)).2) := by
 rw [kV, h]; simp only [if_neg hr, hs, if_true]
def Xb : List Par -> Nat
 | [] => 0
 | p :: l => p.n.length + p.v.length + 1 + Xb l
theorem list_len : ∀ (k : Nat) (s : List UInt8), s.length <= k -> Xb (jg s).1 <= s.length
 | k, s, hk => by
  cases h : oneE s with
  | none => rw [JQ h]; exact Nat.zero_le _
  | some x =>
   obtain ⟨p, r⟩ := x
   have hl := XD h
   by_cases hr : r = []
   ·subst hr; rw [kW h]; show p.n.length + p.v.length + 1 + 0 <= _; omega
   ·cases hs : (zK (zl r) 44).1 with
    | false => rw [yK h hr hs]; show p.n.length + p.v.length + 1 + 0 <= _; omega
    | true =>
     rw [XI h hr hs]
     have e1 := xD r
     have e2 := jI _ _ hs
     have e3 := xD (zK (zl r) 44).2
     match k, hk with
     | 0, hk => omega
     | k + 1, hk =>
      have := list_len k (zl (zK (zl r) 44).2) (by omega)
      show p.n.length + p.v.length + 1 + _ <= _
      omega
structure It where
 p : Par
 nm : List UInt8
 ga : List UInt8
 gb : List UInt8
 g1 : List UInt8
 g2 : List UInt8
def valI (p : Par) : List UInt8 := if p.q = true then quo p.v else p.v
def okP (p : Par) : Bool := (if p.q = true then p.v.all inB else tokB p.v) && (tokB p.n && decide (lowL p.n = p.n))
def wk (x : It) : List UInt8 := x.nm ++ (x.g1 ++ 61 :: (x.g2 ++ valI x.p))
def wp : List It -> List UInt8
 | [] => []
 | x :: l => x.ga ++ 44 :: (x.gb ++ (wk x ++ wp l))
structure It.ok (x : It) : Prop where
 p : okP x.p = true
 nm : tokB x.nm = true
 low : lowL x.nm = x.p.n
 ga : x.ga.all vo = true
 gb : x.gb.all vo = true
 g1 : x.g1.all vo = true
 g2 : x.g2.all vo = true
theorem Yg {c : UInt8} (h : vo c = true) : tcB c = false := by
 unfold vo at h
 simp only [Bool.or_eq_true, decide_eq_true_eq] at h
 rcases h with rfl | rfl <;> decide
theorem tc_blank {c : UInt8} (h : tcB c = true) : vo c = false := by
 cases hb : vo c with
 | false => rfl
 | true => rw [Yg hb] at h; cases h
def Yv (r : List UInt8) : Bool := match r with | [] => true | c :: _ => !tcB c
theorem Xf {a r : List UInt8} (ha : a.all tcB = true) (hr : Yv r = true) : tokL (a ++ r) = a /\ tokR (a ++ r) = r := by
 induction a with
 | nil =>
  cases r with
  | nil => exact ⟨rfl, rfl⟩
  | cons c r =>
   have hc : tcB c = false := by simpa [Yv] using hr
   constructor
   ·show List.takeWhile tcB (c :: r) = []
    rw [List.takeWhile_cons, if_neg (by rw [hc]; simp)]
   ·show List.dropWhile tcB (c :: r) = c :: r
    rw [List.dropWhile_cons, if_neg (by rw [hc]; simp)]
 | cons d a ih =>
  rw [List.all_cons, Bool.and_eq_true] at ha
  obtain ⟨i1, i2⟩ := ih ha.2
  constructor
  ·show List.takeWhile tcB (d :: (a ++ r)) = d :: a
   rw [List.takeWhile_cons, if_pos ha.1]; exact congrArg _ i1
  ·show List.dropWhile tcB (d :: (a ++ r)) = r
   rw [List.dropWhile_cons, if_pos ha.1]; exact i2
def hardB (r : List UInt8) : Bool := match r with | [] => true | c :: _ => !vo c
theorem vx {a r : List UInt8} (ha : a.all vo = true) (hr : hardB r = true) : zl (a ++ r) = r := by
 induction a with
 | nil =>
  cases r with
  | nil => rfl
  | cons c r =>
   have hc : vo c = false := by simpa [hardB] using hr
   show List.dropWhile vo (c :: r) = c :: r
   rw [List.dropWhile_cons, if_neg (by rw [hc]; simp)]
 | cons d a ih =>
  rw [List.all_cons, Bool.and_eq_true] at ha
  show List.dropWhile vo (d :: (a ++ r)) = r
  rw [List.dropWhile_cons, if_pos ha.1]; exact ih ha.2
theorem Wf {a r : List UInt8} (ha : a.all vo = true) (hr : Yv r = true) : Yv (a ++ r) = true := by
 cases a with
 | nil => exact hr
 | cons d a =>
  rw [List.all_cons, Bool.and_eq_true] at ha
  show (!tcB d) = true
  rw [Yg ha.1]; rfl
theorem IC {a r : List UInt8} (ha : a.all tcB = true) (h1 : a ≠ []) : hardB (a ++ r) = true := by
 cases a with
 | nil => exact (h1 rfl).elim
 | cons d a =>
  rw [List.all_cons, Bool.and_eq_true] at ha
  show (!vo d) = true
  rw [tc_blank ha.1]; rfl
theorem Xg {a : List UInt8} (h : tokB a = true) : a.all tcB = true /\ a ≠ [] := by
 unfold tokB at h
 rw [Bool.and_eq_true, decide_eq_true_eq] at h
 refine ⟨h.1, fun e => ?_⟩
 rw [e] at h; simp at h
theorem Wy {c : UInt8} {s : List UInt8} (h1 : c ≠ 34) (h2 : inB c = true) (h3 : c ≠ 92) : qgo (c :: s) = (qgo s).map fun x => (c :: x.1, x.2) := by
 cases s with
 | nil => simp [qgo, h1]
 | cons d s => rw [qgo, if_neg h1, if_neg (by rw [h2]; simp), if_neg h3]
theorem OJ {d : UInt8} {s : List UInt8} (h : inB d = true) : qgo (92 :: d :: s) = (qgo s).map fun x => (d :: x.1, x.2) := by
 rw [qgo, if_neg (by decide), if_neg (by decide), if_pos rfl, if_pos h]
theorem qgo_end (s : List UInt8) : qgo (34 :: s) = some ([], s) := by
 cases s <;> simp [qgo]
theorem Wz : ∀ (v r : List UInt8), v.all inB = true -> qgo (v.flatMap xj ++ 34 :: r) = some (v, r)
 | [], r, _ => qgo_end r
 | c :: v, r, h => by
  rw [List.all_cons, Bool.and_eq_true] at h
  have ih := Wz v r h.2
  rw [List.flatMap_cons, List.append_assoc]
  by_cases hc : c = 34 ∨ c = 92
  ·rw [show xj c = [92, c] from if_pos hc]
   simp only [List.cons_append, List.nil_append]
   rw [OJ h.1, ih]; rfl
  ·rw [show xj c = [c] from if_neg hc]
   rw [not_or] at hc
   simp only [List.cons_append, List.nil_append]
   rw [Wy hc.1 h.1 hc.2, ih]; rfl
theorem WC {x : It} (h : x.ok) {r : List UInt8} (hr : Yv r = true) : oneE (wk x ++ r) = some (x.p, r) := by
 obtain ⟨p, nm, ga, gb, g1, g2⟩ := x
 obtain ⟨hp, hn, hl, hga, hgb, hg1, hg2⟩ := h
 obtain ⟨n, v, q⟩ := p
 simp only at hp hn hl hga hgb hg1 hg2
 obtain ⟨n1, n2⟩ := Xg hn
 have e0 : wk ⟨⟨n, v, q⟩, nm, ga, gb, g1, g2⟩ ++ r = nm ++ (g1 ++ (61 :: (g2 ++ (valI ⟨n, v, q⟩ ++ r)))) := by simp [wk]
 have t1 := Xf (r := g1 ++ (61 :: (g2 ++ (valI ⟨n, v, q⟩ ++ r)))) n1 (Wf hg1 (by rfl))
 have s1 := vx (r := 61 :: (g2 ++ (valI ⟨n, v, q⟩ ++ r))) hg1 (by rfl)
 rw [e0]
 unfold oneE
 rw [t1.1, t1.2, s1, sign_yes, if_neg (by simp [n2])]
 simp only
 unfold okP at hp
 rw [Bool.and_eq_true] at hp
 cases q with
 | true =>
  rw [if_pos rfl] at hp
  have e1 : valI ⟨n, v, true⟩ ++ r = 34 :: (v.flatMap xj ++ 34 :: r) := by simp [valI, quo]
  rw [e1, vx hg2 (by rfl), sign_yes, if_pos rfl]
  simp only
  rw [Wz v r hp.1, hl]; rfl
 | false =>
  rw [if_neg (by simp)] at hp
  obtain ⟨v1, v2⟩ := Xg hp.1
  have e1 : valI ⟨n, v, false⟩ ++ r = v ++ r := by simp [valI]
  have t2 := Xf (r := r) v1 hr
  rw [e1, vx hg2 (IC v1 v2)]
  have hs : (zK (v ++ r) 34).1 = false := by
   cases v with
   | nil => exact (v2 rfl).elim
   | cons d v =>
    rw [List.all_cons, Bool.and_eq_true] at v1
    rw [List.cons_append, sign_not _ (fun e => by rw [e] at v1; exact absurd v1.1 (by decide))]
  rw [hs, if_neg (by simp), t2.1, t2.2, if_neg v2, hl]
theorem UY (l : List It) (h : ∀ x ∈ l, x.ok) : Yv (wp l) = true := by
 cases l with
 | nil => rfl
 | cons x l => exact Wf (h x (List.mem_cons_self ..)).ga (show (!tcB 44) = true by decide)
theorem JR : ∀ (l : List It) (x : It), x.ok -> (∀ y ∈ l, y.ok) -> jg (wk x ++ wp l) = (x.p :: l.map It.p, true)
 | [], x, hx, _ => kW (WC hx rfl)
 | y :: l, x, hx, h => by
  have hy := h y (List.mem_cons_self ..)
  have ht : ∀ z ∈ l, z.ok := fun z hz => h z (List.mem_cons_of_mem _ hz)
  have e1 : wp (y :: l) = y.ga ++ 44 :: (y.gb ++ (wk y ++ wp l)) := rfl
  have s1 : zl (wp (y :: l)) = 44 :: (y.gb ++ (wk y ++ wp l)) := by rw [e1]; exact vx hy.ga (by rfl)
  have hn := Xg hy.nm
  have s2 : zl (y.gb ++ (wk y ++ wp l)) = wk y ++ wp l := vx hy.gb (by
   unfold wk; rw [List.append_assoc]; exact IC hn.1 hn.2)
  have hne : wp (y :: l) ≠ [] := by rw [e1]; simp
  rw [XI (WC hx (UY _ h)) hne (by rw [s1, sign_yes]), s1, sign_yes]
  simp only
  rw [s2, JR l y hy ht]
  rfl
theorem one_no1 {s : List UInt8} (h : tokL s = []) : oneE s = none := by unfold oneE; rw [if_pos (.inl h)]
theorem one_no2 {s : List UInt8} (h : (zK (zl (tokR s)) 61).1 = false) : oneE s = none := by unfold oneE; rw [if_pos (.inr h)]
theorem one_q {s y z : List UInt8} (h : tokL s ≠ []) (h1 : zl (tokR s) = 61 :: y) (h2 : zl y = 34 :: z) : oneE s = (qgo z).map fun x => (⟨lowL (tokL s), x.1, true⟩, x.2) := by
 unfold oneE
 rw [h1, sign_yes, if_neg (by simp [h])]
 simp only
 rw [h2, sign_yes, if_pos rfl]
theorem one_t {s y : List UInt8} (h : tokL s ≠ []) (h1 : zl (tokR s) = 61 :: y) (h2 : (zK (zl y) 34).1 = false) :
  oneE s = if tokL (zl y) = [] then none else some (⟨lowL (tokL s), tokL (zl y), false⟩, tokR (zl y)) := by
 unfold oneE
 rw [h1, sign_yes, if_neg (by simp [h])]
 simp only
 rw [h2, if_neg (by simp)]
theorem Xm {s : List UInt8} {c : UInt8} (h : (zK s c).1 = true) : s = c :: (zK s c).2 := by
 unfold zK at h ⊢; split
 ·simp at h
 ·split
  ·rename_i hd; subst hd; rfl
  ·rename_i hd; simp [hd] at h
theorem vI (s : List UInt8) (i : Nat) (h : i < s.length) : s.drop i = s.getD i 0 :: s.drop (i + 1) := by
 rw [List.drop_eq_getElem_cons h, List.getD_eq_getElem?_getD, List.getElem?_eq_getElem h]; rfl
theorem tok_at (s : List UInt8) (i : Nat) (ha : (s.take i).all tcB = true) (hs : s.length <= i ∨ (i < s.length /\ tcB (s.getD i 0) = false)) : tokL s = s.take i /\ tokR s = s.drop i := by
 have := Xf (r := s.drop i) ha (by
  rcases hs with h | ⟨h1, h2⟩
  ·rw [List.drop_eq_nil_of_le h]; rfl
  ·rw [vI s i h1]; show (!tcB _) = true; rw [h2]; rfl)
 rwa [List.take_append_drop] at this
theorem qb (b : Nat) (s : List UInt8) (hs : s.length <= 100000) : Meets Tryz.prog 155 [.pointer (some ⟨b, 0, none⟩)] [scB b s] fun v A => v = .string (str (tokL s)) /\ A = [scB b (tokR s)] := by
 refine eN Tryz.func155 Tryz.ntmps155 Tryz.results155 fun F => ?_
 refine gg ?_
 refine zB (fun q D L S => ∃ i : Nat, i <= s.length /\ (s.take i).all tcB = true /\ q = s.length - i /\ D = [] /\ L = [(3, .int .i64 i), (0, .pointer (some ⟨b, 0, none⟩))] /\ S = [scB b s, F])
  ⟨0, by omega, by simp, rfl, rfl, rfl, rfl⟩ ?_
 rintro q D L S ⟨i, hi, hall, rfl, rfl, rfl, rfl⟩
 refine gg ?_
 by_cases hil : i < s.length
 ·have hnx := xX (p := tcB) s i hil
  rw [decide_eq_true (show (i : Int) < s.length by omega)]
  refine gg ?_
  refine cA (Zu (s.getD i 0)) ?_; rintro v A ⟨rfl, rfl⟩; refine gA ?_
  cases h1 : tcB (s.getD i 0) with
  | true =>
   refine gg ?_
   exact zA ⟨i + 1, by omega, by rw [hnx, hall, h1]; rfl, rfl, rfl, rfl, rfl⟩
  | false =>
   obtain ⟨e1, e2⟩ := tok_at s i hall (.inr ⟨hil, h1⟩)
   rw [e1, e2]
   refine gg ?_
   refine zb [scB b (s.drop i)] ?_; exact ⟨rfl, rfl⟩
 ·obtain ⟨e1, e2⟩ := tok_at s i hall (.inl (by omega))
  rw [e1, e2]
  rw [decide_eq_false (show ¬ (i : Int) < s.length by omega)]
  refine gg ?_
  refine zb [scB b (s.drop i)] ?_; exact ⟨rfl, rfl⟩
theorem qgo_bad {c : UInt8} {r : List UInt8} (h1 : c ≠ 34) (h2 : inB c = false) : qgo (c :: r) = none := by
 cases r <;> simp [qgo, h1, h2]
theorem qgo_end1 : qgo [92] = none := by simp [qgo]
theorem qgo_bad2 {d : UInt8} {r : List UInt8} (h2 : inB d = false) : qgo (92 :: d :: r) = none := by
 rw [qgo, if_neg (by decide), if_neg (by decide), if_pos rfl, if_neg (by rw [h2]; simp)]
def qgoV (s : List UInt8) : List UInt8 × Bool × List UInt8 := match qgo s with
 | some x => (x.1, true, x.2)
 | none => ([], false, s)
theorem yC {s : List UInt8} (h : qgo s = none) : qgoV s = ([], false, s) := by unfold qgoV; rw [h]
theorem OE {s : List UInt8} {x : List UInt8 × List UInt8} (h : qgo s = some x) : qgoV s = (x.1, true, x.2) := by unfold qgoV; rw [h]
theorem Vy (b : Nat) (s : List UInt8) (hs : s.length <= 100000) : Meets Tryz.prog 239 [.pointer (some ⟨b, 0, none⟩)] [scB b s]
  fun v A => v = .tuple #[.string (str (qgoV s).1), .bool (qgoV s).2.1] /\ A = [scB b (qgoV s).2.2] := by
 refine eN Tryz.func239 Tryz.ntmps239 Tryz.results239 fun F => ?_
 refine gg ?_
 refine zE ?_
 refine zB (fun q D L S => ∃ (i : Nat) (out : List UInt8) (X : Chunk) (xa : Option Addr) (xc : Nat), i <= s.length /\ out.length <= i /\ qgo s = (qgo (s.drop i)).map (fun x => (out ++ x.1, x.2)) /\ Own8 5 X xa out.length xc out /\ q = s.length - i /\ D = [] /\
  L = [(5, .int .i64 i), (4, .slice xa out.length xc), (0, .pointer (some ⟨b, 0, none⟩))] /\ S = [X, scB b s, F])
  ⟨0, [], [], none, 0, by omega, by simp, by simp, own_nil, rfl, rfl, rfl, rfl⟩ ?_
 rintro q D L S ⟨i, out, X, xa, xc, hi, hol, hq, hX, rfl, rfl, rfl, rfl⟩
 refine gg ?_
 refine if_d (fun hc => ?_) (fun hc => ?_)
 ·have hil : i < s.length := by omega
  have hdr := vI s i hil
  have hlt := (s.getD i 0).toNat_lt
  rw [hdr] at hq
  refine gg ?_
  by_cases e1 : s.getD i 0 = 34
  ·rw [e1, qgo_end, Option.map_some] at hq
   rw [beq_iff_eq.2 (show ((s.getD i 0).toNat : Int) = 34 by rw [e1]; rfl), OE hq, List.append_nil]
   refine gg ?_
   refine ze fun K hK => ?_; refine xf (hX.rd mmA) ?_; refine hK _ _ ?_; clear hK K
   refine gg ?_
   refine zf (vs := [.string (str out), .bool true]) [scB b (s.drop (i + 1))] ⟨rfl, rfl⟩
  ·rw [beq_eq_false_iff_ne.2 (show ((s.getD i 0).toNat : Int) ≠ 34 from fun h => e1 (UInt8.toNat_inj.1 (show (s.getD i 0).toNat = 34 by omega)))]
   refine gg ?_
   refine cA (ky (s.getD i 0)) ?_; rintro v A ⟨rfl, rfl⟩; refine gA ?_
   cases h1 : inB (s.getD i 0) with
   | false =>
    rw [qgo_bad e1 h1, Option.map_none] at hq
    rw [yC hq]
    refine gg ?_
    refine zf (vs := [.string (str []), .bool false]) [scB b s] ⟨rfl, rfl⟩
   | true =>
    refine gg ?_
    by_cases e2 : s.getD i 0 = 92
    ·rw [beq_iff_eq.2 (show ((s.getD i 0).toNat : Int) = 92 by rw [e2]; rfl)]
     refine gg ?_
     rw [e2] at hq
     by_cases hi2 : i + 1 < s.length
     ·have hdr2 := vI s (i + 1) hi2
      rw [hdr2] at hq
      rw [beq_eq_false_iff_ne.2 (show (i : Int) + 1 ≠ s.length by omega)]
      refine gg ?_
      rw [show ((i : Int) + 1).toNat = i + 1 from by omega]
      refine cA (ky (s.getD (i + 1) 0)) ?_; rintro v A ⟨rfl, rfl⟩; refine gA ?_
      cases h2 : inB (s.getD (i + 1) 0) with
      | false =>
       rw [qgo_bad2 h2, Option.map_none] at hq
       rw [yC hq]
       refine gg ?_
       refine zf (vs := [.string (str []), .bool false]) [scB b s] ⟨rfl, rfl⟩
      | true =>
       rw [OJ h2, Option.map_map] at hq
       refine gg ?_
       rw [show ((i : Int) + 1).toNat = i + 1 from by omega]
       refine ze fun K hK => ?_; refine zR ([s.getD (i + 1) 0]) (by decide) rfl (rfl) (fun b7 C7 ho7 => ?_); refine hK _ _ ?_; clear hK K
       refine gg ?_
       refine ze fun K hK => ?_; refine app8 (hX) pkA ((ho7.rd (List.mem_cons_self ..)).mem mmA) (by omega) (fun C9 a9 cap9 ho9 => ?_); refine hK _ _ ?_; clear hK K
       refine gg ?_
       rw [show out.length + 1 = (out ++ [s.getD (i + 1) 0]).length from by simp] at ho9 ⊢
       exact zA ⟨i + 2, out ++ [s.getD (i + 1) 0], C9, a9, cap9, by omega, by simp; omega, by rw [hq]; congr 1; funext x; simp, ho9, rfl, rfl, rfl, rfl⟩
     ·have hnil : s.drop (i + 1) = [] := List.drop_eq_nil_of_le (by omega)
      rw [hnil, qgo_end1, Option.map_none] at hq
      rw [yC hq]
      rw [beq_iff_eq.2 (show (i : Int) + 1 = s.length by omega)]
      refine gg ?_
      refine zf (vs := [.string (str []), .bool false]) [scB b s] ⟨rfl, rfl⟩
    ·rw [beq_eq_false_iff_ne.2 (show ((s.getD i 0).toNat : Int) ≠ 92 from fun h => e2 (UInt8.toNat_inj.1 (show (s.getD i 0).toNat = 92 by omega)))]
     rw [Wy e1 h1 e2, Option.map_map] at hq
     refine gg ?_
     refine ze fun K hK => ?_; refine zR ([s.getD i 0]) (by decide) rfl (rfl) (fun b7 C7 ho7 => ?_); refine hK _ _ ?_; clear hK K
     refine gg ?_
     refine ze fun K hK => ?_; refine app8 (hX) pkA ((ho7.rd (List.mem_cons_self ..)).mem mmA) (by omega) (fun C9 a9 cap9 ho9 => ?_); refine hK _ _ ?_; clear hK K
     refine gg ?_
     rw [show out.length + 1 = (out ++ [s.getD i 0]).length from by simp] at ho9 ⊢
     exact zA ⟨i + 1, out ++ [s.getD i 0], C9, a9, cap9, by omega, by simp; omega, by rw [hq]; congr 1; funext x; simp, ho9, rfl, rfl, rfl, rfl⟩
 ·obtain rfl : i = s.length := by omega
  rw [List.drop_length] at hq
  rw [yC (by rw [hq]; rfl)]
  refine gg ?_
  refine zf (vs := [.string (str []), .bool false]) [scB b s] ⟨rfl, rfl⟩
abbrev encP (p : Par) : List Value := [.string (str p.n), .string (str p.v), .bool p.q]
theorem wh (p : Par) : (encP p).length = 3 := rfl
theorem xL (p : Par) : ∀ v ∈ encP p, Value.cell1 v := by
 intro v hv
 simp only [encP, List.mem_cons, List.not_mem_nil, or_false] at hv
 rcases hv with rfl | rfl | rfl <;> simp [Value.cell1]
def p0 : Par := ⟨[], [], false⟩
instance iDH_1 : TPlaces Tryz.prog 210 [(0, 1), (1, 1), (2, 1)] := ⟨by kernel_rfl⟩
theorem YU (b : Nat) (s : List UInt8) (hs : s.length <= 100000) : Meets Tryz.prog 206 [.pointer (some ⟨b, 0, none⟩)] [scB b s]
  fun v A => ∃ (p : Par) (ok : Bool) (r : List UInt8), v = .tuple #[.agg (encP p).toArray, .bool ok] /\ A = [scB b r] /\ oneE s = (if ok = true then some (p, r) else none) := by
 have l1 := Xh s
 have l0 := KT s
 have l2 := xD (tokR s)
 have l3 := qZ (zl (tokR s)) 61
 have low0 : (lowL (tokL s) = []) ↔ tokL s = [] := by unfold lowL; exact List.map_eq_nil_iff
 refine eN Tryz.func206 Tryz.ntmps206 Tryz.results206 fun F => ?_
 refine gg ?_
 refine oA (encP p0).toArray fun b2 => ?_
 refine gg ?_
 refine cA (qb b s hs) ?_; rintro v A ⟨rfl, rfl⟩; refine gA ?_
 refine cA (qP (tokL s) (by omega)) ?_; rintro v A ⟨rfl, rfl⟩; refine gA ?_
 refine oT [(0, .string (str (lowL (tokL s))))] (encP ⟨lowL (tokL s), [], false⟩).toArray ?_
 refine gg ?_
 refine oA (encP p0).toArray fun b4 => ?_
 refine oS (encP ⟨lowL (tokL s), [], false⟩) rfl (xL _) ?_
 refine gg ?_
 refine cA (jW b (tokR s) (by omega)) ?_; rintro v A ⟨rfl, rfl⟩; refine gA ?_
 by_cases ha : tokL s = []
 ·have hn : lowL (tokL s) = [] := low0.2 ha
  have l4 := xD (zl (tokR s))
  rw [hn]
  refine gg ?_
  (try rw [bne_self_eq_false])
  refine gg ?_
  refine cA (jW b (zl (tokR s)) (by omega)) ?_; rintro v A ⟨rfl, rfl⟩; refine gA ?_
  refine cA (qb b (zl (zl (tokR s))) (by omega)) ?_; rintro v A ⟨rfl, rfl⟩; refine gA ?_
  refine gM ?_
  refine zn [(0, false, []), (1, false, []), (2, false, []), (3, false, []), (4, false, []), (5, false, []), (6, false, []), (7, true, [4]), (8, true, [])] ?_
  refine gg ?_
  refine qO fun K hK => ?_
  refine zm (vs := encP ⟨[], tokL (zl (zl (tokR s))), false⟩) lkA rfl ?_; refine hK _ _ ?_; clear hK K
  refine gg ?_
  refine zh fun K hK => ?_; refine xz (vs := encP ⟨[], tokL (zl (zl (tokR s))), false⟩) rfl (xL _) upA (by rfl) ?_; refine pBk hK ?_; clear hK K
  refine gg ?_
  refine zf (vs := [.agg (encP ⟨[], tokL (zl (zl (tokR s))), false⟩).toArray, .bool false]) [scB b (tokR (zl (zl (tokR s))))] ⟨⟨[], tokL (zl (zl (tokR s))), false⟩, false, (tokR (zl (zl (tokR s)))), rfl, rfl, by rw [one_no1 ha]; rfl⟩ (hr := by (intro κ hκ; simp only [resW, withV, lookT_hit, lookT_miss, Nat.reduceBEq]; exact zm (vs := encP ⟨[], tokL (zl (zl (tokR s))), false⟩) lkA rfl hκ))
 ·have hn : (lowL (tokL s) != []) = true := bne_iff_ne.2 (fun e => ha (low0.1 e))
  refine gg ?_
  rw [hn]
  refine gg ?_
  (try rw [show Value.int .u8 61 = b8 61 from rfl])
  refine cA (jJ b (zl (tokR s)) 61 (by omega)) ?_; rintro v A ⟨rfl, rfl⟩; refine gA ?_
  have l4 := xD (zK (zl (tokR s)) 61).2
  cases h1 : (zK (zl (tokR s)) 61).1 with
  | false =>
   refine gg ?_
   refine cA (jW b (zK (zl (tokR s)) 61).2 (by omega)) ?_; rintro v A ⟨rfl, rfl⟩; refine gA ?_
   refine cA (qb b (zl (zK (zl (tokR s)) 61).2) (by omega)) ?_; rintro v A ⟨rfl, rfl⟩; refine gA ?_
   refine gM ?_
   refine zn [(0, false, []), (1, false, []), (2, false, []), (3, false, []), (4, false, []), (5, false, []), (6, false, []), (7, true, [4]), (8, true, [])] ?_
   refine gg ?_
   refine qO fun K hK => ?_
   refine zm (vs := encP ⟨lowL (tokL s), tokL (zl (zK (zl (tokR s)) 61).2), false⟩) lkA rfl ?_; refine hK _ _ ?_; clear hK K
   refine gg ?_
   refine zh fun K hK => ?_; refine xz (vs := encP ⟨lowL (tokL s), tokL (zl (zK (zl (tokR s)) 61).2), false⟩) rfl (xL _) upA (by rfl) ?_; refine pBk hK ?_; clear hK K
   refine gg ?_
   refine zf (vs := [.agg (encP ⟨lowL (tokL s), tokL (zl (zK (zl (tokR s)) 61).2), false⟩).toArray, .bool false]) [scB b (tokR (zl (zK (zl (tokR s)) 61).2))] ⟨⟨lowL (tokL s), tokL (zl (zK (zl (tokR s)) 61).2), false⟩, false, (tokR (zl (zK (zl (tokR s)) 61).2)), rfl, rfl, by rw [one_no2 h1]; rfl⟩ (hr := by (intro κ hκ; simp only [resW, withV, lookT_hit, lookT_miss, Nat.reduceBEq]; exact zm (vs := encP ⟨lowL (tokL s), tokL (zl (zK (zl (tokR s)) 61).2), false⟩) lkA rfl hκ))
  | true =>
   have hy := Xm h1
   obtain ⟨y, hy2⟩ : ∃ y, (zK (zl (tokR s)) 61).2 = y := ⟨_, rfl⟩
   rw [hy2] at hy l4 l3 ⊢
   refine gg ?_
   refine cA (jW b y (by omega)) ?_; rintro v A ⟨rfl, rfl⟩; refine gA ?_
   (try rw [show Value.int .u8 34 = b8 34 from rfl])
   refine cA (jJ b (zl y) 34 (by omega)) ?_; rintro v A ⟨rfl, rfl⟩; refine gA ?_
   cases h2 : (zK (zl y) 34).1 with
   | true =>
    have hz := Xm h2
    have l5 := qZ (zl y) 34
    obtain ⟨z, hz2⟩ : ∃ z, (zK (zl y) 34).2 = z := ⟨_, rfl⟩
    rw [hz2] at hz l5 ⊢
    refine gg ?_
    refine gM ?_
    refine cA (Vy b z (by omega)) ?_; rintro v A ⟨rfl, rfl⟩; refine gA ?_
    refine gM ?_
    refine oL (encP ⟨lowL (tokL s), (qgoV z).1, true⟩) rfl ?_
    refine gg ?_
    refine oS (encP ⟨lowL (tokL s), (qgoV z).1, true⟩) rfl (xL _) ?_
    refine gg ?_
    refine zf (vs := [.agg (encP ⟨lowL (tokL s), (qgoV z).1, true⟩).toArray, .bool (qgoV z).2.1]) [scB b (qgoV z).2.2] ⟨⟨lowL (tokL s), (qgoV z).1, true⟩, (qgoV z).2.1, (qgoV z).2.2, rfl, rfl, ?_⟩ (hr := by (intro κ hκ; simp only [resW, withV, lookT_hit, lookT_miss, Nat.reduceBEq]; exact zm (vs := encP ⟨lowL (tokL s), (qgoV z).1, true⟩) lkA rfl hκ))
    rw [one_q ha hy hz]
    cases hq : qgo z with
    | none => rw [yC hq]; rfl
    | some x => rw [OE hq]; rfl
   | false =>
    have hs2 := Of _ _ h2
    rw [hs2]
    refine gg ?_
    refine cA (qb b (zl y) (by omega)) ?_; rintro v A ⟨rfl, rfl⟩; refine gA ?_
    refine gM ?_
    have ho := one_t ha hy h2
    by_cases hv : tokL (zl y) = []
    ·rw [if_pos hv] at ho
     rw [hv]
     refine zn [(0, false, []), (1, false, []), (2, false, []), (3, false, []), (4, false, []), (5, false, []), (6, false, []), (7, true, [4]), (8, true, [])] ?_
     refine gg ?_
     refine qO fun K hK => ?_
     refine zm (vs := encP ⟨lowL (tokL s), [], false⟩) lkA rfl ?_; refine hK _ _ ?_; clear hK K
     refine gg ?_
     (try rw [bne_self_eq_false]); (try refine gg ?_)
     refine zh fun K hK => ?_; refine xz (vs := encP ⟨lowL (tokL s), [], false⟩) rfl (xL _) upA (by rfl) ?_; refine pBk hK ?_; clear hK K
     refine gg ?_
     refine zf (vs := [.agg (encP ⟨lowL (tokL s), [], false⟩).toArray, .bool false]) [scB b (tokR (zl y))] ⟨⟨lowL (tokL s), [], false⟩, false, (tokR (zl y)), rfl, rfl, by rw [ho]; rfl⟩ (hr := by (intro κ hκ; simp only [resW, withV, lookT_hit, lookT_miss, Nat.reduceBEq]; exact zm (vs := encP ⟨lowL (tokL s), [], false⟩) lkA rfl hκ))
    ·rw [if_neg hv] at ho
     have hv2 : (tokL (zl y) != []) = true := bne_iff_ne.2 hv
     refine zn [(0, false, []), (1, false, []), (2, false, []), (3, false, []), (4, false, []), (5, false, []), (6, false, []), (7, true, [4]), (8, true, [])] ?_
     refine gg ?_
     refine qO fun K hK => ?_
     refine zm (vs := encP ⟨lowL (tokL s), tokL (zl y), false⟩) lkA rfl ?_; refine hK _ _ ?_; clear hK K
     refine gg ?_
     rw [hv2]; refine gg ?_
     refine zh fun K hK => ?_; refine xz (vs := encP ⟨lowL (tokL s), tokL (zl y), false⟩) rfl (xL _) upA (by rfl) ?_; refine pBk hK ?_; clear hK K
     refine gg ?_
     refine zf (vs := [.agg (encP ⟨lowL (tokL s), tokL (zl y), false⟩).toArray, .bool true]) [scB b (tokR (zl y))] ⟨⟨lowL (tokL s), tokL (zl y), false⟩, true, (tokR (zl y)), rfl, rfl, by rw [ho]; rfl⟩ (hr := by (intro κ hκ; simp only [resW, withV, lookT_hit, lookT_miss, Nat.reduceBEq]; exact zm (vs := encP ⟨lowL (tokL s), tokL (zl y), false⟩) lkA rfl hκ))
abbrev OwnR (X : Chunk) (a : Option Addr) (k : Nat) (l : List Par) : Prop := Ost.Own 3 137 X a l.length k (l.flatMap encP)
abbrev OwnP (X : Chunk) (a : Option Addr) (k : Nat) (l : List Par) : Prop := Ost.Own 3 210 X a l.length k (l.flatMap encP)
abbrev rpB (b : Nat) (p : Par) : Chunk := [(b, .cells (encP p).toArray 137 (0, 0))]
abbrev dpB (b : Nat) (p : Par) : Chunk := [(b, .cells (encP p).toArray 210 (0, 0))]
instance tpRPar : TPlaces Tryz.prog 137 [(0, 1), (1, 1), (2, 1)] := ⟨by kernel_rfl⟩
instance teqRPar : TEq Tryz.prog 137 [.s, .s, .b] := ⟨by kernel_rfl⟩
def Qk (l : List Par) (i : Nat) : Bool := (l.take i).any fun q => (l.getD i p0).n == q.n
def cntE (l : List Par) : Int := if 16 < l.length then 3 else if (List.range l.length).any (Qk l) = true then 7 else 0
theorem ZC (f : Nat -> Bool) (i : Nat) : (List.range (i + 1)).any f = ((List.range i).any f || f i) := by
 rw [List.range_succ, List.any_append]; simp
theorem JC (f : Nat -> Bool) {i n : Nat} (h : i < n) (hf : f i = true) : (List.range n).any f = true := List.any_eq_true.2 ⟨i, List.mem_range.2 h, hf⟩
theorem KY (l : List Par) (f : Par -> Bool) (j : Nat) (h : j < l.length) : (l.take (j + 1)).any f = ((l.take j).any f || f (l.getD j p0)) := by
 rw [List.take_add_one, List.any_append, List.getD_eq_getElem?_getD, List.getElem?_eq_getElem h]; simp
theorem qE (l : List Par) (i : Nat) (h : i < l.length) : l[i]? = some (l.getD i p0) := by
 rw [List.getD_eq_getElem?_getD, List.getElem?_eq_getElem h]; rfl
theorem KX (l : List Par) {i j : Nat} (hj : j < i) (hi : i <= l.length) : (l.take i)[j]? = some (l.getD j p0) := by
 rw [List.getElem?_take_of_lt hj]; exact qE l j (by omega)
theorem IR {l : List Par} {i j : Nat} (hj : j < i) (hi : i <= l.length) (hb : ((l.getD i p0).n == (l.getD j p0).n) = true) : Qk l i = true :=
 List.any_eq_true.2 ⟨_, List.mem_of_getElem? (KX l hj hi), hb⟩
def hdr : List UInt8 := [68, 105, 103, 101, 115, 116, 32]
def Wj : List UInt8 := [100, 105, 103, 101, 115, 116]
def valP (p : Par) : List UInt8 := if p.q = true then (quoE p.v).1 else p.v
def Qd (p : Par) : Bool := if p.q = true then (quoE p.v).2 else tokB p.v
def vt (p : Par) : List UInt8 := p.n ++ [61] ++ valP p
def jp (p : Par) : Bool := Qd p && (tokB p.n && (lowL p.n == p.n))
def xh (l : List Par) : List UInt8 := (l.take 1).flatMap vt ++ (l.drop 1).flatMap (fun p => [44, 32] ++ vt p)
def xJ (l : List Par) : List UInt8 × Int :=
 if (decide (0 < l.length) && l.all jp) = false then ([], 4) else if 4096 < (hdr ++ xh l).length then ([], 3) else
 if cntE l ≠ 0 then ([], cntE l) else (hdr ++ xh l, 0)
theorem JU (l : List Par) (i : Nat) (h : i < l.length) : xh (l.take (i + 1)) = xh (l.take i) ++ ((if 0 < i then [44, 32] else []) ++ vt (l.getD i p0)) := by
 have htk : l.take (i + 1) = l.take i ++ [l.getD i p0] := by rw [List.take_add_one, qE l i h]; rfl
 rw [htk]
 unfold xh
 by_cases h0 : 0 < i
 ·have hl : (l.take i).length = i := by rw [List.length_take]; omega
  rw [if_pos h0, List.take_append_of_le_length (by omega), List.drop_append_of_le_length (by omega), List.flatMap_append]
  simp
 ·obtain rfl : i = 0 := by omega
  simp
theorem OF (v : List UInt8) : (quoE v).1.length <= 2 * v.length + 2 := by
 unfold quoE
 split
 ·show (quo v).length <= _
  unfold quo
  have := wF v
  rw [List.length_cons, List.length_append, List.length_singleton]; omega
 ·simp
theorem QM (p : Par) : (valP p).length <= 2 * p.v.length + 2 := by
 unfold valP
 split
 ·exact OF p.v
 ·omega
theorem KW (p : Par) : (vt p).length <= p.n.length + 2 * p.v.length + 3 := by
 unfold vt
 have := QM p
 rw [List.length_append, List.length_append, List.length_singleton]; omega
theorem WQ (l : List Par) (h : ∀ p ∈ l, p.n.length + p.v.length <= 5000) : (xh l).length <= l.length * 12000 := by
 have key : ∀ (l : List Par) (f : Par -> List UInt8), (∀ p ∈ l, (f p).length <= 12000) -> (l.flatMap f).length <= l.length * 12000 := by
  intro l f
  induction l with
  | nil => intro _; simp
  | cons p l ih =>
   intro h
   rw [List.flatMap_cons, List.length_append, List.length_cons]
   have h1 := h p (List.mem_cons_self ..)
   have h2 := ih fun q hq => h q (List.mem_cons_of_mem _ hq)
   rw [Nat.add_mul]; omega
 have htx : ∀ p ∈ l, (vt p).length <= 11000 := fun p hp => by
  have := KW p
  have := h p hp
  omega
 have a1 := key (l.take 1) vt fun p hp => Nat.le_trans (htx p (List.mem_of_mem_take hp)) (by decide)
 have a2 := key (l.drop 1) (fun p => [44, 32] ++ vt p) fun p hp => by
  have := htx p (List.mem_of_mem_drop hp)
  rw [List.length_append]
  show 2 + _ <= _
  omega
 unfold xh
 rw [List.length_append]
 rw [List.length_take] at a1
 rw [List.length_drop] at a2
 have : min 1 l.length * 12000 + (l.length - 1) * 12000 = (min 1 l.length + (l.length - 1)) * 12000 := by rw [Nat.add_mul]
 have h3 : min 1 l.length + (l.length - 1) = l.length := by omega
 rw [h3] at this
 omega
theorem all_par {f : Par -> Bool} (l : List Par) (j : Nat) (h : j < l.length) : (l.take (j + 1)).all f = ((l.take j).all f && f (l.getD j p0)) := by
 rw [List.take_add_one, List.all_append, List.getD_eq_getElem?_getD, List.getElem?_eq_getElem h]; simp
theorem KL {f : Par -> Bool} {l : List Par} {j : Nat} (h : j < l.length) (hf : f (l.getD j p0) = false) : l.all f = false := by
 rw [List.all_eq_false]
 refine ⟨_, List.mem_of_getElem? (qE l j h), ?_⟩
 rw [hf]; simp
def qJ (s : List UInt8) : List UInt8 := (zK (tokR s) 32).2.dropWhile (fun c => c == 32)
def jf (s : List UInt8) : List Par × Int :=
 if 4096 < s.length then ([], 3) else
 if lowL (tokL s) ≠ Wj ∨ (zK (tokR s) 32).1 = false then ([], 4) else
 if (jg (qJ s)).2 = false then ([], 4) else
 if cntE (jg (qJ s)).1 ≠ 0 then ([], cntE (jg (qJ s)).1) else ((jg (qJ s)).1, 0)
theorem yA (s : List UInt8) : (qJ s).length <= s.length := by
 have h1 := (List.dropWhile_sublist (fun c : UInt8 => c == 32) (l := (zK (tokR s) 32).2)).length_le
 have h2 := qZ (tokR s) 32
 have h3 := Xh s
 unfold qJ; omega
def itP (p : Par) : It := ⟨p, p.n, [], [32], [], []⟩
theorem Ke {p : Par} (h : jp p = true) : (itP p).ok := by
 unfold jp at h
 rw [Bool.and_eq_true, Bool.and_eq_true, beq_iff_eq] at h
 obtain ⟨h1, h2, h3⟩ := h
 refine ⟨?_, h2, h3, rfl, rfl, rfl, rfl⟩
 show okP p = true
 unfold okP
 rw [h2, h3]
 unfold Qd at h1
 cases hq : p.q with
 | true =>
  rw [hq, if_pos rfl] at h1
  unfold quoE at h1
  split at h1
  ·rename_i ha; rw [if_pos rfl, ha]; simp
  ·cases h1
 | false =>
  rw [hq, if_neg (by simp)] at h1
  rw [if_neg (by simp), h1]; simp
theorem WU {p : Par} (h : jp p = true) : valP p = valI p := by
 unfold jp at h
 rw [Bool.and_eq_true] at h
 unfold valP valI
 cases hq : p.q with
 | true =>
  have h1 := h.1
  unfold Qd at h1
  rw [hq, if_pos rfl] at h1
  unfold quoE at h1 ⊢
  split at h1
  ·rename_i ha; rw [if_pos rfl, if_pos rfl, if_pos ha]
  ·cases h1
 | false => rw [if_neg (by simp), if_neg (by simp)]
theorem join_it : ∀ (l : List Par) (p : Par), (∀ q ∈ p :: l, jp q = true) -> xh (p :: l) = wk (itP p) ++ wp (l.map itP) := by
 intro l p h
 have key : ∀ l : List Par, (∀ q ∈ l, jp q = true) -> l.flatMap (fun p => [44, 32] ++ vt p) = wp (l.map itP) := by
  intro l
  induction l with
  | nil => intro _; rfl
  | cons q l ih =>
   intro h
   rw [List.flatMap_cons, ih fun x hx => h x (List.mem_cons_of_mem _ hx), List.map_cons, wp]
   unfold vt
   rw [WU (h q (List.mem_cons_self ..))]
   simp [itP, wk]
 show List.flatMap vt [p] ++ l.flatMap _ = _
 rw [key l fun q hq => h q (List.mem_cons_of_mem _ hq)]
 have hp := WU (h p (List.mem_cons_self ..))
 simp [vt, hp, itP, wk]
theorem VD {l : List Par} (h : (xJ l).2 = 0) : jf (xJ l).1 = (l, 0) := by
 unfold xJ at h ⊢
 split at h
 ·cases h
 rename_i h1
 split at h
 ·cases h
 rename_i h2
 split at h
 ·rename_i h3; exact (h3 h).elim
 rename_i h3
 rw [if_neg h1, if_neg h2, if_neg h3]
 show jf (hdr ++ xh l) = _
 have hc : cntE l = 0 := by simpa using h3
 have h1' : (decide (0 < l.length) && l.all jp) = true := by simpa using h1
 rw [Bool.and_eq_true, decide_eq_true_eq, List.all_eq_true] at h1'
 obtain ⟨hl, hg⟩ := h1'
 cases l with
 | nil => simp at hl
 | cons p l =>
  have hj := join_it l p hg
  have hok : ∀ y ∈ l.map itP, y.ok := fun y hy => by
   obtain ⟨q, hq, rfl⟩ := List.mem_map.1 hy
   exact Ke (hg q (List.mem_cons_of_mem _ hq))
  have hb := JR (l.map itP) (itP p) (Ke (hg p (List.mem_cons_self ..))) hok
  rw [<- hj] at hb
  have hmm : (itP p).p :: (l.map itP).map It.p = p :: l := by
   rw [List.map_map]
   show p :: l.map (fun x => x) = _
   rw [List.map_id']
  rw [hmm] at hb
  have ht := Xf (a := [68, 105, 103, 101, 115, 116]) (r := 32 :: xh (p :: l)) (by decide) (by show (!tcB 32) = true; decide)
  have e0 : hdr ++ xh (p :: l) = [68, 105, 103, 101, 115, 116] ++ 32 :: xh (p :: l) := rfl
  have hr : qJ (hdr ++ xh (p :: l)) = xh (p :: l) := by
   unfold qJ
   rw [e0, ht.2, sign_yes]
   have hn := (Xg (Ke (hg p (List.mem_cons_self ..))).nm)
   rw [hj]
   unfold wk
   rw [List.append_assoc]
   cases hnm : (itP p).nm with
   | nil => exact (hn.2 hnm).elim
   | cons c r =>
    rw [hnm, List.all_cons, Bool.and_eq_true] at hn
    have hc32 : c ≠ 32 := fun e => by rw [e] at hn; exact absurd hn.1.1 (by decide)
    rw [List.cons_append, List.dropWhile_cons, if_neg (by simpa using hc32)]
  unfold jf
  rw [if_neg h2, if_neg (by rw [e0, ht.1, ht.2, sign_yes]; simp; decide), hr, hb]
  simp only
  rw [if_neg (by simp), if_neg (by rw [hc]; simp)]
def nRealm : List UInt8 := [114, 101, 97, 108, 109]
def nNonce : List UInt8 := [110, 111, 110, 99, 101]
def nOpaque : List UInt8 := [111, 112, 97, 113, 117, 101]
def nAlg : List UInt8 := [97, 108, 103, 111, 114, 105, 116, 104, 109]
def nStale : List UInt8 := [115, 116, 97, 108, 101]
def nQop : List UInt8 := [113, 111, 112]
def nAuth : List UInt8 := [97, 117, 116, 104]
def nTrue : List UInt8 := [116, 114, 117, 101]
def nSum : List UInt8 := [83, 72, 65, 45, 50, 53, 54]
def nUser : List UInt8 := [117, 115, 101, 114, 110, 97, 109, 101]
def nUri : List UInt8 := [117, 114, 105]
def nNc : List UInt8 := [110, 99]
def nCnonce : List UInt8 := [99, 110, 111, 110, 99, 101]
def nResp : List UInt8 := [114, 101, 115, 112, 111, 110, 115, 101]
def sizB (s : List UInt8) : Bool := s != [] && decide ((s.length : Int) <= 64)
structure Ch where
 r : List UInt8
 n : List UInt8
 o : List UInt8
 st : Bool
abbrev encC (c : Ch) : List Value := [.string (str c.r), .string (str c.n), .string (str c.o), .bool c.st]
def opqP (o : List UInt8) : List Par := if o = [] then [] else [⟨nOpaque, o, true⟩]
def staP (b : Bool) : List Par := if b = true then [⟨nStale, nTrue, false⟩] else []
def XX (c : Ch) : List Par := [⟨nRealm, c.r, true⟩, ⟨nNonce, c.n, true⟩] ++ opqP c.o ++ [⟨nAlg, nSum, false⟩] ++ staP c.st ++ [⟨nQop, nAuth, true⟩]
def kg (c : Ch) : List UInt8 × Int := if sizB c.n = false then ([], 4) else xJ (XX c)
def hasB (l : List Par) (n : List UInt8) : Bool := (l.find? fun p => p.n == n).isSome
def gotP (l : List Par) (n : List UInt8) : Par := (l.find? fun p => p.n == n).getD p0
theorem got_no {l : List Par} {n : List UInt8} (h : hasB l n = false) : gotP l n = p0 := by
 unfold hasB at h; unfold gotP
 cases hf : l.find? fun p => p.n == n with
 | none => rfl
 | some p => rw [hf] at h; cases h
abbrev Fl := Bool × Bool
def getF (l : List Par) (n : List UInt8) (q : Bool) (f : Fl) : Fl := (f.1 || !hasB l n, f.2 || (gotP l n).q != q)
def vm (b : Bool) (f : Fl) : Fl := (f.1, f.2 || !b)
def mayF (l : List Par) (n : List UInt8) (q : Bool) (f : Fl) : Fl := if hasB l n = true then getF l n q f else f
def comF (l : List Par) (q : Bool) (f : Fl) : Fl := vm (lowL (gotP l nAlg).v == lowL nSum) (getF l nAlg false (vm ((gotP l nQop).v == nAuth) (getF l nQop q f)))
def endF (f : Fl) : Int := if f.1 = true then 6 else if f.2 = true then 4 else 0
open Go.Sha
def dv (c : UInt8) : Int := Lib.indexByte digits c
def uhF : List UInt8 -> Option (List UInt8)
 | [] => some []
 | [_] => none
 | a :: b :: r => if dv a < 0 ∨ dv b < 0 then none else (uhF r).map fun l => UInt8.ofNat (16 * (dv a).toNat + (dv b).toNat) :: l
def uhE (s : List UInt8) : List UInt8 × Int := if s.length % 2 ≠ 0 then ([], 2) else match uhF s with
 | some l => (l, 0)
 | none => ([], 5)
theorem WZ (c : UInt8) : -1 <= dv c /\ dv c < 16 := by
 have key : ∀ l : List UInt8, -1 <= Lib.indexByte l c /\ Lib.indexByte l c < l.length := by
  intro l
  induction l with
  | nil => exact ⟨by show (-1 : Int) <= -1; decide, by show (-1 : Int) < 0; decide⟩
  | cons b l ih =>
   have e : Lib.indexByte (b :: l) c = if (b == c) = true then (0 : Int) else if (Lib.indexByte l c == -1) = true then -1 else Lib.indexByte l c + 1 := rfl
   rw [e, List.length_cons]
   split
   ·omega
   ·split
    ·omega
    ·rename_i h; simp at h; omega
 exact key digits
theorem UM : ∀ (k : Nat) (s : List UInt8), s.length <= k -> ∀ l, uhF s = some l -> 2 * l.length = s.length
 | _, [], _, l, h => by simp [uhF] at h; subst h; rfl
 | _, [a], _, l, h => by simp [uhF] at h
 | 0, a :: b :: r, hk, l, h => by simp at hk
 | k + 1, a :: b :: r, hk, l, h => by
  simp only [uhF] at h
  split at h
  ·cases h
  ·cases hr : uhF r with
   | none => rw [hr] at h; cases h
   | some x =>
    rw [hr] at h; cases h
    have := UM k r (by simp only [List.length_cons] at hk; omega) x hr
    simp only [List.length_cons]; omega
theorem uh_len {s : List UInt8} (h : (uhE s).2 = 0) : 2 * (uhE s).1.length = s.length := by
 unfold uhE at h ⊢
 split at h
 ·cases h
 ·rename_i hm
  rw [if_neg hm]
  cases hu : uhF s with
  | none => rw [hu] at h; cases h
  | some l => exact UM _ _ (Nat.le_refl _) l hu
theorem uh_le (s : List UInt8) : 2 * (uhE s).1.length <= s.length := by
 by_cases h : (uhE s).2 = 0
 ·rw [uh_len h]; exact Nat.le_refl _
 ·unfold uhE at h ⊢
  split
  ·simp
  ·rename_i hm
   rw [if_neg hm] at h
   cases hu : uhF s with
   | none => simp
   | some l => rw [hu] at h; exact (h rfl).elim
def numW (l : List UInt8) : W := l.foldl (fun n b => (n <<< 8) ||| BitVec.ofNat 32 b.toNat) 0
def numE (s : List UInt8) : W × Bool := (numW (uhE s).1, decide ((uhE s).2 = 0) && decide ((s.length : Int) = 8))
structure An where
 u : List UInt8
 r : List UInt8
 n : List UInt8
 uri : List UInt8
 cn : List UInt8
 o : List UInt8
 nc : W
 pf : List UInt8
def a0 : An := ⟨[], [], [], [], [], [], 0, []⟩
abbrev encA (a : An) (pa : Option Addr) (pk : Nat) : List Value := [.string (str a.u), .string (str a.r), .string (str a.n), .string (str a.uri), .string (str a.cn), .string (str a.o), b32 a.nc, .slice pa a.pf.length pk]
def yD (l : List Par) : Bool := decide ((uhE (gotP l nResp).v).2 = 0) && decide (((uhE (gotP l nResp).v).1.length : Int) = 32)
def paF (l : List Par) : Fl :=
 vm (yD l) (getF l nResp true (vm (numE (gotP l nNc).v).2 (getF l nNc false (comF l false (mayF l nOpaque true (vm (sizB (gotP l nCnonce).v) (getF l nCnonce true (getF l nUri true (vm (sizB (gotP l nNonce).v) (getF l nNonce true (getF l nRealm true (getF l nUser true (false, false)))))))))))))
def anL (l : List Par) : An := ⟨(gotP l nUser).v, (gotP l nRealm).v, (gotP l nNonce).v, (gotP l nUri).v, (gotP l nCnonce).v, (gotP l nOpaque).v, (numE (gotP l nNc).v).1, (uhE (gotP l nResp).v).1⟩
def paL (l : List Par) : An × Int := if endF (paF l) ≠ 0 then (a0, endF (paF l)) else (anL l, 0)
def paE (s : List UInt8) : An × Int := if (jf s).2 ≠ 0 then (a0, (jf s).2) else paL (jf s).1
def vp (a : An) : List Par := [(⟨nUser, a.u, true⟩ : Par), ⟨nRealm, a.r, true⟩, ⟨nNonce, a.n, true⟩, ⟨nUri, a.uri, true⟩, ⟨nQop, nAuth, false⟩, ⟨nNc, hex (zQ a.nc), false⟩, ⟨nCnonce, a.cn, true⟩, ⟨nResp, hex a.pf, true⟩] ++ opqP a.o ++ [⟨nAlg, nSum, false⟩]
def anOk (a : An) : Bool := sizB a.n && (sizB a.cn && decide ((a.pf.length : Int) = 32))
def qu (a : An) : List UInt8 × Int := if anOk a = false then ([], 4) else xJ (vp a)
theorem an_len (a : An) : (vp a).length <= 20 := by
 unfold vp opqP
 simp only [List.length_append, List.length_cons, List.length_nil]
 split <;> simp
theorem an_bound {a : An} (h1 : a.u.length <= 4000) (h2 : a.r.length <= 4000) (h3 : a.n.length <= 4000) (h4 : a.uri.length <= 4000) (h5 : a.cn.length <= 4000) (h6 : a.o.length <= 4000) (h7 : a.pf.length <= 1000) : ∀ p ∈ vp a, p.n.length + p.v.length <= 5000 := by
 intro p hp
 unfold vp opqP at hp
 simp only [List.mem_append, List.mem_cons, List.not_mem_nil, or_false] at hp
 rcases hp with ((rfl | rfl | rfl | rfl | rfl | rfl | rfl | rfl) | hp) | rfl
 ·show nUser.length + a.u.length <= _; have : nUser.length = 8 := rfl; omega
 ·show nRealm.length + a.r.length <= _; have : nRealm.length = 5 := rfl; omega
 ·show nNonce.length + a.n.length <= _; have : nNonce.length = 5 := rfl; omega
 ·show nUri.length + a.uri.length <= _; have : nUri.length = 3 := rfl; omega
 ·decide
 ·show nNc.length + (hex (zQ a.nc)).length <= _; rw [hex_len]; have : nNc.length = 2 := rfl; have : (zQ a.nc).length = 4 := rfl; omega
 ·show nCnonce.length + a.cn.length <= _; have : nCnonce.length = 6 := rfl; omega
 ·show nResp.length + (hex a.pf).length <= _; rw [hex_len]; have : nResp.length = 8 := rfl; omega
 ·split at hp
  ·cases hp
  ·simp only [List.mem_cons, List.not_mem_nil, or_false] at hp
   subst hp
   show nOpaque.length + a.o.length <= _; have : nOpaque.length = 6 := rfl; omega
 ·decide
end Go.Proofs.YtebikhhoppiapaaGreatDoor
namespace Go.Proofs.YtebikhhoppiapaaGreatDoor
open Go Go.Ost
theorem Qo {s : Nat} {a : Option Addr} {m : Nat} : cutA s a 0 m = a := by
 unfold cutA
 split
 ·rfl
 ·cases a with
  | none => simp
  | some x => simp [Addr.add]
theorem wO {X : Chunk} {xa : Option Addr} {xc : Nat} {l : List Par} (hX : OwnP X xa xc l) (hl : l.length <= 100000) : Meets Tryz.prog 151 [.slice xa l.length xc] [X]
  fun v A => v = .int .i64 (cntE l) /\ A = [X] := by
 have hs := wh
 have hle := hX.1
 unfold cntE
 refine eN Tryz.func151 Tryz.ntmps151 Tryz.results151 fun F => ?_
 refine gg ?_
 by_cases h16 : 16 < l.length
 ·rw [if_pos h16, decide_eq_true (show (16 : Int) < l.length by omega)]
  refine gg ?_
  refine zb [X] ⟨rfl, rfl⟩
 rw [if_neg h16, decide_eq_false (show ¬ (16 : Int) < l.length by omega)]
 refine gg ?_
 refine zB (fun q D L S => ∃ i : Nat, i <= l.length /\ (List.range i).any (Qk l) = false /\ q = l.length - i /\ D = [] /\
  L = [(12, .int .i64 i), (11, .int .i64 l.length), (10, .slice xa l.length xc), (0, .slice xa l.length xc)] /\ S = [X, F])
  ⟨0, by omega, rfl, rfl, rfl, rfl, rfl⟩ ?_
 rintro q D L S ⟨i, hi, hno, rfl, rfl, rfl, rfl⟩
 refine gg ?_
 refine if_d (fun hc => ?_) (fun hc => ?_)
 ·have hil : i < l.length := by omega
  have hx := qE l i hil
  have hrn := ZC (Qk l) i
  refine gg ?_
  refine ze fun K hK => ?_; refine xe hX hs hx (by decide) mmA ?_; refine hK _ _ ?_; clear hK K
  refine oA (encP p0).toArray fun b4 => ?_
  refine gg ?_
  refine oS (encP (l.getD i p0)) rfl (xL _) ?_
  refine gg ?_
  have hcut : Ost.Own 3 210 X xa i xc ((l.take i).flatMap encP) := by
   have q := VF hX (l := 0) (h' := i) (m := xc) (by omega) (by omega) (by omega) (by omega)
   rwa [Qo, Nat.sub_zero, Nat.sub_zero, Nat.zero_mul, List.drop_zero, Qa encP 3 hs] at q
  (try (refine ze fun K hK => ?_; rw [cut_hi (e := 210) (s := 3) (hs := inferInstance) (by omega) (by omega)]; refine hK _ _ ?_; clear hK K))
  simp only [Qo, Nat.sub_zero, show ((i : Int)).toNat = i from by omega]
  refine gg ?_
  refine zB (fun q D L S => ∃ j : Nat, j <= i /\ ((l.take j).any fun q => (l.getD i p0).n == q.n) = false /\ q = i - j /\ D = [] /\
   L = [(21, .int .i64 j), (20, .int .i64 i), (19, .slice xa i xc), (4, .pointer (some ⟨b4, 0, none⟩)), (12, .int .i64 i), (11, .int .i64 l.length), (10, .slice xa l.length xc), (0, .slice xa l.length xc)] /\ S = [dpB b4 (l.getD i p0), X, F])
   ⟨0, by omega, rfl, rfl, rfl, rfl, rfl⟩ ?_
  rintro q D L S ⟨j, hj, hnj, rfl, rfl, rfl, rfl⟩
  refine gg ?_
  refine if_d (fun hc => ?_) (fun hc => ?_)
  ·have hji : j < i := by omega
   have hx2 := KX l hji hi
   refine gg ?_
   refine ze fun K hK => ?_; refine xe hcut hs hx2 (by decide) mmA ?_; refine hK _ _ ?_; clear hK K
   refine oA (encP p0).toArray fun b6 => ?_
   refine gg ?_
   refine oS (encP (l.getD j p0)) rfl (xL _) ?_
   refine gg ?_
   cases hb : ((l.getD i p0).n == (l.getD j p0).n) with
   | true =>
    refine gg ?_
    rw [if_pos (JC (Qk l) hil (IR hji hi hb))]
    refine zb [X] ⟨rfl, rfl⟩
   | false =>
    refine gg ?_
    exact zA ⟨j + 1, by omega, by rw [KY l _ j (by omega), hnj, hb]; rfl, rfl, rfl, rfl, rfl⟩
  ·obtain rfl : j = i := by omega
   refine gg ?_
   exact zA ⟨j + 1, by omega, by rw [hrn, hno]; exact hnj, rfl, rfl, rfl, rfl⟩
 ·obtain rfl : i = l.length := by omega
  rw [hno]
  refine gg ?_
  refine zb [X] ⟨rfl, rfl⟩
theorem Xy {X : Chunk} {xa : Option Addr} {xc : Nat} {l : List Par} (hX : OwnR X xa xc l) (hl : l.length <= 100000) : Meets Tryz.prog 120 [.slice xa l.length xc] [X]
  fun v A => v = .int .i64 (cntE l) /\ A = [X] := by
 have hs := wh
 have hle := hX.1
 unfold cntE
 refine eN Tryz.func120 Tryz.ntmps120 Tryz.results120 fun F => ?_
 refine gg ?_
 by_cases h16 : 16 < l.length
 ·rw [if_pos h16, decide_eq_true (show (16 : Int) < l.length by omega)]
  refine gg ?_
  refine zb [X] ⟨rfl, rfl⟩
 rw [if_neg h16, decide_eq_false (show ¬ (16 : Int) < l.length by omega)]
 refine gg ?_
 refine zB (fun q D L S => ∃ i : Nat, i <= l.length /\ (List.range i).any (Qk l) = false /\ q = l.length - i /\ D = [] /\
  L = [(10, .int .i64 i), (9, .int .i64 l.length), (0, .slice xa l.length xc)] /\ S = [X, F])
  ⟨0, by omega, rfl, rfl, rfl, rfl, rfl⟩ ?_
 rintro q D L S ⟨i, hi, hno, rfl, rfl, rfl, rfl⟩
 refine gg ?_
 refine if_d (fun hc => ?_) (fun hc => ?_)
 ·have hil : i < l.length := by omega
  have hx := qE l i hil
  have hrn := ZC (Qk l) i
  refine gg ?_
  refine zB (fun q D L S => ∃ j : Nat, j <= i /\ ((l.take j).any fun q => (l.getD i p0).n == q.n) = false /\ q = i - j /\ D = [] /\
   L = [(4, .int .i64 j), (3, .int .i64 i), (10, .int .i64 i), (9, .int .i64 l.length), (0, .slice xa l.length xc)] /\ S = [X, F])
   ⟨0, by omega, rfl, rfl, rfl, rfl, rfl⟩ ?_
  rintro q D L S ⟨j, hj, hnj, rfl, rfl, rfl, rfl⟩
  refine gg ?_
  refine if_d (fun hc => ?_) (fun hc => ?_)
  ·have hji : j < i := by omega
   have hx2 := qE l j (by omega)
   refine gg ?_
   refine zn [(0, false, []), (1, false, []), (2, false, []), (3, false, []), (4, false, []), (5, false, []), (6, false, []), (7, false, []), (8, false, []), (9, false, []), (10, false, [])] ?_
   refine gg ?_
   (try (refine qO fun K hK => ?_; refine yJ (off := 0) hX hs hx rfl mmA ?_; refine hK _ _ ?_; clear hK K; refine gg ?_))
   (try (refine qO fun K hK => ?_; refine yJ (off := 0) hX hs hx2 rfl mmA ?_; refine hK _ _ ?_; clear hK K; refine gg ?_))
   cases hb : ((l.getD i p0).n == (l.getD j p0).n) with
   | true =>
    refine gg ?_
    rw [if_pos (JC (Qk l) hil (IR hji hi hb))]
    refine zb [X] ⟨rfl, rfl⟩
   | false =>
    refine gg ?_
    exact zA ⟨j + 1, by omega, by rw [KY l _ j (by omega), hnj, hb]; rfl, rfl, rfl, rfl, rfl⟩
  ·obtain rfl : j = i := by omega
   refine gg ?_
   exact zA ⟨j + 1, by omega, by rw [hrn, hno]; exact hnj, rfl, rfl, rfl, rfl⟩
 ·obtain rfl : i = l.length := by omega
  rw [hno]
  refine gg ?_
  refine zb [X] ⟨rfl, rfl⟩
theorem YO {X : Chunk} {xa : Option Addr} {xc : Nat} {l : List Par} (hX : OwnP X xa xc l) (hl : l.length <= 20) (hb : ∀ p ∈ l, p.n.length + p.v.length <= 5000) :
  Meets Tryz.prog 101 [.slice xa l.length xc] [X] fun v A => v = .tuple #[.string (str (xJ l).1), .int .i64 (xJ l).2] /\ A = [X] := by
 have hs := wh
 have s7 : Value.string ⟨#[68, 105, 103, 101, 115, 116, 32]⟩ = .string (str hdr) := rfl
 have s2 : Value.string ⟨#[44, 32]⟩ = .string (str [44, 32]) := rfl
 have s1 : Value.string ⟨#[61]⟩ = .string (str [61]) := rfl
 refine eN Tryz.func101 Tryz.ntmps101 Tryz.results101 fun F => ?_
 refine gg ?_
 refine ze fun K hK => ?_; refine zv fun b4 => ?_; (try simp only [Value.cells]); refine hK _ _ ?_; clear hK K
 refine zE ?_
 refine gg ?_
 have hw := yh (Bd.new b4) hdr (by decide) (by decide)
 rw [List.length_nil, List.nil_append] at hw
 rw [s7]
 refine cA (hw) ?_; rintro v A ⟨⟨u, rfl⟩, p1, a1, cap1, X1, hB1, rfl⟩; refine gA ?_
 have e0 : hdr = hdr ++ xh (l.take 0) := by simp [xh]
 rw [e0] at hB1
 rw [show hdr.length = (hdr ++ xh (l.take 0)).length from congrArg List.length e0, show decide ((0 : Int) < l.length) = (decide ((0 : Int) < l.length) && (l.take 0).all jp) from by simp]
 refine zB (fun q D L S => ∃ (i : Nat) (p a' : Option Addr) (cap' : Nat) (Y : Chunk), i <= l.length /\ Bd b4 (hdr ++ xh (l.take i)) p a' cap' Y /\ q = l.length - i /\ D = [] /\
  L = [(18, .int .i64 i), (17, .int .i64 l.length), (16, .slice xa l.length xc), (4, .pointer (some ⟨b4, 0, none⟩)), (5, .bool (decide ((0 : Int) < l.length) && (l.take i).all jp)), (0, .slice xa l.length xc)] /\
  S = [bdB b4 p a' (hdr ++ xh (l.take i)).length cap', Y, X, F])
  ⟨0, p1, a1, cap1, X1, by omega, hB1, rfl, rfl, rfl, rfl⟩ ?_
 rintro q D L S ⟨i, p, a', cap', Y, hi, hB, rfl, rfl, rfl, rfl⟩
 have hjl := WQ (l.take i) fun p hp => hb p (List.mem_of_mem_take hp)
 have htl : (l.take i).length <= 20 := by rw [List.length_take]; omega
 have hh7 : hdr.length = 7 := rfl
 have hjl2 : (xh (l.take i)).length <= 240000 := Nat.le_trans hjl (by omega)
 have hol : (hdr ++ xh (l.take i)).length <= 240007 := by rw [List.length_append]; omega
 clear hjl
 refine gg ?_
 refine if_d (fun hc => ?_) (fun hc => ?_)
 ·have hil : i < l.length := by omega
  have hx := qE l i hil
  have hjn := JU l i hil
  have han := all_par (f := jp) l i hil
  have hpb := hb _ (List.mem_of_getElem? hx)
  have htx := KW (l.getD i p0)
  have hvl := QM (l.getD i p0)
  generalize l.getD i p0 = x at *
  obtain ⟨n, v, qq⟩ := x
  simp only at hpb htx hvl
  generalize hokk : (decide ((0 : Int) < l.length) && (l.take i).all jp) = okk
  refine gg ?_
  refine ze fun K hK => ?_; refine xe hX hs hx (by decide) mmA ?_; refine hK _ _ ?_; clear hK K
  refine oA (encP p0).toArray fun b7 => ?_
  refine gg ?_
  refine oS (encP ⟨n, v, qq⟩) rfl (xL _) ?_
  refine gg ?_
  refine zn [(0, false, []), (1, false, []), (2, false, []), (3, false, []), (4, true, [1]), (5, true, []), (6, true, [])] ?_
  refine gg ?_
  refine zh fun K hK => ?_; refine zq (Zt v (by omega)) ?_; rintro v A ⟨rfl, rfl⟩; refine pA hK ?_; clear hK K
  refine gg ?_
  refine zZ (fun D L S => D = [] /\ L = [(8, .string (str (valP ⟨n, v, qq⟩))), (9, .bool (Qd ⟨n, v, qq⟩)), (7, .pointer (some ⟨b7, 0, none⟩)), (6, .int .i64 i), (18, .int .i64 i), (17, .int .i64 l.length), (16, .slice xa l.length xc), (4, .pointer (some ⟨b4, 0, none⟩)), (5, .bool okk), (0, .slice xa l.length xc)] /\
   S = [bdB b4 p a' (hdr ++ xh (l.take i)).length cap', Y, X, dpB b7 ⟨n, v, qq⟩, F]) ?_ ?_
  ·cases qq with
   | true =>
    refine gg ?_
    refine cA (YJ v (by omega)) ?_; rintro v A ⟨rfl, rfl⟩; refine gA ?_
    exact mid ⟨rfl, rfl, rfl⟩
   | false =>
    refine gg ?_
    exact mid ⟨rfl, rfl, rfl⟩
  rintro D L S ⟨rfl, rfl, rfl⟩
  (with_reducible refine xb ?_); refine zZ (fun D L S => D = [] /\ L = [(5, .bool (okk && jp ⟨n, v, qq⟩)), (8, .string (str (valP ⟨n, v, qq⟩))), (7, .pointer (some ⟨b7, 0, none⟩)), (6, .int .i64 i), (18, .int .i64 i), (17, .int .i64 l.length), (16, .slice xa l.length xc), (4, .pointer (some ⟨b4, 0, none⟩)), (0, .slice xa l.length xc)] /\
   S = [bdB b4 p a' (hdr ++ xh (l.take i)).length cap', Y, X, dpB b7 ⟨n, v, qq⟩, F]) ?_ ?_
  ·have hgd : jp ⟨n, v, qq⟩ = (Qd ⟨n, v, qq⟩ && (tokB n && (lowL n == n))) := rfl
   rw [hgd]
   generalize Qd ⟨n, v, qq⟩ = ff
   refine zn [(0, false, []), (1, false, []), (2, false, []), (3, false, []), (4, false, []), (5, false, []), (6, false, []), (7, true, []), (8, false, []), (9, false, []), (10, false, []), (11, false, []), (13, false, []), (14, false, []), (12, true, [14]), (15, false, []), (16, false, []), (17, true, [])] ?_
   refine gg ?_
   cases okk with
   | false =>
    refine gg ?_
    exact mid ⟨rfl, rfl, rfl⟩
   | true =>
    refine gg ?_
    cases ff with
    | false =>
     refine gg ?_
     exact mid ⟨rfl, rfl, rfl⟩
    | true =>
     refine gg ?_
     refine zh fun K hK => ?_; refine zq (Zt n (by omega)) ?_; rintro v A ⟨rfl, rfl⟩; refine pA hK ?_; clear hK K
     refine gg ?_
     cases tokB n with
     | false =>
      refine gg ?_
      exact mid ⟨rfl, rfl, rfl⟩
     | true =>
      refine gg ?_
      refine zh fun K hK => ?_; refine zq (qP n (by omega)) ?_; rintro v A ⟨rfl, rfl⟩; refine pA hK ?_; clear hK K
      refine gg ?_
      exact mid ⟨rfl, rfl, rfl⟩
  rintro D L S ⟨rfl, rfl, rfl⟩
  rw [<- hokk, Bool.and_assoc, <- han]
  clear hokk
  generalize hokn : (decide ((0 : Int) < l.length) && (l.take (i + 1)).all jp) = okn
  (with_reducible refine xb ?_); refine zZ (fun D L S => ∃ (p a' : Option Addr) (cap' : Nat) (Y : Chunk), Bd b4 (hdr ++ (xh (l.take i) ++ (if 0 < i then [44, 32] else []))) p a' cap' Y /\ D = [] /\ L = [(5, .bool okn), (8, .string (str (valP ⟨n, v, qq⟩))), (7, .pointer (some ⟨b7, 0, none⟩)), (18, .int .i64 i), (17, .int .i64 l.length), (16, .slice xa l.length xc), (4, .pointer (some ⟨b4, 0, none⟩)), (0, .slice xa l.length xc)] /\
   S = [bdB b4 p a' (hdr ++ (xh (l.take i) ++ (if 0 < i then [44, 32] else []))).length cap', Y, X, dpB b7 ⟨n, v, qq⟩, F]) ?_ ?_
  ·refine gg ?_
   by_cases h0 : 0 < i
   ·rw [decide_eq_true (show (0 : Int) < i by omega), if_pos h0, <- List.append_assoc]
    refine gg ?_
    rw [s2]
    refine cA (yh hB [44, 32] (by rw [show ([44, 32] : List UInt8).length = 2 from rfl]; omega) (by decide)) ?_; rintro v A ⟨⟨u, rfl⟩, p2, a2, cap2, X2, hB2, rfl⟩; refine gA ?_
    exact mid ⟨p2, a2, cap2, X2, hB2, rfl, rfl, rfl⟩
   ·rw [decide_eq_false (show ¬ (0 : Int) < i by omega), if_neg h0, List.append_nil]
    refine gg ?_
    exact mid ⟨p, a', cap', Y, hB, rfl, rfl, rfl⟩
  rintro D L S ⟨p, a', cap', Y, hB, rfl, rfl, rfl⟩
  have hol2 : (hdr ++ (xh (l.take i) ++ (if 0 < i then [44, 32] else []))).length <= 240009 := by
   rw [List.length_append, List.length_append]
   have : (if 0 < i then [44, 32] else [] : List UInt8).length <= 2 := by split <;> simp
   omega
  have hfin : hdr ++ (xh (l.take i) ++ (if 0 < i then [44, 32] else [])) ++ (n ++ [61] ++ valP ⟨n, v, qq⟩) = hdr ++ xh (l.take (i + 1)) := by
   rw [hjn]; simp [vt]
  generalize valP ⟨n, v, qq⟩ = w at *
  have hnl : (n ++ [61] ++ w).length <= 20000 /\ 1 <= (n ++ [61] ++ w).length := by rw [List.length_append, List.length_append, List.length_singleton]; omega
  refine gg ?_
  rw [s1]
  refine ze fun K hK => ?_; rw [zF (by rw [List.length_singleton]; omega)]; refine hK _ _ ?_; clear hK K
  refine gg ?_
  refine ze fun K hK => ?_; rw [zF (by rw [List.length_append, List.length_singleton]; omega)]; refine hK _ _ ?_; clear hK K
  refine gg ?_
  refine cA (yh hB (n ++ [61] ++ w) (by omega) (by omega)) ?_; rintro v A ⟨⟨u, rfl⟩, p3, a3, cap3, X3, hB3, rfl⟩; refine gA ?_
  rw [hfin] at hB3 ⊢
  subst hokn
  exact zA ⟨i + 1, p3, a3, cap3, X3, by omega, hB3, rfl, rfl, rfl, rfl⟩
 ·obtain rfl : i = l.length := by omega
  rw [List.take_length] at hB hol ⊢
  have hpe : xJ l = (if (decide ((0 : Int) < l.length) && l.all jp) = false then ([], 4) else if 4096 < (hdr ++ xh l).length then ([], 3) else if cntE l ≠ 0 then ([], cntE l) else (hdr ++ xh l, 0)) := by
   unfold xJ
   rw [show decide ((0 : Int) < l.length) = decide (0 < l.length) from by rw [decide_eq_decide]; omega]
  rw [hpe]
  generalize (decide ((0 : Int) < l.length) && l.all jp) = okk at *
  refine gg ?_
  refine cA (vJ hB (by omega)) ?_; rintro v A ⟨rfl, rfl⟩; refine gA ?_
  cases okk with
  | false =>
   rw [if_pos rfl]
   refine gg ?_
   refine zf (vs := [.string (str []), .int .i64 4]) [X] ⟨rfl, rfl⟩
  | true =>
   rw [if_neg (by simp)]
   refine gg ?_
   by_cases h2 : 4096 < (hdr ++ xh l).length
   ·rw [if_pos h2, decide_eq_true (show (4096 : Int) < ((hdr ++ xh l).length : Nat) by omega)]
    refine gg ?_
    refine zf (vs := [.string (str []), .int .i64 3]) [X] ⟨rfl, rfl⟩
   ·rw [if_neg h2, decide_eq_false (show ¬ (4096 : Int) < ((hdr ++ xh l).length : Nat) by omega)]
    refine gg ?_
    refine cA (wO hX (by omega)) ?_; rintro v A ⟨rfl, rfl⟩; refine gA ?_
    by_cases h3 : cntE l = 0
    ·rw [if_neg (by simp [h3]), h3]
     refine gg ?_
     refine zf (vs := [.string (str (hdr ++ xh l)), .int .i64 0]) [X] ⟨rfl, rfl⟩
    ·rw [if_pos h3, bne_iff_ne.2 h3]
     refine gg ?_
     refine zf (vs := [.string (str []), .int .i64 (cntE l)]) [X] ⟨rfl, rfl⟩
instance tpChal : TPlaces Tryz.prog 119 [(0, 1), (1, 1), (2, 1), (3, 1)] := ⟨by kernel_rfl⟩
theorem ch_len (c : Ch) : (XX c).length <= 20 := by
 unfold XX opqP staP
 simp only [List.length_append, List.length_cons, List.length_nil]
 split <;> split <;> simp
theorem ch_bound {c : Ch} (h1 : c.r.length <= 4000) (h2 : c.n.length <= 4000) (h3 : c.o.length <= 4000) : ∀ p ∈ XX c, p.n.length + p.v.length <= 5000 := by
 intro p hp
 unfold XX opqP staP at hp
 simp only [List.mem_append, List.mem_cons, List.not_mem_nil, or_false] at hp
 rcases hp with (((hp | hp) | rfl) | hp) | rfl
 ·rcases hp with rfl | rfl
  ·show nRealm.length + c.r.length <= _; have : nRealm.length = 5 := rfl; omega
  ·show nNonce.length + c.n.length <= _; have : nNonce.length = 5 := rfl; omega
 ·split at hp
  ·cases hp
  ·simp only [List.mem_cons, List.not_mem_nil, or_false] at hp
   subst hp
   show nOpaque.length + c.o.length <= _; have : nOpaque.length = 6 := rfl; omega
 ·decide
 ·split at hp
  ·simp only [List.mem_cons, List.not_mem_nil, or_false] at hp
   subst hp; decide
  ·cases hp
 ·decide
theorem Yz (s : List UInt8) : Meets Tryz.prog 100 [.string (str s)] [] fun v A => v = .bool (sizB s) /\ A = [] := by
 unfold sizB
 refine eN Tryz.func100 Tryz.ntmps100 Tryz.results100 fun F => ?_
 refine gg ?_
 cases hb : (s != []) with
 | false =>
  refine gg ?_
  refine zb [] ?_; exact ⟨rfl, rfl⟩
 | true =>
  refine gg ?_
  refine zb [] ?_; exact ⟨rfl, rfl⟩
theorem VG {X : Chunk} {xa : Option Addr} {xc : Nat} {l : List Par} (hX : OwnP X xa xc l) (hl : l.length <= 100) (s : List UInt8) : Meets Tryz.prog 99 [.slice xa l.length xc, .string (str s)] [X]
  fun v A => ∃ X' a' k', v = .slice a' (l ++ opqP s).length k' /\ OwnP X' a' k' (l ++ opqP s) /\ A = [X'] := by
 unfold opqP
 refine eN Tryz.func99 Tryz.ntmps99 Tryz.results99 fun F => ?_
 refine gg ?_
 by_cases hs : s = []
 ·rw [if_pos hs, hs, List.append_nil]
  refine gg ?_
  (try rw [beq_self_eq_true])
  (try refine gg ?_)
  refine zb [X] ⟨X, xa, xc, rfl, hX, rfl⟩
 ·rw [if_neg hs, beq_eq_false_iff_ne.2 hs]
  refine gg ?_
  refine oT [(0, .string ⟨#[111, 112, 97, 113, 117, 101]⟩), (1, (.string (str s))), (2, .bool true)] (encP ⟨nOpaque, s, true⟩).toArray ?_
  refine ze fun K hK => ?_; refine xd (e := 210) (s := 3) (hs := inferInstance) (vs := encP (⟨nOpaque, s, true⟩ : Par)) (by rfl) (by decide) (by decide) rfl (fun b5 C5 ho5 => ?_); refine hK _ _ ?_; clear hK K
  refine ze fun K hK => ?_; refine zu (e := 210) (s := 3) (hs := inferInstance) (by rfl) (by decide) hX (.inr pkA) (ho5.rd mmA) (xL _) (by simp only [maxLen]; omega) (by omega) (fun X5 a5 k5 hX5 => ?_); refine hK _ _ ?_; clear hK K
  have e1 : (l).length + 1 = (l ++ [(⟨nOpaque, s, true⟩ : Par)]).length := by simp
  have e2 : (l).flatMap encP ++ encP (⟨nOpaque, s, true⟩ : Par) = (l ++ [(⟨nOpaque, s, true⟩ : Par)]).flatMap encP := by simp
  rw [e1, e2] at hX5
  rw [e1]
  clear e1 e2
  refine gg ?_
  refine zb [X5] ⟨X5, a5, k5, rfl, hX5, rfl⟩
theorem Kz (c : Ch) (h1 : c.r.length <= 4000) (h2 : c.n.length <= 4000) (h3 : c.o.length <= 4000) : Meets Tryz.prog 35 [.agg (encC c).toArray] []
  fun v A => v = .tuple #[.string (str (kg c).1), .int .i64 (kg c).2] /\ A = [] := by
 have hcl := ch_len c
 have hcb := ch_bound h1 h2 h3
 obtain ⟨cr, cn, co, cs⟩ := c
 simp only at h1 h2 h3
 have hct : kg ⟨cr, cn, co, cs⟩ = if sizB cn = false then ([], 4) else xJ (XX ⟨cr, cn, co, cs⟩) := rfl
 have hcp : XX ⟨cr, cn, co, cs⟩ = [⟨nRealm, cr, true⟩, ⟨nNonce, cn, true⟩] ++ opqP co ++ [⟨nAlg, nSum, false⟩] ++ staP cs ++ [⟨nQop, nAuth, true⟩] := rfl
 rw [hct]
 refine eN Tryz.func35 Tryz.ntmps35 Tryz.results35 fun F => ?_
 refine gg ?_
 refine oB fun b1 => ?_
 refine gg ?_
 refine oT [(0, .string ⟨#[114, 101, 97, 108, 109]⟩), (1, (.string (str cr))), (2, .bool true)] (encP ⟨nRealm, cr, true⟩).toArray ?_
 refine gg ?_
 refine oT [(0, .string ⟨#[110, 111, 110, 99, 101]⟩), (1, (.string (str cn))), (2, .bool true)] (encP ⟨nNonce, cn, true⟩).toArray ?_
 refine gg ?_
 refine ze fun K hK => ?_; refine Za (n := 2) (e := 210) (s := 3) (hs := inferInstance) [encP ⟨nRealm, cr, true⟩, encP ⟨nNonce, cn, true⟩] (by rfl) rfl (by decide) (by decide) (by decide) (by intro r hr; simp only [List.mem_cons, List.not_mem_nil, or_false] at hr; rcases hr with rfl | rfl <;> rfl) (fun b2 C2 ho2 => ?_); refine hK _ _ ?_; clear hK K
 have hX2 : OwnP C2 (some ⟨b2, 0, none⟩) 2 [⟨nRealm, cr, true⟩, ⟨nNonce, cn, true⟩] := ho2
 clear ho2
 rw [show Value.slice (some ⟨b2, 0, none⟩) 2 2 = .slice (some ⟨b2, 0, none⟩) ([⟨nRealm, cr, true⟩, ⟨nNonce, cn, true⟩] : List Par).length 2 from rfl]
 have hl0 : ([⟨nRealm, cr, true⟩, ⟨nNonce, cn, true⟩] : List Par).length = 2 := rfl
 generalize ([⟨nRealm, cr, true⟩, ⟨nNonce, cn, true⟩] : List Par) = l0 at *
 generalize (some ⟨b2, 0, none⟩ : Option Addr) = a2 at *
 refine gg ?_
 refine cA (VG hX2 (by omega) co) ?_; rintro v A ⟨X3, a3, k3, rfl, hX3, rfl⟩; refine gA ?_
 have hl3 : (l0 ++ opqP co).length <= 3 := by rw [List.length_append]; unfold opqP; split <;> simp <;> omega
 generalize l0 ++ opqP co = l1 at *
 refine gg ?_
 refine oT [(0, .string ⟨#[97, 108, 103, 111, 114, 105, 116, 104, 109]⟩), (1, (.string ⟨#[83, 72, 65, 45, 50, 53, 54]⟩)), (2, .bool false)] (encP ⟨nAlg, nSum, false⟩).toArray ?_
 refine ze fun K hK => ?_; refine xd (e := 210) (s := 3) (hs := inferInstance) (vs := encP (⟨nAlg, nSum, false⟩ : Par)) (by rfl) (by decide) (by decide) rfl (fun b6 C6 ho6 => ?_); refine hK _ _ ?_; clear hK K
 refine ze fun K hK => ?_; refine zu (e := 210) (s := 3) (hs := inferInstance) (by rfl) (by decide) hX3 (.inr pkA) (ho6.rd mmA) (xL _) (by simp only [maxLen]; omega) (by omega) (fun X6 a6 k6 hX6 => ?_); refine hK _ _ ?_; clear hK K
 have e1 : (l1).length + 1 = (l1 ++ [(⟨nAlg, nSum, false⟩ : Par)]).length := by simp
 have e2 : (l1).flatMap encP ++ encP (⟨nAlg, nSum, false⟩ : Par) = (l1 ++ [(⟨nAlg, nSum, false⟩ : Par)]).flatMap encP := by simp
 rw [e1, e2] at hX6
 rw [e1]
 clear e1 e2
 have hl6 : (l1 ++ [(⟨nAlg, nSum, false⟩ : Par)]).length <= 4 := by rw [List.length_append, List.length_singleton]; omega
 generalize l1 ++ [(⟨nAlg, nSum, false⟩ : Par)] = l2 at *
 refine gg ?_
 refine zZ (fun D L S => ∃ (X7 : Chunk) (a7 : Option Addr) (k7 : Nat), OwnP X7 a7 k7 (l2 ++ staP cs) /\ D = [] /\ L = [(4, .slice a7 (l2 ++ staP cs).length k7), (1, .pointer (some ⟨b1, 0, none⟩))] /\ S = [X7, [(b1, .cells (encC ⟨cr, cn, co, cs⟩).toArray 119 (0, 0))], F]) ?_ ?_
 ·cases cs with
  | false =>
   rw [show staP false = [] from rfl, List.append_nil]
   refine gg ?_
   exact mid ⟨X6, a6, k6, hX6, rfl, rfl, rfl⟩
  | true =>
   rw [show staP true = [⟨nStale, nTrue, false⟩] from rfl]
   refine gg ?_
   refine oT [(0, .string ⟨#[115, 116, 97, 108, 101]⟩), (1, (.string ⟨#[116, 114, 117, 101]⟩)), (2, .bool false)] (encP ⟨nStale, nTrue, false⟩).toArray ?_
   refine ze fun K hK => ?_; refine xd (e := 210) (s := 3) (hs := inferInstance) (vs := encP (⟨nStale, nTrue, false⟩ : Par)) (by rfl) (by decide) (by decide) rfl (fun b7 C7 ho7 => ?_); refine hK _ _ ?_; clear hK K
   refine ze fun K hK => ?_; refine zu (e := 210) (s := 3) (hs := inferInstance) (by rfl) (by decide) hX6 (.inr pkA) (ho7.rd mmA) (xL _) (by simp only [maxLen]; omega) (by omega) (fun X7 a7 k7 hX7 => ?_); refine hK _ _ ?_; clear hK K
   have e1 : (l2).length + 1 = (l2 ++ [(⟨nStale, nTrue, false⟩ : Par)]).length := by simp
   have e2 : (l2).flatMap encP ++ encP (⟨nStale, nTrue, false⟩ : Par) = (l2 ++ [(⟨nStale, nTrue, false⟩ : Par)]).flatMap encP := by simp
   rw [e1, e2] at hX7
   rw [e1]
   clear e1 e2
   refine gg ?_
   exact mid ⟨X7, a7, k7, hX7, rfl, rfl, rfl⟩
 rintro D L S ⟨X7, a7, k7, hX7, rfl, rfl, rfl⟩
 have hl7 : (l2 ++ staP cs).length <= 5 := by rw [List.length_append]; unfold staP; split <;> simp <;> omega
 generalize l2 ++ staP cs = l3 at *
 refine gg ?_
 refine cA (Yz cn) ?_; rintro v A ⟨rfl, rfl⟩; refine gA ?_
 cases hz : sizB cn with
 | false =>
  rw [if_pos rfl]
  refine gg ?_
  refine zf (vs := [.string (str []), .int .i64 4]) [] ⟨rfl, rfl⟩
 | true =>
  rw [if_neg (by simp)]
  refine gg ?_
  refine oT [(0, .string ⟨#[113, 111, 112]⟩), (1, (.string ⟨#[97, 117, 116, 104]⟩)), (2, .bool true)] (encP ⟨nQop, nAuth, true⟩).toArray ?_
  refine ze fun K hK => ?_; refine xd (e := 210) (s := 3) (hs := inferInstance) (vs := encP (⟨nQop, nAuth, true⟩ : Par)) (by rfl) (by decide) (by decide) rfl (fun b8 C8 ho8 => ?_); refine hK _ _ ?_; clear hK K
  refine ze fun K hK => ?_; refine zu (e := 210) (s := 3) (hs := inferInstance) (by rfl) (by decide) hX7 (.inr pkA) (ho8.rd mmA) (xL _) (by simp only [maxLen]; omega) (by omega) (fun X8 a8 k8 hX8 => ?_); refine hK _ _ ?_; clear hK K
  have e1 : (l3).length + 1 = (l3 ++ [(⟨nQop, nAuth, true⟩ : Par)]).length := by simp
  have e2 : (l3).flatMap encP ++ encP (⟨nQop, nAuth, true⟩ : Par) = (l3 ++ [(⟨nQop, nAuth, true⟩ : Par)]).flatMap encP := by simp
  rw [e1, e2] at hX8
  rw [e1]
  clear e1 e2
  rw [<- hcp] at hX8 ⊢
  refine cA (YO hX8 hcl hcb) ?_; rintro v A ⟨rfl, rfl⟩; refine gA ?_
  refine zf (vs := [.string (str (xJ (XX ⟨cr, cn, co, cs⟩)).1), .int .i64 (xJ (XX ⟨cr, cn, co, cs⟩)).2]) [] ⟨rfl, rfl⟩
open Go.Sha
theorem Uq (x : W) : Meets Tryz.prog 106 [b32 x] [] fun v A => v = .string (str (hex (zQ x))) /\ A = [] := by
 refine eN Tryz.func106 Tryz.ntmps106 Tryz.results106 fun F => ?_
 refine gg ?_
 refine ze fun K hK => ?_; refine zR ([UInt8.ofNat (x >>> 24).toNat, UInt8.ofNat (x >>> 16).toNat, UInt8.ofNat (x >>> 8).toNat, UInt8.ofNat x.toNat]) (by decide) rfl (rfl) (fun b7 C7 ho7 => ?_); refine hK _ _ ?_; clear hK K
 rw [Qx] at ho7
 have hb := wm C7 (some ⟨b7, 0, none⟩) 4 (zQ x) (by rw [show (zQ x).length = 4 from rfl]; decide) (ho7.rd (by simp))
 rw [show (zQ x).length = 4 from rfl] at hb
 refine gg ?_
 refine cA (hb) ?_; rintro v A ⟨rfl, rfl⟩; refine gA ?_
 refine zb [] ?_; exact ⟨rfl, rfl⟩
theorem kx (A : Chunk) (a : Option Addr) (c : Nat) (ls : List (List UInt8)) (h : Rd 1 [A] a ls.length (ls.map fun l => Value.string (str l))) (hne : ls ≠ []) (hnc : ls.length <= c) (hn : ls.length <= 1000000) (hlen : ((([58] : List UInt8)).intercalate ls).length <= 100000) :
  Meets Tryz.prog 104 [.slice a ls.length c] [A] (New8 5 ((([58] : List UInt8)).intercalate ls) [A]) := by
 have s58 : Value.string ⟨#[58]⟩ = .string (str [58]) := rfl
 refine eN Tryz.func104 Tryz.ntmps104 Tryz.results104 fun F => ?_
 refine gg ?_
 rw [s58]
 refine cA (Yy [A] a c ls [58] h hne hnc hn (by omega)) ?_; rintro v A ⟨rfl, rfl⟩; refine gA ?_
 refine ze fun K hK => ?_; refine zH (by simp only [maxLen]; omega) (fun X xa xc hX => ?_); refine hK _ _ ?_; clear hK K
 refine gg ?_
 refine zb ([X, A]) ?_; exact ⟨_, _, _, rfl, hX, rfl⟩
theorem ha1_spec {G : Chunk} (hg : Globs G) {C : Chunk} {b : Nat} {x : BX} (hC : qG C b x) (hts : x.ts.length <= 1000) (u r p : List UInt8) (hu : u.length <= 1000) (hr : r.length <= 1000) (hp : p.length <= 1000) :
  Meets Tryz.prog 40 [.pointer (some ⟨b, 0, none⟩), .string (str u), .string (str r), .string (str p)] [C, G] (Out b (xx x (xi u r p)) [G]) := by
 have e : (([58] : List UInt8)).intercalate [u, r, p] = xi u r p := by simp [List.intercalate, xi]
 have hl : (xi u r p).length <= 4000 := by unfold xi; simp only [List.length_append, List.length_singleton]; omega
 refine eN Tryz.func40 Tryz.ntmps40 Tryz.results40 fun F => ?_
 refine gg ?_
 refine ze fun K hK => ?_; refine xY rfl [.string (str u), .string (str r), .string (str p)] (by decide) rfl rfl (by simp [Value.cell1]) (fun b13 C13 ho13 => ?_); refine hK _ _ ?_; clear hK K
 refine gg ?_
 have hj := kx C13 (some ⟨b13, 0, none⟩) 3 [u, r, p] (ho13.rd (List.mem_cons_self ..)) (by simp) (Nat.le_refl _) (by show 3 <= 1000000; decide) (by rw [e]; omega)
 rw [e] at hj
 refine cA (hj) ?_; rintro v A ⟨J, ja, jc, rfl, hJ, rfl⟩; refine gA ?_
 refine ze fun K hK => ?_; refine xY rfl [.slice ja (xi u r p).length jc] (by decide) rfl rfl (by simp [Value.cell1]) (fun b15 C15 ho15 => ?_); refine hK _ _ ?_; clear hK K
 refine gg ?_
 have hp4 : Part1 C15 J (some ⟨b15, 0, none⟩) ja jc (xi u r p) := ⟨ho15.rd (List.mem_cons_self ..), hJ.1, hJ.rd (List.mem_cons_self ..), by omega⟩
 refine cA (qX hg hp4 hC hts) ?_; rintro v A ⟨O, C', oa, oc, rfl, hO, hC', rfl⟩; refine gA ?_
 refine zb [O, C', G] ?_
 exact ⟨O, C', oa, oc, rfl, hO, hC', rfl⟩
def ha2T (m uri : List UInt8) : List UInt8 := m ++ [58] ++ uri
def resT (h1 n : List UInt8) (nc : W) (cn h2 : List UInt8) : List UInt8 := hex h1 ++ [58] ++ n ++ [58] ++ hex (zQ nc) ++ [58] ++ cn ++ [58, 97, 117, 116, 104, 58] ++ hex h2
def jR (x : BX) (h1 m : List UInt8) (a : An) : List UInt8 × BX :=
 let k := xx x (ha2T m a.uri)
 xx k.2 (resT h1 a.n a.nc a.cn k.1)
theorem respX_ts (x : BX) (h1 m : List UInt8) (a : An) : (jR x h1 m a).2.ts.length <= x.ts.length + 2 /\ (jR x h1 m a).2.sym = x.sym := by
 unfold jR
 simp only
 have k1 := xK x (ha2T m a.uri)
 generalize xx x (ha2T m a.uri) = k at *
 have k2 := xK k.2 (resT h1 a.n a.nc a.cn k.1)
 exact ⟨by omega, by rw [k2.2, k1.2]⟩
theorem yB (x : BX) (h1 m : List UInt8) (a : An) : (jR x h1 m a).1.length = 32 := ju _ _
theorem Jw {G : Chunk} (hg : Globs G) {C H : Chunk} {b : Nat} {x : BX} (hC : qG C b x) (hts : x.ts.length <= 900) {ha : Option Addr} {hc : Nat} (h1 m : List UInt8) (hl1 : h1.length <= 1000) (hm : m.length <= 1000) (hH : Rd 1 [H] ha h1.length (h1.map b8)) (a : An) (hn : a.n.length <= 4096) (huri : a.uri.length <= 4096) (hcn : a.cn.length <= 4096) (pa : Option Addr) (pk : Nat) :
  Meets Tryz.prog 39 [.pointer (some ⟨b, 0, none⟩), .slice ha h1.length hc, .string (str m), .agg (encA a pa pk).toArray] [C, G, H] (Out b (jR x h1 m a) [G, H]) := by
 obtain ⟨au, ar, an, ai, ak, ao, ac, ap⟩ := a
 simp only at hn huri hcn
 have e2 : (([58] : List UInt8)).intercalate [m, ai] = ha2T m ai := by simp [List.intercalate, ha2T]
 have l2 : (ha2T m ai).length <= 6000 := by unfold ha2T; simp only [List.length_append, List.length_singleton]; omega
 refine eN Tryz.func39 Tryz.ntmps39 Tryz.results39 fun F => ?_
 refine gg ?_
 refine oB fun b7 => ?_
 refine gg ?_
 refine ze fun K hK => ?_; refine xY rfl [.string (str m), .string (str ai)] (by decide) rfl rfl (by simp [Value.cell1]) (fun b14 C14 ho14 => ?_); refine hK _ _ ?_; clear hK K
 refine gg ?_
 have hj := kx C14 (some ⟨b14, 0, none⟩) 2 [m, ai] (ho14.rd (List.mem_cons_self ..)) (by simp) (Nat.le_refl _) (by show 2 <= 1000000; decide) (by rw [e2]; omega)
 rw [e2] at hj
 refine cA (hj) ?_; rintro v A ⟨J, ja, jc, rfl, hJ, rfl⟩; refine gA ?_
 refine ze fun K hK => ?_; refine xY rfl [.slice ja (ha2T m ai).length jc] (by decide) rfl rfl (by simp [Value.cell1]) (fun b16 C16 ho16 => ?_); refine hK _ _ ?_; clear hK K
 refine gg ?_
 have hp4 : Part1 C16 J (some ⟨b16, 0, none⟩) ja jc (ha2T m ai) := ⟨ho16.rd (List.mem_cons_self ..), hJ.1, hJ.rd (List.mem_cons_self ..), by omega⟩
 have kl := ju x (ha2T m ai)
 have kt := xK x (ha2T m ai)
 refine cA (qX hg hp4 hC (by omega)) ?_; rintro v A ⟨K1, C1, ka, kc, rfl, hK1, hC1, rfl⟩; refine gA ?_
 unfold jR
 simp only
 generalize xx x (ha2T m ai) = k at *
 have hx1 : (hex h1).length <= 3000 := by rw [hex_len]; omega
 have hx2 : (hex k.1).length <= 3000 := by rw [hex_len]; omega
 have hx3 : (hex (zQ ac)).length <= 8 := by rw [hex_len]; exact Nat.le_refl _
 have e6 : (([58] : List UInt8)).intercalate [hex h1, an, hex (zQ ac), ak, [97, 117, 116, 104], hex k.1] = resT h1 an ac ak k.1 := by simp [List.intercalate, resT]
 have l6 : (resT h1 an ac ak k.1).length <= 20000 := by unfold resT; simp only [List.length_append, List.length_singleton, List.length_cons, List.length_nil]; omega
 refine zn [(0, false, []), (1, false, []), (3, false, []), (4, false, []), (5, false, []), (6, false, []), (8, false, []), (9, false, []), (10, false, []), (2, true, [4, 6, 9]), (7, true, [4, 9]), (11, true, [4, 9]), (12, true, []), (13, true, []), (14, true, []), (15, true, []), (16, true, [])] ?_
 refine gg ?_
 refine zh fun K hK => ?_; refine zq (wm H ha hc h1 (by omega) hH) ?_; rintro v A ⟨rfl, rfl⟩; refine pA hK ?_; clear hK K
 refine gg ?_
 refine zh fun K hK => ?_; refine zq (Uq ac) ?_; rintro v A ⟨rfl, rfl⟩; refine pA hK ?_; clear hK K
 refine gg ?_
 refine zh fun K hK => ?_; refine zq (wm K1 ka kc k.1 (by omega) (hK1.rd (List.mem_cons_self ..))) ?_; rintro v A ⟨rfl, rfl⟩; refine pA hK ?_; clear hK K
 refine gg ?_
 refine zh fun K hK => ?_; refine xY rfl [.string (str (hex h1)), .string (str an), .string (str (hex (zQ ac))), .string (str ak), .string (str [97, 117, 116, 104]), .string (str (hex k.1))] (by decide) rfl rfl (by simp [Value.cell1]) (fun b30 C30 ho30 => ?_); refine hK _ _ ?_; clear hK K
 refine gg ?_
 have hj6 := kx C30 (some ⟨b30, 0, none⟩) 6 [hex h1, an, hex (zQ ac), ak, [97, 117, 116, 104], hex k.1] (ho30.rd (List.mem_cons_self ..)) (by simp) (Nat.le_refl _) (by show 6 <= 1000000; decide) (by rw [e6]; omega)
 rw [e6] at hj6
 refine zh fun K hK => ?_; refine zq (hj6) ?_; rintro v A ⟨J6, j6, q6, rfl, hJ6, rfl⟩; refine pA hK ?_; clear hK K
 refine gg ?_
 refine zh fun K hK => ?_; refine xY rfl [.slice j6 (resT h1 an ac ak k.1).length q6] (by decide) rfl rfl (by simp [Value.cell1]) (fun b32 C32 ho32 => ?_); refine hK _ _ ?_; clear hK K
 refine gg ?_
 have hp6 : Part1 C32 J6 (some ⟨b32, 0, none⟩) j6 q6 (resT h1 an ac ak k.1) := ⟨ho32.rd (List.mem_cons_self ..), hJ6.1, hJ6.rd (List.mem_cons_self ..), by omega⟩
 refine zh fun K hK => ?_; refine zq (qX hg hp6 hC1 (by omega)) ?_; rintro v A ⟨O, C', oa, oc, rfl, hO, hC', rfl⟩; refine pA hK ?_; clear hK K
 refine gg ?_
 (try (try (refine zh fun K hK => ?_; refine hK _ _ ?_; clear hK K)))
 (try refine gg ?_)
 refine zb [O, C', G, H] ?_
 exact ⟨O, C', oa, oc, rfl, hO, hC', rfl⟩
end Go.Proofs.YtebikhhoppiapaaGreatDoor
namespace Go.Proofs.YtebikhhoppiapaaGreatDoor
open Go Go.Ost
theorem print_no (l : List Par) (i : Nat) (h : i < l.length) (hg : jp (l.getD i p0) = false) : xJ l = ([], 4) := by
 unfold xJ
 rw [if_pos (by rw [KL h hg]; simp)]
theorem JW {p : Par} (h : Qd p = false) : jp p = false := by unfold jp; rw [h]; rfl
theorem good_tok {p : Par} (h : tokB p.n = false) : jp p = false := by unfold jp; rw [h]; simp
theorem good_low {p : Par} (h : (lowL p.n == p.n) = false) : jp p = false := by unfold jp; rw [h]; simp
theorem Vo {X : Chunk} {xa : Option Addr} {xc : Nat} {l : List Par} (hX : OwnR X xa xc l) (hl : l.length <= 20) (hb : ∀ p ∈ l, p.n.length + p.v.length <= 5000) :
  Meets Tryz.prog 54 [.slice xa l.length xc] [X] fun v A => v = .tuple #[.string (str (xJ l).1), .int .i64 (xJ l).2] /\ A = [X] := by
 have hs := wh
 have s7 : Value.string ⟨#[68, 105, 103, 101, 115, 116, 32]⟩ = .string (str hdr) := rfl
 have s2 : Value.string ⟨#[44, 32]⟩ = .string (str [44, 32]) := rfl
 have s1 : Value.string ⟨#[61]⟩ = .string (str [61]) := rfl
 refine eN Tryz.func54 Tryz.ntmps54 Tryz.results54 fun F => ?_
 refine gg ?_
 have e0 : hdr = hdr ++ xh (l.take 0) := by simp [xh]
 rw [s7, show Value.string (str hdr) = .string (str (hdr ++ xh (l.take 0))) from by rw [<- e0]]
 refine zB (fun q D L S => ∃ i : Nat, i <= l.length /\ (l.take i).all jp = true /\ q = l.length - i /\ D = [] /\
  L = [(13, .int .i64 i), (12, .int .i64 l.length), (11, .slice xa l.length xc), (4, .string (str (hdr ++ xh (l.take i)))), (0, .slice xa l.length xc)] /\ S = [X, F])
  ⟨0, by omega, by simp, rfl, rfl, rfl, rfl⟩ ?_
 rintro q D L S ⟨i, hi, hall, rfl, rfl, rfl, rfl⟩
 have hjl := WQ (l.take i) fun p hp => hb p (List.mem_of_mem_take hp)
 have htl : (l.take i).length <= 20 := by rw [List.length_take]; omega
 have hh7 : hdr.length = 7 := rfl
 have hjl2 : (xh (l.take i)).length <= 240000 := Nat.le_trans hjl (by omega)
 have hol : (hdr ++ xh (l.take i)).length <= 240007 := by rw [List.length_append]; omega
 clear hjl
 refine gg ?_
 refine if_d (fun hc => ?_) (fun hc => ?_)
 ·have hil : i < l.length := by omega
  have hx := qE l i hil
  have hjn := JU l i hil
  have han := all_par (f := jp) l i hil
  have hpb := hb _ (List.mem_of_getElem? hx)
  have hvl := QM (l.getD i p0)
  have hpn := print_no l i hil
  rw [hall, Bool.true_and] at han
  generalize l.getD i p0 = x at *
  obtain ⟨n, v, qq⟩ := x
  simp only at hpb hvl
  refine gg ?_
  refine ze fun K hK => ?_; refine xe hX hs hx (by decide) mmA ?_; refine hK _ _ ?_; clear hK K
  refine oA (encP p0).toArray fun b6 => ?_
  refine gg ?_
  refine oS (encP ⟨n, v, qq⟩) rfl (xL _) ?_
  refine gg ?_
  refine zZ (fun D L S => Qd ⟨n, v, qq⟩ = true /\ D = [] /\ L = [(7, .string (str (valP ⟨n, v, qq⟩))), (6, .pointer (some ⟨b6, 0, none⟩)), (5, .int .i64 i), (13, .int .i64 i), (12, .int .i64 l.length), (11, .slice xa l.length xc), (4, .string (str (hdr ++ xh (l.take i)))), (0, .slice xa l.length xc)] /\
   S = [X, rpB b6 ⟨n, v, qq⟩, F]) ?_ ?_
  ·cases qq with
   | true =>
    refine gg ?_
    refine cA (Vn v (by omega)) ?_; rintro v A ⟨rfl, rfl⟩; refine gA ?_
    cases hq : (quoE v).2 with
    | true =>
     refine gg ?_
     exact mid ⟨hq, rfl, rfl, rfl⟩
    | false =>
     rw [hpn (JW hq)]
     refine gg ?_
     refine zf (vs := [.string (str []), .int .i64 4]) [X] ⟨rfl, rfl⟩
   | false =>
    refine gg ?_
    refine cA (yu v (by omega)) ?_; rintro v A ⟨rfl, rfl⟩; refine gA ?_
    cases hq : tokB v with
    | true =>
     refine gg ?_
     exact mid ⟨hq, rfl, rfl, rfl⟩
    | false =>
     rw [hpn (JW hq)]
     refine gg ?_
     refine zf (vs := [.string (str []), .int .i64 4]) [X] ⟨rfl, rfl⟩
  rintro D L S ⟨hfine, rfl, rfl, rfl⟩
  (with_reducible refine xb ?_); refine zZ (fun D L S => jp ⟨n, v, qq⟩ = true /\ D = [] /\ L = [(7, .string (str (valP ⟨n, v, qq⟩))), (6, .pointer (some ⟨b6, 0, none⟩)), (5, .int .i64 i), (13, .int .i64 i), (12, .int .i64 l.length), (11, .slice xa l.length xc), (4, .string (str (hdr ++ xh (l.take i)))), (0, .slice xa l.length xc)] /\
   S = [X, rpB b6 ⟨n, v, qq⟩, F]) ?_ ?_
  ·(try (with_reducible refine zo ?_))
   (try (with_reducible refine xb ?_))
   refine zn [(0, false, []), (1, false, []), (2, true, []), (3, false, []), (4, false, []), (5, false, []), (6, false, []), (8, false, []), (9, false, []), (7, true, [9]), (10, false, []), (11, false, [])] ?_
   refine gg ?_
   refine zh fun K hK => ?_; refine zq (yu n (by omega)) ?_; rintro v A ⟨rfl, rfl⟩; refine pA hK ?_; clear hK K
   refine gg ?_
   cases ht : tokB n with
   | false =>
    rw [hpn (good_tok ht)]
    refine gg ?_
    refine zf (vs := [.string (str []), .int .i64 4]) [X] ⟨rfl, rfl⟩
   | true =>
    refine gg ?_
    refine zh fun K hK => ?_; refine zq (OA n (by omega)) ?_; rintro v A ⟨rfl, rfl⟩; refine pA hK ?_; clear hK K
    refine gg ?_
    by_cases hlo : lowL n = n
    ·rw [bne_eq_false_iff_eq.2 hlo]
     refine gg ?_
     exact mid ⟨by unfold jp; rw [hfine, ht, beq_iff_eq.2 hlo]; rfl, rfl, rfl, rfl⟩
    ·rw [bne_iff_ne.2 hlo, hpn (good_low (beq_eq_false_iff_ne.2 hlo))]
     refine gg ?_
     refine zf (vs := [.string (str []), .int .i64 4]) [X] ⟨rfl, rfl⟩
  rintro D L S ⟨hgood, rfl, rfl, rfl⟩
  rw [hgood] at han
  (with_reducible refine xb ?_); refine zZ (fun D L S => D = [] /\ L = [(4, .string (str (hdr ++ (xh (l.take i) ++ (if 0 < i then [44, 32] else []))))), (7, .string (str (valP ⟨n, v, qq⟩))), (6, .pointer (some ⟨b6, 0, none⟩)), (13, .int .i64 i), (12, .int .i64 l.length), (11, .slice xa l.length xc), (0, .slice xa l.length xc)] /\
   S = [X, rpB b6 ⟨n, v, qq⟩, F]) ?_ ?_
  ·refine gg ?_
   by_cases h0 : 0 < i
   ·rw [decide_eq_true (show (0 : Int) < i by omega), if_pos h0, <- List.append_assoc]
    refine gg ?_
    rw [s2]
    refine ze fun K hK => ?_; rw [zF (by rw [show ([44, 32] : List UInt8).length = 2 from rfl]; omega)]; refine hK _ _ ?_; clear hK K
    refine gg ?_
    exact mid ⟨rfl, rfl, rfl⟩
   ·rw [decide_eq_false (show ¬ (0 : Int) < i by omega), if_neg h0, List.append_nil]
    refine gg ?_
    exact mid ⟨rfl, rfl, rfl⟩
  rintro D L S ⟨rfl, rfl, rfl⟩
  have hol2 : (hdr ++ (xh (l.take i) ++ (if 0 < i then [44, 32] else []))).length <= 240009 := by
   rw [List.length_append, List.length_append]
   have : (if 0 < i then [44, 32] else [] : List UInt8).length <= 2 := by split <;> simp
   omega
  have hfin : hdr ++ (xh (l.take i) ++ (if 0 < i then [44, 32] else [])) ++ (n ++ [61] ++ valP ⟨n, v, qq⟩) = hdr ++ xh (l.take (i + 1)) := by
   rw [hjn]; simp [vt]
  generalize valP ⟨n, v, qq⟩ = w at *
  have hnl : (n ++ [61] ++ w).length <= 20000 /\ 1 <= (n ++ [61] ++ w).length := by rw [List.length_append, List.length_append, List.length_singleton]; omega
  refine gg ?_
  rw [s1]
  refine ze fun K hK => ?_; rw [zF (by rw [List.length_singleton]; omega)]; refine hK _ _ ?_; clear hK K
  refine gg ?_
  refine ze fun K hK => ?_; rw [zF (by rw [List.length_append, List.length_singleton]; omega)]; refine hK _ _ ?_; clear hK K
  refine gg ?_
  refine ze fun K hK => ?_; rw [zF (by omega), hfin]; refine hK _ _ ?_; clear hK K
  refine gg ?_
  exact zA ⟨i + 1, by omega, han, rfl, rfl, rfl, rfl⟩
 ·obtain rfl : i = l.length := by omega
  rw [List.take_length] at hall hol ⊢
  unfold xJ
  refine gg ?_
  by_cases h1 : l.length = 0
  ·rw [beq_iff_eq.2 (show (l.length : Int) = 0 by omega), if_pos (by rw [decide_eq_false (by omega)]; rfl)]
   refine gg ?_
   refine zf (vs := [.string (str []), .int .i64 4]) [X] ⟨rfl, rfl⟩
  ·rw [beq_eq_false_iff_ne.2 (show (l.length : Int) ≠ 0 by omega), if_neg (by rw [hall, decide_eq_true (show 0 < l.length by omega)]; simp)]
   refine gg ?_
   by_cases h2 : 4096 < (hdr ++ xh l).length
   ·rw [if_pos h2, decide_eq_true (show (4096 : Int) < ((hdr ++ xh l).length : Nat) by omega)]
    refine gg ?_
    refine zf (vs := [.string (str []), .int .i64 3]) [X] ⟨rfl, rfl⟩
   ·rw [if_neg h2, decide_eq_false (show ¬ (4096 : Int) < ((hdr ++ xh l).length : Nat) by omega)]
    refine gg ?_
    refine cA (Xy hX (by omega)) ?_; rintro v A ⟨rfl, rfl⟩; refine gA ?_
    by_cases h3 : cntE l = 0
    ·rw [if_neg (by simp [h3]), h3]
     refine gg ?_
     refine zf (vs := [.string (str (hdr ++ xh l)), .int .i64 0]) [X] ⟨rfl, rfl⟩
    ·rw [if_pos h3, bne_iff_ne.2 h3]
     refine gg ?_
     refine zf (vs := [.string (str []), .int .i64 (cntE l)]) [X] ⟨rfl, rfl⟩
instance tprChal : TPlaces Tryz.prog 70 [(0, 1), (1, 1), (2, 1), (3, 1)] := ⟨by kernel_rfl⟩
theorem Jn (s : List UInt8) : Meets Tryz.prog 50 [.string (str s)] [] fun v A => v = .bool (sizB s) /\ A = [] := by
 have hb : sizB s = (decide ((1 : Int) <= s.length) && decide ((s.length : Int) <= 64)) := by
  unfold sizB
  congr 1
  cases s with
  | nil => rfl
  | cons a l => rw [List.length_cons, decide_eq_true (by omega)]; rfl
 rw [hb]
 refine eN Tryz.func50 Tryz.ntmps50 Tryz.results50 fun F => ?_
 refine gg ?_
 cases hb : decide ((1 : Int) <= s.length) with
 | false =>
  refine gg ?_
  refine zb [] ?_; exact ⟨rfl, rfl⟩
 | true =>
  refine gg ?_
  refine zb [] ?_; exact ⟨rfl, rfl⟩
open Go.Sha
end Go.Proofs.YtebikhhoppiapaaGreatDoor
