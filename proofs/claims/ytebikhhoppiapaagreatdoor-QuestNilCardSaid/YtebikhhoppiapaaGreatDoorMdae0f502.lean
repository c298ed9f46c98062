/- Texts in a row: the walk's rules and contracts, as each says. Conditions: as each says. -/
import Derived.Test.YtebikhhoppiapaaGreatDoorMe08888da
import Derived.Test.YtebikhhoppiapaaGreatDoorM758d124b
import Derived.Test.YtebikhhoppiapaaGreatDoorM8c24a9bc
import Derived.Test.YtebikhhoppiapaaGreatDoorMd0dd61dd
import Derived.Test.YtebikhhoppiapaaGreatDoorCards
import Derived.Test.YtebikhhoppiapaaGreatDoorTie
import Derived.WalkKit
import Derived.ProofKit
import Derived.OpenShut
import Derived.Deep.DeepHandedRow
import Derived.Lib.LaidTab
set_option linter.unusedSimpArgs false
set_option linter.defProp false
set_option linter.unusedVariables false
set_option maxRecDepth 100000
set_option maxHeartbeats 8000000
namespace Go.Proofs.YtebikhhoppiapaaGreatDoor
open Go Go.Ost Go.Sha
instance tprAnT : TPlaces Tryz.prog 56 [(0, 1), (1, 1), (2, 1), (3, 1), (4, 1), (5, 1), (6, 1), (7, 1)] := ⟨by kernel_rfl⟩
theorem JB (a : An) (h1 : a.u.length <= 4000) (h2 : a.r.length <= 4000) (h3 : a.n.length <= 4000) (h4 : a.uri.length <= 4000) (h5 : a.cn.length <= 4000) (h6 : a.o.length <= 4000) (h7 : a.pf.length <= 1000)
  {P : Chunk} {pa : Option Addr} {pk : Nat} (hP : Rd 1 [P] pa a.pf.length (a.pf.map b8)) : Meets Tryz.prog 14 [.agg (encA a pa pk).toArray] [P]
  fun v A => v = .tuple #[.string (str (qu a).1), .int .i64 (qu a).2] /\ A = [P] := by
 have hcl := an_len a
 have hcb := an_bound h1 h2 h3 h4 h5 h6 h7
 obtain ⟨au, ar, an, ai, ak, ao, ac, ap⟩ := a
 simp only at h1 h2 h3 h4 h5 h6 h7 hP
 have hx64 := ac.isLt
 have hct : qu ⟨au, ar, an, ai, ak, ao, ac, ap⟩ = if (sizB an && (sizB ak && decide ((ap.length : Int) = 32))) = false then ([], 4) else xJ (vp ⟨au, ar, an, ai, ak, ao, ac, ap⟩) := rfl
 have hcp : vp ⟨au, ar, an, ai, ak, ao, ac, ap⟩ = [(⟨nUser, au, true⟩ : Par), ⟨nRealm, ar, true⟩, ⟨nNonce, an, true⟩, ⟨nUri, ai, true⟩, ⟨nQop, nAuth, false⟩, ⟨nNc, hex (zQ ac), false⟩, ⟨nCnonce, ak, true⟩, ⟨nResp, hex ap, true⟩] ++ opqP ao ++ [⟨nAlg, nSum, false⟩] := rfl
 rw [hct]
 refine eN Tryz.func14 Tryz.ntmps14 Tryz.results14 fun F => ?_
 refine gg ?_
 refine oB fun b1 => ?_
 refine gg ?_
 refine cA (Jn an) ?_; rintro v A ⟨rfl, rfl⟩; refine gA ?_
 cases hz1 : sizB an with
 | false =>
  rw [if_pos (by rfl)]
  refine gg ?_
  refine zf (vs := [.string (str []), .int .i64 4]) [P] ⟨rfl, rfl⟩
 | true =>
  refine gg ?_
  refine cA (Jn ak) ?_; rintro v A ⟨rfl, rfl⟩; refine gA ?_
  cases hz2 : sizB ak with
  | false =>
   rw [if_pos (by rfl)]
   refine gg ?_
   refine zf (vs := [.string (str []), .int .i64 4]) [P] ⟨rfl, rfl⟩
  | true =>
   refine gg ?_
   by_cases hz3 : (ap.length : Int) = 32
   ·rw [bne_eq_false_iff_eq.2 hz3, if_neg (by rw [decide_eq_true hz3]; simp)]
    refine gg ?_
    refine zn [(0, false, []), (1, false, []), (2, false, []), (3, false, []), (4, false, []), (5, false, []), (6, false, []), (7, false, []), (8, false, []), (9, false, []), (10, false, []), (11, false, []), (12, false, []), (13, false, []), (14, false, []), (15, false, []), (19, false, []), (20, false, []), (21, false, []), (22, false, []), (23, false, []), (16, true, [1, 4, 7, 10, 20, 23]), (17, true, [1, 4, 7, 10, 20, 23]), (18, false, []), (24, true, [1, 4, 7, 10, 20]), (25, false, []), (26, true, []), (27, true, [])] ?_
    refine gg ?_
    refine qO fun K hK => ?_; rw [zP (ps := [(0, .string ⟨#[117, 115, 101, 114, 110, 97, 109, 101]⟩), (1, .string (str au)), (2, .bool true)]) (cs := (encP ⟨nUser, au, true⟩).toArray) rfl]; refine hK _ _ ?_; clear hK K
    refine gg ?_
    refine qO fun K hK => ?_; rw [zP (ps := [(0, .string ⟨#[114, 101, 97, 108, 109]⟩), (1, .string (str ar)), (2, .bool true)]) (cs := (encP ⟨nRealm, ar, true⟩).toArray) rfl]; refine hK _ _ ?_; clear hK K
    refine gg ?_
    refine qO fun K hK => ?_; rw [zP (ps := [(0, .string ⟨#[110, 111, 110, 99, 101]⟩), (1, .string (str an)), (2, .bool true)]) (cs := (encP ⟨nNonce, an, true⟩).toArray) rfl]; refine hK _ _ ?_; clear hK K
    refine gg ?_
    refine qO fun K hK => ?_; rw [zP (ps := [(0, .string ⟨#[117, 114, 105]⟩), (1, .string (str ai)), (2, .bool true)]) (cs := (encP ⟨nUri, ai, true⟩).toArray) rfl]; refine hK _ _ ?_; clear hK K
    refine gg ?_
    refine qO fun K hK => ?_; rw [zP (ps := [(0, .string ⟨#[113, 111, 112]⟩), (1, .string ⟨#[97, 117, 116, 104]⟩), (2, .bool false)]) (cs := (encP ⟨nQop, nAuth, false⟩).toArray) rfl]; refine hK _ _ ?_; clear hK K
    refine gg ?_
    refine qO fun K hK => ?_; rw [zP (ps := [(0, .string ⟨#[99, 110, 111, 110, 99, 101]⟩), (1, .string (str ak)), (2, .bool true)]) (cs := (encP ⟨nCnonce, ak, true⟩).toArray) rfl]; refine hK _ _ ?_; clear hK K
    refine gg ?_
    have hbb := xU ac.toNat 4 (by omega) (by decide)
    rw [wj] at hbb
    refine zh fun K hK => ?_; refine zq (hbb) ?_; rintro v A ⟨B, ba, bk, rfl, hB, rfl⟩; refine pA hK ?_; clear hK K
    refine gg ?_
    refine zh fun K hK => ?_; refine zq (qh B ba bk (zQ ac) (by rw [show (zQ ac).length = 4 from rfl]; decide) (hB.rd (List.mem_cons_self ..))) ?_; rintro v A ⟨rfl, rfl⟩; refine pA hK ?_; clear hK K
    refine gg ?_
    refine qO fun K hK => ?_; rw [zP (ps := [(0, .string ⟨#[110, 99]⟩), (1, .string (str (hex (zQ ac)))), (2, .bool false)]) (cs := (encP ⟨nNc, hex (zQ ac), false⟩).toArray) rfl]; refine hK _ _ ?_; clear hK K
    refine gg ?_
    refine zh fun K hK => ?_; refine zq (qh P pa pk ap (by omega) hP) ?_; rintro v A ⟨rfl, rfl⟩; refine pA hK ?_; clear hK K
    refine gg ?_
    refine qO fun K hK => ?_; rw [zP (ps := [(0, .string ⟨#[114, 101, 115, 112, 111, 110, 115, 101]⟩), (1, .string (str (hex ap))), (2, .bool true)]) (cs := (encP ⟨nResp, hex ap, true⟩).toArray) rfl]; refine hK _ _ ?_; clear hK K
    refine gg ?_
    refine zh fun K hK => ?_; refine Za (n := 8) (e := 137) (s := 3) (hs := inferInstance) [encP ⟨nUser, au, true⟩, encP ⟨nRealm, ar, true⟩, encP ⟨nNonce, an, true⟩, encP ⟨nUri, ai, true⟩, encP ⟨nQop, nAuth, false⟩, encP ⟨nNc, hex (zQ ac), false⟩, encP ⟨nCnonce, ak, true⟩, encP ⟨nResp, hex ap, true⟩] (by rfl) rfl (by decide) (by decide) (by decide) (by intro r hr; simp only [List.mem_cons, List.not_mem_nil, or_false] at hr; rcases hr with rfl | rfl | rfl | rfl | rfl | rfl | rfl | rfl <;> rfl) (fun b2 C2 ho2 => ?_); refine pBk hK ?_; clear hK K
    have hX2 : OwnR C2 (some ⟨b2, 0, none⟩) 8 [(⟨nUser, au, true⟩ : Par), ⟨nRealm, ar, true⟩, ⟨nNonce, an, true⟩, ⟨nUri, ai, true⟩, ⟨nQop, nAuth, false⟩, ⟨nNc, hex (zQ ac), false⟩, ⟨nCnonce, ak, true⟩, ⟨nResp, hex ap, true⟩] := ho2
    clear ho2
    rw [show Value.slice (some ⟨b2, 0, none⟩) 8 8 = .slice (some ⟨b2, 0, none⟩) ([(⟨nUser, au, true⟩ : Par), ⟨nRealm, ar, true⟩, ⟨nNonce, an, true⟩, ⟨nUri, ai, true⟩, ⟨nQop, nAuth, false⟩, ⟨nNc, hex (zQ ac), false⟩, ⟨nCnonce, ak, true⟩, ⟨nResp, hex ap, true⟩] : List Par).length 8 from rfl]
    have hl0 : ([(⟨nUser, au, true⟩ : Par), ⟨nRealm, ar, true⟩, ⟨nNonce, an, true⟩, ⟨nUri, ai, true⟩, ⟨nQop, nAuth, false⟩, ⟨nNc, hex (zQ ac), false⟩, ⟨nCnonce, ak, true⟩, ⟨nResp, hex ap, true⟩] : List Par).length = 8 := rfl
    generalize ([(⟨nUser, au, true⟩ : Par), ⟨nRealm, ar, true⟩, ⟨nNonce, an, true⟩, ⟨nUri, ai, true⟩, ⟨nQop, nAuth, false⟩, ⟨nNc, hex (zQ ac), false⟩, ⟨nCnonce, ak, true⟩, ⟨nResp, hex ap, true⟩] : List Par) = l0 at *
    generalize (some ⟨b2, 0, none⟩ : Option Addr) = a2 at *
    refine gg ?_
    refine zZ (fun D L S => ∃ (X3 : Chunk) (a3 : Option Addr) (k3 : Nat), OwnR X3 a3 k3 (l0 ++ opqP ao) /\ D = [] /\ L = [(4, .slice a3 (l0 ++ opqP ao).length k3), (1, .pointer (some ⟨b1, 0, none⟩))] /\ S = [X3, [(b1, .cells (encA ⟨au, ar, an, ai, ak, ao, ac, ap⟩ pa pk).toArray 56 (0, 0))], F, P]) ?_ ?_
    ·by_cases hs : ao = []
     ·have ho : opqP ao = [] := if_pos hs
      rw [ho, List.append_nil, bne_eq_false_iff_eq.2 hs]
      refine gg ?_
      exact mid ⟨C2, a2, 8, hX2, rfl, rfl, rfl⟩
     ·have ho : opqP ao = [⟨nOpaque, ao, true⟩] := if_neg hs
      rw [ho, bne_iff_ne.2 hs]
      refine gg ?_
      refine oT [(0, .string ⟨#[111, 112, 97, 113, 117, 101]⟩), (1, (.string (str ao))), (2, .bool true)] (encP ⟨nOpaque, ao, true⟩).toArray ?_
      refine gg ?_
      refine ze fun K hK => ?_; refine xd (e := 137) (s := 3) (hs := inferInstance) (vs := encP (⟨nOpaque, ao, true⟩ : Par)) (by rfl) (by decide) (by decide) rfl (fun b5 C5 ho5 => ?_); refine hK _ _ ?_; clear hK K
      refine ze fun K hK => ?_; refine zu (e := 137) (s := 3) (hs := inferInstance) (by rfl) (by decide) hX2 (.inr pkA) (ho5.rd mmA) (xL _) (by simp only [maxLen]; omega) (by omega) (fun X5 a5 k5 hX5 => ?_); refine hK _ _ ?_; clear hK K
      have e1 : (l0).length + 1 = (l0 ++ [(⟨nOpaque, ao, true⟩ : Par)]).length := by simp
      have e2 : (l0).flatMap encP ++ encP (⟨nOpaque, ao, true⟩ : Par) = (l0 ++ [(⟨nOpaque, ao, true⟩ : Par)]).flatMap encP := by simp
      rw [e1, e2] at hX5
      rw [e1]
      clear e1 e2
      refine gg ?_
      exact mid ⟨X5, a5, k5, hX5, rfl, rfl, rfl⟩
    rintro D L S ⟨X3, a3, k3, hX3, rfl, rfl, rfl⟩
    have hl3 : (l0 ++ opqP ao).length <= 9 := by rw [List.length_append]; unfold opqP; split <;> simp <;> omega
    generalize l0 ++ opqP ao = l1 at *
    refine gg ?_
    refine oT [(0, .string ⟨#[97, 108, 103, 111, 114, 105, 116, 104, 109]⟩), (1, (.string ⟨#[83, 72, 65, 45, 50, 53, 54]⟩)), (2, .bool false)] (encP ⟨nAlg, nSum, false⟩).toArray ?_
    refine gg ?_
    refine ze fun K hK => ?_; refine xd (e := 137) (s := 3) (hs := inferInstance) (vs := encP (⟨nAlg, nSum, false⟩ : Par)) (by rfl) (by decide) (by decide) rfl (fun b6 C6 ho6 => ?_); refine hK _ _ ?_; clear hK K
    refine ze fun K hK => ?_; refine zu (e := 137) (s := 3) (hs := inferInstance) (by rfl) (by decide) hX3 (.inr pkA) (ho6.rd mmA) (xL _) (by simp only [maxLen]; omega) (by omega) (fun X6 a6 k6 hX6 => ?_); refine hK _ _ ?_; clear hK K
    have e1 : (l1).length + 1 = (l1 ++ [(⟨nAlg, nSum, false⟩ : Par)]).length := by simp
    have e2 : (l1).flatMap encP ++ encP (⟨nAlg, nSum, false⟩ : Par) = (l1 ++ [(⟨nAlg, nSum, false⟩ : Par)]).flatMap encP := by simp
    rw [e1, e2] at hX6
    rw [e1]
    clear e1 e2
    rw [<- hcp] at hX6 ⊢
    refine cA (Vo hX6 hcl hcb) ?_; rintro v A ⟨rfl, rfl⟩; refine gA ?_
    refine zf (vs := [.string (str (xJ (vp ⟨au, ar, an, ai, ak, ao, ac, ap⟩)).1), .int .i64 (xJ (vp ⟨au, ar, an, ai, ak, ao, ac, ap⟩)).2]) [P] ⟨rfl, rfl⟩
   ·rw [bne_iff_ne.2 hz3, if_pos (by rw [decide_eq_false hz3]; rfl)]
    refine gg ?_
    refine zf (vs := [.string (str []), .int .i64 4]) [P] ⟨rfl, rfl⟩
theorem YD {G : Chunk} (hg : Globs3 G) {C H : Chunk} {b : Nat} {x : BX} (hC : RBox C b x) (hts : x.ts.length <= 900) {ha : Option Addr} {hc : Nat} (h1 m : List UInt8) (hl1 : h1.length <= 1000) (hm : m.length <= 1000) (hH : Rd 1 [H] ha h1.length (h1.map b8)) (a : An) (hn : a.n.length <= 4096) (huri : a.uri.length <= 4096) (hcn : a.cn.length <= 4096) (pa : Option Addr) (pk : Nat) :
  Meets Tryz.prog 69 [.pointer (some ⟨b, 0, none⟩), .slice ha h1.length hc, .string (str m), .agg (encA a pa pk).toArray] [C, G, H] (ROut b (jR x h1 m a) [G, H]) := by
 obtain ⟨au, ar, an, ai, ak, ao, ac, ap⟩ := a
 simp only at hn huri hcn
 have hx64 := ac.isLt
 have l2 : (ha2T m ai).length <= 6000 := by unfold ha2T; simp only [List.length_append, List.length_singleton]; omega
 have s58 : Value.string ⟨#[58]⟩ = .string (str [58]) := rfl
 have s5a : Value.string ⟨#[58, 97, 117, 116, 104, 58]⟩ = .string (str [58, 97, 117, 116, 104, 58]) := rfl
 refine eN Tryz.func69 Tryz.ntmps69 Tryz.results69 fun F => ?_
 refine gg ?_
 refine oB fun b7 => ?_
 refine gg ?_
 rw [s58]
 refine ze fun K hK => ?_; rw [zF (by rw [List.length_singleton]; omega)]; refine hK _ _ ?_; clear hK K
 refine gg ?_
 refine ze fun K hK => ?_; rw [zF (by rw [List.length_append, List.length_singleton]; omega)]; refine hK _ _ ?_; clear hK K
 refine gg ?_
 rw [show m ++ [58] ++ ai = ha2T m ai from rfl]
 refine ze fun K hK => ?_; refine zH (by simp only [maxLen]; omega) (fun J ja jc hJ => ?_); refine hK _ _ ?_; clear hK K
 refine gg ?_
 have kl := ju x (ha2T m ai)
 have kt := xK x (ha2T m ai)
 refine cA (qI hg (by omega) (hJ.rd (List.mem_cons_self ..)) hC (by omega)) ?_; rintro v A ⟨K1, C1, ka, kc, rfl, hK1, hC1, rfl⟩; refine gA ?_
 unfold jR
 simp only
 generalize xx x (ha2T m ai) = k at *
 have hx1 : (hex h1).length <= 3000 := by rw [hex_len]; omega
 have hx2 : (hex k.1).length <= 3000 := by rw [hex_len]; omega
 have hx3 : (hex (zQ ac)).length <= 8 := by rw [hex_len]; exact Nat.le_refl _
 have l6 : (resT h1 an ac ak k.1).length <= 20000 := by unfold resT; simp only [List.length_append, List.length_singleton, List.length_cons, List.length_nil]; omega
 refine zn [(0, false, []), (1, false, []), (4, false, []), (5, false, []), (8, false, []), (9, false, []), (10, false, []), (15, false, []), (16, false, []), (19, false, []), (2, true, [5, 9, 16]), (3, false, []), (6, false, []), (7, false, []), (11, true, [5, 16]), (12, true, [5, 16]), (13, false, []), (14, false, []), (17, false, []), (18, false, []), (20, true, [5, 16]), (21, false, []), (22, true, []), (23, true, []), (24, true, [])] ?_
 refine gg ?_
 refine zh fun K hK => ?_; refine zq (qh H ha hc h1 (by omega) hH) ?_; rintro v A ⟨rfl, rfl⟩; refine pA hK ?_; clear hK K
 refine gg ?_
 refine qO fun K hK => ?_; (try rw [s58]); (try rw [s5a]); rw [zF (by simp only [List.length_append, List.length_singleton, List.length_cons, List.length_nil]; omega)]; refine hK _ _ ?_; clear hK K
 refine gg ?_
 refine qO fun K hK => ?_; (try rw [s58]); (try rw [s5a]); rw [zF (by simp only [List.length_append, List.length_singleton, List.length_cons, List.length_nil]; omega)]; refine hK _ _ ?_; clear hK K
 refine gg ?_
 refine qO fun K hK => ?_; (try rw [s58]); (try rw [s5a]); rw [zF (by simp only [List.length_append, List.length_singleton, List.length_cons, List.length_nil]; omega)]; refine hK _ _ ?_; clear hK K
 refine gg ?_
 have hbb := xU ac.toNat 4 (by omega) (by decide)
 rw [wj] at hbb
 refine zh fun K hK => ?_; refine zq (hbb) ?_; rintro v A ⟨B, ba, bk, rfl, hB, rfl⟩; refine pA hK ?_; clear hK K
 refine gg ?_
 refine zh fun K hK => ?_; refine zq (qh B ba bk (zQ ac) (by rw [show (zQ ac).length = 4 from rfl]; decide) (hB.rd (List.mem_cons_self ..))) ?_; rintro v A ⟨rfl, rfl⟩; refine pA hK ?_; clear hK K
 refine gg ?_
 refine qO fun K hK => ?_; (try rw [s58]); (try rw [s5a]); rw [zF (by simp only [List.length_append, List.length_singleton, List.length_cons, List.length_nil]; omega)]; refine hK _ _ ?_; clear hK K
 refine gg ?_
 refine qO fun K hK => ?_; (try rw [s58]); (try rw [s5a]); rw [zF (by simp only [List.length_append, List.length_singleton, List.length_cons, List.length_nil]; omega)]; refine hK _ _ ?_; clear hK K
 refine gg ?_
 refine qO fun K hK => ?_; (try rw [s58]); (try rw [s5a]); rw [zF (by simp only [List.length_append, List.length_singleton, List.length_cons, List.length_nil]; omega)]; refine hK _ _ ?_; clear hK K
 refine gg ?_
 refine qO fun K hK => ?_; (try rw [s58]); (try rw [s5a]); rw [zF (by simp only [List.length_append, List.length_singleton, List.length_cons, List.length_nil]; omega)]; refine hK _ _ ?_; clear hK K
 refine gg ?_
 refine zh fun K hK => ?_; refine zq (qh K1 ka kc k.1 (by omega) (hK1.rd (List.mem_cons_self ..))) ?_; rintro v A ⟨rfl, rfl⟩; refine pA hK ?_; clear hK K
 refine gg ?_
 refine qO fun K hK => ?_; (try rw [s58]); (try rw [s5a]); rw [zF (by simp only [List.length_append, List.length_singleton, List.length_cons, List.length_nil]; omega)]; refine hK _ _ ?_; clear hK K
 refine gg ?_
 rw [show hex h1 ++ [58] ++ an ++ [58] ++ hex (zQ ac) ++ [58] ++ ak ++ [58, 97, 117, 116, 104, 58] ++ hex k.1 = resT h1 an ac ak k.1 from rfl]
 refine zh fun K hK => ?_; refine zH (by simp only [maxLen]; omega) (fun Z za zc hZ => ?_); refine hK _ _ ?_; clear hK K
 refine gg ?_
 refine zh fun K hK => ?_; refine zq (qI hg (by omega) (hZ.rd (List.mem_cons_self ..)) hC1 (by omega)) ?_; rintro v A ⟨O, C', oa, oc, rfl, hO, hC', rfl⟩; refine pA hK ?_; clear hK K
 refine gg ?_
 (try (try (refine zh fun K hK => ?_; refine hK _ _ ?_; clear hK K)))
 (try refine gg ?_)
 refine zb [O, C', G, H] ?_
 exact ⟨O, C', oa, oc, rfl, hO, hC', rfl⟩
abbrev ofB (o b u n : Nat) (iter : Int) : Chunk := [(o, .cells #[.pointer (some ⟨b, 0, none⟩), .pointer (some ⟨u, 0, none⟩), .pointer (some ⟨n, 0, none⟩), .int .i64 iter] 79 (0, 0))]
abbrev ryB (y o : Nat) (t : List UInt8) (ch : Int) : Chunk := [(y, .cells #[.pointer (some ⟨o, 0, none⟩), .string (str t), .int .u64 ch] 88 (0, 0))]
instance tpRAn : TPlaces Tryz.prog 56 [(0, 1), (1, 1), (2, 1), (3, 1), (4, 1), (5, 1), (6, 1), (7, 1)] := ⟨by kernel_rfl⟩
theorem cella (a : An) (pa : Option Addr) (pk : Nat) : ∀ v ∈ encA a pa pk, Value.cell1 v := by
 intro v hv
 simp only [encA, List.mem_cons, List.not_mem_nil, or_false] at hv
 rcases hv with rfl | rfl | rfl | rfl | rfl | rfl | rfl | rfl <;> simp [Value.cell1, b32]
abbrev anC (u n uri cn : List UInt8) (nc : W) (pf : List UInt8) : An := ⟨u, [116], n, uri, cn, [], nc, pf⟩
def qF (x : BX) (u p m uri n cn : List UInt8) (nc : W) : (List UInt8 × Int) × BX :=
 let h := xx x (xi u [116] p)
 let r := jR h.2 h.1 m (anC u n uri cn nc [])
 (qu (anC u n uri cn nc r.1), r.2)
theorem JA {G : Chunk} (hg : Globs3 G) {C : Chunk} {b y o us ns : Nat} {iter ch : Int} {x : BX} (hC : RBox C b x) (hts : x.ts.length <= 800) (u p m uri n cn : List UInt8) (nc : W) (hu : u.length <= 1000) (hp : p.length <= 1000) (hm : m.length <= 1000) (huri : uri.length <= 1000) (hn : n.length <= 1000) (hcn : cn.length <= 1000) :
  Meets Tryz.prog 38 [.pointer (some ⟨y, 0, none⟩), .string (str u), .string (str p), .string (str m), .string (str uri), .string (str n), .string (str cn), b32 nc] [C, G, ryB y o [116] ch, ofB o b us ns iter]
  fun v A => ∃ C', v = .tuple #[.string (str (qF x u p m uri n cn nc).1.1), .int .i64 (qF x u p m uri n cn nc).1.2] /\ RBox C' b (qF x u p m uri n cn nc).2 /\ A = [C', G, ryB y o [116] ch, ofB o b us ns iter] := by
 have s58 : Value.string ⟨#[58]⟩ = .string (str [58]) := rfl
 have hcl : (xi u [116] p).length <= 3000 := by unfold xi; simp only [List.length_append, List.length_singleton]; omega
 refine eN Tryz.func38 Tryz.ntmps38 Tryz.results38 fun F => ?_
 refine gg ?_
 refine oT [(0, .string (str u)), (1, .string (str [116])), (2, .string (str n)), (3, .string (str uri)), (4, .string (str cn)), (6, b32 nc)] (encA (anC u n uri cn nc []) none 0).toArray ?_
 refine gg ?_
 refine oA (encA a0 none 0).toArray fun b18 => ?_
 refine gg ?_
 refine oS (encA (anC u n uri cn nc []) none 0) rfl (cella _ _ _) ?_
 refine gg ?_
 refine zn [(0, false, []), (1, false, []), (2, false, []), (3, false, []), (4, false, []), (5, false, []), (6, false, []), (7, false, []), (8, false, []), (9, false, []), (10, false, []), (11, false, []), (12, false, []), (13, false, []), (14, false, []), (15, false, []), (16, false, []), (17, false, []), (18, false, []), (19, false, []), (20, false, []), (21, false, []), (22, false, []), (23, false, []), (26, false, []), (27, false, []), (24, true, [3, 6, 10, 13, 27]), (25, true, [3, 6, 27]), (28, true, []), (29, false, []), (30, true, [])] ?_
 refine gg ?_
 refine qO fun K hK => ?_; (try rw [s58]); rw [zF (by simp only [List.length_append, List.length_singleton, List.length_cons, List.length_nil]; omega)]; refine hK _ _ ?_; clear hK K
 refine gg ?_
 refine qO fun K hK => ?_; (try rw [s58]); rw [zF (by simp only [List.length_append, List.length_singleton, List.length_cons, List.length_nil]; omega)]; refine hK _ _ ?_; clear hK K
 refine gg ?_
 refine qO fun K hK => ?_; (try rw [s58]); rw [zF (by simp only [List.length_append, List.length_singleton, List.length_cons, List.length_nil]; omega)]; refine hK _ _ ?_; clear hK K
 refine gg ?_
 refine qO fun K hK => ?_; (try rw [s58]); rw [zF (by simp only [List.length_append, List.length_singleton, List.length_cons, List.length_nil]; omega)]; refine hK _ _ ?_; clear hK K
 refine gg ?_
 refine qO fun K hK => ?_; refine zm (vs := encA (anC u n uri cn nc []) none 0) lkA rfl ?_; refine hK _ _ ?_; clear hK K
 refine gg ?_
 rw [show u ++ [58] ++ [116] ++ [58] ++ p = xi u [116] p from rfl]
 refine zh fun K hK => ?_; refine zH (by simp only [maxLen]; omega) (fun Z za zc hZ => ?_); refine pend ?_; refine pend ?_; refine pend ?_; refine pend ?_; refine pend ?_ (zm (vs := encA (anC u n uri cn nc []) none 0) lkA rfl rfl); refine hK _ _ ?_; clear hK K
 refine gg ?_
 have hl1 := ju x (xi u [116] p)
 have ht := xK x (xi u [116] p)
 refine zh fun K hK => ?_; refine zq (qI hg (by omega) (hZ.rd (List.mem_cons_self ..)) hC (by omega)) ?_; rintro v A ⟨O, C1, oa, oc, rfl, hO, hC1, rfl⟩; (try simp only [List.nil_append, List.cons_append]); refine pend ?_; refine pend ?_; refine pend ?_ (zm (vs := encA (anC u n uri cn nc []) none 0) lkA rfl rfl); refine hK _ _ ?_; clear hK K
 refine gg ?_
 unfold qF
 simp only
 generalize xx x (xi u [116] p) = h at *
 have rl := yB h.2 h.1 m (anC u n uri cn nc [])
 refine zh fun K hK => ?_; refine zq (YD hg hC1 (by omega) h.1 m (by omega) hm (hO.rd (List.mem_cons_self ..)) (anC u n uri cn nc []) (by show n.length <= 4096; omega) (by show uri.length <= 4096; omega) (by show cn.length <= 4096; omega) none 0) ?_; rintro v A ⟨O2, C2, qa, qc, rfl, hO2, hC2, rfl⟩; refine pA hK ?_; clear hK K
 refine gg ?_
 generalize jR h.2 h.1 m (anC u n uri cn nc []) = r at *
 (try (refine zh fun K hK => ?_; (first | refine zS trivial upA ?_ | refine zG trivial upA (by simp) ?_); refine pBk hK ?_; clear hK K; refine gg ?_))
 (try simp only [encA, anC])
 refine gM ?_
 refine oL (encA (anC u n uri cn nc r.1) qa qc) rfl ?_
 refine gg ?_
 refine cA (JB (a := anC u n uri cn nc r.1) (by show u.length <= 4000; omega) (by show 1 <= 4000; decide) (by show n.length <= 4000; omega) (by show uri.length <= 4000; omega) (by show cn.length <= 4000; omega) (by show 0 <= 4000; decide) (by show r.1.length <= 1000; omega) (hO2.rd (List.mem_cons_self ..))) ?_; rintro v A ⟨rfl, rfl⟩; refine gA ?_
 refine zf (vs := [.string (str (qu (anC u n uri cn nc r.1)).1), .int .i64 (qu (anC u n uri cn nc r.1)).2]) [C2, G, ryB y o [116] ch, ofB o b us ns iter] ?_
 exact ⟨C2, rfl, hC2, rfl⟩
end Go.Proofs.YtebikhhoppiapaaGreatDoor
namespace Go.Proofs.YtebikhhoppiapaaGreatDoor
open Go Go.Ost Go.Tab
structure V where
 non : List UInt8
 draw : List UInt8
 at_ : Int
 sp : Bool
 cnt : Int
def encV (v : V) : List Value := [.string (str v.non), .int .u64 v.at_, .bool v.sp, .int .u32 v.cnt]
abbrev valV (v : V) : Value := .agg (encV v).toArray
def v0 : V := ⟨[], [], 0, false, 0⟩
theorem jo (v : V) : ∀ u ∈ encV v, Value.cell1 u := by simp [encV, Value.cell1]
instance iWV_1 : TPlaces Tryz.prog 244 [(0, 1), (1, 4), (5, 1), (6, 1)] := ⟨by kernel_rfl⟩
abbrev tabO (room : Int) (la : Option Addr) (ll lc : Nat) (fa : Option Addr) (fl fc r : Nat) (first last : Int) : Obj :=
 .cells #[.int .i64 room, .slice la ll lc, .slice fa fl fc, .map (some r), .int .i64 first, .int .i64 last] 248 (0, 0)
def encE (e : En V) : List Value := .string (str e.key) :: (encV e.v ++ [.int .i64 e.ahead, .int .i64 e.next])
theorem qz (e : En V) : (encE e).length = 7 := rfl
abbrev OwnE (C : Chunk) (a : Option Addr) (cap : Nat) (l : List (En V)) : Prop := Ost.Own 7 244 C a l.length cap (l.flatMap encE)
abbrev nat64 (i : Nat) : Value := .int .i64 i
abbrev IsAt (C : Chunk) (r : Nat) (m : List (List UInt8 × Nat)) : Prop := xB C r (mval nat64 m)
theorem xV (b : Nat) (room : Int) (la : Option Addr) (ll lc : Nat) (fa : Option Addr) (fl fc r : Nat) (first last : Int) (M : Chunk) (m : List (List UInt8 × Nat)) (hm : IsAt M r m) (k : List UInt8) :
  Meets Tryz.prog 125 [.pointer (some ⟨b, 0, none⟩), .string (str k)] [[(b, tabO room la ll lc fa fl fc r first last)], M]
   fun v A => v = .int .i64 (match mget m k with | some i => (i : Int) | none => -1) /\ A = [[(b, tabO room la ll lc fa fl fc r first last)], M] := by
 refine eN Tryz.func125 Tryz.ntmps125 Tryz.results125 fun F => ?_
 refine gg ?_
 rw [WG]
 cases hg : mget m k with
 | none =>
  refine gg ?_
  refine zb [[(b, tabO room la ll lc fa fl fc r first last)], M] ?_; exact ⟨rfl, rfl⟩
 | some i =>
  refine gg ?_
  refine zb [[(b, tabO room la ll lc fa fl fc r first last)], M] ?_; exact ⟨rfl, rfl⟩
theorem wt {α : Type} (l : List α) (i : Nat) (x : α) (f : α -> α) (h : l[i]? = some x) : l.set i (f x) = l.modify i f := by
 apply List.ext_getElem?
 intro j
 rw [List.getElem?_set, List.getElem?_modify]
 have hi := (List.getElem?_eq_some_iff.1 h).1
 by_cases hj : i = j
 ·subst hj
  rw [if_pos rfl, if_pos hi, h]; simp
 ·simp [hj]
theorem Wh {l : List (En V)} {i : Nat} {e : En V} (a : Int) (h : l[i]? = some e) : l.set i { e with ahead := a } = setA l i a := wt l i e (fun e => { e with ahead := a }) h
theorem Xp {l : List (En V)} {i : Nat} {e : En V} (a : Int) (h : l[i]? = some e) : l.set i { e with next := a } = setN l i a := wt l i e (fun e => { e with next := a }) h
theorem setV_set {l : List (En V)} {i : Nat} {e : En V} (a : V) (h : l[i]? = some e) : l.set i { e with v := a } = setV l i a := wt l i e (fun e => { e with v := a }) h
theorem ID (b : Nat) (room : Int) (la : Option Addr) (lc : Nat) (fa : Option Addr) (fl fc r : Nat) (first last : Int) (C : Chunk) (l : List (En V)) (ho : OwnE C la lc l) (i : Nat) (hi : i < l.length) (hl : last = -1 ∨ ∃ j : Nat, last = j /\ j < l.length) :
  Meets Tryz.prog 145 [.pointer (some ⟨b, 0, none⟩), .int .i64 i] [[(b, tabO room la l.length lc fa fl fc r first last)], C]
   fun v A => ∃ C', OwnE C' la lc (haL l i last) /\ A = [[(b, tabO room la l.length lc fa fl fc r (haF first last i) i)], C'] := by
 have hs := qz
 have hx : l[i]? = some l[i] := List.getElem?_eq_getElem hi
 refine eN Tryz.func145 Tryz.ntmps145 Tryz.results145 fun F => ?_
 refine gg ?_
 refine zn [(0, false, []), (1, false, []), (2, false, []), (3, false, []), (4, false, []), (5, false, []), (6, false, []), (7, false, []), (8, false, []), (9, false, []), (10, false, []), (11, false, []), (12, false, []), (13, false, []), (14, false, []), (15, false, []), (16, true, []), (17, false, []), (18, false, []), (19, true, [])] ?_
 refine gg ?_
 refine zh fun K hK => ?_; refine kJ ho pkA hs hx trivial (x' := { l[i] with ahead := last }) rfl (by decide) (fun C1 ho1 => ?_); (repeat refine Zk ?_); refine hK _ _ ?_; clear hK K
 rw [Wh last hx] at ho1
 have ho1' : OwnE C1 la lc (setA l i last) := by unfold OwnE; rw [jz]; exact ho1
 have hx1 := Vg l last hx
 have hll := jz l i last
 refine gg ?_
 refine zh fun K hK => ?_; refine kJ ho1 pkA hs hx1 trivial (x' := { l[i] with ahead := last, next := -1 }) rfl (by decide) (fun C2 ho2 => ?_); (repeat refine Zk ?_); refine hK _ _ ?_; clear hK K
 have e2 : (setA l i last).set i { l[i] with ahead := last, next := -1 } = setN (setA l i last) i (-1) := Xp (-1) hx1
 rw [e2] at ho2
 refine gg ?_
 rcases hl with rfl | ⟨j, rfl, hj⟩
 ·refine gg ?_
  refine zJ [[(b, tabO room la l.length lc fa fl fc r i i)], C2] ⟨C2, ?_, rfl⟩
  unfold OwnE; rw [jY]; exact ho2
 ·refine gg ?_
  refine zn [(0, false, []), (1, false, []), (2, false, []), (3, false, []), (4, false, []), (5, false, []), (6, false, []), (7, false, []), (8, false, []), (9, false, []), (10, false, []), (11, true, [])] ?_
  have hlj : j < (setN (setA l i j) i (-1)).length := by rw [qf, jz]; exact hj
  have hxj : (setN (setA l i j) i (-1))[j]? = some (setN (setA l i j) i (-1))[j] := List.getElem?_eq_getElem hlj
  refine gg ?_
  refine zh fun K hK => ?_; refine kJ ho2 pkA hs hxj trivial (x' := { (setN (setA l i j) i (-1))[j] with next := i }) rfl (by decide) (fun C3 ho3 => ?_); (repeat refine Zk ?_); refine hK _ _ ?_; clear hK K
  rw [Xp i hxj] at ho3
  refine gg ?_
  refine zJ [[(b, tabO room la l.length lc fa fl fc r (haF first j i) i)], C3] ⟨C3, ?_, rfl⟩ (hs := ?_)
  ·have e : haL l i j = setN (setN (setA l i j) i (-1)) j i := by
    unfold haL; rw [if_neg (by omega)]; simp
   unfold OwnE; rw [jY, e]; exact ho3
  ·have e : haF first j i = first := by unfold haF; rw [if_neg (by omega)]
   rw [e]; first | ((repeat (first | with_reducible exact Among.nil _ | with_reducible exact Pick.head _ _ | with_reducible apply Pick.tail | with_reducible apply Among.cons)); done) | ((repeat (first | exact Among.nil _ | exact Pick.head _ _ | apply Pick.tail | apply Among.cons)); done)
theorem QO (b : Nat) (room : Int) (la : Option Addr) (lc : Nat) (fa : Option Addr) (fl fc r : Nat) (first last : Int) (C : Chunk) (l : List (En V)) (ho : OwnE C la lc l) (i : Nat) (e : En V) (hx : l[i]? = some e)
  (ha : e.ahead = -1 ∨ ∃ j : Nat, e.ahead = j /\ j < l.length) (hn : e.next = -1 ∨ ∃ j : Nat, e.next = j /\ j < l.length) :
  Meets Tryz.prog 200 [.pointer (some ⟨b, 0, none⟩), .int .i64 i] [[(b, tabO room la l.length lc fa fl fc r first last)], C]
   fun v A => ∃ C', OwnE C' la lc (unL l e.ahead e.next) /\ A = [[(b, tabO room la l.length lc fa fl fc r (unF first e.ahead e.next) (unE last e.ahead e.next))], C'] := by
 have hs := qz
 have hi := (List.getElem?_eq_some_iff.1 hx).1
 obtain ⟨key, v, a, n⟩ := e
 simp only at ha hn ⊢
 refine eN Tryz.func200 Tryz.ntmps200 Tryz.results200 fun F => ?_
 refine gg ?_
 refine zn [(0, false, []), (1, false, []), (2, false, []), (3, false, []), (4, false, []), (5, false, []), (6, false, []), (7, false, []), (8, false, []), (9, false, []), (10, false, []), (11, false, []), (12, false, []), (13, false, []), (14, false, []), (15, false, []), (16, true, [11, 15]), (17, true, [])] ?_
 refine gg ?_
 refine zZ (fun D L S => ∃ C1 l1, l1 = (if a = -1 then l else setN l a.toNat n) /\ OwnE C1 la lc l1 /\ l1.length = l.length /\ D = [] /\ L = [(0, .pointer (some ⟨b, 0, none⟩)), (4, .int .i64 a), (5, .int .i64 n)] /\ S = [C1, [(b, tabO room la l.length lc fa fl fc r (unF first a n) last)], F]) ?_ ?_
 ·rcases ha with rfl | ⟨j, rfl, hj⟩
  ·refine gg ?_
   exact mid ⟨C, l, rfl, ho, rfl, rfl, rfl, rfl⟩
  ·have hxj : l[j]? = some l[j] := List.getElem?_eq_getElem hj
   refine gg ?_
   refine ze fun K hK => ?_; refine kJ ho pkA hs hxj trivial (x' := { l[j] with next := n }) rfl (by decide) (fun C3 ho3 => ?_); refine hK _ _ ?_; clear hK K
   rw [Xp n hxj] at ho3
   refine gg ?_
   have e1 : unF first (j : Int) n = first := by unfold unF; rw [if_neg (by omega)]
   rw [e1]
   exact mid ⟨C3, setN l j n, by rw [if_neg (by omega)]; simp, by unfold OwnE; rw [qf]; exact ho3, qf _ _ _, rfl, rfl, rfl⟩
 ·rintro D L S ⟨C1, l1, hl1, ho1, hll, rfl, rfl, rfl⟩
  rw [<- hll]
  rcases hn with rfl | ⟨j, rfl, hj⟩
  ·refine gg ?_
   refine zJ [[(b, tabO room la l1.length lc fa fl fc r (unF first a (-1)) a)], C1] ⟨C1, ?_, rfl⟩
   have : unL l a (-1) = l1 := by unfold unL; rw [if_pos rfl, <- hl1]
   rw [this]; exact ho1
  ·have hxj : l1[j]? = some l1[j] := List.getElem?_eq_getElem (by omega)
   refine gg ?_
   refine ze fun K hK => ?_; refine kJ ho1 pkA hs hxj trivial (x' := { l1[j] with ahead := a }) rfl (by decide) (fun C3 ho3 => ?_); refine hK _ _ ?_; clear hK K
   rw [Wh a hxj] at ho3
   refine gg ?_
   have e1 : unE last a (j : Int) = last := by unfold unE; rw [if_neg (by omega)]
   rw [e1]
   refine zJ [[(b, tabO room la l1.length lc fa fl fc r (unF first a j) last)], C3] ⟨C3, ?_, rfl⟩
   have : unL l a j = setA l1 j a := by unfold unL; rw [if_neg (by omega), <- hl1]; simp
   rw [this]; unfold OwnE; rw [jz]; exact ho3
theorem Oz (b : Nat) (room : Nat) (hr : room <= 4096) (la : Option Addr) (ll lc : Nat) (fa : Option Addr) (fl fc r : Nat) (first last : Int) (M : Chunk) (m : List (List UInt8 × Nat)) (hm : IsAt M r m) (hml : m.length <= room) :
  Meets Tryz.prog 196 [.pointer (some ⟨b, 0, none⟩)] [[(b, tabO room la ll lc fa fl fc r first last)], M] fun v A => v = .int .i64 (room - m.length : Nat) /\ A = [[(b, tabO room la ll lc fa fl fc r first last)], M] := by
 have hl : (mval nat64 m).length = m.length := by simp [mval]
 refine eN Tryz.func196 Tryz.ntmps196 Tryz.results196 fun F => ?_
 refine gg ?_
 refine zn [(0, false, []), (1, false, []), (2, false, []), (3, false, []), (4, false, []), (5, false, []), (6, false, []), (7, false, []), (8, false, []), (9, false, []), (10, true, [])] ?_
 refine gg ?_
 refine zb [[(b, tabO room la ll lc fa fl fc r first last)], M] ?_
 exact ⟨by rw [hl]; congr 1; first | omega | (rw [vL (by omega) (by omega)]; omega), rfl⟩
theorem yO (b : Nat) (room : Nat) (hr : room <= 4096) (la : Option Addr) (ll lc : Nat) (fa : Option Addr) (fl fc r : Nat) (first last : Int) (M : Chunk) (m : List (List UInt8 × Nat)) (hm : IsAt M r m) (hml : m.length <= room) :
  Meets Tryz.prog 141 [.pointer (some ⟨b, 0, none⟩)] [[(b, tabO room la ll lc fa fl fc r first last)], M] fun v A => v = .bool (decide (m.length = room)) /\ A = [[(b, tabO room la ll lc fa fl fc r first last)], M] := by
 refine eN Tryz.func141 Tryz.ntmps141 Tryz.results141 fun F => ?_
 refine gg ?_
 refine cA (Oz b room hr la ll lc fa fl fc r first last M m hm hml) ?_; rintro v A ⟨rfl, rfl⟩; refine gA ?_
 refine zb [[(b, tabO room la ll lc fa fl fc r first last)], M] ?_
 refine ⟨?_, rfl⟩
 congr 1
 by_cases h : m.length = room
 ·rw [decide_eq_true h, h]; simp
 ·rw [decide_eq_false h, beq_eq_false_iff_ne]; omega
abbrev OwnF (C : Chunk) (a : Option Addr) (cap : Nat) (free : List Nat) : Prop := Ost.Own 1 3 C a free.length cap (free.map nat64)
structure Lies4 (room : Nat) (la : Option Addr) (lc : Nat) (l : List (En V)) (fa : Option Addr) (fc : Nat) (free : List Nat) (r : Nat) (m : List (List UInt8 × Nat)) (pl : List Nat) (es : List (List UInt8 × V)) (Cl Cf Cm : Chunk) : Prop where
 ol : OwnE Cl la lc l
 ofr : OwnF Cf fa fc free
 im : IsAt Cm r m
 rep : Rep l free m pl es
 big : room <= 4096
 fits : es.length <= room
 all : l.length = es.length + free.length
 ll : l.length <= room
def IsTab (C : Chunk) (b room : Nat) (es : List (List UInt8 × V)) : Prop := ∃ la lc l fa fc free r m pl Cl Cf Cm, Lies4 room la lc l fa fc free r m pl es Cl Cf Cm /\
 C = [(b, tabO room la l.length lc fa free.length fc r (hd pl (-1)) (lst (-1) pl))] ++ (Cl ++ (Cf ++ Cm))
theorem IsTab.keys {C : Chunk} {b room : Nat} {es : List (List UInt8 × V)} (h : IsTab C b room es) : (es.map (·.1)).Nodup := by
 obtain ⟨la, lc, l, fa, fc, free, r, m, pl, Cl, Cf, Cm, h, rfl⟩ := h; exact h.rep.keys
theorem IsTab.fits {C : Chunk} {b room : Nat} {es : List (List UInt8 × V)} (h : IsTab C b room es) : es.length <= room := by
 obtain ⟨la, lc, l, fa, fc, free, r, m, pl, Cl, Cf, Cm, h, rfl⟩ := h; exact h.fits
theorem Qw (e : En V) : ∀ u ∈ encE e, Value.cell1 u := by simp [encE, encV, Value.cell1]
section put
variable {b room : Nat} {la : Option Addr} {lc : Nat} {l : List (En V)} {fa : Option Addr} {fc : Nat} {free : List Nat} {r : Nat} {m : List (List UInt8 × Nat)} {pl : List Nat} {es : List (List UInt8 × V)} {Cl Cf Cm : Chunk}
theorem YM (h : Lies4 room la lc l fa fc free r m pl es Cl Cf Cm) (k : List UInt8) (v : V) (hk : mget es k ≠ none) :
  Meets Tryz.prog 98 [.pointer (some ⟨b, 0, none⟩),   .string (str k), valV v] [[(b, tabO room la l.length lc fa free.length fc r (hd pl (-1)) (lst (-1) pl))], Cm]
   fun v A => v = .int .i64 7 /\ A = [[(b, tabO room la l.length lc fa free.length fc r (hd pl (-1)) (lst (-1) pl))], Cm] := by
 cases hm : mget m k with
 | none => exact absurd (h.rep.miss.1 hm) hk
 | some i =>
  refine eN Tryz.func98 Tryz.ntmps98 Tryz.results98 fun F => ?_
  refine gg ?_
  refine oB fun b5 => ?_
  refine gg ?_
  refine cA (xV b room la l.length lc fa free.length fc r _ _ Cm m h.im k) ?_; rintro v A ⟨rfl, rfl⟩; refine gA ?_
  rw [hm]
  refine gg ?_
  refine zb [[(b, tabO room la l.length lc fa free.length fc r (hd pl (-1)) (lst (-1) pl))], Cm] ?_; exact ⟨rfl, rfl⟩
theorem put_full (h : Lies4 room la lc l fa fc free r m pl es Cl Cf Cm) (k : List UInt8) (v : V) (hk : mget es k = none) (hf : es.length = room) :
  Meets Tryz.prog 98 [.pointer (some ⟨b, 0, none⟩),   .string (str k), valV v] [[(b, tabO room la l.length lc fa free.length fc r (hd pl (-1)) (lst (-1) pl))], Cm]
   fun v A => v = .int .i64 8 /\ A = [[(b, tabO room la l.length lc fa free.length fc r (hd pl (-1)) (lst (-1) pl))], Cm] := by
 have hm := h.rep.miss.2 hk
 have hml := h.rep.mlen
 refine eN Tryz.func98 Tryz.ntmps98 Tryz.results98 fun F => ?_
 refine gg ?_
 refine oB fun b5 => ?_
 refine gg ?_
 refine cA (xV b room la l.length lc fa free.length fc r _ _ Cm m h.im k) ?_; rintro v A ⟨rfl, rfl⟩; refine gA ?_
 rw [hm]
 refine gg ?_
 refine cA (yO b room h.big la l.length lc fa free.length fc r _ _ Cm m h.im (by omega)) ?_; rintro v A ⟨rfl, rfl⟩; refine gA ?_
 rw [decide_eq_true (show m.length = room by omega)]
 refine gg ?_
 refine zb [[(b, tabO room la l.length lc fa free.length fc r (hd pl (-1)) (lst (-1) pl))], Cm] ?_; exact ⟨rfl, rfl⟩
theorem put_ok (h : Lies4 room la lc l fa fc free r m pl es Cl Cf Cm) (k : List UInt8) (v : V) (hk : mget es k = none) (hf : es.length < room) :
  Meets Tryz.prog 98 [.pointer (some ⟨b, 0, none⟩), .string (str k), valV v] [[(b, tabO room la l.length lc fa free.length fc r (hd pl (-1)) (lst (-1) pl))], Cl, Cf, Cm]
   fun v' A => v' = .int .i64 0 /\ ∃ la lc l fa fc free m pl Cl Cf Cm, Lies4 room la lc l fa fc free r m pl (es ++ [(k, v)]) Cl Cf Cm /\ A = [[(b, tabO room la l.length lc fa free.length fc r (hd pl (-1)) (lst (-1) pl))], Cl, Cf, Cm] := by
 have hm := h.rep.miss.2 hk
 have hml := h.rep.mlen
 have hs := qz
 have hol := h.ol
 have hof := h.ofr
 have him := h.im
 have hll := h.ll
 have hbig := h.big
 refine eN Tryz.func98 Tryz.ntmps98 Tryz.results98 fun F => ?_
 refine gg ?_
 refine oB fun b5 => ?_
 refine gg ?_
 refine cA (xV b room la l.length lc fa free.length fc r _ _ Cm m h.im k) ?_; rintro v A ⟨rfl, rfl⟩; refine gA ?_
 rw [hm]
 refine gg ?_
 refine cA (yO b room h.big la l.length lc fa free.length fc r _ _ Cm m h.im (by omega)) ?_; rintro v A ⟨rfl, rfl⟩; refine gA ?_
 rw [decide_eq_false (show ¬ m.length = room by omega)]
 refine gg ?_
 refine zZ (fun D L S => ∃ (i : Nat) (la' : Option Addr) (lc' : Nat) (l' : List (En V)) (Cl' : Chunk) (fa' : Option Addr) (fc' : Nat) (free' : List Nat) (Cf' : Chunk), OwnE Cl' la' lc' l' /\ OwnF Cf' fa' fc' free' /\ (∀ j ∈ pl, l'[j]? = l[j]?) /\ kv l' i = some (k, v) /\
   (pl ++ i :: free').Nodup /\ (∀ j ∈ free', j < l'.length) /\ l'.length = es.length + 1 + free'.length /\ l'.length <= room /\ D = [] /\ L = [(0, .pointer (some ⟨b, 0, none⟩)), (1, .string (str k)), (7, .int .i64 i)] /\
   S = [[(b, tabO room la' l'.length lc' fa' free'.length fc' r (hd pl (-1)) (lst (-1) pl))], Cl', Cf', Cm, F]) ?_ ?_
 ·rcases List.eq_nil_or_concat free with rfl | ⟨f, i, rfl⟩
  ·refine gg ?_
   have hall := h.all
   simp only [List.length_nil, Nat.add_zero] at hall
   refine zn [(0, false, []), (1, false, []), (2, false, []), (3, false, []), (4, false, []), (5, false, []), (6, false, []), (7, false, []), (8, true, [4]), (9, true, []), (10, false, []), (11, false, []), (12, true, [])] ?_
   refine gg ?_
   refine qO fun K hK => ?_; refine zm (vs := encV v) lkA rfl ?_; refine hK _ _ ?_; clear hK K
   refine qO fun K hK => ?_; rw [zP (ps := [(0, .string (str k)), (1, valV v)]) (cs := (encE ⟨k, v, 0, 0⟩).toArray) rfl]; refine hK _ _ ?_; clear hK K
   refine zh fun K hK => ?_; refine xd (e := 244) (s := 7) (hs := inferInstance) (vs := encE ⟨k, v, 0, 0⟩) (by rfl) (by decide) (by decide) rfl (fun b1 C1 ho1 => ?_); (repeat refine Zk ?_); refine hK _ _ ?_; clear hK K
   refine gg ?_
   refine zh fun K hK => ?_; refine zu (e := 244) (s := 7) (hs := inferInstance) (by rfl) (by decide) hol (.inr pkA) (ho1.rd mmA) (Qw _) (by simp only [maxLen]; omega) (by omega) (fun C2 a2 cap2 ho2 => ?_); (repeat refine Zk ?_); refine hK _ _ ?_; clear hK K
   have e2 : l.flatMap encE ++ encE ⟨k, v, 0, 0⟩ = (l ++ [(⟨k, v, 0, 0⟩ : En V)]).flatMap encE := by simp
   have e3 : l.length + 1 = (l ++ [(⟨k, v, 0, 0⟩ : En V)]).length := by simp
   rw [e2, e3] at ho2
   rw [e3]
   refine gg ?_
   refine mid ⟨l.length, a2, cap2, l ++ [⟨k, v, 0, 0⟩], C2, fa, fc, [], Cf, ho2, hof, ?_, ?_, ?_, by simp, by simp; omega, by simp; omega, rfl, rfl, rfl⟩
   ·intro j hj
    exact List.getElem?_append_left (Io _ _ _ h.rep.lk j hj)
   ·simp [kv]
   ·have hnd := h.rep.nd
    rw [List.append_nil] at hnd
    rw [List.nodup_append]
    exact ⟨hnd, by simp, fun x hx y hy e => by
     simp at hy; subst hy; subst e
     exact absurd (Io _ _ _ h.rep.lk _ hx) (by omega)⟩
  ·rw [List.concat_eq_append] at *
   have hfl : (f ++ [i]).length = f.length + 1 := by simp
   have hall := h.all
   have hof' : Ost.Own 1 3 Cf fa (f.length + 1) fc ((f ++ [i]).map nat64) := by rw [<- hfl]; exact hof
   have hfc := hof'.1
   have hge : ((f ++ [i]).map nat64)[(((f.length + 1 : Nat) : Int) - 1).toNat]? = some (nat64 i) := by
    rw [show (((f.length + 1 : Nat) : Int) - 1).toNat = f.length from by omega]; simp
   rw [hfl] at hall ⊢
   refine if_d (fun _ => ?_) (fun hc => absurd (show (0 : Int) < ((f.length + 1 : Nat) : Int) by omega) hc)
   refine gg ?_
   refine zn [(0, false, []), (1, false, []), (2, false, []), (3, false, []), (4, false, []), (5, false, []), (6, false, []), (7, false, []), (8, false, []), (9, false, []), (10, false, []), (11, false, []), (12, false, []), (13, false, []), (14, false, []), (15, false, []), (16, true, [12]), (17, false, []), (18, false, []), (19, true, [])] ?_
   refine gg ?_
   refine gM ?_
   have hif : i < l.length := h.rep.lt i (by simp)
   refine zn [(0, false, []), (1, false, []), (2, false, []), (3, false, []), (4, false, []), (5, false, []), (6, false, []), (7, false, []), (8, false, []), (9, true, [])] ?_
   refine gg ?_
   refine qO fun K hK => ?_; refine zm (vs := encV v) lkA rfl ?_; refine hK _ _ ?_; clear hK K
   refine qO fun K hK => ?_; rw [zP (ps := [(0, .string (str k)), (1, valV v)]) (cs := (encE ⟨k, v, 0, 0⟩).toArray) rfl]; refine hK _ _ ?_; clear hK K
   refine gg ?_
   refine zh fun K hK => ?_; refine wI (x' := (⟨k, v, 0, 0⟩ : En V)) hol pkA hs hif (by decide) (Qw _) (fun C2 ho2 => ?_); (repeat refine Zk ?_); refine hK _ _ ?_; clear hK K
   refine gg ?_
   have hcut := WB hof' (l := 0) (h' := f.length) (m := fc) (by omega) (by omega) (by omega) (Nat.le_refl _)
   rw [List.drop_zero, Nat.sub_zero, Nat.sub_zero, List.take_left' rfl] at hcut
   rw [show (((f.length + 1 : Nat) : Int) - 1).toNat = f.length from by omega]
   refine mid ⟨i, la, lc, l.set i ⟨k, v, 0, 0⟩, C2, cutA 1 fa 0 fc, fc, f, Cf, by unfold OwnE; rw [List.length_set]; exact ho2, hcut, ?_, ?_, ?_, ?_, by rw [List.length_set]; omega, by rw [List.length_set]; omega, rfl, rfl, by rw [List.length_set]⟩
   ·intro j hj
    rw [List.getElem?_set_ne]
    rintro rfl
    exact (List.nodup_append.1 h.rep.nd).2.2 i hj i (by simp) rfl
   ·simp [kv, hif]
   ·have hnd := h.rep.nd
    refine (List.Perm.append_left pl ?_).nodup_iff.1 hnd
    exact List.perm_append_singleton i f
   ·intro j hj; rw [List.length_set]; exact h.rep.lt j (by simp [hj])
 ·rintro D L S ⟨i, la', lc', l', Cl', fa', fc', free', Cf', g1, g2, g3, g4, g5, g6, g7, g8, rfl, rfl, rfl⟩
  have hil : i < l'.length := by
   unfold kv at g4
   cases hl : l'[i]? with
   | none => rw [hl] at g4; cases g4
   | some e => exact (List.getElem?_eq_some_iff.1 hl).1
  refine gg ?_
  refine ze fun K hK => ?_; refine XG him pkA (fun C9 him9 => ?_); refine hK _ _ ?_; clear hK K
  rw [WE nat64 m k i] at him9
  have hlast : lst (-1) pl = -1 ∨ ∃ j : Nat, lst (-1) pl = j /\ j < l'.length := by
   rcases Classical.em (pl = []) with rfl | hne
   ·exact .inl rfl
   ·obtain ⟨j, hj, e⟩ := yH pl (-1) hne
    have h1 := Io _ _ _ h.rep.lk j hj
    have h2 := g3 j hj
    rw [List.getElem?_eq_getElem h1] at h2
    exact .inr ⟨j, e, (List.getElem?_eq_some_iff.1 h2).1⟩
  obtain ⟨q1, q2, q3⟩ := h.rep.put hk g3 g4 g5 g6
  refine gg ?_
  refine cA (ID b room la' lc' fa' free'.length fc' r (hd pl (-1)) (lst (-1) pl) Cl' l' g1 i hil hlast) ?_; rintro v A ⟨C10, ho10, rfl⟩; refine gA ?_
  rw [q2, q3]
  refine zb [[(b, tabO room la' l'.length lc' fa' free'.length fc' r (hd (pl ++ [i]) (-1)) (lst (-1) (pl ++ [i])))], C10, Cf', C9] ?_
  refine ⟨rfl, la', lc', haL l' i (lst (-1) pl), fa', fc', free', mput m k i, pl ++ [i], C10, Cf', C9, ⟨ho10, g2, him9, q1, hbig, by simp; omega, by rw [jY]; simp; omega, by rw [jY]; exact g8⟩, by rw [jY]⟩
end put
section ops
variable {b room : Nat} {la : Option Addr} {lc : Nat} {l : List (En V)} {fa : Option Addr} {fc : Nat} {free : List Nat} {r : Nat} {m : List (List UInt8 × Nat)} {pl : List Nat} {es : List (List UInt8 × V)} {Cl Cf Cm : Chunk}
theorem set_miss (h : Lies4 room la lc l fa fc free r m pl es Cl Cf Cm) (k : List UInt8) (v : V) (hk : mget es k = none) :
  Meets Tryz.prog 63 [.pointer (some ⟨b, 0, none⟩), .string (str k), valV v] [[(b, tabO room la l.length lc fa free.length fc r (hd pl (-1)) (lst (-1) pl))], Cm]
   fun v A => v = .int .i64 6 /\ A = [[(b, tabO room la l.length lc fa free.length fc r (hd pl (-1)) (lst (-1) pl))], Cm] := by
 have hm := h.rep.miss.2 hk
 refine eN Tryz.func63 Tryz.ntmps63 Tryz.results63 fun F => ?_
 refine gg ?_
 refine oB fun b5 => ?_
 refine gg ?_
 refine cA (xV b room la l.length lc fa free.length fc r _ _ Cm m h.im k) ?_; rintro v A ⟨rfl, rfl⟩; refine gA ?_
 rw [hm]
 refine gg ?_
 refine zb [[(b, tabO room la l.length lc fa free.length fc r (hd pl (-1)) (lst (-1) pl))], Cm] ?_; exact ⟨rfl, rfl⟩
theorem get_miss (h : Lies4 room la lc l fa fc free r m pl es Cl Cf Cm) (k : List UInt8) (hk : mget es k = none) :
  Meets Tryz.prog 123 [.pointer (some ⟨b, 0, none⟩), .string (str k)] [[(b, tabO room la l.length lc fa free.length fc r (hd pl (-1)) (lst (-1) pl))], Cm]
   fun v A => v = .tuple #[valV v0, .bool false] /\ A = [[(b, tabO room la l.length lc fa free.length fc r (hd pl (-1)) (lst (-1) pl))], Cm] := by
 have hm := h.rep.miss.2 hk
 refine eN Tryz.func123 Tryz.ntmps123 Tryz.results123 fun F => ?_
 refine gg ?_
 refine oA (encV v0).toArray fun b4 => ?_
 refine gg ?_
 refine cA (xV b room la l.length lc fa free.length fc r _ _ Cm m h.im k) ?_; rintro v A ⟨rfl, rfl⟩; refine gA ?_
 rw [hm]
 refine gg ?_
 refine oA (encV v0).toArray fun b7 => ?_
 refine gg ?_
 refine oL (encV v0) rfl ?_
 refine oS (encV v0) rfl (jo _) ?_
 refine gg ?_
 exact zf (vs := [valV v0, .bool false]) [[(b, tabO room la l.length lc fa free.length fc r (hd pl (-1)) (lst (-1) pl))], Cm] ⟨rfl, rfl⟩ (hr := by (intro κ hκ; simp only [resW, withV, lookT_hit, lookT_miss, Nat.reduceBEq]; exact zm (vs := encV v0) lkA rfl hκ))
theorem IS (h : Lies4 room la lc l fa fc free r m pl es Cl Cf Cm) (k : List UInt8) (hk : mget es k = none) :
  Meets Tryz.prog 144 [.pointer (some ⟨b, 0, none⟩), .string (str k)] [[(b, tabO room la l.length lc fa free.length fc r (hd pl (-1)) (lst (-1) pl))], Cm]
   fun v A => v = .int .i64 6 /\ A = [[(b, tabO room la l.length lc fa free.length fc r (hd pl (-1)) (lst (-1) pl))], Cm] := by
 have hm := h.rep.miss.2 hk
 refine eN Tryz.func144 Tryz.ntmps144 Tryz.results144 fun F => ?_
 refine gg ?_
 refine cA (xV b room la l.length lc fa free.length fc r _ _ Cm m h.im k) ?_; rintro v A ⟨rfl, rfl⟩; refine gA ?_
 rw [hm]
 refine gg ?_
 refine zb [[(b, tabO room la l.length lc fa free.length fc r (hd pl (-1)) (lst (-1) pl))], Cm] ?_; exact ⟨rfl, rfl⟩
theorem Lies4.place (h : Lies4 room la lc l fa fc free r m pl es Cl Cf Cm) {k : List UInt8} {v : V} (hk : mget es k = some v) : ∃ i, mget m k = some i /\ i < l.length /\ kv l i = some (k, v) := by
 cases hm : mget m k with
 | none => rw [h.rep.miss.1 hm] at hk; cases hk
 | some i =>
  obtain ⟨v', p, q, pre, post, h1, h2, h3, h4, h5, _⟩ := h.rep.at hm
  rw [hk] at h5; cases h5
  refine ⟨i, rfl, ?_, h4⟩
  unfold kv at h4
  cases hl : l[i]? with
  | none => rw [hl] at h4; cases h4
  | some e => exact (List.getElem?_eq_some_iff.1 hl).1
theorem set_ok (h : Lies4 room la lc l fa fc free r m pl es Cl Cf Cm) (k : List UInt8) (v u : V) (hk : mget es k = some u) :
  Meets Tryz.prog 63 [.pointer (some ⟨b, 0, none⟩), .string (str k), valV v] [[(b, tabO room la l.length lc fa free.length fc r (hd pl (-1)) (lst (-1) pl))], Cl, Cm]
   fun v' A => v' = .int .i64 0 /\ ∃ l Cl', Lies4 room la lc l fa fc free r m pl (mput es k v) Cl' Cf Cm /\ A = [[(b, tabO room la l.length lc fa free.length fc r (hd pl (-1)) (lst (-1) pl))], Cl', Cm] := by
 obtain ⟨i, hm, hi, hkv⟩ := h.place hk
 have hs := qz
 have hx : l[i]? = some l[i] := List.getElem?_eq_getElem hi
 have hol := h.ol
 have hlen : (mput es k v).length = es.length := by
  have := congrArg List.length (vf k v es (by rw [hk]; simp)); simpa using this
 refine eN Tryz.func63 Tryz.ntmps63 Tryz.results63 fun F => ?_
 refine gg ?_
 refine oB fun b5 => ?_
 refine gg ?_
 refine cA (xV b room la l.length lc fa free.length fc r _ _ Cm m h.im k) ?_; rintro v A ⟨rfl, rfl⟩; refine gA ?_
 rw [hm]
 refine gg ?_
 refine zn [(0, false, []), (1, false, []), (2, false, []), (3, false, []), (4, false, []), (5, false, []), (6, false, []), (7, false, []), (8, true, [])] ?_
 refine gg ?_
 refine qO fun K hK => ?_; refine zm (vs := encV v) lkA rfl ?_; refine hK _ _ ?_; clear hK K
 refine gg ?_
 refine zh fun K hK => ?_; refine Jm (n := 4) (x' := { l[i] with v := v }) hol pkA hs hx (by decide) rfl (jo v) (by decide) rfl (fun C2 ho2 => ?_); (repeat refine Zk ?_); refine hK _ _ ?_; clear hK K
 rw [setV_set v hx] at ho2
 refine gg ?_
 refine zb [[(b, tabO room la l.length lc fa free.length fc r (hd pl (-1)) (lst (-1) pl))], C2, Cm] ?_
 exact ⟨rfl, setV l i v, C2, ⟨by unfold OwnE; rw [qe]; exact ho2, h.ofr, h.im, h.rep.set hm v, h.big, by rw [hlen]; exact h.fits, by rw [qe, hlen]; exact h.all, by rw [qe]; exact h.ll⟩, by rw [qe]⟩
theorem get_ok (h : Lies4 room la lc l fa fc free r m pl es Cl Cf Cm) (k : List UInt8) (v : V) (hk : mget es k = some v) :
  Meets Tryz.prog 123 [.pointer (some ⟨b, 0, none⟩), .string (str k)] [[(b, tabO room la l.length lc fa free.length fc r (hd pl (-1)) (lst (-1) pl))], Cl, Cm]
   fun v' A => v' = .tuple #[valV v, .bool true] /\ A = [[(b, tabO room la l.length lc fa free.length fc r (hd pl (-1)) (lst (-1) pl))], Cl, Cm] := by
 obtain ⟨i, hm, hi, hkv⟩ := h.place hk
 have hs := qz
 have hx : l[i]? = some l[i] := List.getElem?_eq_getElem hi
 have hol := h.ol
 have hv : l[i].v = v := by unfold kv at hkv; rw [hx] at hkv; simp at hkv; exact hkv.2
 refine eN Tryz.func123 Tryz.ntmps123 Tryz.results123 fun F => ?_
 refine gg ?_
 refine oA (encV v0).toArray fun b4 => ?_
 refine gg ?_
 refine cA (xV b room la l.length lc fa free.length fc r _ _ Cm m h.im k) ?_; rintro v A ⟨rfl, rfl⟩; refine gA ?_
 rw [hm]
 refine gg ?_
 refine ze fun K hK => ?_; refine VT (n := 4) (vs := encV v) hol hs hx (by decide) (by decide) (by rw [<- hv]; rfl) mmA ?_; refine hK _ _ ?_; clear hK K
 refine oS (encV v) rfl (jo _) ?_
 refine gg ?_
 exact zf (vs := [valV v, .bool true]) [[(b, tabO room la l.length lc fa free.length fc r (hd pl (-1)) (lst (-1) pl))], Cl, Cm] ⟨rfl, rfl⟩ (hr := by (intro κ hκ; simp only [resW, withV, lookT_hit, lookT_miss, Nat.reduceBEq]; exact zm (vs := encV v) lkA rfl hκ))
end ops
section ops
variable {b room : Nat} {la : Option Addr} {lc : Nat} {l : List (En V)} {fa : Option Addr} {fc : Nat} {free : List Nat} {r : Nat} {m : List (List UInt8 × Nat)} {pl : List Nat} {es : List (List UInt8 × V)} {Cl Cf Cm : Chunk}
theorem drop_ok (h : Lies4 room la lc l fa fc free r m pl es Cl Cf Cm) (k : List UInt8) (u : V) (hk : mget es k = some u) :
  Meets Tryz.prog 144 [.pointer (some ⟨b, 0, none⟩), .string (str k)] [[(b, tabO room la l.length lc fa free.length fc r (hd pl (-1)) (lst (-1) pl))], Cl, Cf, Cm]
   fun v' A => v' = .int .i64 0 /\ ∃ la lc l fa fc free m pl Cl Cf Cm, Lies4 room la lc l fa fc free r m pl (mdel es k) Cl Cf Cm /\ A = [[(b, tabO room la l.length lc fa free.length fc r (hd pl (-1)) (lst (-1) pl))], Cl, Cf, Cm] := by
 obtain ⟨i, hm, hi, hkv⟩ := h.place hk
 obtain ⟨a, n, e, hx, rfl, rfl, ha, hn, pl', hrep, q1, q2⟩ := h.rep.drop hm ⟨[], v0, 0, 0⟩
 have hs := qz
 have hlu := Zr l e.ahead e.next
 have hll := h.ll
 have hbig := h.big
 have hall := h.all
 have hml := h.rep.mlen
 have hml' := hrep.mlen
 have hofr := h.ofr
 have him := h.im
 have hfits := h.fits
 have hlen : (mdel es k).length + 1 = es.length := by
  obtain ⟨pre, post, c1, _, c3, _⟩ := qL hk
  rw [c3, c1]; simp; omega
 refine eN Tryz.func144 Tryz.ntmps144 Tryz.results144 fun F => ?_
 refine gg ?_
 refine cA (xV b room la l.length lc fa free.length fc r _ _ Cm m h.im k) ?_; rintro v A ⟨rfl, rfl⟩; refine gA ?_
 rw [hm]
 refine gg ?_
 refine cA (QO b room la lc fa free.length fc r _ _ Cl l h.ol i e hx ha hn) ?_; rintro v A ⟨C1, ho1, rfl⟩; refine gA ?_
 rw [q1, q2, <- hlu]
 refine oT [] (encE ⟨[], v0, 0, 0⟩).toArray ?_
 refine gg ?_
 refine ze fun K hK => ?_; refine wI (x' := (⟨[], v0, 0, 0⟩ : En V)) ho1 pkA hs (by omega) (by decide) (Qw _) (fun C2 ho2 => ?_); refine hK _ _ ?_; clear hK K
 refine gg ?_
 refine ze fun K hK => ?_; refine xY rfl [nat64 i] (by decide) rfl rfl (by simp [Value.cell1]) (fun b3 C3 ho3 => ?_); refine hK _ _ ?_; clear hK K
 refine ze fun K hK => ?_; refine app1 rfl hofr (.inr pkA) (ho3.rd mmA) (by simp [Value.cell1]) (by omega) (by decide) (fun C4 a4 cap4 ho4 => ?_); refine hK _ _ ?_; clear hK K
 have e4 : free.map nat64 ++ [nat64 i] = (free ++ [i]).map nat64 := by simp
 have e5 : free.length + 1 = (free ++ [i]).length := by simp
 rw [e4, e5] at ho4
 rw [e5]
 refine gg ?_
 refine gM ?_
 refine ze fun K hK => ?_; refine map_del him pkA (fun C6 him6 => ?_); refine hK _ _ ?_; clear hK K
 rw [WK nat64 m k] at him6
 refine gg ?_
 refine zb [[(b, tabO room la (unL l e.ahead e.next).length lc a4 (free ++ [i]).length cap4 r (hd pl' (-1)) (lst (-1) pl'))], C2, C4, C6] ?_
 exact ⟨rfl, la, lc, (unL l e.ahead e.next).set i ⟨[], v0, 0, 0⟩, a4, cap4, free ++ [i], mdel m k, pl', C2, C4, C6, ⟨by unfold OwnE; rw [List.length_set]; exact ho2, ho4, him6, hrep, hbig, by omega, by rw [List.length_set, hlu]; simp; omega, by rw [List.length_set, hlu]; exact hll⟩, by rw [List.length_set]⟩
end ops
theorem lk_at {V : Type} {l : List (En V)} {pre suf : List Nat} {i : Nat} (h : Lk l (-1) (pre ++ i :: suf) (-1)) : ∃ e, l[i]? = some e /\ e.next = hd suf (-1) := by
 obtain ⟨_, ⟨e, h1, _, h3⟩, _⟩ := (kf l pre (i :: suf) (-1) (-1)).1 h
 exact ⟨e, h1, h3⟩
theorem IO {V : Type} {l : List (En V)} : ∀ (pl : List Nat) (es : List (List UInt8 × V)), pl.map (kv l) = es.map some -> ∃ ents : List (En V), ents.length = pl.length /\ (∀ (j i : Nat), pl[j]? = some i -> l[i]? = ents[j]?) /\ ents.map (fun e => (e.key, e.v)) = es
 | [], [], _ => ⟨[], rfl, fun j i h => by simp at h, rfl⟩
 | [], _ :: _, h => by cases h
 | _ :: _, [], h => by cases h
 | i :: pl, x :: es, h => by
  simp only [List.map_cons, List.cons.injEq] at h
  obtain ⟨ents, h1, h2, h3⟩ := IO pl es h.2
  have hk := h.1
  unfold kv at hk
  cases hl : l[i]? with
  | none => rw [hl] at hk; cases hk
  | some e =>
   rw [hl] at hk
   simp only [Option.map_some, Option.some.injEq] at hk
   refine ⟨e :: ents, by simp [h1], fun j k hj => ?_, by rw [List.map_cons, hk, h3]⟩
   cases j with
   | zero => simp at hj; subst hj; simpa using hl
   | succ j => simp at hj ⊢; exact h2 j k hj
theorem ents_el {V : Type} {ents : List (En V)} {es : List (List UInt8 × V)} (h : ents.map (fun e => (e.key, e.v)) = es) {j : Nat} {e : En V} (he : ents[j]? = some e) : es[j]? = some (e.key, e.v) := by
 rw [<- h, List.getElem?_map, he]; rfl
abbrev tabB (b room : Nat) (la : Option Addr) (l : List (En V)) (lc : Nat) (fa : Option Addr) (free : List Nat) (fc r : Nat) (pl : List Nat) : Chunk :=
 [(b, tabO room la l.length lc fa free.length fc r (hd pl (-1)) (lst (-1) pl))]
section all
variable {b room : Nat} {la : Option Addr} {lc : Nat} {l : List (En V)} {fa : Option Addr} {fc : Nat} {free : List Nat} {r : Nat} {m : List (List UInt8 × Nat)} {pl : List Nat} {es : List (List UInt8 × V)} {Cl Cf Cm : Chunk}
theorem UR (h : Lies4 room la lc l fa fc free r m pl es Cl Cf Cm) :
  Meets Tryz.prog 193 [.pointer (some ⟨b, 0, none⟩)] [tabB b room la l lc fa free fc r pl, Cl]
   fun v A => ∃ D a c, v = .slice a pl.length c /\ OwnF D a c pl /\ A = [D, tabB b room la l lc fa free fc r pl, Cl] := by
 have hs := qz
 have hol := h.ol
 have hbig := h.big
 have hpl := h.rep.pl_len
 have hfit := h.fits
 refine eN Tryz.func193 Tryz.ntmps193 Tryz.results193 fun F => ?_
 refine gg ?_
 refine zE ?_
 refine zB (fun q D L S => ∃ (pre suf : List Nat) (X : Chunk) (xa : Option Addr) (xc : Nat), pl = pre ++ suf /\ OwnF X xa xc pre /\ q = suf.length /\ D = [] /\
  L = [(4, .int .i64 (hd suf (-1))), (3, .slice xa pre.length xc), (0, .pointer (some ⟨b, 0, none⟩))] /\ S = [X, tabB b room la l lc fa free fc r pl, Cl, F])
  ⟨[], pl, [], none, 0, rfl, own_nil, rfl, rfl, rfl, rfl⟩ ?_
 rintro q D L S ⟨pre, suf, X, xa, xc, e0, hX, rfl, rfl, rfl, rfl⟩
 cases suf with
 | nil =>
  rw [List.append_nil] at e0
  subst e0
  simp only [hd]
  refine gg ?_
  refine zb [X, tabB b room la l lc fa free fc r pl, Cl] ⟨X, xa, xc, rfl, hX, rfl⟩
 | cons i suf =>
  obtain ⟨e, hx, hnext⟩ := lk_at (e0 ▸ h.rep.lk)
  have hi : i < l.length := (List.getElem?_eq_some_iff.1 hx).1
  have hlen : pre.length + 1 <= 4096 := by
   have := congrArg List.length e0
   rw [List.length_append, List.length_cons] at this
   omega
  simp only [hd]
  refine gg ?_
  refine ze fun K hK => ?_; refine xY rfl [nat64 i] (by decide) rfl rfl (by simp [Value.cell1]) (fun b3 C3 ho3 => ?_); refine hK _ _ ?_; clear hK K
  refine ze fun K hK => ?_; refine app1 rfl hX (.inr pkA) (ho3.rd mmA) (by simp [Value.cell1]) (by omega) (by decide) (fun C4 a4 cap4 ho4 => ?_); refine hK _ _ ?_; clear hK K
  have e4 : pre.map nat64 ++ [nat64 i] = (pre ++ [i]).map nat64 := by simp
  have e5 : pre.length + 1 = (pre ++ [i]).length := by simp
  rw [e4, e5] at ho4
  rw [e5]
  refine gg ?_
  rw [hnext]
  exact zA ⟨pre ++ [i], suf, C4, a4, cap4, by rw [e0]; simp, ho4, rfl, rfl, rfl, rfl⟩ (hm := by simp)
def encX (x : List UInt8 × V) : List Value := [.string (str x.1), valV x.2]
abbrev NextX (es pre : List (List UInt8 × V)) (x : List UInt8 × V) : Prop := ∃ suf, es = pre ++ x :: suf
theorem Jb (c : Nat) (b room : Nat) (es : List (List UInt8 × V)) :
  IMeetsG Tryz.prog 192 [] [.pointer (some ⟨c, 0, none⟩)] encX [bx c (.pointer (some ⟨b, 0, none⟩)) 166]
   (fun T => IsTab T b room es) noH noH noH (NextX es) (fun pre => pre = es)
   (fun _ A => A = [bx c (.pointer (some ⟨b, 0, none⟩)) 166]) (fun _ A => A = [bx c (.pointer (some ⟨b, 0, none⟩)) 166]) false := by
 refine jB (by kernel_rfl) fun l0 J Jx hN hT hY C hC => ?_
 obtain ⟨T, R, ⟨la, lc, l, fa, fc, free, r, m, pl, Cl, Cf, Cm, h, hTC⟩, hperm⟩ := hT C hC
 have hs := qz
 have hol := h.ol
 have hbig := h.big
 have hpl := h.rep.pl_len
 have hfit := h.fits
 obtain ⟨ents, en1, en2, en3⟩ := IO pl es h.rep.row
 refine eN Tryz.func192 Tryz.ntmps192 Tryz.results192 fun F => ?_
 have hp0 : [F, C, bx c (.pointer (some ⟨b, 0, none⟩)) 166].flatten.Perm [F, tabB b room la l lc fa free fc r pl, Cl, Cf, Cm, R, bx c (.pointer (some ⟨b, 0, none⟩)) 166].flatten := by
  simp only [List.flatten_cons, List.flatten_nil, List.append_nil]
  refine List.Perm.append_left F ?_
  have h2 := (hTC ▸ hperm).append_right (bx c (.pointer (some ⟨b, 0, none⟩)) 166)
  simpa only [List.append_assoc] using h2
 refine jP hp0 ?_
 refine gg ?_
 refine cA (UR h) ?_; rintro v A ⟨D1, a1, c1, rfl, ho1, rfl⟩; refine gA ?_
 refine zE ?_
 refine zB (fun q D L S => ∃ (j : Nat) (X : Chunk) (xa : Option Addr) (xc : Nat), j <= pl.length /\ Ost.Own 7 244 X xa j xc ((ents.take j).flatMap encE) /\ q = pl.length - j /\ D = [] /\
  L = [(11, .int .i64 j), (10, .int .i64 pl.length), (9, .slice a1 pl.length c1), (3, .slice xa j xc), (0, .func (.yield l0) #[] #[]), (1, .pointer (some ⟨c, 0, none⟩))] /\
  S = [X, D1, F, tabB b room la l lc fa free fc r pl, Cl, Cf, Cm, R, bx c (.pointer (some ⟨b, 0, none⟩)) 166])
  ⟨0, [], none, 0, by omega, own_nil, rfl, rfl, rfl, rfl⟩ ?_
 rintro q D L S ⟨j, X, xa, xc, hj, hX, rfl, rfl, rfl, rfl⟩
 refine gg ?_
 refine if_d (fun hc => ?_) (fun hc => ?_)
 ·have hjp : j < pl.length := by omega
  have hpj : pl[j]? = some pl[j] := List.getElem?_eq_getElem hjp
  have hus : (pl.map nat64)[j]? = some (nat64 pl[j]) := by rw [List.getElem?_map, hpj]; rfl
  have hx := en2 j _ hpj
  have hej : ents[j]? = some ents[j] := List.getElem?_eq_getElem (by omega)
  rw [hej] at hx
  have hi : pl[j] < l.length := (List.getElem?_eq_some_iff.1 hx).1
  generalize pl[j] = i at *
  refine gg ?_
  refine ze fun K hK => ?_; refine xe hol hs hx (by decide) mmA ?_; refine hK _ _ ?_; clear hK K
  refine ze fun K hK => ?_; refine xd (e := 244) (s := 7) (hs := inferInstance) (vs := encE ents[j]) (by rfl) (by decide) (by decide) rfl (fun b2 C2 ho2 => ?_); refine hK _ _ ?_; clear hK K
  refine ze fun K hK => ?_; refine zu (e := 244) (s := 7) (hs := inferInstance) (by rfl) (by decide) hX (.inr pkA) (ho2.rd mmA) (Qw _) (by simp only [maxLen]; omega) (by omega) (fun C3 a3 cap3 ho3 => ?_); refine hK _ _ ?_; clear hK K
  have e3 : (ents.take j).flatMap encE ++ encE ents[j] = (ents.take (j + 1)).flatMap encE := by
   rw [List.take_succ_eq_append_getElem (by omega), List.flatMap_append]; simp
  rw [e3] at ho3
  refine gg ?_
  exact zA ⟨j + 1, C3, a3, cap3, by omega, ho3, rfl, rfl, rfl, rfl⟩
 ·obtain rfl : j = pl.length := by omega
  rw [List.take_of_length_le (by omega)] at hX
  have hX2 : OwnE X xa xc ents := by unfold OwnE; rw [en1]; exact hX
  rw [<- en1]
  refine gg ?_
  refine jP (S' := [X, C, F, bx c (.pointer (some ⟨b, 0, none⟩)) 166, D1]) ?_ ?_
  ·simp only [List.flatten_cons, List.flatten_nil, List.append_nil] at hp0 ⊢
   have h2 : (D1 ++ (F ++ (tabB b room la l lc fa free fc r pl ++ (Cl ++ (Cf ++ (Cm ++ (R ++ bx c (.pointer (some ⟨b, 0, none⟩)) 166))))))).Perm (C ++ (F ++ (bx c (.pointer (some ⟨b, 0, none⟩)) 166 ++ D1))) := by
    refine (List.Perm.append_left D1 hp0.symm).trans ?_
    refine List.perm_append_comm.trans ?_
    rw [<- List.append_assoc C, <- List.append_assoc, <- List.append_assoc]
    refine List.Perm.append_right _ ?_
    rw [List.append_assoc, List.append_assoc]
    have : (F ++ (C ++ bx c (.pointer (some ⟨b, 0, none⟩)) 166)).Perm (C ++ (F ++ bx c (.pointer (some ⟨b, 0, none⟩)) 166)) := by
     rw [<- List.append_assoc, <- List.append_assoc]; exact List.Perm.append_right _ List.perm_append_comm
    simpa only [List.append_assoc] using this
   exact List.Perm.append_left X h2
  refine zB (fun q D L S => ∃ (j : Nat) (C : Chunk), j <= ents.length /\ J (es.take j) C /\ q = ents.length - j /\ D = [] /\
   L = [(28, .int .i64 j), (27, .int .i64 ents.length), (26, .slice xa ents.length xc), (0, .func (.yield l0) #[] #[]), (1, .pointer (some ⟨c, 0, none⟩))] /\
   S = [X, C, F, bx c (.pointer (some ⟨b, 0, none⟩)) 166])
   ⟨0, C, by omega, hC, rfl, rfl, rfl, rfl⟩ ?_
  rintro q D L S ⟨j, C', hj, hJ, rfl, rfl, rfl, rfl⟩
  refine gg ?_
  refine if_d (fun hc => ?_) (fun hc => ?_)
  ·have hje : j < ents.length := by omega
   have hx : ents[j]? = some ents[j] := List.getElem?_eq_getElem hje
   have hjs : j < es.length := by omega
   have hee : es[j] = (ents[j].key, ents[j].v) := by
    have := ents_el en3 hx
    rw [List.getElem?_eq_getElem hjs] at this
    exact Option.some.inj this
   have hnx : NextX es (es.take j) (ents[j].key, ents[j].v) := ⟨es.drop (j + 1), by rw [<- hee, <- List.drop_eq_getElem_cons, List.take_append_drop]⟩
   have htk : es.take j ++ [(ents[j].key, ents[j].v)] = es.take (j + 1) := by rw [List.take_succ_eq_append_getElem hjs, hee]
   have hY' := hY _ _ hnx
   rw [htk] at hY'
   refine gg ?_
   refine ze fun K hK => ?_; refine xe hX2 hs hx (by decide) mmA ?_; refine hK _ _ ?_; clear hK K
   refine ze fun K hK => ?_; refine zv fun b7 => ?_; (try simp only [Value.cells]); refine hK _ _ ?_; clear hK K
   refine ze fun K hK => ?_; refine xz rfl (Qw _) upA (by rfl) ?_; refine hK _ _ ?_; clear hK K
   refine gg ?_
   refine ze fun K hK => ?_; refine vR (vs := encE ents[j]) (ws := encV ents[j].v) lkA (by simp [encE, encV]) rfl ?_; refine hK _ _ ?_; clear hK K
   refine gg ?_
   refine ze fun K hK => ?_
   refine xy hY' hJ rfl tkA (fun C4 H4 hJ4 hH4 => ?_) (fun C4 H4 hJ4 hH4 => ?_)
   ·subst hH4
    (try simp only [List.nil_append])
    refine hK _ _ ?_; clear hK K
    refine gg ?_
    exact zA ⟨j + 1, C4, by omega, hJ4, rfl, rfl, rfl, rfl⟩
   ·subst hH4
    (try simp only [List.nil_append])
    refine hK _ _ ?_; clear hK K
    refine gg ?_
    exact xE [C4, bx c (.pointer (some ⟨b, 0, none⟩)) 166] ⟨C4, [bx c (.pointer (some ⟨b, 0, none⟩)) 166], rfl, .inr ⟨_, _, hnx, by rw [htk]; exact hJ4, rfl⟩⟩
  ·obtain rfl : j = ents.length := by omega
   rw [List.take_of_length_le (by omega)] at hJ
   refine gg ?_
   exact zJ [C', bx c (.pointer (some ⟨b, 0, none⟩)) 166] ⟨C', [bx c (.pointer (some ⟨b, 0, none⟩)) 166], rfl, .inl ⟨es, rfl, hJ, rfl⟩⟩
theorem Ja (p : Option Addr) : Meets Tryz.prog 139 [.pointer p] []
  fun u A => ∃ c, u = .func (.func 192) #[] #[.pointer (some ⟨c, 0, none⟩)] /\ A = [bx c (.pointer p) 166] := by
 refine eN Tryz.func139 Tryz.ntmps139 Tryz.results139 fun F => ?_
 refine gg ?_
 refine oB fun p1 => ?_
 refine gg ?_
 refine zb [bx p1 (.pointer p) 166] ⟨p1, rfl, rfl⟩
end all
instance iWH_1 : TPlaces Tryz.prog 248 [(0, 1), (1, 1), (2, 1), (3, 1), (4, 1), (5, 1)] := ⟨by kernel_rfl⟩
theorem new_core (room : Nat) (h1 : 1 <= room) (h2 : room <= 4096) : Meets Tryz.prog 71 [.int .i64 room] [] fun v A => ∃ b r Cm, v = .tuple #[.pointer (some ⟨b, 0, none⟩), .int .i64 0] /\ xB Cm r [] /\ A = [[(b, tabO room none 0 0 none 0 0 r (-1) (-1))], Cm] := by
 refine eN Tryz.func71 Tryz.ntmps71 Tryz.results71 fun F => ?_
 refine gg ?_
 rw [decide_eq_false (show ¬ (room : Int) < 1 by omega)]
 refine gg ?_
 rw [decide_eq_false (show ¬ 4096 < (room : Int) by omega)]
 refine gg ?_
 refine ze fun K hK => ?_; refine XH fun r Cm hm => ?_; refine hK _ _ ?_; clear hK K
 refine gg ?_
 refine oT [(0, .int .i64 room), (3, .map (some r)), (4, .int .i64 (-1)), (5, .int .i64 (-1))] #[.int .i64 room, .slice none 0 0, .slice none 0 0, .map (some r), .int .i64 (-1), .int .i64 (-1)] ?_
 refine gg ?_
 refine oB fun b => ?_
 refine gg ?_
 refine zf [[(b, tabO room none 0 0 none 0 0 r (-1) (-1))], Cm] ⟨b, r, Cm, rfl, hm, rfl⟩
theorem new_yes (room : Nat) (h1 : 1 <= room) (h2 : room <= 4096) : Meets Tryz.prog 71 [.int .i64 room] [] fun v A => ∃ b T, v = .tuple #[.pointer (some ⟨b, 0, none⟩), .int .i64 0] /\ IsTab T b room [] /\ A = [T] := by
 refine Meets.conv [] (new_core room h1 h2) rfl (.nil _) ?_
 rintro v A ⟨b, r, Cm, rfl, hm, rfl⟩
 exact ⟨[[(b, tabO room none 0 0 none 0 0 r (-1) (-1))] ++ Cm], [[(b, tabO room none 0 0 none 0 0 r (-1) (-1))], Cm], by simp, Among.refl _, b, _, rfl, ⟨none, 0, [], none, 0, [], r, [], [], [], [], Cm, ⟨own_nil, own_nil, hm, Rep.new, h2, by simp, rfl, by simp⟩, rfl⟩, rfl⟩
def putE (room : Nat) (es : List (List UInt8 × V)) (k : List UInt8) (v : V) : Int × List (List UInt8 × V) := if mget es k ≠ none then (7, es) else if room <= es.length then (8, es) else (0, es ++ [(k, v)])
def setE (es : List (List UInt8 × V)) (k : List UInt8) (v : V) : Int × List (List UInt8 × V) := match mget es k with | none => (6, es) | some _ => (0, mput es k v)
def Zl (es : List (List UInt8 × V)) (k : List UInt8) : Int × List (List UInt8 × V) := match mget es k with | none => (6, es) | some _ => (0, mdel es k)
section one
variable {T : Chunk} {b room : Nat} {es : List (List UInt8 × V)}
theorem tput (h : IsTab T b room es) (k : List UInt8) (v : V) : Meets Tryz.prog 98 [.pointer (some ⟨b, 0, none⟩), .string (str k), valV v] [T]
  fun r A => r = .int .i64 (putE room es k v).1 /\ ∃ T', IsTab T' b room (putE room es k v).2 /\ A = [T'] := by
 have h0 := h
 obtain ⟨la, lc, l, fa, fc, free, r, m, pl, Cl, Cf, Cm, h, rfl⟩ := h
 cases hm : mget es k with
 | some u =>
  have e : putE room es k v = (7, es) := by unfold putE; rw [hm]; rfl
  rw [e]
  refine Meets.conv [tabB b room la l lc fa free fc r pl, Cl, Cf, Cm] (YM h k v (by rw [hm]; simp)) flA tkA ?_; rintro v A ⟨rfl, rfl⟩
  exact ⟨[tabB b room la l lc fa free fc r pl ++ (Cl ++ (Cf ++ Cm))], [tabB b room la l lc fa free fc r pl, Cl, Cf, Cm], flA, amA, rfl, _, h0, rfl⟩
 | none =>
  by_cases hf : room <= es.length
  ·have e : putE room es k v = (8, es) := by unfold putE; rw [hm, if_neg (by simp), if_pos hf]
   have hfit := h.fits
   rw [e]
   refine Meets.conv [tabB b room la l lc fa free fc r pl, Cl, Cf, Cm] (put_full h k v hm (by omega)) flA tkA ?_; rintro v A ⟨rfl, rfl⟩
   exact ⟨[tabB b room la l lc fa free fc r pl ++ (Cl ++ (Cf ++ Cm))], [tabB b room la l lc fa free fc r pl, Cl, Cf, Cm], flA, amA, rfl, _, h0, rfl⟩
  ·have e : putE room es k v = (0, es ++ [(k, v)]) := by unfold putE; rw [hm, if_neg (by simp), if_neg hf]
   rw [e]
   refine Meets.conv [tabB b room la l lc fa free fc r pl, Cl, Cf, Cm] (put_ok h k v hm (by omega)) flA tkA ?_; rintro v A ⟨rfl, la', lc', l', fa', fc', free', m', pl', Cl', Cf', Cm', h', rfl⟩
   exact ⟨[tabB b room la' l' lc' fa' free' fc' r pl' ++ (Cl' ++ (Cf' ++ Cm'))], [tabB b room la' l' lc' fa' free' fc' r pl', Cl', Cf', Cm'], flA, amA, rfl, _, ⟨la', lc', l', fa', fc', free', r, m', pl', Cl', Cf', Cm', h', rfl⟩, rfl⟩
theorem tset (h : IsTab T b room es) (k : List UInt8) (v : V) : Meets Tryz.prog 63 [.pointer (some ⟨b, 0, none⟩), .string (str k), valV v] [T]
  fun r A => r = .int .i64 (setE es k v).1 /\ ∃ T', IsTab T' b room (setE es k v).2 /\ A = [T'] := by
 have h0 := h
 obtain ⟨la, lc, l, fa, fc, free, r, m, pl, Cl, Cf, Cm, h, rfl⟩ := h
 cases hm : mget es k with
 | none =>
  have e : setE es k v = (6, es) := by unfold setE; rw [hm]
  rw [e]
  refine Meets.conv [tabB b room la l lc fa free fc r pl, Cl, Cf, Cm] (set_miss h k v hm) flA tkA ?_; rintro v A ⟨rfl, rfl⟩
  exact ⟨[tabB b room la l lc fa free fc r pl ++ (Cl ++ (Cf ++ Cm))], [tabB b room la l lc fa free fc r pl, Cl, Cf, Cm], flA, amA, rfl, _, h0, rfl⟩
 | some u =>
  have e : setE es k v = (0, mput es k v) := by unfold setE; rw [hm]
  rw [e]
  refine Meets.conv [tabB b room la l lc fa free fc r pl, Cl, Cf, Cm] (set_ok h k v u hm) flA tkA ?_; rintro v A ⟨rfl, l', Cl', h', rfl⟩
  exact ⟨[tabB b room la l' lc fa free fc r pl ++ (Cl' ++ (Cf ++ Cm))], [tabB b room la l' lc fa free fc r pl, Cl', Cf, Cm], flA, amA, rfl, _, ⟨la, lc, l', fa, fc, free, r, m, pl, Cl', Cf, Cm, h', rfl⟩, rfl⟩
theorem tdrop (h : IsTab T b room es) (k : List UInt8) : Meets Tryz.prog 144 [.pointer (some ⟨b, 0, none⟩), .string (str k)] [T]
  fun r A => r = .int .i64 (Zl es k).1 /\ ∃ T', IsTab T' b room (Zl es k).2 /\ A = [T'] := by
 have h0 := h
 obtain ⟨la, lc, l, fa, fc, free, r, m, pl, Cl, Cf, Cm, h, rfl⟩ := h
 cases hm : mget es k with
 | none =>
  have e : Zl es k = (6, es) := by unfold Zl; rw [hm]
  rw [e]
  refine Meets.conv [tabB b room la l lc fa free fc r pl, Cl, Cf, Cm] (IS h k hm) flA tkA ?_; rintro v A ⟨rfl, rfl⟩
  exact ⟨[tabB b room la l lc fa free fc r pl ++ (Cl ++ (Cf ++ Cm))], [tabB b room la l lc fa free fc r pl, Cl, Cf, Cm], flA, amA, rfl, _, h0, rfl⟩
 | some u =>
  have e : Zl es k = (0, mdel es k) := by unfold Zl; rw [hm]
  rw [e]
  refine Meets.conv [tabB b room la l lc fa free fc r pl, Cl, Cf, Cm] (drop_ok h k u hm) flA tkA ?_; rintro v A ⟨rfl, la', lc', l', fa', fc', free', m', pl', Cl', Cf', Cm', h', rfl⟩
  exact ⟨[tabB b room la' l' lc' fa' free' fc' r pl' ++ (Cl' ++ (Cf' ++ Cm'))], [tabB b room la' l' lc' fa' free' fc' r pl', Cl', Cf', Cm'], flA, amA, rfl, _, ⟨la', lc', l', fa', fc', free', r, m', pl', Cl', Cf', Cm', h', rfl⟩, rfl⟩
theorem tget (h : IsTab T b room es) (k : List UInt8) : Meets Tryz.prog 123 [.pointer (some ⟨b, 0, none⟩), .string (str k)] [T]
  fun r A => r = (match mget es k with | none => .tuple #[valV v0, .bool false] | some u => .tuple #[valV u, .bool true]) /\ A = [T] := by
 obtain ⟨la, lc, l, fa, fc, free, r, m, pl, Cl, Cf, Cm, h, rfl⟩ := h
 cases hm : mget es k with
 | none =>
  refine Meets.conv [tabB b room la l lc fa free fc r pl, Cl, Cf, Cm] (get_miss h k hm) flA tkA ?_; rintro v A ⟨rfl, rfl⟩
  exact ⟨[tabB b room la l lc fa free fc r pl ++ (Cl ++ (Cf ++ Cm))], [tabB b room la l lc fa free fc r pl, Cl, Cf, Cm], flA, amA, rfl, rfl⟩
 | some u =>
  refine Meets.conv [tabB b room la l lc fa free fc r pl, Cl, Cf, Cm] (get_ok h k u hm) flA tkA ?_; rintro v A ⟨rfl, rfl⟩
  exact ⟨[tabB b room la l lc fa free fc r pl ++ (Cl ++ (Cf ++ Cm))], [tabB b room la l lc fa free fc r pl, Cl, Cf, Cm], flA, amA, rfl, rfl⟩
theorem tfull (h : IsTab T b room es) : Meets Tryz.prog 141 [.pointer (some ⟨b, 0, none⟩)] [T] fun v A => v = .bool (decide (es.length = room)) /\ A = [T] := by
 obtain ⟨la, lc, l, fa, fc, free, r, m, pl, Cl, Cf, Cm, h, rfl⟩ := h
 have hml := h.rep.mlen
 have hfit := h.fits
 refine Meets.conv [tabB b room la l lc fa free fc r pl, Cl, Cf, Cm] (yO b room h.big la l.length lc fa free.length fc r _ _ Cm m h.im (by omega)) flA tkA ?_; rintro v A ⟨rfl, rfl⟩
 rw [hml]
 exact ⟨[tabB b room la l lc fa free fc r pl ++ (Cl ++ (Cf ++ Cm))], [tabB b room la l lc fa free fc r pl, Cl, Cf, Cm], flA, amA, rfl, rfl⟩
end one
theorem WL {α : Type} {k : List UInt8} {v : α} : ∀ (a b : List (List UInt8 × α)), ((a ++ (k, v) :: b).map (·.1)).Nodup -> mdel (a ++ (k, v) :: b) k = a ++ b /\ mget (a ++ (k, v) :: b) k = some v
 | [], b, _ => by simp [mdel, mget]
 | (k', u) :: a, b, h => by
  simp only [List.cons_append, List.map_cons, List.nodup_cons] at h
  obtain ⟨h1, h2⟩ := WL a b h.2
  have hne : k ≠ k' := by
   rintro rfl
   exact h.1 (by simp)
  simp only [List.cons_append, mdel, mget]
  rw [if_neg hne, if_neg hne, h1]
  exact ⟨rfl, h2⟩
def JF (p : List UInt8 × V -> Bool) (es : List (List UInt8 × V)) : Int × List (List UInt8 × V) := ((es.filter p).length, es.filter fun x => !p x)
theorem YN {T : Chunk} {b room : Nat} {es : List (List UInt8 × V)} (h : IsTab T b room es) {f : FuncId} {captured : Array Value} {G : Chunk} (p : List UInt8 × V -> Bool)
  (hg : ∀ x ∈ es, Meets Tryz.prog f (.string (str x.1) :: valV x.2 :: captured.toList) [G] fun v A => v = .bool (p x) /\ A = [G]) :
  Meets Tryz.prog 197 [.pointer (some ⟨b, 0, none⟩), .func (.func f) #[] captured] [T, G]
   fun v A => v = .int .i64 (JF p es).1 /\ ∃ T', IsTab T' b room (JF p es).2 /\ A = [T', G] := by
 have hlen := h.fits
 have hbig : room <= 4096 := by obtain ⟨_, _, _, _, _, _, _, _, _, _, _, _, h, _⟩ := h; exact h.big
 refine eN Tryz.func197 Tryz.ntmps197 Tryz.results197 fun F => ?_
 refine gg ?_
 refine oB fun b2 => ?_
 refine gg ?_
 refine oB fun b3 => ?_
 refine gg ?_
 refine ze fun K hK => ?_; refine zv fun b5 => ?_; (try simp only [Value.cells]); refine hK _ _ ?_; clear hK K
 refine gg ?_
 refine cA (Ja _) ?_; rintro v A ⟨c, rfl, rfl⟩; refine gA ?_
 refine xH (by (try simp only [evT, lookT_hit, lookT_miss, Nat.reduceBEq]); (first | done | exact rfl)) (Jb c b room es) (by (repeat (first | exact Take.nil _ | with_reducible exact Pick.head _ _ | with_reducible apply Pick.tail | with_reducible apply Take.cons))) (fun pre C => ∃ suf T', es = pre ++ suf /\ IsTab T' b room (pre.filter (fun x => !p x) ++ suf) /\
   C = [bx b5 (.int .i64 ((pre.filter p).length : Nat)) 3, bx b3 (.func (.func f) #[] captured) 326, bx b2 (.pointer (some ⟨b, 0, none⟩)) 166, F, T', G])
  (fun c pre C => False) (fun h => by cases h) (fun C hC => ?_) (fun _ => rfl) ⟨es, T, rfl, h, rfl⟩ ?_ ?_ ?_
 ·obtain ⟨suf, T', e, hT', rfl⟩ := hC
  rw [List.nil_append] at e
  subst e
  exact KN hT' pkA
 ·rintro l F1 C H r pre x ⟨suf1, hx⟩ ⟨suf, T', e, hT', rfl⟩ rfl
  obtain rfl : suf = x :: suf1 := by
   rw [e] at hx; exact List.append_cancel_left hx
  obtain ⟨k, v⟩ := x
  have hnd := hT'.keys
  have hplen : (pre.filter p).length <= pre.length := List.length_filter_le _ _
  have hprl : pre.length <= es.length := by rw [e]; simp
  (try simp only [List.nil_append, List.cons_append, List.append_nil, encX])
  (try simp only [jm, putT, Nat.reduceLT, if_true, reduceIte, Array.toList, List.toList_toArray])
  refine gg ?_
  refine ze fun K hK => ?_; refine zv fun b7 => ?_; (try simp only [Value.cells]); refine hK _ _ ?_; clear hK K
  refine oS (encV v) rfl (jo v) ?_
  refine gg ?_
  refine ⟨_, .cons (.tail _ (.head _ _)) (Among.refl _), fun r' _ => ?_⟩
  refine gg ?_
  refine oL (encV v) rfl ?_
  refine cA (hg (k, v) (by rw [hx]; simp)) ?_; rintro v A ⟨rfl, rfl⟩; refine gA ?_
  cases hp : p (k, v) with
  | false =>
   refine gg ?_
   have e1 : (pre ++ [(k, v)]).filter p = pre.filter p := by simp [hp]
   have e2 : (pre ++ [(k, v)]).filter (fun x => !p x) ++ suf1 = pre.filter (fun x => !p x) ++ (k, v) :: suf1 := by simp [hp]
   refine ⟨_, ⟨_, [], rfl, ⟨suf1, T', by simp [e], by rw [e2]; exact hT', rfl⟩, rfl⟩, ?_⟩
   rw [e1]
   (try simp only [List.append_nil])
   first | ((repeat (first | with_reducible exact Among.nil _ | with_reducible exact Pick.head _ _ | with_reducible apply Pick.tail | with_reducible apply Among.cons)); done) | ((repeat (first | exact Among.nil _ | exact Pick.head _ _ | apply Pick.tail | apply Among.cons)); done)
  | true =>
   obtain ⟨d1, d2⟩ := WL _ _ hnd
   have e0 : Zl (pre.filter (fun x => !p x) ++ (k, v) :: suf1) k = (0, pre.filter (fun x => !p x) ++ suf1) := by unfold Zl; rw [d2]; simp only [d1]
   have hdr := tdrop hT' k
   rw [e0] at hdr
   refine gg ?_
   refine cA (hdr) ?_; rintro v A ⟨rfl, T2, hT2, rfl⟩; refine gA ?_
   have e1 : ((pre ++ [(k, v)]).filter p).length = (pre.filter p).length + 1 := by simp [hp]
   have e2 : (pre ++ [(k, v)]).filter (fun x => !p x) ++ suf1 = pre.filter (fun x => !p x) ++ suf1 := by simp [hp]
   refine ⟨_, ⟨_, [], rfl, ⟨suf1, T2, by simp [e], by rw [e2]; exact hT2, rfl⟩, rfl⟩, ?_⟩
   rw [e1]
   (try simp only [List.append_nil, Int.natCast_add, Int.cast_ofNat_Int])
   first | ((repeat (first | with_reducible exact Among.nil _ | with_reducible exact Pick.head _ _ | with_reducible apply Pick.tail | with_reducible apply Among.cons)); done) | ((repeat (first | exact Among.nil _ | exact Pick.head _ _ | apply Pick.tail | apply Among.cons)); done)
 ·rintro d pre C A rfl ⟨suf, T', e, hT', rfl⟩ rfl
  obtain rfl : suf = [] := by
   have := congrArg List.length e
   rw [List.length_append] at this
   exact List.length_eq_zero_iff.1 (by omega)
  rw [List.append_nil] at hT'
  (try simp only [List.nil_append, List.cons_append])
  refine gg ?_
  refine zf [T', G] ⟨rfl, T', hT', rfl⟩
 ·rintro d c pre x C A hx hI
  exact hI.elim
open Go.Sha
abbrev Es := List (List UInt8 × V)
structure NS where
 room : Nat
 win : Int
 es : Es
 ser : Nat
 last : Int
 mark : Int
 mrk : Bool
def oldB (s : NS) (now : Int) (x : List UInt8 × V) : Bool := (decide (x.2.at_ < now) && decide (s.win < now - x.2.at_)) || (s.mrk && decide (x.2.at_ <= s.mark))
def vv (s : NS) (now : Int) : Int × NS := ((JF (oldB s now) s.es).1, { s with es := (JF (oldB s now) s.es).2 })
def maxI (a b : Int) : Int := if a < b then b else a
def Ul (s : NS) : NS := match s.es with
 | [] => s
 | x :: es => { s with es := es, mark := maxI s.mark x.2.at_, mrk := true }
def wv (s : NS) (now : Int) : NS := if s.es.length = s.room then (if 0 < (vv s now).1 then (vv s now).2 else Ul s) else s
def nonN (d : List UInt8) (n : Nat) : List UInt8 := d ++ 46 :: hx n
def addN (s : NS) (d : List UInt8) (now : Int) : NS := { s with es := s.es ++ [(nonN d (s.ser + 1), ⟨nonN d (s.ser + 1), d, now, false, 0⟩)], ser := s.ser + 1, last := now }
def hasD (d : List UInt8) (es : Es) : Bool := es.any fun x => decide (x.2.draw = d)
def xg (s : NS) (d : List UInt8) (now : Int) : (List UInt8 × Int) × NS :=
 if XV d = false then (([], 4), s) else if now < s.last then (([], 9), s) else if hasD d s.es then (([], 7), s) else ((nonN d (s.ser + 1), 0), addN (wv s now) d now)
def XL (s : NS) (now : Int) (v : V) : Bool := !decide (v.at_ <= now /\ now - v.at_ <= s.win) || (s.mrk && decide (v.at_ <= s.mark))
def wE (s : NS) (n : List UInt8) (now : Int) : Int × V := match mget s.es n with
 | none => (6, v0)
 | some v => if XL s now v then (9, v0) else (0, v)
def useN (s : NS) (n : List UInt8) (c now : Int) : Int × NS :=
 if (wE s n now).1 = 0 then (if c = 0 then (1, s) else if (wE s n now).2.sp || decide (c <= (wE s n now).2.cnt) then (10, s) else (0, { s with es := mput s.es n { (wE s n now).2 with cnt := c } })) else ((wE s n now).1, s)
theorem wD (s : NS) (n : List UInt8) (now : Int) : (wE s n now = (6, v0) /\ mget s.es n = none) ∨ ∃ v, mget s.es n = some v /\ ((wE s n now = (9, v0) /\ XL s now v = true) ∨ (wE s n now = (0, v) /\ XL s now v = false)) := by
 unfold wE
 cases mget s.es n with
 | none => exact .inl ⟨rfl, rfl⟩
 | some v =>
  refine .inr ⟨v, rfl, ?_⟩
  cases h : XL s now v with
  | true => exact .inl ⟨by simp [h], rfl⟩
  | false => exact .inr ⟨by simp [h], rfl⟩
theorem IY : ∀ i < 16, ∀ j < 16, digits.getD i 0 = digits.getD j 0 -> i = j := by decide
theorem IZ : ∀ i < 16, digits.getD i 0 ≠ 46 := by decide
theorem hex2_inj {x y : UInt8} (h : hex2 x = hex2 y) : x = y := by
 simp only [hex2, List.cons.injEq, and_true] at h
 have hx := x.toNat_lt
 have hy := y.toNat_lt
 have h1 := IY _ (by omega) _ (by omega) h.1
 have h2 := IY _ (by omega) _ (by omega) h.2
 exact UInt8.toNat_inj.1 (by omega)
theorem IA : ∀ {a b : List UInt8}, hex a = hex b -> a = b
 | [], [], _ => rfl
 | [], y :: b, h => by simp [hex, hex2] at h
 | x :: a, [], h => by simp [hex, hex2] at h
 | x :: a, y :: b, h => by
  simp only [hex, List.flatMap_cons] at h
  obtain ⟨h1, h2⟩ := List.append_inj h (by simp [hex2])
  rw [hex2_inj h1, IA (a := a) (b := b) h2]
theorem hx_inj {n m : Nat} (hn : n < 65536) (hm : m < 65536) (h : hx n = hx m) : n = m := by
 have h1 := IA h
 have e6 := ZZ 8 n 6 (by decide)
 have e7 := ZZ 8 n 7 (by decide)
 have f6 := ZZ 8 m 6 (by decide)
 have f7 := ZZ 8 m 7 (by decide)
 rw [h1] at e6 e7
 have g6 := congrArg UInt8.toNat (e6.symm.trans f6)
 have g7 := congrArg UInt8.toNat (e7.symm.trans f7)
 simp only [UInt8.toNat_ofNat', show 8 - 1 - 6 = 1 from rfl, show 8 - 1 - 7 = 0 from rfl, Nat.pow_one, Nat.pow_zero, Nat.div_one] at g6 g7
 omega
theorem hx_dot (n : Nat) : ∀ c ∈ hx n, c ≠ 46 := by
 intro c hc
 unfold hx hex at hc
 obtain ⟨x, _, hx⟩ := List.mem_flatMap.1 hc
 have hlt := x.toNat_lt
 simp only [hex2, List.mem_cons, List.not_mem_nil, or_false] at hx
 rcases hx with rfl | rfl
 ·exact IZ _ (by omega)
 ·exact IZ _ (by omega)
theorem non_inj {d e : List UInt8} {n m : Nat} (hn : n < 65536) (hm : m < 65536) (h : nonN d n = nonN e m) : d = e /\ n = m := by
 unfold nonN at h
 obtain ⟨h1, h2⟩ := List.append_inj' h (by simp [Iy])
 exact ⟨h1, hx_inj hn hm (List.cons.inj h2).2⟩
structure EnOk (ser : Nat) (x : List UInt8 × V) : Prop where
 key : x.1 = x.2.non
 draw : x.2.draw.length <= 40
 num : ∃ n, n <= ser /\ x.2.non = nonN x.2.draw n
 at0 : 0 <= x.2.at_
 c0 : 0 <= x.2.cnt
structure NOk (s : NS) : Prop where
 r1 : 1 <= s.room
 r2 : s.room <= 64
 w1 : 1 <= s.win
 w2 : s.win <= 1099511627776
 ser : s.ser <= 1000
 fit : s.es.length <= s.room
 mk0 : s.mrk = false -> s.mark = 0
 mark0 : 0 <= s.mark
 last0 : 0 <= s.last
 en : ∀ x ∈ s.es, EnOk s.ser x
theorem EnOk.le {a b : Nat} {x : List UInt8 × V} (h : EnOk a x) (hab : a <= b) : EnOk b x := by
 obtain ⟨h1, h2, ⟨n, hn, h3⟩, h4, h5⟩ := h
 exact ⟨h1, h2, ⟨n, by omega, h3⟩, h4, h5⟩
theorem kw {es : Es} {s : List UInt8} {v : V} (h : mget es s = some v) : (s, v) ∈ es := by
 obtain ⟨pre, post, h1, _⟩ := qL h
 rw [h1]; simp
theorem NOk.fresh {s : NS} (h : NOk s) (d : List UInt8) : mget s.es (nonN d (s.ser + 1)) = none := by
 cases hm : mget s.es (nonN d (s.ser + 1)) with
 | none => rfl
 | some v =>
  exfalso
  obtain ⟨h1, _, ⟨n, hn, h3⟩, _⟩ := h.en _ (kw hm)
  have := h.ser
  simp only at h1 h3
  rw [<- h1] at h3
  have := (non_inj (by omega) (by omega) h3).2
  omega
theorem Ys {s : NS} {now : Int} (h : ¬ 0 < (vv s now).1) : (JF (oldB s now) s.es).2 = s.es := by
 have h0 : (s.es.filter (oldB s now)).length = 0 := by
  have h1 : ¬ (0 : Int) < ((s.es.filter (oldB s now)).length : Nat) := h
  omega
 show s.es.filter (fun x => !oldB s now x) = s.es
 rw [List.filter_eq_self]
 intro x hx
 cases ho : oldB s now x with
 | false => rfl
 | true =>
  have := List.mem_filter.2 ⟨hx, ho⟩
  rw [List.length_eq_zero_iff.1 h0] at this
  cases this
theorem ok_sub {s : NS} (h : NOk s) {es : Es} (hs : ∀ x ∈ es, x ∈ s.es) (hl : es.length <= s.es.length) : NOk { s with es := es } := by
 obtain ⟨h1, h2, h3, h4, h5, h6, h7, h8, h9, h10⟩ := h
 exact ⟨h1, h2, h3, h4, h5, Nat.le_trans hl h6, h7, h8, h9, fun x hx => h10 x (hs x hx)⟩
theorem ok_sweep {s : NS} (h : NOk s) (now : Int) : NOk (vv s now).2 :=
 ok_sub h (fun x hx => (List.mem_filter.1 hx).1) (List.length_filter_le _ _)
theorem max_ge (a b : Int) : a <= maxI a b /\ b <= maxI a b := by unfold maxI; split <;> omega
theorem ok_drop {s : NS} (h : NOk s) : NOk (Ul s) := by
 obtain ⟨room, win, es, ser, last, mark, mk⟩ := s
 obtain ⟨h1, h2, h3, h4, h5, h6, h7, h8, h9, h10⟩ := h
 cases es with
 | nil => exact ⟨h1, h2, h3, h4, h5, h6, h7, h8, h9, h10⟩
 | cons x es =>
  have h11 := max_ge mark x.2.at_
  have h12 : 0 <= mark := h8
  have h13 : es.length + 1 <= room := h6
  exact ⟨h1, h2, h3, h4, h5, by show es.length <= room; omega, (fun h => by cases h), by show 0 <= maxI mark x.2.at_; omega, h9, fun y hy => h10 y (List.mem_cons_of_mem _ hy)⟩
theorem OW {s : NS} (h : NOk s) (now : Int) : NOk (wv s now) := by
 unfold wv
 split
 ·split
  ·exact ok_sweep h now
  ·exact ok_drop h
 ·exact h
theorem Wt (s : NS) (now : Int) : (wv s now).ser = s.ser := by
 unfold wv
 split
 ·split
  ·rfl
  ·unfold Ul; split <;> rfl
 ·rfl
theorem yz (s : NS) (now : Int) : (wv s now).room = s.room := by
 unfold wv
 split
 ·split
  ·rfl
  ·unfold Ul; split <;> rfl
 ·rfl
theorem Ui {α : Type} (p : α -> Bool) (l : List α) : (l.filter p).length + (l.filter fun x => !p x).length = l.length := by
 induction l with
 | nil => rfl
 | cons x l ih =>
  simp only [List.filter_cons, List.length_cons]
  cases p x <;> simp <;> omega
theorem Wu {s : NS} (h : NOk s) (now : Int) : (wv s now).es.length < s.room := by
 have hr := h.r1
 have hf := h.fit
 unfold wv
 split
 ·rename_i he
  split
  ·rename_i hp
   have h1 : (0 : Int) < ((s.es.filter (oldB s now)).length : Nat) := hp
   have h2 := Ui (oldB s now) s.es
   show (s.es.filter fun x => !oldB s now x).length < s.room
   omega
  ·unfold Ul
   split
   ·rename_i h0
    rw [h0] at he; simp at he; omega
   ·rename_i x es h0
    rw [h0] at he; simp at he ⊢; omega
 ·omega
theorem ok_add {s : NS} (h : NOk s) (hf : s.es.length < s.room) (hser : s.ser < 1000) (d : List UInt8) (hd : d.length <= 40) (now : Int) (hn : 0 <= now) : NOk (addN s d now) := by
 obtain ⟨h1, h2, h3, h4, h5, h6, h7, h8, h9, h10⟩ := h
 refine ⟨h1, h2, h3, h4, by show s.ser + 1 <= 1000; omega, by show (s.es ++ [_]).length <= s.room; simp; omega, h7, h8, hn, fun x hx => ?_⟩
 rcases List.mem_append.1 hx with hx | hx
 ·exact (h10 x hx).le (Nat.le_succ _)
 ·rw [List.mem_singleton.1 hx]
  exact ⟨rfl, hd, ⟨s.ser + 1, Nat.le_refl _, rfl⟩, hn, by show (0 : Int) <= 0; omega⟩
theorem Yb {d : List UInt8} (h : ¬ XV d = false) : d.length <= 40 := by
 have h' : XV d = true := by cases hb : XV d <;> simp_all
 simp only [XV, Bool.and_eq_true, decide_eq_true_eq] at h'
 exact h'.2.2
theorem ok_issue {s : NS} (h : NOk s) (hser : s.ser < 1000) (d : List UInt8) (now : Int) (hn : 0 <= now) : NOk (xg s d now).2 := by
 unfold xg
 split
 ·exact h
 ·rename_i hd
  split
  ·exact h
  ·split
   ·exact h
   ·exact ok_add (OW h now) (by rw [yz]; exact Wu h now) (by rw [Wt]; exact hser) d (Yb hd) now hn
theorem ok_put {s : NS} (h : NOk s) {n : List UInt8} {v w : V} (hm : mget s.es n = some v) (h1 : w.non = v.non) (h2 : w.draw = v.draw) (h3 : w.at_ = v.at_) (h4 : 0 <= w.cnt) : NOk { s with es := mput s.es n w } := by
 obtain ⟨pre, post, e1, e2, _, _⟩ := qL hm
 obtain ⟨k1, k2, k3, k4, k5, k6, k7, k8, k9, k10⟩ := h
 refine ⟨k1, k2, k3, k4, k5, ?_, k7, k8, k9, fun x hx => ?_⟩
 ·show (mput s.es n w).length <= s.room
  rw [e2]; rw [e1] at k6; simpa using k6
 ·have hx' : x ∈ mput s.es n w := hx
  rw [e2] at hx'
  rw [e1] at k10
  rcases List.mem_append.1 hx' with hx' | hx'
  ·exact k10 x (by simp [hx'])
  ·rcases List.mem_cons.1 hx' with rfl | hx'
   ·obtain ⟨q1, q2, ⟨m, hm, q3⟩, q4, q5⟩ := k10 (n, v) (by simp)
    exact ⟨q1.trans h1.symm, by show w.draw.length <= 40; rw [h2]; exact q2, ⟨m, hm, by show w.non = nonN w.draw m; rw [h1, h2]; exact q3⟩, by show 0 <= w.at_; rw [h3]; exact q4, h4⟩
   ·exact k10 x (by simp [hx'])
theorem ok_use {s : NS} (h : NOk s) (n : List UInt8) (c : Int) (hc : 0 <= c) (now : Int) : NOk (useN s n c now).2 := by
 unfold useN
 rcases wD s n now with ⟨e, _⟩ | ⟨v, hm, ⟨e, _⟩ | ⟨e, _⟩⟩
 ·rw [e]; exact h
 ·rw [e]; exact h
 ·rw [e, if_pos rfl]
  split
  ·exact h
  ·split
   ·exact h
   ·exact ok_put h hm rfl rfl rfl hc
abbrev nB (q b : Nat) (s : NS) : Chunk := [(q, .cells #[.int .i64 s.room, .int .u64 s.win, .pointer (some ⟨b, 0, none⟩), .int .u64 s.ser, .int .u64 s.last, .int .u64 s.mark, .bool s.mrk] 168 (0, 0))]
abbrev yL (v : V) : List Value := [.string (str v.non), .int .u64 v.at_, .bool v.sp, .int .u32 v.cnt]
instance iKA_1 : TPlaces Tryz.prog 163 [(0, 1), (1, 1), (2, 1), (3, 1)] := ⟨by kernel_rfl⟩
instance iKA_2 : TPlaces Tryz.prog 168 [(0, 2), (2, 1), (3, 1), (4, 1), (5, 1), (6, 1)] := ⟨by kernel_rfl⟩
theorem use_of {s : NS} {n : List UInt8} {c now : Int} {v : V} (e : wE s n now = (0, v)) : useN s n c now = if c = 0 then (1, s) else if (v.sp || decide (c <= v.cnt)) = true then (10, s) else (0, { s with es := mput s.es n { v with cnt := c } }) := by
 unfold useN; rw [e]; rfl
theorem use_no {s : NS} {n : List UInt8} {c now E : Int} {v : V} (e : wE s n now = (E, v)) (hE : E ≠ 0) : useN s n c now = (E, s) := by
 unfold useN; rw [e, if_neg hE]
theorem Zh (n f d : Int) (hf : 0 <= f) (hn2 : n < 18446744073709551616) :
  Meets Tryz.prog 124 [.int .u64 n, .int .u64 f, .int .u64 d] [] fun v A => v = .bool (decide (f <= n /\ n - f <= d)) /\ A = [] := by
 refine eN Tryz.func124 Tryz.ntmps124 Tryz.results124 fun F => ?_
 refine gg ?_
 by_cases h : f <= n
 ·rw [decide_eq_true h]
  refine gg ?_
  refine zb [] ?_; exact ⟨by simp [h], rfl⟩
 ·rw [decide_eq_false h]
  refine gg ?_
  refine zb [] ?_; exact ⟨by simp [h], rfl⟩
theorem old_spec {q b : Nat} (s : NS) (v : V) (hv : 0 <= v.at_) (now : Int) (hn : now < 18446744073709551616) (k : List UInt8) :
  Meets Tryz.prog 199 [.pointer (some ⟨q, 0, none⟩), valV v, .int .u64 now] [nB q b s] fun r A => r = .bool (oldB s now (k, v)) /\ A = [nB q b s] := by
 have hB : oldB s now (k, v) = (decide (v.at_ < now) && decide (s.win < now - v.at_) || (s.mrk && decide (v.at_ <= s.mark))) := rfl
 rw [hB]
 refine eN Tryz.func199 Tryz.ntmps199 Tryz.results199 fun F => ?_
 refine gg ?_
 refine oB fun b4 => ?_
 simp only [encV]
 refine gg ?_
 refine zn [(0, false, []), (1, false, []), (2, false, []), (3, false, []), (4, false, []), (5, false, []), (6, false, []), (7, false, []), (8, false, []), (9, false, []), (10, false, []), (11, false, []), (12, false, []), (13, false, []), (14, false, []), (15, false, []), (16, false, []), (17, false, []), (18, false, []), (19, false, []), (20, false, []), (21, false, []), (22, false, []), (23, false, []), (24, false, []), (25, false, []), (26, false, []), (27, false, []), (28, false, []), (29, false, []), (30, false, []), (31, true, [])] ?_
 refine gg ?_
 by_cases h1 : v.at_ < now
 ·rw [decide_eq_true h1]
  refine gg ?_
  by_cases h2 : s.win < now - v.at_
  ·rw [decide_eq_true h2]
   refine gg ?_
   refine zb [nB q b s] ?_; exact ⟨rfl, rfl⟩
  ·rw [decide_eq_false h2]
   refine gg ?_
   cases hm : s.mrk with
   | true =>
    refine gg ?_
    refine zb [nB q b s] ?_; exact ⟨rfl, rfl⟩
   | false =>
    refine gg ?_
    refine zb [nB q b s] ?_; exact ⟨rfl, rfl⟩
 ·rw [decide_eq_false h1]
  refine gg ?_
  cases hm : s.mrk with
  | true =>
   refine gg ?_
   refine zb [nB q b s] ?_; exact ⟨rfl, rfl⟩
  | false =>
   refine gg ?_
   refine zb [nB q b s] ?_; exact ⟨rfl, rfl⟩
theorem YX {T : Chunk} {b q : Nat} {s : NS} (hs : NOk s) (hT : IsTab T b s.room s.es) (n : List UInt8) (now : Int) (hn : now < 18446744073709551616) :
  Meets Tryz.prog 62 [.pointer (some ⟨q, 0, none⟩), .string (str n), .int .u64 now] [nB q b s, T] fun v A => v = .tuple #[valV (wE s n now).2, .int .i64 (wE s n now).1] /\ A = [nB q b s, T] := by
 have htg := tget hT n
 refine eN Tryz.func62 Tryz.ntmps62 Tryz.results62 fun F => ?_
 refine gg ?_
 refine oA (encV v0).toArray fun b4 => ?_
 refine gg ?_
 rcases wD s n now with ⟨e, hm⟩ | ⟨v, hm, h⟩
 ·rw [hm] at htg
  rw [e]
  refine cA (htg) ?_; rintro v A ⟨rfl, rfl⟩; refine gA ?_
  refine oA (encV v0).toArray fun b6 => ?_
  refine oS (encV v0) rfl (jo _) ?_
  refine gg ?_
  refine oT [] (encV v0).toArray ?_
  refine oS (encV v0) rfl (jo _) ?_
  refine gg ?_
  exact zf (vs := [valV v0, .int .i64 6]) [nB q b s, T] ⟨rfl, rfl⟩ (hr := by (intro κ hκ; simp only [resW, withV, lookT_hit, lookT_miss, Nat.reduceBEq]; exact zm (vs := encV v0) lkA rfl hκ))
 ·have hv0 := (hs.en _ (kw hm)).at0
  rw [hm] at htg
  have key : XL s now v = (!decide (v.at_ <= now /\ now - v.at_ <= s.win) || (s.mrk && decide (v.at_ <= s.mark))) := rfl
  refine cA (htg) ?_; rintro v A ⟨rfl, rfl⟩; refine gA ?_
  refine oA (encV v0).toArray fun b6 => ?_
  refine oS (yL v) rfl (jo v) ?_
  refine gg ?_
  refine zn [(0, false, []), (1, false, []), (2, false, []), (3, false, []), (4, false, []), (5, false, []), (6, false, []), (7, false, []), (8, true, []), (9, false, []), (10, false, []), (11, false, []), (12, false, []), (13, false, []), (14, false, []), (15, false, []), (16, false, []), (17, false, []), (18, false, []), (19, false, []), (20, false, []), (21, false, []), (22, false, []), (23, false, []), (24, false, []), (25, true, [])] ?_
  refine gg ?_
  refine zh fun K hK => ?_; refine zq (Zh now v.at_ s.win hv0 hn) ?_; rintro v A ⟨rfl, rfl⟩; refine pA hK ?_; clear hK K
  refine gg ?_
  by_cases h1 : v.at_ <= now /\ now - v.at_ <= s.win
  ·rw [decide_eq_true h1] at key ⊢
   refine gg ?_
   cases hm2 : s.mrk with
   | true =>
    rw [hm2] at key
    refine gg ?_
    by_cases h3 : v.at_ <= s.mark
    ·rw [decide_eq_true h3] at key ⊢
     have hB : XL s now v = true := key
     refine gg ?_
     have e := h.elim (fun h => h.1) (fun h => by rw [hB] at h; cases h.2)
     refine oT [] (encV v0).toArray ?_
     refine oS (encV v0) rfl (jo _) ?_
     refine gg ?_
     exact zf (vs := [valV v0, .int .i64 9]) [nB q b s, T] ⟨by rw [e]; rfl, rfl⟩ (hr := by (intro κ hκ; simp only [resW, withV, lookT_hit, lookT_miss, Nat.reduceBEq]; exact zm (vs := encV v0) lkA rfl hκ))
    ·rw [decide_eq_false h3] at key ⊢
     have hB : XL s now v = false := key
     refine gg ?_
     have e := h.elim (fun h => by rw [hB] at h; cases h.2) (fun h => h.1)
     refine oL (yL v) rfl ?_
     refine oS (yL v) rfl (jo v) ?_
     refine gg ?_
     exact zf (vs := [valV v, .int .i64 0]) [nB q b s, T] ⟨by rw [e]; rfl, rfl⟩ (hr := by (intro κ hκ; simp only [resW, withV, lookT_hit, lookT_miss, Nat.reduceBEq]; exact zm (vs := yL v) lkA rfl hκ))
   | false =>
    rw [hm2] at key
    have hB : XL s now v = false := key
    refine gg ?_
    have e := h.elim (fun h => by rw [hB] at h; cases h.2) (fun h => h.1)
    refine oL (yL v) rfl ?_
    refine oS (yL v) rfl (jo v) ?_
    refine gg ?_
    exact zf (vs := [valV v, .int .i64 0]) [nB q b s, T] ⟨by rw [e]; rfl, rfl⟩ (hr := by (intro κ hκ; simp only [resW, withV, lookT_hit, lookT_miss, Nat.reduceBEq]; exact zm (vs := yL v) lkA rfl hκ))
  ·rw [decide_eq_false h1] at key ⊢
   have hB : XL s now v = true := key
   refine gg ?_
   have e := h.elim (fun h => h.1) (fun h => by rw [hB] at h; cases h.2)
   refine oT [] (encV v0).toArray ?_
   refine oS (encV v0) rfl (jo _) ?_
   refine gg ?_
   exact zf (vs := [valV v0, .int .i64 9]) [nB q b s, T] ⟨by rw [e]; rfl, rfl⟩ (hr := by (intro κ hκ; simp only [resW, withV, lookT_hit, lookT_miss, Nat.reduceBEq]; exact zm (vs := encV v0) lkA rfl hκ))
theorem OY {T : Chunk} {b q : Nat} {s : NS} (hs : NOk s) (hT : IsTab T b s.room s.es) (n : List UInt8) (c now : Int) (hc : 0 <= c) (hn : now < 18446744073709551616) :
  Meets Tryz.prog 44 [.pointer (some ⟨q, 0, none⟩), .string (str n), .int .u32 c, .int .u64 now] [nB q b s, T]
   fun v A => v = .int .i64 (useN s n c now).1 /\ ∃ T', IsTab T' b s.room (useN s n c now).2.es /\ A = [nB q b (useN s n c now).2, T'] := by
 have hf := YX (q := q) hs hT n now hn
 refine eN Tryz.func44 Tryz.ntmps44 Tryz.results44 fun F => ?_
 refine gg ?_
 rcases wD s n now with ⟨e, hm⟩ | ⟨v, hm, ⟨e, _⟩ | ⟨e, _⟩⟩
 ·rw [e] at hf
  rw [use_no e (by decide)]
  refine cA (hf) ?_; rintro v A ⟨rfl, rfl⟩; refine gA ?_
  refine oA (encV v0).toArray fun b7 => ?_
  refine oS (encV v0) rfl (jo _) ?_
  refine gg ?_
  refine zb [nB q b s, T] ⟨rfl, T, hT, rfl⟩
 ·rw [e] at hf
  rw [use_no e (by decide)]
  refine cA (hf) ?_; rintro v A ⟨rfl, rfl⟩; refine gA ?_
  refine oA (encV v0).toArray fun b7 => ?_
  refine oS (encV v0) rfl (jo _) ?_
  refine gg ?_
  refine zb [nB q b s, T] ⟨rfl, T, hT, rfl⟩
 ·have hc0 := (hs.en _ (kw hm)).c0
  simp only at hc0
  rw [e] at hf
  rw [use_of e]
  refine cA (hf) ?_; rintro v A ⟨rfl, rfl⟩; refine gA ?_
  refine oA (encV v0).toArray fun b7 => ?_
  refine oS (yL v) rfl (jo v) ?_
  refine gg ?_
  refine if_b (fun hc => ?_) (fun hc => ?_)
  ·subst hc
   rw [if_pos rfl]
   refine gg ?_
   refine zb [nB q b s, T] ⟨rfl, T, hT, rfl⟩
  ·rw [if_neg hc]
   refine gg ?_
   cases hsp : v.sp with
   | true =>
    refine gg ?_
    refine zb [nB q b s, T] ⟨rfl, T, hT, rfl⟩
   | false =>
    refine gg ?_
    by_cases h0 : c <= v.cnt
    ·rw [decide_eq_true h0]
     refine gg ?_
     refine zb [nB q b s, T] ⟨rfl, T, hT, rfl⟩
    ·rw [decide_eq_false h0, Bool.or_false, if_neg (by simp)]
     refine gg ?_
     refine zn [(0, false, []), (1, false, []), (2, false, []), (3, false, []), (4, false, []), (5, false, []), (6, true, []), (7, true, [])] ?_
     refine gg ?_
     refine qO fun K hK => ?_; refine zm (vs := [.string (str v.non), .int .u64 v.at_, .bool v.sp, .int .u32 c]) lkA rfl ?_; refine hK _ _ ?_; clear hK K
     have hts := tset hT n { v with cnt := c }
     rw [show setE s.es n { v with cnt := c } = (0, mput s.es n { v with cnt := c }) from by unfold setE; rw [hm]] at hts
     refine zh fun K hK => ?_; refine zq (hts) ?_; rintro v A ⟨rfl, T', hT', rfl⟩; refine pA hK ?_; clear hK K
     refine gg ?_
     refine zb [nB q b s, T'] ⟨rfl, T', by rw [hsp] at hT'; exact hT', rfl⟩
end Go.Proofs.YtebikhhoppiapaaGreatDoor
namespace Go.Proofs.YtebikhhoppiapaaGreatDoor
open Go Go.Ost Go.Tab
abbrev vB (b : Nat) (v : V) : Chunk := [(b, .cells (encV v).toArray 163 (0, 0))]
def oldE (es : List (List UInt8 × V)) : List Value := match es with | [] => [.string (str []), valV v0, .bool false] | x :: _ => [.string (str x.1), valV x.2, .bool true]
theorem VH {b room : Nat} {es : List (List UInt8 × V)} (T : Chunk) (h : IsTab T b room es) : Meets Tryz.prog 143 [.pointer (some ⟨b, 0, none⟩)] [T]
  fun v A => v = .tuple (oldE es).toArray /\ A = [T] := by
 refine eN Tryz.func143 Tryz.ntmps143 Tryz.results143 fun F => ?_
 refine gg ?_
 refine ze fun K hK => ?_; refine zv fun b2 => ?_; (try simp only [Value.cells]); refine hK _ _ ?_; clear hK K
 refine gg ?_
 refine oA (encV v0).toArray fun b3 => ?_
 refine gg ?_
 refine ze fun K hK => ?_; refine zv fun b4 => ?_; (try simp only [Value.cells]); refine hK _ _ ?_; clear hK K
 refine gg ?_
 refine cA (Ja _) ?_; rintro v A ⟨c, rfl, rfl⟩; refine gA ?_
 refine xH (by (try simp only [evT, lookT_hit, lookT_miss, Nat.reduceBEq]); (first | done | exact rfl)) (Jb c b room es) (by (repeat (first | exact Take.nil _ | with_reducible exact Pick.head _ _ | with_reducible apply Pick.tail | with_reducible apply Take.cons))) (fun pre C => pre = [] /\ C = [bx b4 (.bool false) 4, vB b3 v0, bx b2 (.string (str [])) 9, F, T])
  (fun c pre C => ∃ x suf, c = .ret /\ es = x :: suf /\ C = [bx b4 (.bool true) 4, vB b3 x.2, bx b2 (.string (str x.1)) 9, F, T]) (fun h => by cases h)
  (fun C hC => by obtain ⟨_, rfl⟩ := hC; exact KN h pkA) (fun _ => rfl) ⟨rfl, rfl⟩ ?_ ?_ ?_
 ·rintro l F1 C H r pre x ⟨suf, hx⟩ ⟨rfl, rfl⟩ rfl
  (try simp only [List.nil_append, List.cons_append, List.append_nil, encX])
  (try simp only [jm, putT, Nat.reduceLT, if_true, reduceIte, Array.toList, List.toList_toArray])
  refine gg ?_
  refine oA (encV v0).toArray fun b6 => ?_
  refine oS (encV x.2) rfl (jo _) ?_
  refine gg ?_
  refine ⟨_, .cons (.tail _ (.head _ _)) (Among.refl _), fun r' _ => ?_⟩
  refine gg ?_
  refine zn [(0, false, []), (1, false, []), (2, true, [1]), (3, true, []), (4, true, [])] ?_
  refine gg ?_
  refine qO fun K hK => ?_; refine zm (vs := encV x.2) lkA rfl ?_; refine hK _ _ ?_; clear hK K
  refine zh fun K hK => ?_; refine zG trivial upA (by simp) ?_; refine pend ?_ (zm (vs := encV x.2) lkA rfl rfl); refine hK _ _ ?_; clear hK K
  refine zh fun K hK => ?_; refine xz (vs := encV x.2) rfl (jo _) upA (by rfl) ?_; refine pBk hK ?_; clear hK K
  refine zh fun K hK => ?_; refine zG trivial upA (by simp) ?_; refine pBk hK ?_; clear hK K
  refine gg ?_
  exact ⟨[bx b4 (.bool true) 4, vB b3 x.2, bx b2 (.string (str x.1)) 9, F, T], ⟨_, [], rfl, ⟨x, suf, rfl, hx, rfl⟩, rfl⟩, amA⟩
 ·rintro d pre C A rfl ⟨rfl, rfl⟩ rfl
  (try simp only [List.nil_append, List.cons_append])
  refine gg ?_
  refine oA (encV v0).toArray fun b7 => ?_
  refine gg ?_
  refine zn [(0, false, []), (1, true, [0]), (2, true, []), (3, true, [])] ?_
  refine gg ?_
  refine qO fun K hK => ?_; refine zm (vs := encV v0) lkA rfl ?_; refine hK _ _ ?_; clear hK K
  refine zh fun K hK => ?_; refine zG trivial upA (by simp) ?_; refine pend ?_ (zm (vs := encV v0) lkA rfl rfl); refine hK _ _ ?_; clear hK K
  refine zh fun K hK => ?_; refine xz (vs := encV v0) rfl (jo _) upA (by rfl) ?_; refine pBk hK ?_; clear hK K
  refine zh fun K hK => ?_; refine zG trivial upA (by simp) ?_; refine pBk hK ?_; clear hK K
  refine gg ?_
  exact zf (vs := oldE []) [T] ⟨rfl, rfl⟩ (hr := by (intro κ hκ; simp only [resW, withV, lookT_hit, lookT_miss, Nat.reduceBEq]; refine zD lkA rfl ?_; refine zm (vs := encV v0) lkA rfl ?_; refine zD lkA rfl ?_; exact hκ))
 ·rintro d c pre x C A hx ⟨y, suf, rfl, rfl, rfl⟩ rfl
  (try simp only [List.nil_append, List.cons_append])
  refine gg ?_
  exact zf (vs := oldE (y :: suf)) [T] ⟨rfl, rfl⟩ (hr := by (intro κ hκ; simp only [resW, withV, lookT_hit, lookT_miss, Nat.reduceBEq]; refine zD lkA rfl ?_; refine zm (vs := encV y.2) lkA rfl ?_; refine zD lkA rfl ?_; exact hκ))
open Go.Sha
theorem Yr {q b p p2 : Nat} (s : NS) (now : Int) (hn : now < 18446744073709551616) (x : List UInt8 × V) (hx : 0 <= x.2.at_) :
  Meets Tryz.prog 198 [.string (str x.1), valV x.2, .pointer (some ⟨p, 0, none⟩), .pointer (some ⟨p2, 0, none⟩)] [bx p (.pointer (some ⟨q, 0, none⟩)) 25, bx p2 (.int .u64 now) 34, nB q b s]
   fun r A => r = .bool (oldB s now x) /\ A = [bx p (.pointer (some ⟨q, 0, none⟩)) 25, bx p2 (.int .u64 now) 34, nB q b s] := by
 refine eN Tryz.func198 Tryz.ntmps198 Tryz.results198 fun F => ?_
 refine gg ?_
 refine oB fun b5 => ?_
 refine gg ?_
 refine oL (encV x.2) rfl ?_
 refine gg ?_
 refine cA (old_spec s x.2 hx now hn x.1) ?_; rintro v A ⟨rfl, rfl⟩; refine gA ?_
 refine zb [bx p (.pointer (some ⟨q, 0, none⟩)) 25, bx p2 (.int .u64 now) 34, nB q b s] ?_; exact ⟨rfl, rfl⟩
theorem QU {q b p p2 : Nat} (s : NS) (now : Int) (hn : now < 18446744073709551616) (x : List UInt8 × V) (hx : 0 <= x.2.at_) :
  Meets Tryz.prog 198 [.string (str x.1), valV x.2, .pointer (some ⟨p, 0, none⟩), .pointer (some ⟨p2, 0, none⟩)] [bx p (.pointer (some ⟨q, 0, none⟩)) 25 ++ (bx p2 (.int .u64 now) 34 ++ nB q b s)]
   fun r A => r = .bool (oldB s now x) /\ A = [bx p (.pointer (some ⟨q, 0, none⟩)) 25 ++ (bx p2 (.int .u64 now) 34 ++ nB q b s)] := by
 refine Meets.conv [bx p (.pointer (some ⟨q, 0, none⟩)) 25, bx p2 (.int .u64 now) 34, nB q b s] (Yr s now hn x hx) flA tkA ?_; rintro v A ⟨rfl, rfl⟩
 exact ⟨[bx p (.pointer (some ⟨q, 0, none⟩)) 25 ++ (bx p2 (.int .u64 now) 34 ++ nB q b s)], [bx p (.pointer (some ⟨q, 0, none⟩)) 25, bx p2 (.int .u64 now) 34, nB q b s], flA, amA, rfl, rfl⟩
theorem VJ {T : Chunk} {b q : Nat} {s : NS} (hs : NOk s) (hT : IsTab T b s.room s.es) (now : Int) (hn : now < 18446744073709551616) :
  Meets Tryz.prog 142 [.pointer (some ⟨q, 0, none⟩), .int .u64 now] [nB q b s, T]
   fun v A => v = .int .i64 (vv s now).1 /\ ∃ T', IsTab T' b s.room (vv s now).2.es /\ A = [nB q b s, T'] := by
 refine eN Tryz.func142 Tryz.ntmps142 Tryz.results142 fun F => ?_
 refine gg ?_
 refine oB fun b2 => ?_
 refine gg ?_
 refine oB fun b3 => ?_
 refine gg ?_
 refine ze fun K hK => ?_
 refine zq (?_ : Meets Tryz.prog 197 _ [T, bx b2 (.pointer (some ⟨q, 0, none⟩)) 25, bx b3 (.int .u64 now) 34, nB q b s] fun v A => v = .int .i64 (vv s now).1 /\ ∃ T', IsTab T' b s.room (vv s now).2.es /\ A = [T', bx b2 (.pointer (some ⟨q, 0, none⟩)) 25, bx b3 (.int .u64 now) 34, nB q b s]) ?_
 ·refine Meets.conv [T, bx b2 (.pointer (some ⟨q, 0, none⟩)) 25 ++ (bx b3 (.int .u64 now) 34 ++ nB q b s)] (YN hT (captured := #[.pointer (some ⟨b2, 0, none⟩), .pointer (some ⟨b3, 0, none⟩)]) (oldB s now) (fun x hx => QU s now hn x (hs.en x hx).at0)) flA tkA ?_; rintro v A ⟨rfl, T', hT', rfl⟩
  exact ⟨[T', bx b2 (.pointer (some ⟨q, 0, none⟩)) 25, bx b3 (.int .u64 now) 34, nB q b s], [T', bx b2 (.pointer (some ⟨q, 0, none⟩)) 25 ++ (bx b3 (.int .u64 now) 34 ++ nB q b s)], flA, amA, rfl, T', hT', rfl⟩
 rintro v A ⟨rfl, T', hT', rfl⟩
 (try simp only [List.nil_append, List.cons_append])
 refine hK _ _ ?_; clear hK K
 refine gg ?_
 refine zb [nB q b s, T'] ⟨rfl, T', hT', rfl⟩
theorem YW {T : Chunk} {b q : Nat} {s : NS} (hs : NOk s) (hT : IsTab T b s.room s.es) (now : Int) (hn : now < 18446744073709551616) :
  Meets Tryz.prog 96 [.pointer (some ⟨q, 0, none⟩), .int .u64 now] [nB q b s, T]
   fun v A => v = .tuple #[] /\ ∃ T', IsTab T' b s.room (wv s now).es /\ A = [nB q b (wv s now), T'] := by
 have htf := tfull hT
 have hr := hs.r1
 unfold wv
 refine eN Tryz.func96 Tryz.ntmps96 Tryz.results96 fun F => ?_
 refine gg ?_
 by_cases hl : s.es.length = s.room
 ·rw [decide_eq_true hl] at htf
  rw [if_pos hl]
  refine cA (htf) ?_; rintro v A ⟨rfl, rfl⟩; refine gA ?_
  have hsw := VJ (q := q) hs hT now hn
  by_cases h0 : 0 < (vv s now).1
  ·rw [if_pos h0]
   refine cA (hsw) ?_; rintro v A ⟨rfl, T1, hT1, rfl⟩; refine gA ?_
   rw [decide_eq_true h0]
   refine gg ?_
   refine xE [nB q b (vv s now).2, T1] ⟨rfl, T1, hT1, rfl⟩
  ·rw [if_neg h0]
   have he : (vv s now).2 = s := by
    obtain ⟨room, win, es, ser, last, mark, mk⟩ := s
    show (NS.mk room win _ ser last mark mk) = _
    rw [Ys h0]
   rw [he] at hsw
   refine cA (hsw) ?_; rintro v A ⟨rfl, T1, hT1, rfl⟩; refine gA ?_
   rw [decide_eq_false h0]
   refine gg ?_
   obtain ⟨room, win, es, ser, last, mark, mk⟩ := s
   cases es with
   | nil => simp only [List.length_nil] at hl hr; omega
   | cons x es =>
    have hdr := tdrop hT1 x.1
    rw [show Zl (x :: es) x.1 = (0, es) from by obtain ⟨k, v⟩ := x; simp [Zl, mget, mdel]] at hdr
    simp only at hdr
    have hold := VH T1 hT1
    simp only [oldE] at hold
    refine cA (hold) ?_; rintro v A ⟨rfl, rfl⟩; refine gA ?_
    refine oA (encV v0).toArray fun b5 => ?_
    refine gg ?_
    refine oS (yL x.2) rfl (jo x.2) ?_
    refine gg ?_
    refine cA (hdr) ?_; rintro v A ⟨rfl, T2, hT2, rfl⟩; refine gA ?_
    refine zn [(0, false, []), (1, false, []), (2, false, []), (3, false, []), (4, false, []), (5, false, []), (6, false, []), (7, false, []), (8, false, []), (9, false, []), (10, false, []), (11, true, []), (12, false, []), (13, false, []), (14, true, [])] ?_
    refine gg ?_
    refine zJ [nB q b (Ul ⟨room, win, x :: es, ser, last, mark, mk⟩), T2] ⟨rfl, T2, hT2, rfl⟩
 ·rw [decide_eq_false hl] at htf
  rw [if_neg hl]
  refine cA (htf) ?_; rintro v A ⟨rfl, rfl⟩; refine gA ?_
  refine xE [nB q b s, T] ⟨rfl, T, hT, rfl⟩
def ns0 (room : Nat) (win : Int) : NS := ⟨room, win, [], 0, 0, 0, false⟩
theorem ok_new {room : Nat} {win : Int} (r1 : 1 <= room) (r2 : room <= 64) (w1 : 1 <= win) (w2 : win <= 1099511627776) : NOk (ns0 room win) :=
 ⟨r1, r2, w1, w2, Nat.zero_le _, Nat.zero_le _, fun _ => rfl, Int.le_refl _, Int.le_refl _, fun x hx => by cases hx⟩
theorem nnew_yes (room : Nat) (win : Int) (r1 : 1 <= room) (r2 : room <= 64) (w1 : 1 <= win) (w2 : win <= 1099511627776) : Meets Tryz.prog 25 [.agg #[.int .i64 room, .int .u64 win]] [] fun v A => ∃ q b T, v = .tuple #[.pointer (some ⟨q, 0, none⟩), .int .i64 0] /\ IsTab T b room [] /\ A = [nB q b (ns0 room win), T] := by
 refine eN Tryz.func25 Tryz.ntmps25 Tryz.results25 fun F => ?_
 refine gg ?_
 refine ze fun K hK => ?_; refine wH fun b1' => ?_; (try simp only [Value.cells]); refine hK _ _ ?_; clear hK K
 refine gg ?_
 rw [decide_eq_false (show ¬ (room : Int) < 1 by omega)]
 refine gg ?_
 rw [decide_eq_false (show ¬ 64 < (room : Int) by omega)]
 refine gg ?_
 rw [decide_eq_false (show ¬ win < 1 by omega)]
 refine gg ?_
 rw [decide_eq_false (show ¬ 1099511627776 < win by omega)]
 refine gg ?_
 refine cA (new_yes room r1 (by omega)) ?_; rintro v A ⟨b, T, rfl, hT, rfl⟩; refine gA ?_
 refine oL [.int .i64 room, .int .u64 win] rfl ?_
 refine gg ?_
 refine oT [(0, .agg #[.int .i64 room, .int .u64 win]), (1, .pointer (some ⟨b, 0, none⟩))] #[.int .i64 room, .int .u64 win, .pointer (some ⟨b, 0, none⟩), .int .u64 0, .int .u64 0, .int .u64 0, .bool false] ?_
 refine gg ?_
 refine oB fun q => ?_
 refine gg ?_
 refine zf [nB q b (ns0 room win), T] ⟨q, b, T, rfl, hT, rfl⟩
theorem XE (p : Option Addr) : Meets Tryz.prog 94 [.pointer p] []
  fun u A => ∃ c, u = .func (.func 138) #[] #[.pointer (some ⟨c, 0, none⟩)] /\ A = [bx c (.pointer p) 25] := by
 refine eN Tryz.func94 Tryz.ntmps94 Tryz.results94 fun F => ?_
 refine gg ?_
 refine oB fun p1 => ?_
 refine gg ?_
 refine zb [bx p1 (.pointer p) 25] ⟨p1, rfl, rfl⟩
def IQ (x : List UInt8 × V) : List Value := [valV x.2]
theorem Qi (c1 q b : Nat) (s : NS) :
  IMeetsG Tryz.prog 138 [] [.pointer (some ⟨c1, 0, none⟩)] IQ [bx c1 (.pointer (some ⟨q, 0, none⟩)) 25]
   (fun T => ∃ T1, IsTab T1 b s.room s.es /\ T = nB q b s ++ T1) noH noH noH (NextX s.es) (fun pre => pre = s.es)
   (fun _ A => A = [bx c1 (.pointer (some ⟨q, 0, none⟩)) 25]) (fun _ A => A = [bx c1 (.pointer (some ⟨q, 0, none⟩)) 25]) false := by
 refine jB (by kernel_rfl) fun l0 J Jx hN hT hY C hC => ?_
 obtain ⟨_, R, ⟨T1, hT1, rfl⟩, hperm⟩ := hT C hC
 refine eN Tryz.func138 Tryz.ntmps138 Tryz.results138 fun F => ?_
 refine jP (S' := [F, nB q b s, T1, R, bx c1 (.pointer (some ⟨q, 0, none⟩)) 25]) ?_ ?_
 ·simp only [List.flatten_cons, List.flatten_nil, List.append_nil]
  refine List.Perm.append_left F ?_
  have := hperm.append_right (bx c1 (.pointer (some ⟨q, 0, none⟩)) 25)
  simpa only [List.append_assoc] using this
 refine gg ?_
 refine oB fun b2 => ?_
 refine gg ?_
 refine cA (Ja _) ?_; rintro v A ⟨cc, rfl, rfl⟩; refine gA ?_
 refine jP (S' := [bx cc (.pointer (some ⟨b, 0, none⟩)) 166, bx b2 (.func (.yield l0) #[] #[]) 261, C, F, bx c1 (.pointer (some ⟨q, 0, none⟩)) 25]) ?_ ?_
 ·simp only [List.flatten_cons, List.flatten_nil, List.append_nil]
  refine List.Perm.append_left _ (List.Perm.append_left _ ?_)
  have h1 : (F ++ (nB q b s ++ (T1 ++ (R ++ bx c1 (.pointer (some ⟨q, 0, none⟩)) 25)))).Perm (F ++ (C ++ bx c1 (.pointer (some ⟨q, 0, none⟩)) 25)) := by
   refine List.Perm.append_left F ?_
   have := hperm.symm.append_right (bx c1 (.pointer (some ⟨q, 0, none⟩)) 25)
   simpa only [List.append_assoc] using this
  refine h1.trans ?_
  rw [<- List.append_assoc, <- List.append_assoc]
  exact List.Perm.append_right _ List.perm_append_comm
 refine xH (by (try simp only [evT, lookT_hit, lookT_miss, Nat.reduceBEq]); (first | done | exact rfl)) (Jb cc b s.room s.es) (by (repeat (first | exact Take.nil _ | with_reducible exact Pick.head _ _ | with_reducible apply Pick.tail | with_reducible apply Take.cons))) (fun pre S => ∃ Cj, J pre Cj /\ S = [bx b2 (.func (.yield l0) #[] #[]) 261, Cj, F, bx c1 (.pointer (some ⟨q, 0, none⟩)) 25])
  (fun k pre S => k = .ret /\ ∃ Cj, Jx pre Cj /\ S = [bx b2 (.func (.yield l0) #[] #[]) 261, Cj, F, bx c1 (.pointer (some ⟨q, 0, none⟩)) 25]) (fun h => by cases h) (fun S hS => ?_) (fun _ => rfl) ⟨C, hC, rfl⟩ ?_ ?_ ?_
 ·obtain ⟨Cj, hJ, rfl⟩ := hS
  obtain ⟨_, R', ⟨T2, hT2, rfl⟩, hp⟩ := hT Cj hJ
  refine T0_in (R := nB q b s ++ R') hT2 pkA (hp.trans ?_)
  rw [<- List.append_assoc]
  exact List.Perm.append_right _ List.perm_append_comm
 ·rintro l F1 S H r pre x hx ⟨Cj, hJ, rfl⟩ rfl
  obtain ⟨k, v⟩ := x
  (try simp only [List.nil_append, List.cons_append, List.append_nil, encX])
  (try simp only [jm, putT, Nat.reduceLT, if_true, reduceIte, Array.toList, List.toList_toArray])
  refine gg ?_
  refine oA (encV v0).toArray fun b4 => ?_
  refine oS (encV v) rfl (jo v) ?_
  refine gg ?_
  refine ⟨_, .cons (.tail _ (.head _ _)) (Among.refl _), fun r' _ => ?_⟩
  refine gg ?_
  refine oL (encV v) rfl ?_
  refine ze fun K hK => ?_
  refine xy (hY pre (k, v) hx) hJ rfl tkA (fun C4 H4 hJ4 hH4 => ?_) (fun C4 H4 hJ4 hH4 => ?_)
  ·subst hH4
   (try simp only [List.nil_append])
   refine hK _ _ ?_; clear hK K
   refine gg ?_
   exact ⟨_, ⟨_, [], rfl, ⟨C4, hJ4, rfl⟩, rfl⟩, by (try simp only [List.append_nil]); first | ((repeat (first | with_reducible exact Among.nil _ | with_reducible exact Pick.head _ _ | with_reducible apply Pick.tail | with_reducible apply Among.cons)); done) | ((repeat (first | exact Among.nil _ | exact Pick.head _ _ | apply Pick.tail | apply Among.cons)); done)⟩
  ·subst hH4
   (try simp only [List.nil_append])
   refine hK _ _ ?_; clear hK K
   refine gg ?_
   exact ⟨_, ⟨_, [], rfl, ⟨rfl, C4, hJ4, rfl⟩, rfl⟩, by (try simp only [List.append_nil]); first | ((repeat (first | with_reducible exact Among.nil _ | with_reducible exact Pick.head _ _ | with_reducible apply Pick.tail | with_reducible apply Among.cons)); done) | ((repeat (first | exact Among.nil _ | exact Pick.head _ _ | apply Pick.tail | apply Among.cons)); done)⟩
 ·rintro d pre S A rfl ⟨Cj, hJ, rfl⟩ rfl
  (try simp only [List.nil_append, List.cons_append])
  refine gg ?_
  refine wR (vs := []) [Cj, bx c1 (.pointer (some ⟨q, 0, none⟩)) 25] ⟨Cj, _, rfl, .inl ⟨_, rfl, hJ, rfl⟩⟩
 ·rintro d k pre x S A hx ⟨rfl, Cj, hJ, rfl⟩ rfl
  (try simp only [List.nil_append, List.cons_append])
  refine gg ?_
  refine zf (vs := []) [Cj, bx c1 (.pointer (some ⟨q, 0, none⟩)) 25] ⟨Cj, _, rfl, .inr ⟨pre, x, hx, hJ, rfl⟩⟩
theorem hasD_app (d : List UInt8) (a : Es) (x : List UInt8 × V) : hasD d (a ++ [x]) = (hasD d a || decide (x.2.draw = d)) := by
 simp [hasD]
theorem hasD_mem {d : List UInt8} {es : Es} {x : List UInt8 × V} (hx : x ∈ es) (hd : x.2.draw = d) : hasD d es = true := by
 unfold hasD; rw [List.any_eq_true]; exact ⟨x, hx, by simp [hd]⟩
theorem put_new {s : NS} (h : NOk s) (hf : s.es.length < s.room) (d : List UInt8) (v : V) : putE s.room s.es (nonN d (s.ser + 1)) v = (0, s.es ++ [(nonN d (s.ser + 1), v)]) := by
 unfold putE
 rw [h.fresh d, if_neg (by simp), if_neg (by omega)]
theorem dot_str : Value.string ⟨#[46]⟩ = .string (str [46]) := rfl
theorem VK {T : Chunk} {b q : Nat} {s : NS} (hs : NOk s) (hser : s.ser < 1000) (hT : IsTab T b s.room s.es) (d : List UInt8) (hd : d.length <= 1000) (now : Int) (hn : now < 18446744073709551616) :
  Meets Tryz.prog 34 [.pointer (some ⟨q, 0, none⟩), .string (str d), .int .u64 now] [nB q b s, T]
   fun v A => v = .tuple #[.string (str (xg s d now).1.1), .int .i64 (xg s d now).1.2] /\ ∃ T', IsTab T' b s.room (xg s d now).2.es /\ A = [nB q b (xg s d now).2, T'] := by
 have hdr := Un d (by omega)
 have hrs := Wt s now
 have hrr := yz s now
 have hrf := Wu hs now
 have hro := OW hs now
 unfold xg
 refine eN Tryz.func34 Tryz.ntmps34 Tryz.results34 fun F => ?_
 refine gg ?_
 refine oB fun b4 => ?_
 refine gg ?_
 refine ze fun K hK => ?_; refine zv fun b6 => ?_; (try simp only [Value.cells]); refine hK _ _ ?_; clear hK K
 refine ze fun K hK => ?_; refine zv fun b7 => ?_; (try simp only [Value.cells]); refine hK _ _ ?_; clear hK K
 refine gg ?_
 refine cA (hdr) ?_; rintro v A ⟨rfl, rfl⟩; refine gA ?_
 cases hB : XV d with
 | false =>
  rw [if_pos rfl]
  refine gg ?_
  exact zf (vs := [.string (str []), .int .i64 4]) [nB q b s, T] ⟨rfl, T, hT, rfl⟩ (hr := by (intro κ hκ; simp only [resW, withV, lookT_hit, lookT_miss, Nat.reduceBEq]; refine zD lkA rfl ?_; refine zD lkA rfl ?_; exact hκ))
 | true =>
  rw [if_neg (by simp)]
  have hdl : d.length <= 40 := Yb (by rw [hB]; simp)
  refine gg ?_
  by_cases hl : now < s.last
  ·rw [decide_eq_true hl, if_pos hl]
   refine gg ?_
   exact zf (vs := [.string (str []), .int .i64 9]) [nB q b s, T] ⟨rfl, T, hT, rfl⟩ (hr := by (intro κ hκ; simp only [resW, withV, lookT_hit, lookT_miss, Nat.reduceBEq]; refine zD lkA rfl ?_; refine zD lkA rfl ?_; exact hκ))
  ·rw [decide_eq_false hl, if_neg hl]
   refine gg ?_
   refine cA (XE _) ?_; rintro v A ⟨cc, rfl, rfl⟩; refine gA ?_
   refine jP (S' := [bx cc (.pointer (some ⟨q, 0, none⟩)) 25, bx b7 (.int .i64 0) 35, bx b6 (.string ⟨#[]⟩) 9, bx b4 (.string (str d)) 9, F, nB q b s ++ T]) (by
    classical
    refine List.perm_iff_count.2 fun z => ?_
    simp only [List.flatten_cons, List.flatten_nil, List.count_append, List.count_nil, Ost.bx]
    omega) ?_
   refine xH (by (try simp only [evT, lookT_hit, lookT_miss, Nat.reduceBEq]); (first | done | exact rfl)) (Qi cc q b s) (by (repeat (first | exact Take.nil _ | with_reducible exact Pick.head _ _ | with_reducible apply Pick.tail | with_reducible apply Take.cons))) (fun pre C => hasD d pre = false /\ C = [bx b7 (.int .i64 0) 35, bx b6 (.string ⟨#[]⟩) 9, bx b4 (.string (str d)) 9, F, nB q b s ++ T])
    (fun k pre C => k = .ret /\ hasD d s.es = true /\ C = [bx b7 (.int .i64 7) 35, bx b6 (.string ⟨#[]⟩) 9, bx b4 (.string (str d)) 9, F, nB q b s ++ T]) (fun h => by cases h) (fun C hC => ?_) (fun _ => rfl) ⟨rfl, rfl⟩ ?_ ?_ ?_
   ·obtain ⟨_, rfl⟩ := hC
    exact KN ⟨T, hT, rfl⟩ pkA
   ·rintro l F1 C H r pre x ⟨suf1, hxs⟩ ⟨hno, rfl⟩ rfl
    have hxm : x ∈ s.es := by rw [hxs]; simp
    obtain ⟨_, hxd, ⟨m, _, hxn⟩, _, _⟩ := hs.en x hxm
    have hap := hasD_app d pre x
    rw [hno, Bool.false_or] at hap
    obtain ⟨k, v⟩ := x
    simp only at hxd hxn hap
    have hdw := Uo v.draw (hx m) (by omega) (by rw [Iy]; omega) (hx_dot m)
    rw [show v.draw ++ 46 :: hx m = v.non from hxn.symm] at hdw
    (try simp only [List.nil_append, List.cons_append, List.append_nil, IQ])
    (try simp only [jm, putT, Nat.reduceLT, if_true, reduceIte, Array.toList, List.toList_toArray])
    refine gg ?_
    refine oA (encV v0).toArray fun b8 => ?_
    refine oS (yL v) rfl (jo v) ?_
    refine gg ?_
    refine ⟨_, .cons (.tail _ (.head _ _)) (Among.refl _), fun r' _ => ?_⟩
    refine gg ?_
    refine zn [(0, false, []), (1, false, []), (3, false, []), (2, true, [3]), (4, false, [])] ?_
    refine gg ?_
    refine zh fun K hK => ?_; refine zq (hdw) ?_; rintro v A ⟨rfl, rfl⟩; refine pA hK ?_; clear hK K
    refine gg ?_
    refine if_b (fun hc => ?_) (fun hc => ?_)
    ·refine gg ?_
     exact ⟨_, ⟨_, [], rfl, ⟨rfl, hasD_mem hxm hc, rfl⟩, rfl⟩, by (try simp only [List.append_nil]); first | ((repeat (first | with_reducible exact Among.nil _ | with_reducible exact Pick.head _ _ | with_reducible apply Pick.tail | with_reducible apply Among.cons)); done) | ((repeat (first | exact Among.nil _ | exact Pick.head _ _ | apply Pick.tail | apply Among.cons)); done)⟩
    ·refine gg ?_
     exact ⟨_, ⟨_, [], rfl, ⟨by rw [hap]; exact decide_eq_false hc, rfl⟩, rfl⟩, by (try simp only [List.append_nil]); first | ((repeat (first | with_reducible exact Among.nil _ | with_reducible exact Pick.head _ _ | with_reducible apply Pick.tail | with_reducible apply Among.cons)); done) | ((repeat (first | exact Among.nil _ | exact Pick.head _ _ | apply Pick.tail | apply Among.cons)); done)⟩
   ·rintro l pre C A rfl ⟨hno, rfl⟩ rfl
    rw [hno, if_neg (by simp)]
    refine jP (S' := [bx b7 (.int .i64 0) 35, bx b6 (.string ⟨#[]⟩) 9, bx b4 (.string (str d)) 9, F, nB q b s, T, bx cc (.pointer (some ⟨q, 0, none⟩)) 25, [(l, .deferred (some []))]]) (by
     classical
     refine List.perm_iff_count.2 fun z => ?_
     simp only [List.flatten_append, List.flatten_cons, List.flatten_nil, List.count_append, List.count_nil, Ost.bx]
     omega) ?_
    have hroom := YW (q := q) hs hT now hn
    generalize wv s now = s1 at *
    refine gg ?_
    refine cA (hroom) ?_; rintro v A ⟨rfl, T1, hT1, rfl⟩; refine gA ?_
    rw [<- hrr] at hT1 hrf ⊢
    rw [<- hrs]
    refine zn [(0, false, []), (1, false, []), (2, false, []), (3, false, []), (4, false, []), (5, false, []), (6, true, [0]), (7, false, []), (8, true, [])] ?_
    refine gg ?_
    refine qO fun K hK => ?_; rw [dot_str, zF (by simp; omega)]; refine hK _ _ ?_; clear hK K
    rw [show ((s1.ser : Int) + 1) = ((s1.ser + 1 : Nat) : Int) from by omega]
    refine gg ?_
    refine zh fun K hK => ?_; refine zq (Vh (s1.ser + 1) (by omega)) ?_; rintro v A ⟨rfl, rfl⟩; refine pA hK ?_; clear hK K
    refine gg ?_
    refine qO fun K hK => ?_; rw [zF (by simp [Iy]; omega)]; refine hK _ _ ?_; clear hK K
    rw [show d ++ [46] ++ hx (s1.ser + 1) = nonN d (s1.ser + 1) from by simp [nonN]]
    refine gg ?_
    refine oT [(0, .string (str (nonN d (s1.ser + 1)))), (1, .int .u64 now)] (yL ⟨nonN d (s1.ser + 1), d, now, false, 0⟩).toArray ?_
    refine gg ?_
    have htp := tput hT1 (nonN d (s1.ser + 1)) ⟨nonN d (s1.ser + 1), d, now, false, 0⟩
    rw [put_new hro hrf] at htp
    refine cA (htp) ?_; rintro v A ⟨rfl, T2, hT2, rfl⟩; refine gA ?_
    exact zf (vs := [.string (str (nonN d (s1.ser + 1))), .int .i64 0]) [nB q b (addN s1 d now), T2] ⟨rfl, T2, hT2, rfl⟩ (hr := by (intro κ hκ; simp only [resW, withV, lookT_hit, lookT_miss, Nat.reduceBEq]; refine zD lkA rfl ?_; refine zD lkA rfl ?_; exact hκ))
   ·rintro l k pre x C A hxs ⟨rfl, hyes, rfl⟩ rfl
    rw [hyes, if_pos rfl]
    refine jP (S' := [bx b7 (.int .i64 7) 35, bx b6 (.string ⟨#[]⟩) 9, bx b4 (.string (str d)) 9, F, nB q b s, T, bx cc (.pointer (some ⟨q, 0, none⟩)) 25, [(l, .deferred (some []))]]) (by
     classical
     refine List.perm_iff_count.2 fun z => ?_
     simp only [List.flatten_append, List.flatten_cons, List.flatten_nil, List.count_append, List.count_nil, Ost.bx]
     omega) ?_
    refine gg ?_
    exact zf (vs := [.string (str []), .int .i64 7]) [nB q b s, T] ⟨rfl, T, hT, rfl⟩ (hr := by (intro κ hκ; simp only [resW, withV, lookT_hit, lookT_miss, Nat.reduceBEq]; refine zD lkA rfl ?_; refine zD lkA rfl ?_; exact hκ))
open Go.Nam
abbrev offV (b s q : Nat) (iter : Int) : List Value := [.pointer (some ⟨b, 0, none⟩), .pointer (some ⟨s, 0, none⟩), .pointer (some ⟨q, 0, none⟩), .int .i64 iter]
abbrev quB (k b s q : Nat) (iter : Int) (t : List UInt8) (ch : Int) : Chunk := [(k, .cells #[.pointer (some ⟨b, 0, none⟩), .pointer (some ⟨s, 0, none⟩), .pointer (some ⟨q, 0, none⟩), .int .i64 iter, .string (str t), .int .u64 ch] 117 (0, 0))]
instance tpOff : TPlaces Tryz.prog 27 [(0, 1), (1, 1), (2, 1), (3, 1)] := ⟨by kernel_rfl⟩
instance tpQu : TPlaces Tryz.prog 117 [(0, 4), (4, 1), (5, 1)] := ⟨by kernel_rfl⟩
instance tpTalk : TPlaces Tryz.prog 238 [(0, 4), (4, 1), (5, 1), (6, 5), (11, 1), (12, 1), (13, 1), (14, 1), (15, 10), (25, 1), (26, 1)] := ⟨by kernel_rfl⟩
abbrev talkV (b s q : Nat) (iter : Int) (t : List UInt8) : List Value := offV b s q iter ++ [.string (str t), .int .i64 0, .string ⟨#[]⟩, .string ⟨#[]⟩, .string ⟨#[]⟩, .string ⟨#[]⟩, .slice none 0 0, .string ⟨#[]⟩, .string ⟨#[]⟩, .string ⟨#[]⟩, .string ⟨#[]⟩, .string ⟨#[]⟩, .string ⟨#[]⟩, .slice none 0 0, .int .i64 0, .slice none 0 0, .slice none 0 0, .slice none 0 0, .int .u64 0, .slice none 0 0, .bool false, .bool false, .bool false]
theorem UT (b s q : Nat) (iter : Int) (hi : 1 <= iter /\ iter <= 64) (t : List UInt8) : Meets Tryz.prog 55 [.agg (offV b s q iter).toArray, .string (str t)] [] fun v A => ∃ p, v = .tuple #[.pointer (some p), .int .i64 0] /\ A = [] := by
 refine eN Tryz.func55 Tryz.ntmps55 Tryz.results55 fun F => ?_
 refine gg ?_
 refine oB fun b2 => ?_
 refine gg ?_
 rw [decide_eq_false (show ¬ iter < 1 by omega)]
 refine gg ?_
 rw [decide_eq_false (show ¬ (64 : Int) < iter by omega)]
 refine gg ?_
 refine oL (offV b s q iter) rfl ?_
 refine gg ?_
 refine oT [(0, .agg (offV b s q iter).toArray), (1, .string (str t))] (talkV b s q iter t).toArray ?_
 refine gg ?_
 refine oB fun p => ?_
 refine gg ?_
 refine zf (vs := [.pointer (some ⟨p, 0, none⟩), .int .i64 0]) [] ?_
 exact ⟨_, rfl, rfl⟩
theorem tnew_arg (b s q : Nat) (iter : Int) (hi : ¬ (1 <= iter /\ iter <= 64)) (t : List UInt8) : Meets Tryz.prog 55 [.agg (offV b s q iter).toArray, .string (str t)] [] fun v A => v = .tuple #[.pointer none, .int .i64 1] /\ A = [] := by
 refine eN Tryz.func55 Tryz.ntmps55 Tryz.results55 fun F => ?_
 refine gg ?_
 refine oB fun b2 => ?_
 refine gg ?_
 by_cases h1 : iter < 1
 ·rw [decide_eq_true h1]
  refine gg ?_
  refine zf (vs := [.pointer none, .int .i64 1]) [] ?_
  exact ⟨rfl, rfl⟩
 ·rw [decide_eq_false h1]
  refine gg ?_
  rw [decide_eq_true (show (64 : Int) < iter by omega)]
  refine gg ?_
  refine zf (vs := [.pointer none, .int .i64 1]) [] ?_
  exact ⟨rfl, rfl⟩
theorem UU (b q : Nat) (iter : Int) (t : List UInt8) : Meets Tryz.prog 55 [.agg #[.pointer (some ⟨b, 0, none⟩), .pointer none, .pointer (some ⟨q, 0, none⟩), .int .i64 iter], .string (str t)] [] fun v A => v = .tuple #[.pointer none, .int .i64 6] /\ A = [] := by
 refine eN Tryz.func55 Tryz.ntmps55 Tryz.results55 fun F => ?_
 refine gg ?_
 refine oB fun b2 => ?_
 refine gg ?_
 refine zf (vs := [.pointer none, .int .i64 6]) [] ?_
 exact ⟨rfl, rfl⟩
theorem OH (b s q : Nat) (iter : Int) (hi : 1 <= iter /\ iter <= 64) (t : List UInt8) (hl : t.length <= 1000) (ht : qK t = true) : Meets Tryz.prog 15 [.agg (offV b s q iter).toArray, .string (str t)] [] fun v A => ∃ k, v = .tuple #[.pointer (some ⟨k, 0, none⟩), .int .i64 0] /\ A = [quB k b s q iter t 0] := by
 refine eN Tryz.func15 Tryz.ntmps15 Tryz.results15 fun F => ?_
 refine gg ?_
 refine oB fun b2 => ?_
 refine gg ?_
 refine oL (offV b s q iter) rfl ?_
 refine gg ?_
 refine cA (UT b s q iter hi t) ?_; rintro v A ⟨p, rfl, rfl⟩; refine gA ?_
 refine cA (vQ t (by omega)) ?_; rintro v A ⟨rfl, rfl⟩; refine gA ?_
 rw [ht]
 refine gg ?_
 refine oL (offV b s q iter) rfl ?_
 refine gg ?_
 refine oT [(0, .agg (offV b s q iter).toArray), (1, .string (str t))] ([.pointer (some ⟨b, 0, none⟩), .pointer (some ⟨s, 0, none⟩), .pointer (some ⟨q, 0, none⟩), .int .i64 iter, .string (str t), .int .u64 0] : List Value).toArray ?_
 refine gg ?_
 refine oB fun k => ?_
 refine gg ?_
 refine zf (vs := [.pointer (some ⟨k, 0, none⟩), .int .i64 0]) [quB k b s q iter t 0] ?_
 exact ⟨k, rfl, rfl⟩
theorem OG (b s q : Nat) (iter : Int) (hi : 1 <= iter /\ iter <= 64) (t : List UInt8) (hl : t.length <= 1000) (ht : qK t = false) : Meets Tryz.prog 15 [.agg (offV b s q iter).toArray, .string (str t)] [] fun v A => v = .tuple #[.pointer none, .int .i64 5] /\ A = [] := by
 refine eN Tryz.func15 Tryz.ntmps15 Tryz.results15 fun F => ?_
 refine gg ?_
 refine oB fun b2 => ?_
 refine gg ?_
 refine oL (offV b s q iter) rfl ?_
 refine gg ?_
 refine cA (UT b s q iter hi t) ?_; rintro v A ⟨p, rfl, rfl⟩; refine gA ?_
 refine cA (vQ t (by omega)) ?_; rintro v A ⟨rfl, rfl⟩; refine gA ?_
 rw [ht]
 refine gg ?_
 refine zf (vs := [.pointer none, .int .i64 5]) [] ?_
 exact ⟨rfl, rfl⟩
theorem qnew_arg (b s q : Nat) (iter : Int) (hi : ¬ (1 <= iter /\ iter <= 64)) (t : List UInt8) : Meets Tryz.prog 15 [.agg (offV b s q iter).toArray, .string (str t)] [] fun v A => v = .tuple #[.pointer none, .int .i64 1] /\ A = [] := by
 refine eN Tryz.func15 Tryz.ntmps15 Tryz.results15 fun F => ?_
 refine gg ?_
 refine oB fun b2 => ?_
 refine gg ?_
 refine oL (offV b s q iter) rfl ?_
 refine gg ?_
 refine cA (tnew_arg b s q iter hi t) ?_; rintro v A ⟨rfl, rfl⟩; refine gA ?_
 refine zf (vs := [.pointer none, .int .i64 1]) [] ?_
 exact ⟨rfl, rfl⟩
theorem OI (b q : Nat) (iter : Int) (t : List UInt8) : Meets Tryz.prog 15 [.agg #[.pointer (some ⟨b, 0, none⟩), .pointer none, .pointer (some ⟨q, 0, none⟩), .int .i64 iter], .string (str t)] [] fun v A => v = .tuple #[.pointer none, .int .i64 6] /\ A = [] := by
 refine eN Tryz.func15 Tryz.ntmps15 Tryz.results15 fun F => ?_
 refine gg ?_
 refine oB fun b2 => ?_
 refine gg ?_
 refine oL [.pointer (some ⟨b, 0, none⟩), .pointer none, .pointer (some ⟨q, 0, none⟩), .int .i64 iter] rfl ?_
 refine gg ?_
 refine cA (UU b q iter t) ?_; rintro v A ⟨rfl, rfl⟩; refine gA ?_
 refine zf (vs := [.pointer none, .int .i64 6]) [] ?_
 exact ⟨rfl, rfl⟩
theorem OK (d : List UInt8) (st : Bool) (now : Int) : Meets Tryz.prog 8 [.pointer none, .string (str d), .bool st, .int .u64 now] [] fun v A => v = .tuple #[.string (str []), .int .i64 6] /\ A = [] := by
 refine eN Tryz.func8 Tryz.ntmps8 Tryz.results8 fun F => ?_
 refine gg ?_
 refine zf (vs := [.string (str []), .int .i64 6]) [] ?_
 exact ⟨rfl, rfl⟩
theorem kq : Meets Tryz.prog 16 [.pointer none] [] fun v A => v = .int .u64 0 /\ A = [] := by
 refine eN Tryz.func16 Tryz.ntmps16 Tryz.results16 fun F => ?_
 refine gg ?_
 refine zb [] ?_; exact ⟨rfl, rfl⟩
theorem YL {T : Chunk} {k b s q tb : Nat} {iter ch : Int} {n : NS} (hs : NOk n) (hser : n.ser < 1000) (hT : IsTab T tb n.room n.es) (d : List UInt8) (hd : d.length <= 1000) (st : Bool) (now : Int) (hn : now < 18446744073709551616) (hn0 : 0 <= now) (hln : (xg n d now).1.1.length <= 4000) :
  Meets Tryz.prog 8 [.pointer (some ⟨k, 0, none⟩), .string (str d), .bool st, .int .u64 now] [quB k b s q iter [116] ch, nB q tb n, T]
  fun v A => ∃ T', v = (if (xg n d now).1.2 = 0 then .tuple #[.string (str (kg ⟨[116], (xg n d now).1.1, [], st⟩).1), .int .i64 (kg ⟨[116], (xg n d now).1.1, [], st⟩).2] else .tuple #[.string (str []), .int .i64 (xg n d now).1.2]) /\ IsTab T' tb n.room (xg n d now).2.es /\ A = [quB k b s q iter [116] ch, nB q tb (xg n d now).2, T'] := by
 refine eN Tryz.func8 Tryz.ntmps8 Tryz.results8 fun F => ?_
 refine gg ?_
 refine cA (VK hs hser hT d hd now hn) ?_; rintro v A ⟨rfl, T', hT', rfl⟩; refine gA ?_
 by_cases h0 : (xg n d now).1.2 = 0
 ·rw [if_pos h0, h0]
  refine gg ?_
  refine oT [(0, .string (str [116])), (1, .string (str (xg n d now).1.1)), (3, .bool st)] (encC ⟨[116], (xg n d now).1.1, [], st⟩).toArray ?_
  refine gg ?_
  refine cA (Kz ⟨[116], (xg n d now).1.1, [], st⟩ (by show 1 <= 4000; decide) hln (by show 0 <= 4000; decide)) ?_; rintro v A ⟨rfl, rfl⟩; refine gA ?_
  refine zf (vs := [.string (str (kg ⟨[116], (xg n d now).1.1, [], st⟩).1), .int .i64 (kg ⟨[116], (xg n d now).1.1, [], st⟩).2]) [quB k b s q iter [116] ch, nB q tb (xg n d now).2, T'] ?_
  exact ⟨T', rfl, hT', rfl⟩
 ·rw [if_neg h0, bne_iff_ne.2 h0]
  refine gg ?_
  refine zf (vs := [.string (str []), .int .i64 (xg n d now).1.2]) [quB k b s q iter [116] ch, nB q tb (xg n d now).2, T'] ?_
  exact ⟨T', rfl, hT', rfl⟩
end Go.Proofs.YtebikhhoppiapaaGreatDoor
namespace Go.Proofs.YtebikhhoppiapaaGreatDoor
open Go Go.Ost Go.Sha
abbrev botV (b s q : Nat) (iter : Int) (o k y : Nat) : List Value := [.pointer (some ⟨b, 0, none⟩), .pointer (some ⟨s, 0, none⟩), .pointer (some ⟨q, 0, none⟩), .int .i64 iter, .pointer (some ⟨o, 0, none⟩), .pointer (some ⟨k, 0, none⟩), .pointer (some ⟨y, 0, none⟩)]
instance tpDAn : TPlaces Tryz.prog 126 [(0, 1), (1, 1), (2, 1), (3, 1), (4, 1), (5, 1), (6, 1), (7, 1)] := ⟨by kernel_rfl⟩
theorem Kw {G : Chunk} (hg : Globs3 G) {C R : Chunk} {b s q k y o rb us ns : Nat} {iter it2 ch : Int} {x : BX} (hC : qG C b x) (hR : RBox R rb x) (hts : x.ts.length <= 800) (u p m uri n cn : List UInt8) (nc : W) (hu : u.length <= 1000) (hp : p.length <= 1000) (hm : m.length <= 1000) (huri : uri.length <= 1000) (hn : n.length <= 1000) (hcn : cn.length <= 1000) :
  Meets Tryz.prog 11 [.agg (botV b s q iter o k y).toArray, .string (str u), .string (str p), .string (str m), .string (str uri), .string (str n), .string (str cn), b32 nc] [C, R, G, ryB y o [116] ch, ofB o rb us ns it2]
  fun v A => ∃ C' R', v = .string (str (qF x u p m uri n cn nc).1.1) /\ qG C' b (qF x u p m uri n cn nc).2 /\ RBox R' rb (qF x u p m uri n cn nc).2 /\ A = [C', R', G, ryB y o [116] ch, ofB o rb us ns it2] := by
 have hcl := JA (y := y) (o := o) (us := us) (ns := ns) (iter := it2) (ch := ch) hg hR hts u p m uri n cn nc hu hp hm huri hn hcn
 refine eN Tryz.func11 Tryz.ntmps11 Tryz.results11 fun F => ?_
 refine gg ?_
 refine oB fun b8 => ?_
 refine gg ?_
 refine cA (hcl) ?_; rintro v A ⟨R', rfl, hR', rfl⟩; refine gA ?_
 have hl1 := ju x (xi u [116] p)
 have ht := xK x (xi u [116] p)
 refine zn [(0, false, []), (1, false, []), (2, false, []), (3, false, []), (4, false, []), (5, false, []), (6, false, []), (7, false, []), (9, false, []), (10, false, []), (11, false, []), (12, false, []), (13, false, []), (14, false, []), (15, false, []), (8, true, [2]), (16, true, [])] ?_
 refine gg ?_
 refine qO fun K hK => ?_; rw [zP (ps := [(0, .string (str u)), (1, .string ⟨#[116]⟩), (2, .string (str n)), (3, .string (str uri)), (4, .string (str cn)), (6, b32 nc)]) (cs := (encA (anC u n uri cn nc []) none 0).toArray) (by kernel_rfl)]; refine hK _ _ ?_; clear hK K
 refine gg ?_
 refine zh fun K hK => ?_; refine zq (ha1_spec hg.1 hC (by omega) u [116] p hu (by decide) hp) ?_; rintro v A ⟨O, C1, oa, oc, rfl, hO, hC1, rfl⟩; refine pA hK ?_; clear hK K
 refine gg ?_
 unfold qF at *
 simp only at *
 generalize xx x (xi u [116] p) = h at *
 refine zh fun K hK => ?_; refine zq (Jw hg.1 hC1 (by omega) h.1 m (by omega) hm (hO.rd (List.mem_cons_self ..)) (anC u n uri cn nc []) (by show n.length <= 4096; omega) (by show uri.length <= 4096; omega) (by show cn.length <= 4096; omega) none 0) ?_; rintro v A ⟨O2, C2, qa, qc, rfl, hO2, hC2, rfl⟩; refine pA hK ?_; clear hK K
 refine gg ?_
 refine zb [C2, R', G, ryB y o [116] ch, ofB o rb us ns it2] ?_
 exact ⟨C2, R', rfl, hC2, hR', rfl⟩
open Go.Tab
def encR (x : List UInt8 × V) : List Value := [.string (str x.2.non), .string (str x.2.draw), .int .u64 x.2.at_, .bool x.2.sp, .int .u32 x.2.cnt]
abbrev OwnR_KD (C : Chunk) (a : Option Addr) (c : Nat) (es : Es) : Prop := Ost.Own 5 173 C a es.length c (es.flatMap encR)
abbrev xN (r : Nat) (s : NS) (la : Option Addr) (n lc : Nat) : Chunk := [(r, .cells #[.int .i64 s.room, .int .u64 s.win, .slice la n lc, .int .u64 s.ser, .int .u64 s.last, .int .u64 s.mark, .bool s.mrk] 105 (0, 0))]
instance iKD_1 : TPlaces Tryz.prog 173 [(0, 1), (1, 1), (2, 1), (3, 1), (4, 1)] := ⟨by kernel_rfl⟩
section ref
variable {r : Nat} {s : NS} {la : Option Addr} {lc : Nat} {es : Es} {Cl : Chunk}
end ref
section ref
variable {r : Nat} {s : NS} {la : Option Addr} {lc : Nat} {es : Es} {Cl : Chunk}
end ref
section ref
variable {r : Nat} {s : NS} {la : Option Addr} {lc : Nat} {Cl : Chunk}
end ref
def QH (sp : Option Addr) (T : Chunk) : Option NS -> Prop
 | none => sp = none /\ T = []
 | some s => ∃ q b T1, NOk s /\ IsTab T1 b s.room s.es /\ sp = some ⟨q, 0, none⟩ /\ T = nB q b s ++ T1
def RHalf (xp : Option Addr) (U : Chunk) : Option NS -> Prop
 | none => xp = none /\ U = []
 | some s => ∃ r la lc Cl, NOk s /\ OwnR_KD Cl la lc s.es /\ xp = some ⟨r, 0, none⟩ /\ U = xN r s la s.es.length lc ++ Cl
theorem Ub (s : NS) (d : List UInt8) (now : Int) : (xg s d now).2.room = s.room := by
 unfold xg
 split
 ·rfl
 ·split
  ·rfl
  ·split
   ·rfl
   ·exact yz s now
theorem use_room (s : NS) (n : List UInt8) (c now : Int) : (useN s n c now).2.room = s.room := by
 unfold useN; split
 ·split
  ·rfl
  ·split <;> rfl
 ·rfl
structure Op12 where
 d : Int
 text : List UInt8
 which : Int
 own : Bool
 count : Int
 ticks : Int
 back : Int
structure Op12.Ok (o : Op12) : Prop where
 d0 : 0 <= o.d
 d1 : o.d < 256
 w0 : 0 <= o.which
 w1 : o.which < 256
 c0 : 0 <= o.count
 c1 : o.count < 4294967296
 t0 : 0 <= o.ticks
 t1 : o.ticks < 4294967296
 b0 : 0 <= o.back
 b1 : o.back < 256
instance iKR_1 : TPlaces Tryz.prog 100 [(0, 1), (1, 1)] := ⟨by kernel_rfl⟩
instance iKR_2 : TPlaces Tryz.prog 105 [(0, 1), (1, 1), (2, 1), (3, 1), (4, 1), (5, 1), (6, 1)] := ⟨by kernel_rfl⟩
theorem nnew_one (room : Nat) (win : Int) (r1 : 1 <= room) (r2 : room <= 64) (w1 : 1 <= win) (w2 : win <= 1099511627776) : Meets Tryz.prog 25 [.agg #[.int .i64 room, .int .u64 win]] [] fun v A => ∃ q T, v = .tuple #[.pointer (some ⟨q, 0, none⟩), .int .i64 0] /\ QH (some ⟨q, 0, none⟩) T (some (ns0 room win)) /\ A = [T] := by
 refine Meets.conv [] (nnew_yes room win r1 r2 w1 w2) rfl (.nil _) ?_
 rintro v A ⟨q, b, T, rfl, hT, rfl⟩
 exact ⟨[nB q b (ns0 room win) ++ T], [nB q b (ns0 room win), T], flA, amA, q, _, rfl, ⟨q, b, T, ok_new r1 r2 w1 w2, hT, rfl, rfl⟩, rfl⟩
open Go.Nam
def uN (i : Nat) : List UInt8 := if i = 0 then [97, 110, 110] else [98, 111, 98]
def uP (i : Nat) : List UInt8 := if i = 0 then [112, 101, 110, 99, 105, 108] else [115, 101, 99, 114, 101, 116]
theorem Zs (i : Nat) : (uN i).length = 3 := by unfold uN; split <;> rfl
theorem KR (i : Nat) : (uP i).length = 6 := by unfold uP; split <;> rfl
theorem kH (i : Nat) : xF (uN i) 32 = (uN i, 0) := by unfold uN; split <;> decide +kernel
theorem KP (i : Nat) : xF (uP i) 64 = (uP i, 0) := by unfold uP; split <;> decide +kernel
def lx (sym : Bool) : Nat -> List PU × BX
 | 0 => ([], ⟨sym, []⟩)
 | i + 1 => ((lx sym i).1 ++ [⟨uN i, (jO (lx sym i).2 (uN i) (uP i)).1, (i : Int) + 1, false⟩], (jO (lx sym i).2 (uN i) (uP i)).2)
theorem lx_ts (sym : Bool) : ∀ i, (lx sym i).2.ts.length <= 5 * i /\ (lx sym i).1.length = i
 | 0 => ⟨Nat.le_refl _, rfl⟩
 | i + 1 => by
  have h := lx_ts sym i
  have m := makeX_ts (lx sym i).2 (uN i) (uP i)
  simp only [lx, List.length_append, List.length_singleton]
  omega
theorem lx_less (sym : Bool) (i : Nat) (hi : i < 2) : ∀ x ∈ (lx sym i).1, x.n ≠ uN i /\ Op.bytesLess x.n (uN i) = true := by
 obtain rfl | rfl : i = 0 ∨ i = 1 := by omega
 ·intro x hx; cases hx
 ·intro x hx
  simp only [lx, List.nil_append, List.mem_singleton] at hx
  subst hx
  exact ⟨(by decide : uN 0 ≠ uN 1), (by decide : Op.bytesLess (uN 0) (uN 1) = true)⟩
instance tpBoth : TPlaces Tryz.prog 32 [(0, 4), (4, 1), (5, 1), (6, 1)] := ⟨by kernel_rfl⟩
instance tpROff : TPlaces Tryz.prog 79 [(0, 1), (1, 1), (2, 1), (3, 1)] := ⟨by kernel_rfl⟩
instance tpRQu : TPlaces Tryz.prog 88 [(0, 1), (1, 1), (2, 1)] := ⟨by kernel_rfl⟩
instance tpRBox : TPlaces Tryz.prog 92 [(0, 1), (1, 1), (2, 1)] := ⟨by kernel_rfl⟩
instance tpRSt : TPlaces Tryz.prog 95 [(0, 1), (1, 1), (2, 1), (3, 1)] := ⟨by kernel_rfl⟩
def encU (i : Nat) : List Value := [.string (str (uN i)), .string (str (uP i))]
theorem WO {G : Chunk} (hg : Globs3 G) (hn : GNam G) (sym : Bool) (room : Nat) (win : Int) (r1 : 1 <= room) (r2 : room <= 64) (w1 : 1 <= win) (w2 : win <= 1099511627776) :
  Meets Tryz.prog 7 [.bool sym, .int .i64 room, .int .u64 win] [G] fun v A => ∃ (b s q k o y rb rs rn : Nat) (C R K RK NT RT : Chunk), v = .agg (botV b s q 2 o k y).toArray /\ qG C b (lx sym 2).2 /\ RBox R rb (lx sym 2).2 /\ IsSt K s (lx sym 2).1 2 0 /\ IsRs RK rs (lx sym 2).1 2 0 /\
   QH (some ⟨q, 0, none⟩) NT (some (ns0 room win)) /\ RHalf (some ⟨rn, 0, none⟩) RT (some (ns0 room win)) /\ A = [C, R, K, RK, NT, RT, quB k b s q 2 [116] 0, ryB y o [116] 0, ofB o rb rs rn 2, G] := by
 refine eN Tryz.func7 Tryz.ntmps7 Tryz.results7 fun F => ?_
 refine gg ?_
 refine oA ([.pointer none, .pointer none, .pointer none, .int .i64 0, .pointer none, .pointer none, .pointer none] : List Value).toArray fun b6 => ?_
 refine gg ?_
 refine oT [(0, .int .i64 room), (1, .int .u64 win)] #[.int .i64 room, .int .u64 win] ?_
 refine gg ?_
 refine cA (nnew_one room win r1 r2 w1 w2) ?_; rintro v A ⟨q, NT, rfl, hNT, rfl⟩; refine gA ?_
 refine cA (bnew_spec sym) ?_; rintro v A ⟨b, C, rfl, hC, rfl⟩; refine gA ?_
 refine cA (cnew_spec) ?_; rintro v A ⟨s, m1, M1, rfl, hM1, rfl⟩; refine gA ?_
 refine oT [(0, .pointer (some ⟨b, 0, none⟩)), (1, .pointer (some ⟨s, 0, none⟩)), (2, .pointer (some ⟨q, 0, none⟩)), (3, .int .i64 2)] (offV b s q 2).toArray ?_
 refine gg ?_
 refine oT [(0, .bool sym)] ([.bool sym, .slice none 0 0, .bool false] : List Value).toArray ?_
 refine gg ?_
 refine oB fun rb => ?_
 refine gg ?_
 refine oT [] ([.slice none 0 0, .slice none 0 0, .int .u64 0, .int .u64 0] : List Value).toArray ?_
 refine gg ?_
 refine oB fun rs => ?_
 refine gg ?_
 refine oT [(0, .int .i64 room), (1, .int .u64 win)] ([.int .i64 room, .int .u64 win, .slice none 0 0, .int .u64 0, .int .u64 0, .int .u64 0, .bool false] : List Value).toArray ?_
 refine gg ?_
 refine oB fun rn => ?_
 refine gg ?_
 refine oT [(0, .pointer (some ⟨rb, 0, none⟩)), (1, .pointer (some ⟨rs, 0, none⟩)), (2, .pointer (some ⟨rn, 0, none⟩)), (3, .int .i64 2)] (offV rb rs rn 2).toArray ?_
 refine gg ?_
 refine oB fun o => ?_
 refine gg ?_
 refine oT [(0, .agg (offV b s q 2).toArray), (1, .pointer (some ⟨o, 0, none⟩))] ([.pointer (some ⟨b, 0, none⟩), .pointer (some ⟨s, 0, none⟩), .pointer (some ⟨q, 0, none⟩), .int .i64 2, .pointer (some ⟨o, 0, none⟩), .pointer none, .pointer none] : List Value).toArray ?_
 refine gg ?_
 refine oA ([.pointer none, .pointer none, .pointer none, .int .i64 0, .pointer none, .pointer none, .pointer none] : List Value).toArray fun b9 => ?_
 refine gg ?_
 refine oS [.pointer (some ⟨b, 0, none⟩), .pointer (some ⟨s, 0, none⟩), .pointer (some ⟨q, 0, none⟩), .int .i64 2, .pointer (some ⟨o, 0, none⟩), .pointer none, .pointer none] rfl (by simp [Value.cell1]) ?_
 refine gg ?_
 refine gM ?_
 refine cA (KM hM1) ?_; rintro v A ⟨m2, M1', M2, rfl, hM1', hM2, rfl⟩; refine gA ?_
 refine gM ?_
 refine cA (JD) ?_; rintro v A ⟨T, ta, tc, rfl, hT, rfl⟩; refine gA ?_
 refine ze fun K hK => ?_; rw [Zb (ps := [(0, .string ⟨#[97, 110, 110]⟩), (1, .string ⟨#[112, 101, 110, 99, 105, 108]⟩)]) (cs := (encU 0).toArray) (by kernel_rfl)]; refine hK _ _ ?_; clear hK K
 refine ze fun K hK => ?_; rw [Zb (ps := [(0, .string ⟨#[98, 111, 98]⟩), (1, .string ⟨#[115, 101, 99, 114, 101, 116]⟩)]) (cs := (encU 1).toArray) (by kernel_rfl)]; refine hK _ _ ?_; clear hK K
 refine gg ?_
 refine ze fun K hK => ?_; refine Za (n := 2) (e := 108) (s := 2) (hs := inferInstance) [encU 0, encU 1] (by rfl) rfl (by decide) (by decide) (by decide) (by intro r hr; simp only [List.mem_cons, List.not_mem_nil, or_false] at hr; rcases hr with rfl | rfl <;> rfl) (fun ba CA hA => ?_); refine hK _ _ ?_; clear hK K
 refine gg ?_
 have hE : Ost.Own 2 108 CA (some ⟨ba, 0, none⟩) 2 2 (([0, 1] : List Nat).flatMap encU) := hA
 generalize (some (⟨ba, 0, none⟩ : Addr)) = sa at hE ⊢
 refine code_sub (S' := [[(b9, .cells ([.pointer (some ⟨b, 0, none⟩), .pointer (some ⟨s, 0, none⟩), .pointer (some ⟨q, 0, none⟩), .int .i64 2, .pointer (some ⟨o, 0, none⟩), .pointer none, .pointer none] : List Value).toArray 32 (0, 0))], CA, ofB o rb rs rn 2, rbB rb sym none 0 0, stB s m1 0 0, M1', M2, rsB rs ta 1 tc none 0 0 0 0, T, C, NT, xN rn (ns0 room win) none 0 0, [(b6, .cells ([.pointer none, .pointer none, .pointer none, .int .i64 0, .pointer none, .pointer none, .pointer none] : List Value).toArray 32 (0, 0))], F, G]) ?_
 refine jP (S' := [[(b9, .cells ([.pointer (some ⟨b, 0, none⟩), .pointer (some ⟨s, 0, none⟩), .pointer (some ⟨q, 0, none⟩), .int .i64 2, .pointer (some ⟨o, 0, none⟩), .pointer none, .pointer none] : List Value).toArray 32 (0, 0))], CA, ofB o rb rs rn 2, rbB rb sym none 0 0 ++ ([] ++ []), stB s m1 0 0 ++ (M1' ++ (M2 ++ [])), rsB rs ta 1 tc none 0 0 0 0 ++ T, C, NT, xN rn (ns0 room win) none 0 0 ++ [], [(b6, .cells ([.pointer none, .pointer none, .pointer none, .int .i64 0, .pointer none, .pointer none, .pointer none] : List Value).toArray 32 (0, 0))], F, G]) (by simp) ?_
 have hR : RBox (rbB rb sym none 0 0 ++ ([] ++ [])) rb ⟨sym, []⟩ := ⟨none, 0, [], [], [], rfl, rfl, own_nil, (fun _ h => nomatch h)⟩
 have hKs : IsSt (stB s m1 0 0 ++ (M1' ++ (M2 ++ []))) s [] 0 0 := ⟨m1, m2, M1', M2, [], rfl, hM1', hM2, (fun _ h => nomatch h), rfl⟩
 have hRK := is_rs0 (s := rs) (last := 0) (reads := 0) hT
 have hRN : RHalf (some ⟨rn, 0, none⟩) (xN rn (ns0 room win) none 0 0 ++ []) (some (ns0 room win)) := ⟨rn, none, 0, [], ok_new r1 r2 w1 w2, own_nil, rfl, rfl⟩
 generalize rbB rb sym none 0 0 ++ ([] ++ []) = R at *
 generalize stB s m1 0 0 ++ (M1' ++ (M2 ++ [])) = K at *
 generalize rsB rs ta 1 tc none 0 0 0 0 ++ T = RK at *
 generalize xN rn (ns0 room win) none 0 0 ++ [] = RT at *
 refine zB (fun m D L S => ∃ (i : Nat) (C R K RK : Chunk), i <= 2 /\ qG C b (lx sym i).2 /\ RBox R rb (lx sym i).2 /\ IsSt K s (lx sym i).1 i 0 /\ IsRs RK rs (lx sym i).1 i 0 /\ m = 2 - i /\ D = [] /\
  L = [(54, .int .i64 i), (53, .int .i64 2), (52, .slice sa 2 2), (9, .pointer (some ⟨b9, 0, none⟩)), (6, .pointer (some ⟨b6, 0, none⟩))] /\ S = [[(b9, .cells ([.pointer (some ⟨b, 0, none⟩), .pointer (some ⟨s, 0, none⟩), .pointer (some ⟨q, 0, none⟩), .int .i64 2, .pointer (some ⟨o, 0, none⟩), .pointer none, .pointer none] : List Value).toArray 32 (0, 0))], CA, ofB o rb rs rn 2, R, K, RK, C, NT, RT, [(b6, .cells ([.pointer none, .pointer none, .pointer none, .int .i64 0, .pointer none, .pointer none, .pointer none] : List Value).toArray 32 (0, 0))], F, G])
  ⟨0, C, R, K, RK, by decide, hC, hR, hKs, hRK, rfl, rfl, rfl, rfl⟩ ?_
 clear hC hR hKs hRK hM1 hM1' hM2 hT
 rintro m D L S ⟨i, C, R, K, RK, hi, hC, hR, hKs, hRK, rfl, rfl, rfl, rfl⟩
 obtain ⟨hxt, hul⟩ := lx_ts sym i
 refine gg ?_
 refine if_d (fun hc => ?_) (fun hc => ?_)
 ·have hi2 : i < 2 := by omega
  have hx0 : ([0, 1] : List Nat)[i]? = some i := by
   obtain rfl | rfl : i = 0 ∨ i = 1 := by omega
   ·rfl
   ·rfl
  refine gg ?_
  refine ze fun K hK => ?_; refine xe hE (fun _ => rfl) hx0 (by decide) mmA ?_; refine hK _ _ ?_; clear hK K
  refine gg ?_
  refine oA ([.string ⟨#[]⟩, .string ⟨#[]⟩] : List Value).toArray fun b11 => ?_
  refine gg ?_
  refine oS [.string (str (uN i)), .string (str (uP i))] rfl (by simp [Value.cell1]) ?_
  refine gg ?_
  refine ze fun K hK => ?_; refine zR ([1]) (by decide) rfl (rfl) (fun b66 C66 ho66 => ?_); refine hK _ _ ?_; clear hK K
  refine gg ?_
  refine cA (Ii hg.1 hn hC (by omega) (uN i) (uP i) (uN i) (uP i) (by rw [Zs]; decide) (by rw [KR]; decide) (by rw [Zs]; decide) (by rw [KR]; decide) (kH i) (KP i) (sc := 1) (Nat.le_refl 1) (ho66.rd (List.mem_cons_self ..))) ?_; rintro v A ⟨W, C', vs, rfl, hW, hC', rfl⟩; refine gA ?_
  have hlx : lx sym (i + 1) = ((lx sym i).1 ++ [⟨uN i, (jO (lx sym i).2 (uN i) (uP i)).1, (i : Int) + 1, false⟩], (jO (lx sym i).2 (uN i) (uP i)).2) := rfl
  have hrm {S1 : Chunk} {a1 : Option Addr} {c1 : Nat} (h1 : 1 <= c1) (h2 : Rd 1 [S1] a1 1 (([1] : List UInt8).map b8)) := YE hg hR (by omega) (uN i) (uP i) (uN i) (uP i) (by rw [Zs]; decide) (by rw [KR]; decide) (by rw [Zs]; decide) (by rw [KR]; decide) (kH i) (KP i) h1 h2
  generalize jO (lx sym i).2 (uN i) (uP i) = mx at *
  have hvs := hW
  obtain ⟨e0, e1, e2, e3, f0, f1, f2, f3, rfl, _⟩ := hvs
  refine oA ([.slice none 0 0, .int .i64 0, .slice none 0 0, .slice none 0 0, .slice none 0 0] : List Value).toArray fun b12 => ?_
  refine gg ?_
  refine oS [.slice e0 1 f0, .int .i64 1, .slice e1 mx.1.st.length f1, .slice e2 mx.1.sv.length f2, .slice e3 mx.1.ha.length f3] rfl (by simp [Value.cell1]) ?_
  refine gg ?_
  refine zZ (fun D L S => ∃ (R' W2 : Chunk) (vs2 : List Value) (b14 : Nat), RBox R' rb mx.2 /\ SecW W2 vs2 mx.1 /\ D = [] /\ L = [(54, .int .i64 i), (53, .int .i64 2), (52, .slice sa 2 2), (9, .pointer (some ⟨b9, 0, none⟩)), (6, .pointer (some ⟨b6, 0, none⟩)), (11, .pointer (some ⟨b11, 0, none⟩)), (12, .pointer (some ⟨b12, 0, none⟩)), (14, .pointer (some ⟨b14, 0, none⟩))] /\
   S = [[(b9, .cells ([.pointer (some ⟨b, 0, none⟩), .pointer (some ⟨s, 0, none⟩), .pointer (some ⟨q, 0, none⟩), .int .i64 2, .pointer (some ⟨o, 0, none⟩), .pointer none, .pointer none] : List Value).toArray 32 (0, 0))], CA, ofB o rb rs rn 2, R', K, RK, C', NT, RT, [(b6, .cells ([.pointer none, .pointer none, .pointer none, .int .i64 0, .pointer none, .pointer none, .pointer none] : List Value).toArray 32 (0, 0))], F, G, W, W2, [(b11, .cells ([.string (str (uN i)), .string (str (uP i))] : List Value).toArray 108 (0, 0))], [(b12, .cells ([.slice e0 1 f0, .int .i64 1, .slice e1 mx.1.st.length f1, .slice e2 mx.1.sv.length f2, .slice e3 mx.1.ha.length f3] : List Value).toArray 45 (0, 0))], [(b14, .cells vs2.toArray 82 (0, 0))]]) ?_ ?_
  ·refine vW 9 10 14 [[], [0], [0, 1], [0, 1, 2], [0, 1, 2, 3], [], [5], [], [7], [], [0, 1, 2, 3, 4, 5, 6, 7, 8, 9], [0, 1, 2, 3, 4, 5, 6, 7, 8, 9, 10], [0, 1, 2, 3, 4, 5, 6, 7, 8, 9, 10, 11], [0, 1, 2, 3, 4, 5, 6, 7, 8, 9, 10, 11], [0, 1, 2, 3, 4, 5, 6, 7, 8, 9, 10], [0, 1, 2, 3, 4, 5, 6, 7, 8, 9, 10, 11, 12, 14], [0, 1, 2, 3, 4, 5, 6, 7, 8, 9, 10, 11, 12, 13, 14, 15]] [(0, false, []), (1, false, []), (2, false, []), (3, false, []), (4, false, []), (5, false, []), (6, false, []), (7, false, []), (8, false, []), (9, true, [1, 4, 6, 8]), (10, true, []), (11, false, []), (12, false, []), (13, false, []), (14, true, []), (15, true, []), (16, true, [])] [[], [0], [0, 1], [0, 1, 2], [0, 1, 2, 3], [], [5], [], [7], [], [0, 1, 2, 3, 4, 5, 6, 7, 8, 9, 14], [0, 1, 2, 3, 4, 5, 6, 7, 8, 9, 10, 14], [0, 1, 2, 3, 4, 5, 6, 7, 8, 9, 10, 11, 14], [0, 1, 2, 3, 4, 5, 6, 7, 8, 9, 10, 11, 14], [9], [0, 1, 2, 3, 4, 5, 6, 7, 8, 9, 10, 11, 12, 14], [0, 1, 2, 3, 4, 5, 6, 7, 8, 9, 10, 11, 12, 13, 14, 15]] [(0, false, []), (1, false, []), (2, false, []), (3, false, []), (4, false, []), (5, false, []), (6, false, []), (7, false, []), (8, false, []), (9, true, [1, 4, 6, 8]), (14, true, [1, 4, 6, 8]), (10, true, []), (11, false, []), (12, false, []), (13, false, []), (15, true, []), (16, true, [])] [[], [0], [0, 1], [0, 1, 2], [0, 1, 2, 3], [], [5], [], [7], [14], [0, 1, 2, 3, 4, 5, 6, 7, 8, 9, 14], [0, 1, 2, 3, 4, 5, 6, 7, 8, 9, 10, 14], [0, 1, 2, 3, 4, 5, 6, 7, 8, 9, 10, 11, 14], [0, 1, 2, 3, 4, 5, 6, 7, 8, 9, 10, 11, 14], [], [0, 1, 2, 3, 4, 5, 6, 7, 8, 9, 10, 11, 12, 14], [0, 1, 2, 3, 4, 5, 6, 7, 8, 9, 10, 11, 12, 13, 14, 15]] [(0, false, []), (1, false, []), (2, false, []), (3, false, []), (4, false, []), (5, false, []), (6, false, []), (7, false, []), (8, false, []), (14, true, [1, 4, 6, 8]), (9, true, [1, 4, 6, 8]), (10, true, []), (11, false, []), (12, false, []), (13, false, []), (15, true, []), (16, true, [])] ?_ ?_ ?_
   ·refine gg ?_
    refine zh fun K hK => ?_; refine zR ([1]) (by decide) rfl (rfl) (fun b80 C80 ho80 => ?_); refine pBk hK ?_; clear hK K
    refine gg ?_
    refine zh fun K hK => ?_; refine zq (hrm (Nat.le_refl 1) (ho80.rd (List.mem_cons_self ..))) ?_; rintro v A ⟨W2, R', vs2, rfl, hW2, hR', rfl⟩; refine pA hK ?_; clear hK K
    refine gg ?_
    refine zh fun K hK => ?_; refine vY ([.slice none 0 0, .int .i64 0, .slice none 0 0, .slice none 0 0, .slice none 0 0] : List Value).toArray rfl fun b14 => ?_; refine pBk hK ?_; clear hK K
    refine gg ?_
    obtain ⟨hvl, hvc⟩ := jr hW2
    refine zh fun K hK => ?_; refine xz (vs := vs2) hvl hvc upA (by rfl) ?_; refine pBk hK ?_; clear hK K
    (try refine gg ?_)
    (try (try (refine zh fun K hK => ?_; refine hK _ _ ?_; clear hK K)))
    (try refine gg ?_)
    exact mid ⟨R', W2, vs2, b14, hR', hW2, rfl, rfl, rfl⟩
   ·refine gg ?_
    refine zh fun K hK => ?_; refine zR ([1]) (by decide) rfl (rfl) (fun b80 C80 ho80 => ?_); refine pBk hK ?_; clear hK K
    refine gg ?_
    refine zh fun K hK => ?_; refine vY ([.slice none 0 0, .int .i64 0, .slice none 0 0, .slice none 0 0, .slice none 0 0] : List Value).toArray rfl fun b14 => ?_; refine pBk hK ?_; clear hK K
    refine gg ?_
    refine zh fun K hK => ?_; refine zq (hrm (Nat.le_refl 1) (ho80.rd (List.mem_cons_self ..))) ?_; rintro v A ⟨W2, R', vs2, rfl, hW2, hR', rfl⟩; refine pA hK ?_; clear hK K
    refine gg ?_
    obtain ⟨hvl, hvc⟩ := jr hW2
    refine zh fun K hK => ?_; refine xz (vs := vs2) hvl hvc upA (by rfl) ?_; refine pBk hK ?_; clear hK K
    (try refine gg ?_)
    (try (try (refine zh fun K hK => ?_; refine hK _ _ ?_; clear hK K)))
    (try refine gg ?_)
    exact mid ⟨R', W2, vs2, b14, hR', hW2, rfl, rfl, rfl⟩
   ·refine gg ?_
    refine zh fun K hK => ?_; refine vY ([.slice none 0 0, .int .i64 0, .slice none 0 0, .slice none 0 0, .slice none 0 0] : List Value).toArray rfl fun b14 => ?_; refine pBk hK ?_; clear hK K
    refine gg ?_
    refine zh fun K hK => ?_; refine zR ([1]) (by decide) rfl (rfl) (fun b80 C80 ho80 => ?_); refine pBk hK ?_; clear hK K
    refine gg ?_
    refine zh fun K hK => ?_; refine zq (hrm (Nat.le_refl 1) (ho80.rd (List.mem_cons_self ..))) ?_; rintro v A ⟨W2, R', vs2, rfl, hW2, hR', rfl⟩; refine pA hK ?_; clear hK K
    refine gg ?_
    obtain ⟨hvl, hvc⟩ := jr hW2
    refine zh fun K hK => ?_; refine xz (vs := vs2) hvl hvc upA (by rfl) ?_; refine pBk hK ?_; clear hK K
    (try refine gg ?_)
    (try (try (refine zh fun K hK => ?_; refine hK _ _ ?_; clear hK K)))
    (try refine gg ?_)
    exact mid ⟨R', W2, vs2, b14, hR', hW2, rfl, rfl, rfl⟩
  rintro D L S ⟨R', W2, vs2, b14, hR', hW2, rfl, rfl, rfl⟩
  obtain ⟨hvl, hvc⟩ := jr hW2
  have hno := lx_less sym i hi2
  refine gg ?_
  refine oL [.slice e0 1 f0, .int .i64 1, .slice e1 mx.1.st.length f1, .slice e2 mx.1.sv.length f2, .slice e3 mx.1.ha.length f3] rfl ?_
  refine gg ?_
  refine cA (cadd_spec hn hKs (by omega) (by omega) (by omega) (uN i) (uN i) (by rw [Zs]; decide) (kH i) (fun x hx => (hno x hx).1) hW) ?_; rintro v A ⟨K', rfl, hKs', rfl⟩; refine gA ?_
  refine zn [(0, false, []), (1, false, []), (2, false, []), (3, false, []), (4, false, []), (5, false, []), (6, false, []), (7, false, []), (8, true, [])] ?_
  refine gg ?_
  refine qO fun K hK => ?_; refine zm (vs := vs2) lkA hvl ?_; refine hK _ _ ?_; clear hK K
  refine gg ?_
  refine zh fun K hK => ?_; refine zq (UA hRK (by omega) (by omega) (by omega) (uN i) (uN i) (by rw [Zs]; decide) (kH i) (fun x hx => (hno x hx).1) (fun x hx => (hno x hx).2) hW2) ?_; rintro v A ⟨RK', rfl, hRK', rfl⟩; refine pA hK ?_; clear hK K
  refine gg ?_
  rw [<- Int.natCast_succ] at hKs' hRK'
  exact zA ⟨i + 1, C', R', K', RK', by omega, by rw [hlx]; exact hC', by rw [hlx]; exact hR', by rw [hlx]; exact hKs', by rw [hlx]; exact hRK', rfl, rfl, rfl, rfl⟩
 obtain rfl : i = 2 := by omega
 refine gg ?_
 refine ze fun K hK => ?_; refine vR (vs := [.pointer (some ⟨b, 0, none⟩), .pointer (some ⟨s, 0, none⟩), .pointer (some ⟨q, 0, none⟩), .int .i64 2, .pointer (some ⟨o, 0, none⟩), .pointer none, .pointer none]) (o := 0) (ws := offV b s q 2) lkA (by show 0 + 4 <= 7; decide) rfl ?_; refine hK _ _ ?_; clear hK K
 refine gg ?_
 refine cA (OH b s q 2 (by decide) [116] (by decide) (by decide)) ?_; rintro v A ⟨k, rfl, rfl⟩; refine gA ?_
 refine gM ?_
 refine oT [(0, .pointer (some ⟨o, 0, none⟩)), (1, .string ⟨#[116]⟩)] ([.pointer (some ⟨o, 0, none⟩), .string (str [116]), .int .u64 0] : List Value).toArray ?_
 refine gg ?_
 refine oB fun y => ?_
 refine gg ?_
 refine gM ?_
 refine oL (botV b s q 2 o k y) rfl ?_
 refine gg ?_
 refine oS (botV b s q 2 o k y) rfl (by simp [Value.cell1]) ?_
 refine gg ?_
 refine zf (vs := [.agg (botV b s q 2 o k y).toArray]) [C, R, K, RK, NT, RT, quB k b s q 2 [116] 0, ryB y o [116] 0, ofB o rb rs rn 2, G] ?_ (hr := by (intro κ hκ; simp only [resW, withV, lookT_hit, lookT_miss, Nat.reduceBEq]; exact zm (vs := botV b s q 2 o k y) lkA rfl hκ))
 exact ⟨b, s, q, k, o, y, rb, rs, rn, C, R, K, RK, NT, RT, rfl, hC, hR, hKs, hRK, hNT, hRN, rfl⟩
end Go.Proofs.YtebikhhoppiapaaGreatDoor
namespace Go.Proofs.YtebikhhoppiapaaGreatDoor
open Go Go.Ost Go.Sha Go.Nam
section
variable {P : Program}
theorem Yu {b o : Nat} {e t : TypeId} {z : Value} {s by_ : Nat} {cs cs' : Array Value} {ws : List Value} (p u r : List Value) {S S' : State} {κ : State -> Prop} [hs : TSized P t z s by_] (hz : ws.length = s) (hu0 : u.length = s) (hc : ∀ v ∈ ws, Value.cell1 v) (ho : p.length = o)
  (h1 : cs = (p ++ (u ++ r)).toArray) (h2 : cs' = (p ++ (ws ++ r)).toArray) (hu : Upd b (.cells cs e (0, 0)) (.cells cs' e (0, 0)) S S') (k : κ S') : UnitW P (Instr.storeAt t (.pointer (some ⟨b, o, none⟩)) (.agg ws.toArray)) S κ := by
 subst ho h1 h2
 have e2 : ws.toArray.toList = ws := by simp
 refine kK (e := e) (cs := (p ++ (u ++ r)).toArray) (by simpa using hz) (by simpa using hc) ?_ (by simp; omega) k
 rw [e2, jK ws p u r (by omega)]
 exact hu
end
theorem YC : Meets Tryz.prog 210 [.slice none 0 0] [] fun v A => v = .slice none 0 0 /\ A = [] := by
 refine eN Tryz.func210 Tryz.ntmps210 Tryz.results210 fun F => ?_
 refine gg ?_
 refine zb [] ?_; exact ⟨rfl, rfl⟩
theorem Uz {W : Chunk} {vs : List Value} {s : Sec} (n : List UInt8) (gen : Int) (rev : Bool) (hW : SecW W vs s) : Meets Tryz.prog 161 [.agg (credV n vs gen rev).toArray] [W]
  fun v A => ∃ (W' : Chunk) (vs' : List Value), v = .agg (credV n vs' gen rev).toArray /\ SecW W' vs' s /\ A = [W', W] := by
 have hsc := Zx hW
 obtain ⟨a0, a1, a2, a3, c0, c1, c2, c3, rfl, _⟩ := hW
 simp only [credV, List.cons_append, List.nil_append]
 refine eN Tryz.func161 Tryz.ntmps161 Tryz.results161 fun F => ?_
 refine gg ?_
 refine oB fun b1 => ?_
 refine gg ?_
 refine oA ([.string ⟨#[]⟩, .string ⟨#[]⟩, .slice none 0 0, .int .i64 0, .slice none 0 0, .slice none 0 0, .slice none 0 0, .int .u64 0, .slice none 0 0, .bool false] : List Value).toArray fun b2 => ?_
 refine gg ?_
 refine zn [(0, false, []), (1, false, []), (3, false, []), (4, false, []), (2, true, [4]), (6, false, []), (5, true, []), (7, true, []), (8, false, []), (9, true, [])] ?_
 refine gg ?_
 refine qO fun K hK => ?_; refine vR (vs := [.string (str [116]), .string (str n), .slice a0 1 c0, .int .i64 1, .slice a1 s.st.length c1, .slice a2 s.sv.length c2, .slice a3 s.ha.length c3, .int .u64 gen, .slice none 0 0, .bool rev]) (o := 2) (ws := [.slice a0 1 c0, .int .i64 1, .slice a1 s.st.length c1, .slice a2 s.sv.length c2, .slice a3 s.ha.length c3]) lkA (by show 2 + 5 <= 10; decide) rfl ?_; refine hK _ _ ?_; clear hK K
 refine gg ?_
 refine zh fun K hK => ?_; refine zq (hsc) ?_; rintro v A ⟨W', vs', rfl, hW', rfl⟩; refine pA hK ?_; clear hK K
 refine gg ?_
 refine zh fun K hK => ?_; refine zq (YC) ?_; rintro v A ⟨rfl, rfl⟩; refine pA hK ?_; clear hK K
 refine gg ?_
 obtain ⟨hvl, hvc⟩ := jr hW'
 have hW2 := hW'
 obtain ⟨e0, e1, e2, e3, f0, f1, f2, f3, rfl, _⟩ := hW2
 refine zh fun K hK => ?_; refine Yu [.string (str [116]), .string (str n)] [.slice a0 1 c0, .int .i64 1, .slice a1 s.st.length c1, .slice a2 s.sv.length c2, .slice a3 s.ha.length c3] [.int .u64 gen, .slice none 0 0, .bool rev] (cs := ([.string (str [116]), .string (str n), .slice a0 1 c0, .int .i64 1, .slice a1 s.st.length c1, .slice a2 s.sv.length c2, .slice a3 s.ha.length c3, .int .u64 gen, .slice none 0 0, .bool rev] : List Value).toArray) (cs' := ([.string (str [116]), .string (str n), .slice e0 1 f0, .int .i64 1, .slice e1 s.st.length f1, .slice e2 s.sv.length f2, .slice e3 s.ha.length f3, .int .u64 gen, .slice none 0 0, .bool rev] : List Value).toArray) rfl rfl hvc rfl rfl rfl upA ?_; refine hK _ _ ?_; clear hK K
 refine gg ?_
 (try (refine zh fun K hK => ?_; (first | refine zS trivial upA ?_ | refine zG trivial upA (by simp) ?_); refine pBk hK ?_; clear hK K; refine gg ?_))
 refine gM ?_
 have hc1 : ∀ u ∈ ([.string (str [116]), .string (str n), .slice e0 1 f0, .int .i64 1, .slice e1 s.st.length f1, .slice e2 s.sv.length f2, .slice e3 s.ha.length f3, .int .u64 gen, .slice none 0 0, .bool rev] : List Value), Value.cell1 u := by
  intro u hu
  simp only [List.mem_cons, List.not_mem_nil, or_false] at hu
  rcases hu with rfl | rfl | rfl | rfl | rfl | rfl | rfl | rfl | rfl | rfl <;> simp [Value.cell1]
 refine oL [.string (str [116]), .string (str n), .slice e0 1 f0, .int .i64 1, .slice e1 s.st.length f1, .slice e2 s.sv.length f2, .slice e3 s.ha.length f3, .int .u64 gen, .slice none 0 0, .bool rev] rfl ?_
 refine oS [.string (str [116]), .string (str n), .slice e0 1 f0, .int .i64 1, .slice e1 s.st.length f1, .slice e2 s.sv.length f2, .slice e3 s.ha.length f3, .int .u64 gen, .slice none 0 0, .bool rev] rfl hc1 ?_
 refine gg ?_
 refine zf (vs := [.agg ([.string (str [116]), .string (str n), .slice e0 1 f0, .int .i64 1, .slice e1 s.st.length f1, .slice e2 s.sv.length f2, .slice e3 s.ha.length f3, .int .u64 gen, .slice none 0 0, .bool rev] : List Value).toArray]) [W', W] ?_ (hr := by (intro κ hκ; simp only [resW, withV, lookT_hit, lookT_miss, Nat.reduceBEq]; exact zm (vs := [.string (str [116]), .string (str n), .slice e0 1 f0, .int .i64 1, .slice e1 s.st.length f1, .slice e2 s.sv.length f2, .slice e3 s.ha.length f3, .int .u64 gen, .slice none 0 0, .bool rev]) lkA rfl hκ))
 exact ⟨W', _, rfl, hW', rfl⟩
theorem Uw {s r1 r2 p : Nat} {last reads gen : Int} {M1 M2 G B : Chunk} {m : List (List UInt8 × Value)} (hn : GNam G) (h1 : xB M1 r1 (tenM r2)) (h2 : xB M2 r2 m) (hr0 : 0 <= reads) (hr1 : reads < 1000000) (u n : List UInt8) (hu : u.length <= 100000) (hun : xF u 32 = (n, 0)) (hm : mget m n = some (.pointer (some ⟨p, 0, none⟩))) (k : List UInt8) {vs : List Value} {rev : Bool} {sec : Sec} (hW : SecW B vs sec) :
  Meets Tryz.prog 116 [.pointer (some ⟨s, 0, none⟩), .string (str [116]), .string (str u)] [stB s r1 last reads, M1, M2, G, crB p k vs gen rev, B]
  fun v A => ∃ B' vs', v = .tuple #[.agg (credV k vs' gen rev).toArray, .bool true] /\ SecW B' vs' sec /\ A = [stB s r1 last (reads + 1), M1, M2, G, crB p k vs gen rev, B', B] := by
 have hg := get_spec (s := s) (last := last) (reads := reads + 1) hn h1 h2 u hu
 rw [hun, if_pos rfl, hm, Option.getD_some] at hg
 have hcc := Uz k gen rev hW
 obtain ⟨a0, a1, a2, a3, c0, c1, c2, c3, rfl, _⟩ := hW
 simp only [credV, crB, List.cons_append, List.nil_append] at hcc ⊢
 refine eN Tryz.func116 Tryz.ntmps116 Tryz.results116 fun F => ?_
 refine gg ?_
 refine oA ([.string ⟨#[]⟩, .string ⟨#[]⟩, .slice none 0 0, .int .i64 0, .slice none 0 0, .slice none 0 0, .slice none 0 0, .int .u64 0, .slice none 0 0, .bool false] : List Value).toArray fun b6 => ?_
 refine gg ?_
 refine cA (hg) ?_; rintro v A ⟨rfl, rfl⟩; refine gA ?_
 refine oL [.string (str [116]), .string (str k), .slice a0 1 c0, .int .i64 1, .slice a1 sec.st.length c1, .slice a2 sec.sv.length c2, .slice a3 sec.ha.length c3, .int .u64 gen, .slice none 0 0, .bool rev] rfl ?_
 refine gg ?_
 refine cA (hcc) ?_; rintro v A ⟨B', vs', rfl, hB', rfl⟩; refine gA ?_
 obtain ⟨hvl, hvc⟩ := jr hB'
 have hW2 := hB'
 obtain ⟨e0, e1, e2, e3, f0, f1, f2, f3, rfl, _⟩ := hW2
 have hc1 : ∀ u ∈ ([.string (str [116]), .string (str k), .slice e0 1 f0, .int .i64 1, .slice e1 sec.st.length f1, .slice e2 sec.sv.length f2, .slice e3 sec.ha.length f3, .int .u64 gen, .slice none 0 0, .bool rev] : List Value), Value.cell1 u := by
  intro u hu
  simp only [List.mem_cons, List.not_mem_nil, or_false] at hu
  rcases hu with rfl | rfl | rfl | rfl | rfl | rfl | rfl | rfl | rfl | rfl <;> simp [Value.cell1]
 refine oS [.string (str [116]), .string (str k), .slice e0 1 f0, .int .i64 1, .slice e1 sec.st.length f1, .slice e2 sec.sv.length f2, .slice e3 sec.ha.length f3, .int .u64 gen, .slice none 0 0, .bool rev] rfl hc1 ?_
 refine gg ?_
 refine zf (vs := [.agg ([.string (str [116]), .string (str k), .slice e0 1 f0, .int .i64 1, .slice e1 sec.st.length f1, .slice e2 sec.sv.length f2, .slice e3 sec.ha.length f3, .int .u64 gen, .slice none 0 0, .bool rev] : List Value).toArray, .bool true]) [stB s r1 last (reads + 1), M1, M2, G, [(p, .cells ([.string (str [116]), .string (str k), .slice a0 1 c0, .int .i64 1, .slice a1 sec.st.length c1, .slice a2 sec.sv.length c2, .slice a3 sec.ha.length c3, .int .u64 gen, .slice none 0 0, .bool rev] : List Value).toArray 48 (0, 0))], B', B] ?_ (hr := by (intro κ hκ; simp only [resW, withV, lookT_hit, lookT_miss, Nat.reduceBEq]; exact zm (vs := [.string (str [116]), .string (str k), .slice e0 1 f0, .int .i64 1, .slice e1 sec.st.length f1, .slice e2 sec.sv.length f2, .slice e3 sec.ha.length f3, .int .u64 gen, .slice none 0 0, .bool rev]) lkA rfl hκ))
 exact ⟨B', _, rfl, hB', rfl⟩
theorem YK {qk bx_ s q r1 r2 p : Nat} {iter ch last reads gen : Int} {M1 M2 G B : Chunk} {m : List (List UInt8 × Value)} (hn : GNam G) (h1 : xB M1 r1 (tenM r2)) (h2 : xB M2 r2 m) (hr0 : 0 <= reads) (hr1 : reads < 1000000) (u n : List UInt8) (hu : u.length <= 100000) (hun : xF u 32 = (n, 0)) (hst : xF n 32 = (n, 0)) (hnl : n.length <= 32) (hm : mget m n = some (.pointer (some ⟨p, 0, none⟩))) {vs : List Value} {sec : Sec} (hW : SecW B vs sec) :
  Meets Tryz.prog 42 [.pointer (some ⟨qk, 0, none⟩), .string (str u)] [[(qk, .cells #[.pointer (some ⟨bx_, 0, none⟩), .pointer (some ⟨s, 0, none⟩), .pointer (some ⟨q, 0, none⟩), .int .i64 iter, .string (str [116]), .int .u64 ch] 117 (0, 0))], stB s r1 last reads, M1, M2, G, crB p n vs gen false, B]
  fun v A => ∃ B' vs', v = .tuple #[.agg (credV n vs' gen false).toArray, .bool true] /\ SecW B' vs' sec /\ A = [[(qk, .cells #[.pointer (some ⟨bx_, 0, none⟩), .pointer (some ⟨s, 0, none⟩), .pointer (some ⟨q, 0, none⟩), .int .i64 iter, .string (str [116]), .int .u64 ch] 117 (0, 0))], stB s r1 last (reads + 1), M1, M2, G, crB p n vs gen false, B', B] := by
 have hnm := kU hn u hu
 rw [hun] at hnm
 have hcf := Uw (s := s) (last := last) (gen := gen) hn h1 h2 hr0 hr1 n n (by omega) hst hm n (rev := false) hW
 refine eN Tryz.func42 Tryz.ntmps42 Tryz.results42 fun F => ?_
 refine gg ?_
 refine oA ([.string ⟨#[]⟩, .string ⟨#[]⟩, .slice none 0 0, .int .i64 0, .slice none 0 0, .slice none 0 0, .slice none 0 0, .int .u64 0, .slice none 0 0, .bool false] : List Value).toArray fun b4 => ?_
 refine gg ?_
 refine cA (hnm) ?_; rintro v A ⟨rfl, rfl⟩; refine gA ?_
 refine Uu 10 14 [[], [0], [0, 1], [0, 1, 2], [0, 1, 2, 3], [], [5], [5, 6], [5, 6, 7], [], [0, 1, 2, 3, 4, 5, 6, 7, 8, 9], [0, 1, 2, 3, 4, 5, 6, 7, 8, 9, 10], [0, 1, 2, 3, 4, 5, 6, 7, 8, 9, 10, 11], [0, 1, 2, 3, 4, 5, 6, 7, 8, 9, 10, 11], [0, 1, 2, 3, 4, 5, 6, 7, 8, 9, 10], [0, 1, 2, 3, 4, 5, 6, 7, 8, 9, 10, 11, 12, 14], [0, 1, 2, 3, 4, 5, 6, 7, 8, 9, 10, 11, 12, 13, 14, 15]] [(0, false, []), (1, false, []), (2, false, []), (3, false, []), (4, false, []), (5, false, []), (6, false, []), (7, false, []), (8, false, []), (9, false, []), (10, true, []), (11, false, []), (12, false, []), (13, false, []), (14, true, []), (15, true, []), (16, true, [])] [[], [0], [0, 1], [0, 1, 2], [0, 1, 2, 3], [], [5], [5, 6], [5, 6, 7], [], [0, 1, 2, 3, 4, 5, 6, 7, 8, 9, 14], [0, 1, 2, 3, 4, 5, 6, 7, 8, 9, 10, 14], [0, 1, 2, 3, 4, 5, 6, 7, 8, 9, 10, 11, 14], [0, 1, 2, 3, 4, 5, 6, 7, 8, 9, 10, 11, 14], [], [0, 1, 2, 3, 4, 5, 6, 7, 8, 9, 10, 11, 12, 14], [0, 1, 2, 3, 4, 5, 6, 7, 8, 9, 10, 11, 12, 13, 14, 15]] [(0, false, []), (1, false, []), (2, false, []), (3, false, []), (4, false, []), (5, false, []), (6, false, []), (7, false, []), (8, false, []), (9, false, []), (14, true, [4, 8]), (10, true, []), (11, false, []), (12, false, []), (13, false, []), (15, true, []), (16, true, [])] ?_ ?_
 ·refine gg ?_
  refine zh fun K hK => ?_; refine zq (hcf) ?_; rintro v A ⟨B', vs', rfl, hB', rfl⟩; refine pA hK ?_; clear hK K
  refine gg ?_
  refine zh fun K hK => ?_; refine vY ([.string ⟨#[]⟩, .string ⟨#[]⟩, .slice none 0 0, .int .i64 0, .slice none 0 0, .slice none 0 0, .slice none 0 0, .int .u64 0, .slice none 0 0, .bool false] : List Value).toArray rfl fun b8 => ?_; refine pBk hK ?_; clear hK K
  refine gg ?_
  obtain ⟨hvl, hvc⟩ := jr hB'
  have hW2 := hB'
  obtain ⟨e0, e1, e2, e3, f0, f1, f2, f3, rfl, _⟩ := hW2
  have hc1 : ∀ u ∈ ([.string (str [116]), .string (str n), .slice e0 1 f0, .int .i64 1, .slice e1 sec.st.length f1, .slice e2 sec.sv.length f2, .slice e3 sec.ha.length f3, .int .u64 gen, .slice none 0 0, .bool false] : List Value), Value.cell1 u := by
   intro u hu
   simp only [List.mem_cons, List.not_mem_nil, or_false] at hu
   rcases hu with rfl | rfl | rfl | rfl | rfl | rfl | rfl | rfl | rfl | rfl <;> simp [Value.cell1]
  refine zh fun K hK => ?_; refine xz (vs := [.string (str [116]), .string (str n), .slice e0 1 f0, .int .i64 1, .slice e1 sec.st.length f1, .slice e2 sec.sv.length f2, .slice e3 sec.ha.length f3, .int .u64 gen, .slice none 0 0, .bool false]) rfl hc1 upA (by rfl) ?_; refine hK _ _ ?_; clear hK K
  refine gg ?_
  (try (try (refine zh fun K hK => ?_; refine hK _ _ ?_; clear hK K)))
  (try refine gg ?_)
  refine gM ?_
  refine oL [.string (str [116]), .string (str n), .slice e0 1 f0, .int .i64 1, .slice e1 sec.st.length f1, .slice e2 sec.sv.length f2, .slice e3 sec.ha.length f3, .int .u64 gen, .slice none 0 0, .bool false] rfl ?_
  refine oS [.string (str [116]), .string (str n), .slice e0 1 f0, .int .i64 1, .slice e1 sec.st.length f1, .slice e2 sec.sv.length f2, .slice e3 sec.ha.length f3, .int .u64 gen, .slice none 0 0, .bool false] rfl hc1 ?_
  refine gg ?_
  refine zf (vs := [.agg ([.string (str [116]), .string (str n), .slice e0 1 f0, .int .i64 1, .slice e1 sec.st.length f1, .slice e2 sec.sv.length f2, .slice e3 sec.ha.length f3, .int .u64 gen, .slice none 0 0, .bool false] : List Value).toArray, .bool true]) [[(qk, .cells #[.pointer (some ⟨bx_, 0, none⟩), .pointer (some ⟨s, 0, none⟩), .pointer (some ⟨q, 0, none⟩), .int .i64 iter, .string (str [116]), .int .u64 ch] 117 (0, 0))], stB s r1 last (reads + 1), M1, M2, G, crB p n vs gen false, B', B] ?_ (hr := by (intro κ hκ; simp only [resW, withV, lookT_hit, lookT_miss, Nat.reduceBEq]; exact zm (vs := [.string (str [116]), .string (str n), .slice e0 1 f0, .int .i64 1, .slice e1 sec.st.length f1, .slice e2 sec.sv.length f2, .slice e3 sec.ha.length f3, .int .u64 gen, .slice none 0 0, .bool false]) lkA rfl hκ))
  exact ⟨B', _, rfl, hB', rfl⟩
 ·refine gg ?_
  refine zh fun K hK => ?_; refine vY ([.string ⟨#[]⟩, .string ⟨#[]⟩, .slice none 0 0, .int .i64 0, .slice none 0 0, .slice none 0 0, .slice none 0 0, .int .u64 0, .slice none 0 0, .bool false] : List Value).toArray rfl fun b8 => ?_; refine pBk hK ?_; clear hK K
  refine gg ?_
  refine zh fun K hK => ?_; refine zq (hcf) ?_; rintro v A ⟨B', vs', rfl, hB', rfl⟩; refine pA hK ?_; clear hK K
  refine gg ?_
  obtain ⟨hvl, hvc⟩ := jr hB'
  have hW2 := hB'
  obtain ⟨e0, e1, e2, e3, f0, f1, f2, f3, rfl, _⟩ := hW2
  have hc1 : ∀ u ∈ ([.string (str [116]), .string (str n), .slice e0 1 f0, .int .i64 1, .slice e1 sec.st.length f1, .slice e2 sec.sv.length f2, .slice e3 sec.ha.length f3, .int .u64 gen, .slice none 0 0, .bool false] : List Value), Value.cell1 u := by
   intro u hu
   simp only [List.mem_cons, List.not_mem_nil, or_false] at hu
   rcases hu with rfl | rfl | rfl | rfl | rfl | rfl | rfl | rfl | rfl | rfl <;> simp [Value.cell1]
  refine zh fun K hK => ?_; refine xz (vs := [.string (str [116]), .string (str n), .slice e0 1 f0, .int .i64 1, .slice e1 sec.st.length f1, .slice e2 sec.sv.length f2, .slice e3 sec.ha.length f3, .int .u64 gen, .slice none 0 0, .bool false]) rfl hc1 upA (by rfl) ?_; refine hK _ _ ?_; clear hK K
  refine gg ?_
  (try (try (refine zh fun K hK => ?_; refine hK _ _ ?_; clear hK K)))
  (try refine gg ?_)
  refine gM ?_
  refine oL [.string (str [116]), .string (str n), .slice e0 1 f0, .int .i64 1, .slice e1 sec.st.length f1, .slice e2 sec.sv.length f2, .slice e3 sec.ha.length f3, .int .u64 gen, .slice none 0 0, .bool false] rfl ?_
  refine oS [.string (str [116]), .string (str n), .slice e0 1 f0, .int .i64 1, .slice e1 sec.st.length f1, .slice e2 sec.sv.length f2, .slice e3 sec.ha.length f3, .int .u64 gen, .slice none 0 0, .bool false] rfl hc1 ?_
  refine gg ?_
  refine zf (vs := [.agg ([.string (str [116]), .string (str n), .slice e0 1 f0, .int .i64 1, .slice e1 sec.st.length f1, .slice e2 sec.sv.length f2, .slice e3 sec.ha.length f3, .int .u64 gen, .slice none 0 0, .bool false] : List Value).toArray, .bool true]) [[(qk, .cells #[.pointer (some ⟨bx_, 0, none⟩), .pointer (some ⟨s, 0, none⟩), .pointer (some ⟨q, 0, none⟩), .int .i64 iter, .string (str [116]), .int .u64 ch] 117 (0, 0))], stB s r1 last (reads + 1), M1, M2, G, crB p n vs gen false, B', B] ?_ (hr := by (intro κ hκ; simp only [resW, withV, lookT_hit, lookT_miss, Nat.reduceBEq]; exact zm (vs := [.string (str [116]), .string (str n), .slice e0 1 f0, .int .i64 1, .slice e1 sec.st.length f1, .slice e2 sec.sv.length f2, .slice e3 sec.ha.length f3, .int .u64 gen, .slice none 0 0, .bool false]) lkA rfl hκ))
  exact ⟨B', _, rfl, hB', rfl⟩
end Go.Proofs.YtebikhhoppiapaaGreatDoor
namespace Go.Proofs.YtebikhhoppiapaaGreatDoor
open Go Go.Ost
def seqL (l : List Par) (ok : Bool) : List (Par × Int) := l.map (fun p => (p, 0)) ++ (if ok = true then [] else [(p0, 4)])
abbrev seqE (s : List UInt8) : List (Par × Int) := seqL (jg s).1 (jg s).2
abbrev IP (x : Par × Int) : List Value := [.agg (encP x.1).toArray, .int .i64 x.2]
abbrev NextQ (q pre : List (Par × Int)) (x : Par × Int) : Prop := ∃ suf, q = pre ++ x :: suf
abbrev okay (ps : List Par) : List (Par × Int) := ps.map fun p => (p, 0)
theorem Ip {s r : List UInt8} {p : Par} (h : oneE s = some (p, r)) : ∃ l, (jg s).1 = p :: l := by
 by_cases hr : r = []
 ·subst hr; exact ⟨[], by rw [kW h]⟩
 ·cases hs : (zK (zl r) 44).1
  ·exact ⟨[], by rw [yK h hr hs]⟩
  ·exact ⟨_, by rw [XI h hr hs]⟩
theorem Js : ∀ {l ps : List Par} {ok : Bool} {p : Par} {e : Int} {suf : List (Par × Int)}, seqL l ok = okay ps ++ (p, e) :: suf -> (e = 0 /\ ∃ suf', l = ps ++ p :: suf') ∨ (e = 4 /\ ps = l /\ ok = false)
 | [], [], ok, p, e, suf, h => by
  cases ok with
  | true => simp [seqL] at h
  | false => simp [seqL] at h; exact .inr ⟨by rw [<- h.1.2], rfl, rfl⟩
 | [], a :: ps, ok, p, e, suf, h => by
  cases ok <;> simp [seqL] at h
 | q :: l, [], ok, p, e, suf, h => by
  simp [seqL] at h; exact .inl ⟨h.1.2.symm, l, by rw [h.1.1]; rfl⟩
 | q :: l, a :: ps, ok, p, e, suf, h => by
  have h' : (q, (0 : Int)) :: seqL l ok = (a, 0) :: (okay ps ++ (p, e) :: suf) := by simpa [seqL] using h
  rw [List.cons.injEq, Prod.mk.injEq] at h'
  rcases Js h'.2 with ⟨e0, s', hs'⟩ | ⟨e4, h1, h2⟩
  ·exact .inl ⟨e0, s', by rw [h'.1.1, hs']; rfl⟩
  ·exact .inr ⟨e4, by rw [h'.1.1, h1], h2⟩
theorem Wi : ∀ {l ps : List Par} {ok : Bool}, okay ps = seqL l ok -> ps = l /\ ok = true
 | [], [], ok, h => by cases ok with
  | true => exact ⟨rfl, rfl⟩
  | false => simp [seqL] at h
 | [], a :: ps, ok, h => by cases ok <;> simp [seqL] at h
 | q :: l, [], ok, h => by simp [seqL] at h
 | q :: l, a :: ps, ok, h => by
  have h' : (a, (0 : Int)) :: okay ps = (q, 0) :: seqL l ok := by simpa [seqL] using h
  rw [List.cons.injEq, Prod.mk.injEq] at h'
  obtain ⟨h1, h2⟩ := Wi h'.2
  exact ⟨by rw [h'.1.1, h1], h2⟩
instance tpScanner : TPlaces Tryz.prog 285 [(0, 1)] := ⟨by kernel_rfl⟩
theorem Uk (s : List UInt8) : Meets Tryz.prog 157 [.string (str s)] []
  fun u A => ∃ c, u = .func (.func 205) #[] #[.pointer (some ⟨c, 0, none⟩)] /\ A = [bx c (.string (str s)) 9] := by
 refine eN Tryz.func157 Tryz.ntmps157 Tryz.results157 fun F => ?_
 refine gg ?_
 refine oB fun c1 => ?_
 refine gg ?_
 refine zb [bx c1 (.string (str s)) 9] ⟨c1, rfl, rfl⟩
theorem Oq (c : Nat) (s : List UInt8) (hs : s.length <= 100000) :
  IMeetsG Tryz.prog 205 [] [.pointer (some ⟨c, 0, none⟩)] IP [bx c (.string (str s)) 9]
   (fun T => T = []) noH noH noH (NextQ (seqE s)) (fun pre => pre = seqE s)
   (fun _ A => A = [bx c (.string (str s)) 9]) (fun _ A => A = [bx c (.string (str s)) 9]) false := by
 refine jB (by kernel_rfl) fun l0 J Jx hN hT hY C hC => ?_
 refine eN Tryz.func205 Tryz.ntmps205 Tryz.results205 fun F => ?_
 refine gg ?_
 refine oT [(0, .string (str s))] #[.string (str s)] ?_
 refine gg ?_
 refine oB fun b3 => ?_
 refine gg ?_
 refine zB (fun q D L S => ∃ (ps : List Par) (t : List UInt8) (C' : Chunk), J (okay ps) C' /\ t.length <= s.length /\ jg s = (ps ++ (jg t).1, (jg t).2) /\ q = t.length /\ D = [] /\
  L = [(3, .pointer (some ⟨b3, 0, none⟩)), (0, .func (.yield l0) #[] #[]), (1, .pointer (some ⟨c, 0, none⟩))] /\ S = [C', scB b3 t, F, bx c (.string (str s)) 9])
  ⟨[], s, C, hC, Nat.le_refl _, rfl, rfl, rfl, rfl, rfl⟩ ?_
 rintro q D L S ⟨ps, t, C', hJ, htl, hls, rfl, rfl, rfl, rfl⟩
 refine gg ?_
 refine cA (YU b3 t (by omega)) ?_; rintro v A ⟨p, ok, r, rfl, rfl, ho⟩; refine gA ?_
 refine oA (encP p0).toArray fun b4 => ?_
 refine oS (encP p) rfl (xL _) ?_
 refine gg ?_
 cases ok with
 | false =>
  rw [if_neg (by simp)] at ho
  rw [JQ ho, List.append_nil] at hls
  have hnx : NextQ (seqE s) (okay ps) (p0, 4) := ⟨[], by unfold seqE; rw [hls]; rfl⟩
  refine gg ?_
  refine oT [] (encP p0).toArray ?_
  refine ze fun K hK => ?_
  refine xy (hY (okay ps) (p0, 4) hnx) hJ rfl tkA (fun C4 H4 hJ4 hH4 => ?_) (fun C4 H4 hJ4 hH4 => ?_)
  ·subst hH4
   (try simp only [List.nil_append])
   refine hK _ _ ?_; clear hK K
   refine gg ?_
   refine xE [C4, bx c (.string (str s)) 9] ⟨C4, _, rfl, .inl ⟨_, by unfold seqE; rw [hls]; rfl, hJ4, rfl⟩⟩
  ·subst hH4
   (try simp only [List.nil_append])
   refine hK _ _ ?_; clear hK K
   refine gg ?_
   refine xE [C4, bx c (.string (str s)) 9] ⟨C4, _, rfl, .inr ⟨_, _, hnx, hJ4, rfl⟩⟩
 | true =>
  rw [if_pos rfl] at ho
  obtain ⟨l1, hl1⟩ := Ip ho
  have h1l := (XD ho).2.1
  have hnx : NextQ (seqE s) (okay ps) (p, 0) := ⟨seqL l1 (jg t).2, by unfold seqE; rw [hls, hl1]; simp [seqL]⟩
  refine gg ?_
  refine oL (encP p) rfl ?_
  refine ze fun K hK => ?_
  refine xy (hY (okay ps) (p, 0) hnx) hJ rfl tkA (fun C4 H4 hJ4 hH4 => ?_) (fun C4 H4 hJ4 hH4 => ?_)
  ·subst hH4
   (try simp only [List.nil_append])
   refine hK _ _ ?_; clear hK K
   have hJ5 : J (okay (ps ++ [p])) C4 := by rw [show okay (ps ++ [p]) = okay ps ++ [(p, 0)] from by simp]; exact hJ4
   refine gg ?_
   cases hr : r with
   | nil =>
    subst hr
    rw [kW ho] at hls
    (try rw [beq_self_eq_true])
    (try refine gg ?_)
    refine xE [C4, bx c (.string (str s)) 9] ⟨C4, _, rfl, .inl ⟨_, by unfold seqE; rw [hls]; simp [seqL], hJ5, rfl⟩⟩
   | cons d r2 =>
    rw [<- hr]
    have hr0 : r ≠ [] := by rw [hr]; simp
    rw [beq_eq_false_iff_ne.2 hr0]
    refine gg ?_
    have l2 := xD r
    refine cA (jW b3 r (by omega)) ?_; rintro v A ⟨rfl, rfl⟩; refine gA ?_
    (try rw [show Value.int .u8 44 = b8 44 from rfl])
    refine cA (jJ b3 (zl r) 44 (by omega)) ?_; rintro v A ⟨rfl, rfl⟩; refine gA ?_
    have l3 := qZ (zl r) 44
    cases h1 : (zK (zl r) 44).1 with
    | false =>
     rw [yK ho hr0 h1] at hls
     have hnx2 : NextQ (seqE s) (okay (ps ++ [p])) (p0, 4) := ⟨[], by unfold seqE; rw [hls]; rfl⟩
     refine gg ?_
     refine oT [] (encP p0).toArray ?_
     refine ze fun K hK => ?_
     refine xy (hY (okay (ps ++ [p])) (p0, 4) hnx2) hJ5 rfl tkA (fun C5 H5 hJ6 hH5 => ?_) (fun C5 H5 hJ6 hH5 => ?_)
     ·subst hH5
      (try simp only [List.nil_append])
      refine hK _ _ ?_; clear hK K
      refine gg ?_
      refine xE [C5, bx c (.string (str s)) 9] ⟨C5, _, rfl, .inl ⟨_, by unfold seqE; rw [hls]; rfl, hJ6, rfl⟩⟩
     ·subst hH5
      (try simp only [List.nil_append])
      refine hK _ _ ?_; clear hK K
      refine gg ?_
      refine xE [C5, bx c (.string (str s)) 9] ⟨C5, _, rfl, .inr ⟨_, _, hnx2, hJ6, rfl⟩⟩
    | true =>
     rw [XI ho hr0 h1] at hls
     have l4 := xD (zK (zl r) 44).2
     have l5 := jI _ _ h1
     refine gg ?_
     refine cA (jW b3 (zK (zl r) 44).2 (by omega)) ?_; rintro v A ⟨rfl, rfl⟩; refine gA ?_
     exact zA ⟨ps ++ [p], zl (zK (zl r) 44).2, C4, hJ5, by omega, by rw [hls]; simp, rfl, rfl, rfl, rfl⟩
  ·subst hH4
   (try simp only [List.nil_append])
   refine hK _ _ ?_; clear hK K
   refine gg ?_
   refine xE [C4, bx c (.string (str s)) 9] ⟨C4, _, rfl, .inr ⟨_, _, hnx, hJ4, rfl⟩⟩
theorem Um {t : List UInt8} (h : (zK t 32).1 = true) : t.dropWhile (fun c => c == 32) = (zK t 32).2.dropWhile (fun c => c == 32) := by
 have e := Xm h
 generalize (zK t 32).2 = r at *
 rw [e, List.dropWhile_cons, if_pos (beq_self_eq_true _)]
theorem IT {t : List UInt8} (h : (zK t 32).1 = false) : t.dropWhile (fun c => c == 32) = t := by
 cases t with
 | nil => rfl
 | cons d r =>
  by_cases hd : d = 32
  ·rw [hd, sign_yes] at h; cases h
  ·rw [List.dropWhile_cons, if_neg (by simpa using hd)]
theorem QE (l : List Par) : l.length <= Xb l := by
 induction l with
 | nil => exact Nat.le_refl _
 | cons p l ih => show l.length + 1 <= p.n.length + p.v.length + 1 + Xb l; omega
theorem YS {s : List UInt8} (h : 4096 < s.length) : jf s = ([], 3) := by unfold jf; rw [if_pos h]
theorem ZF {s : List UInt8} (h : ¬ 4096 < s.length) (h2 : lowL (tokL s) ≠ Wj ∨ (zK (tokR s) 32).1 = false) : jf s = ([], 4) := by unfold jf; rw [if_neg h, if_pos h2]
theorem YT {s : List UInt8} (h : ¬ 4096 < s.length) (h2 : lowL (tokL s) = Wj) (h3 : (zK (tokR s) 32).1 = true) :
  jf s = if (jg (qJ s)).2 = false then ([], 4) else if cntE (jg (qJ s)).1 ≠ 0 then ([], cntE (jg (qJ s)).1) else ((jg (qJ s)).1, 0) := by
 unfold jf; rw [if_neg h, if_neg (by rw [not_or]; exact ⟨fun e => e h2, by rw [h3]; simp⟩)]
theorem YR (s : List UInt8) (hs : s.length <= 100000) : Meets Tryz.prog 107 [.string (str s)] []
  fun v A => ∃ X a k, v = .tuple #[.slice a (jf s).1.length k, .int .i64 (jf s).2] /\ OwnP X a k (jf s).1 /\ A = [X] := by
 refine eN Tryz.func107 Tryz.ntmps107 Tryz.results107 fun F => ?_
 refine zE ?_
 refine gg ?_
 refine ze fun K hK => ?_; refine zv fun b2 => ?_; (try simp only [Value.cells]); refine hK _ _ ?_; clear hK K
 refine ze fun K hK => ?_; refine zv fun b3 => ?_; (try simp only [Value.cells]); refine hK _ _ ?_; clear hK K
 refine gg ?_
 by_cases h1 : 4096 < s.length
 ·rw [YS h1, decide_eq_true (show (4096 : Int) < s.length by omega)]
  refine gg ?_
  refine zf (vs := [.slice none 0 0, .int .i64 3]) [[]] ⟨[], none, 0, rfl, own_nil, rfl⟩
 rw [decide_eq_false (show ¬ (4096 : Int) < s.length by omega)]
 refine gg ?_
 refine oT [(0, .string (str s))] #[.string (str s)] ?_
 refine gg ?_
 refine oB fun b4 => ?_
 refine gg ?_
 have l1 := KT s
 have l2 := Xh s
 have l3 := qZ (tokR s) 32
 refine cA (qb b4 s hs) ?_; rintro v A ⟨rfl, rfl⟩; refine gA ?_
 refine cA (qP (tokL s) (by omega)) ?_; rintro v A ⟨rfl, rfl⟩; refine gA ?_
 by_cases h2 : lowL (tokL s) = Wj
 ·rw [bne_eq_false_iff_eq.2 (show lowL (tokL s) = [100, 105, 103, 101, 115, 116] from h2)]
  refine gg ?_
  (try rw [show Value.int .u8 32 = b8 32 from rfl])
  refine cA (jJ b4 (tokR s) 32 (by omega)) ?_; rintro v A ⟨rfl, rfl⟩; refine gA ?_
  cases h3 : (zK (tokR s) 32).1 with
  | false =>
   rw [ZF h1 (.inr h3)]
   refine gg ?_
   refine zf (vs := [.slice none 0 0, .int .i64 4]) [[]] ⟨[], none, 0, rfl, own_nil, rfl⟩
  | true =>
   rw [YT h1 h2 h3]
   have hre : qJ s = (zK (tokR s) 32).2.dropWhile (fun c => c == 32) := rfl
   have hrl := yA s
   have hall := list_len _ (qJ s) (Nat.le_refl _)
   have hcn := QE (jg (qJ s)).1
   generalize qJ s = r at *
   refine gg ?_
   refine zB (fun q D L S => ∃ t : List UInt8, t.length <= s.length /\ t.dropWhile (fun c => c == 32) = r /\ q = t.length /\ D = [] /\ L = [(4, .pointer (some ⟨b4, 0, none⟩)), (2, .pointer (some ⟨b2, 0, none⟩)), (3, .pointer (some ⟨b3, 0, none⟩))] /\
    S = [scB b4 t, bx b3 (.int .i64 0) 35, bx b2 (.slice none 0 0) 208, [], F])
    ⟨(zK (tokR s) 32).2, by omega, hre.symm, rfl, rfl, rfl, rfl⟩ ?_
   rintro q D L S ⟨t, htl, htr, rfl, rfl, rfl, rfl⟩
   refine gg ?_
   (try rw [show Value.int .u8 32 = b8 32 from rfl])
   refine cA (jJ b4 t 32 (by omega)) ?_; rintro v A ⟨rfl, rfl⟩; refine gA ?_
   cases h4 : (zK t 32).1 with
   | true =>
    have l5 := jI _ _ h4
    rw [Um h4] at htr
    refine gg ?_
    exact zA ⟨(zK t 32).2, by omega, htr, rfl, rfl, rfl, rfl⟩
   | false =>
    rw [IT h4] at htr
    rw [Of _ _ h4, htr]
    clear htr htl h4 hre l1 l2 l3
    refine gg ?_
    refine ze fun K hK => ?_; refine zv fun b5 => ?_; (try simp only [Value.cells]); refine hK _ _ ?_; clear hK K
    refine gg ?_
    refine cA (Uk r) ?_; rintro v A ⟨cc, rfl, rfl⟩; refine gA ?_
    refine zE ?_
    refine xH (by (try simp only [evT, lookT_hit, lookT_miss, Nat.reduceBEq]); (first | done | exact rfl)) (Oq cc r (by omega)) (by (repeat (first | exact Take.nil _ | with_reducible exact Pick.head _ _ | with_reducible apply Pick.tail | with_reducible apply Take.cons))) (fun pre C => ∃ (ps : List Par) (X : Chunk) (xa : Option Addr) (xc : Nat), pre = okay ps /\ OwnP X xa xc ps /\
      C = [X, bx b5 (.slice xa ps.length xc) 208, scB b4 r, bx b3 (.int .i64 0) 35, bx b2 (.slice none 0 0) 208, [], F])
     (fun k pre C => k = .ret /\ (jg r).2 = false /\ C = [bx b3 (.int .i64 4) 35, bx b2 (.slice none 0 0) 208, [], F]) (fun h => by cases h) (fun C hC => ⟨[], C.flatten, rfl, by simp⟩) (fun _ => rfl)
     ⟨[], [], none, 0, rfl, own_nil, rfl⟩ ?_ ?_ ?_
    ·rintro l F1 C H r' pre x ⟨suf, hx⟩ ⟨ps, X, xa, xc, rfl, hX, rfl⟩ rfl
     obtain ⟨p, e⟩ := x
     have hsc := Js hx
     (try simp only [List.nil_append, List.cons_append, List.append_nil, IP])
     (try simp only [jm, putT, Nat.reduceLT, if_true, reduceIte, Array.toList, List.toList_toArray])
     refine gg ?_
     refine oA (encP p0).toArray fun b6 => ?_
     refine oS (encP p) rfl (xL _) ?_
     refine gg ?_
     refine ⟨_, .cons (.tail _ (.head _ _)) (Among.refl _), fun r'' _ => ?_⟩
     refine gg ?_
     rcases hsc with ⟨rfl, suf', hl⟩ | ⟨rfl, hl, hok⟩
     ·have hpl : ps.length < (jg r).1.length := by rw [hl]; simp
      refine gg ?_
      refine oL (encP p) rfl ?_
      refine ze fun K hK => ?_; refine xd (e := 210) (s := 3) (hs := inferInstance) (vs := encP p) (by rfl) (by decide) (by decide) rfl (fun b1 C1 ho1 => ?_); refine hK _ _ ?_; clear hK K
      refine ze fun K hK => ?_; refine zu (e := 210) (s := 3) (hs := inferInstance) (by rfl) (by decide) hX (.inr pkA) (ho1.rd mmA) (xL _) (by simp only [maxLen]; omega) (by omega) (fun C3 a3 cap3 ho3 => ?_); refine hK _ _ ?_; clear hK K
      have e1 : ps.length + 1 = (ps ++ [p]).length := by simp
      have e2 : ps.flatMap encP ++ encP p = (ps ++ [p]).flatMap encP := by simp
      rw [e1, e2] at ho3
      rw [e1]
      refine gg ?_
      exact ⟨_, ⟨_, [], rfl, ⟨ps ++ [p], C3, a3, cap3, by simp, ho3, rfl⟩, rfl⟩, by (try simp only [List.append_nil]); first | ((repeat (first | with_reducible exact Among.nil _ | with_reducible exact Pick.head _ _ | with_reducible apply Pick.tail | with_reducible apply Among.cons)); done) | ((repeat (first | exact Among.nil _ | exact Pick.head _ _ | apply Pick.tail | apply Among.cons)); done)⟩
     ·refine gg ?_
      exact ⟨_, ⟨_, [], rfl, ⟨rfl, hok, rfl⟩, rfl⟩, by (try simp only [List.append_nil]); first | ((repeat (first | with_reducible exact Among.nil _ | with_reducible exact Pick.head _ _ | with_reducible apply Pick.tail | with_reducible apply Among.cons)); done) | ((repeat (first | exact Among.nil _ | exact Pick.head _ _ | apply Pick.tail | apply Among.cons)); done)⟩
    ·rintro d pre C A hd ⟨ps, X, xa, xc, rfl, hX, rfl⟩ rfl
     obtain ⟨hps, hok⟩ := Wi hd
     rw [if_neg (by rw [hok]; simp), <- hps]
     rw [<- hps] at hcn hall
     (try simp only [List.nil_append, List.cons_append])
     refine gg ?_
     refine cA (wO hX (by omega)) ?_; rintro v A ⟨rfl, rfl⟩; refine gA ?_
     by_cases h5 : cntE ps = 0
     ·rw [if_neg (by simp [h5]), h5]
      refine gg ?_
      refine zf (vs := [.slice xa ps.length xc, .int .i64 0]) [X] ⟨X, xa, xc, rfl, hX, rfl⟩
     ·rw [if_pos h5, bne_iff_ne.2 h5]
      refine gg ?_
      refine zf (vs := [.slice none 0 0, .int .i64 (cntE ps)]) [[]] ⟨[], none, 0, rfl, own_nil, rfl⟩
    ·rintro d k pre x C A hx ⟨rfl, hok, rfl⟩ rfl
     rw [if_pos hok]
     (try simp only [List.nil_append, List.cons_append])
     refine gg ?_
     refine zf (vs := [.slice none 0 0, .int .i64 4]) [[]] ⟨[], none, 0, rfl, own_nil, rfl⟩
 ·rw [bne_iff_ne.2 (show lowL (tokL s) ≠ [100, 105, 103, 101, 115, 116] from h2), ZF h1 (.inl h2)]
  refine gg ?_
  refine zf (vs := [.slice none 0 0, .int .i64 4]) [[]] ⟨[], none, 0, rfl, own_nil, rfl⟩
abbrev fB (b : Nat) (a : Option Addr) (n k : Nat) (f : Fl) : Chunk := [(b, .cells #[.slice a n k, .bool f.1, .bool f.2] 219 (0, 0))]
instance tpFields : TPlaces Tryz.prog 219 [(0, 1), (1, 1), (2, 1)] := ⟨by kernel_rfl⟩
theorem find_at {l : List Par} {n : List UInt8} {i : Nat} (h : i < l.length) (hno : ((l.take i).find? fun p => p.n == n) = none) (hf : ((l.getD i p0).n == n) = true) : hasB l n = true /\ gotP l n = l.getD i p0 := by
 have e : l = l.take i ++ l.getD i p0 :: l.drop (i + 1) := by
  have h2 : l.drop i = l.getD i p0 :: l.drop (i + 1) := by
   rw [List.drop_eq_getElem_cons h, List.getD_eq_getElem?_getD, List.getElem?_eq_getElem h]; rfl
  rw [<- h2, List.take_append_drop]
 have hfi : (l.find? fun p => p.n == n) = some (l.getD i p0) := by
  generalize l.getD i p0 = x at *
  generalize l.take i = a at *
  rw [e, List.find?_append, hno, Option.none_or, List.find?_cons, hf]
 unfold hasB gotP
 rw [hfi]; exact ⟨rfl, rfl⟩
theorem IL {l : List Par} {n : List UInt8} {i : Nat} (h : i < l.length) (hno : ((l.take i).find? fun p => p.n == n) = none) (hf : ((l.getD i p0).n == n) = false) : ((l.take (i + 1)).find? fun p => p.n == n) = none := by
 rw [List.take_add_one, List.find?_append, hno, Option.none_or, qE l i h]
 show List.find? _ [l.getD i p0] = none
 rw [List.find?_cons, hf]; rfl
theorem IK {l : List Par} {n : List UInt8} (h : (l.find? fun p => p.n == n) = none) : hasB l n = false /\ gotP l n = p0 := by
 unfold hasB gotP; rw [h]; exact ⟨rfl, rfl⟩
section f
variable {X : Chunk} {xa : Option Addr} {xc : Nat} {l : List Par} {b : Nat}
theorem ZO (hX : OwnP X xa xc l) (hl : l.length <= 100000) (f : Fl) (n : List UInt8) : Meets Tryz.prog 158 [.pointer (some ⟨b, 0, none⟩), .string (str n)] [fB b xa l.length xc f, X]
  fun v A => v = .tuple #[.agg (encP (gotP l n)).toArray, .bool (hasB l n)] /\ A = [fB b xa l.length xc f, X] := by
 have hs := wh
 refine eN Tryz.func158 Tryz.ntmps158 Tryz.results158 fun F => ?_
 refine gg ?_
 refine oA (encP p0).toArray fun b4 => ?_
 refine gg ?_
 refine zB (fun q D L S => ∃ i : Nat, i <= l.length /\ ((l.take i).find? fun p => p.n == n) = none /\ q = l.length - i /\ D = [] /\
  L = [(13, .int .i64 i), (12, .int .i64 l.length), (11, .slice xa l.length xc), (4, .pointer (some ⟨b4, 0, none⟩)), (1, .string (str n))] /\ S = [dpB b4 p0, fB b xa l.length xc f, X, F])
  ⟨0, by omega, rfl, rfl, rfl, rfl, rfl⟩ ?_
 rintro q D L S ⟨i, hi, hno, rfl, rfl, rfl, rfl⟩
 refine gg ?_
 refine if_d (fun hc => ?_) (fun hc => ?_)
 ·have hil : i < l.length := by omega
  have hx := qE l i hil
  refine gg ?_
  refine ze fun K hK => ?_; refine xe hX hs hx (by decide) mmA ?_; refine hK _ _ ?_; clear hK K
  refine oA (encP p0).toArray fun b7 => ?_
  refine oS (encP (l.getD i p0)) rfl (xL _) ?_
  refine gg ?_
  cases hb : ((l.getD i p0).n == n) with
  | true =>
   obtain ⟨e1, e2⟩ := find_at hil hno hb
   rw [e1, e2]
   refine gg ?_
   refine oL (encP (l.getD i p0)) rfl ?_
   refine oS (encP (l.getD i p0)) rfl (xL _) ?_
   refine gg ?_
   refine zf (vs := [.agg (encP (l.getD i p0)).toArray, .bool true]) [fB b xa l.length xc f, X] ⟨rfl, rfl⟩ (hr := by (intro κ hκ; simp only [resW, withV, lookT_hit, lookT_miss, Nat.reduceBEq]; exact zm (vs := encP (l.getD i p0)) lkA rfl hκ))
  | false =>
   refine gg ?_
   exact zA ⟨i + 1, by omega, IL hil hno hb, rfl, rfl, rfl, rfl⟩
 ·obtain rfl : i = l.length := by omega
  rw [List.take_length] at hno
  obtain ⟨e1, e2⟩ := IK hno
  rw [e1, e2]
  refine gg ?_
  refine oT [] (encP p0).toArray ?_
  refine gg ?_
  refine oS (encP p0) rfl (xL _) ?_
  refine gg ?_
  refine zf (vs := [.agg (encP p0).toArray, .bool false]) [fB b xa l.length xc f, X] ⟨rfl, rfl⟩ (hr := by (intro κ hκ; simp only [resW, withV, lookT_hit, lookT_miss, Nat.reduceBEq]; exact zm (vs := encP p0) lkA rfl hκ))
theorem jh (hX : OwnP X xa xc l) (hl : l.length <= 100000) (f : Fl) (n : List UInt8) (q : Bool) : Meets Tryz.prog 108 [.pointer (some ⟨b, 0, none⟩), .string (str n), .bool q] [fB b xa l.length xc f, X]
  fun v A => v = .string (str (gotP l n).v) /\ A = [fB b xa l.length xc (getF l n q f), X] := by
 obtain ⟨lo, ba⟩ := f
 refine eN Tryz.func108 Tryz.ntmps108 Tryz.results108 fun F => ?_
 refine gg ?_
 refine cA (ZO hX hl (lo, ba) n) ?_; rintro v A ⟨rfl, rfl⟩; refine gA ?_
 refine oA (encP p0).toArray fun b7 => ?_
 refine oS (encP (gotP l n)) rfl (xL _) ?_
 unfold getF
 generalize gotP l n = p
 generalize hasB l n = h
 refine gg ?_
 cases lo with
 | true =>
  refine gg ?_
  refine gM ?_
  refine gg ?_
  cases ba with
  | true =>
   refine gg ?_
   refine gM ?_
   refine gg ?_
   refine zb [fB b xa l.length xc (true, true), X] ?_; exact ⟨rfl, rfl⟩
  | false =>
   refine gg ?_
   refine gM ?_
   refine gg ?_
   refine zb [fB b xa l.length xc (true, p.q != q), X] ?_; exact ⟨rfl, rfl⟩
 | false =>
  refine gg ?_
  refine gM ?_
  refine gg ?_
  cases ba with
  | true =>
   refine gg ?_
   refine gM ?_
   refine gg ?_
   refine zb [fB b xa l.length xc (!h, true), X] ?_; exact ⟨rfl, rfl⟩
  | false =>
   refine gg ?_
   refine gM ?_
   refine gg ?_
   refine zb [fB b xa l.length xc (!h, p.q != q), X] ?_; exact ⟨rfl, rfl⟩
theorem qo (f : Fl) (ok : Bool) : Meets Tryz.prog 113 [.pointer (some ⟨b, 0, none⟩), .bool ok] [fB b xa l.length xc f] fun v A => v = .tuple #[] /\ A = [fB b xa l.length xc (vm ok f)] := by
 obtain ⟨lo, ba⟩ := f
 refine eN Tryz.func113 Tryz.ntmps113 Tryz.results113 fun F => ?_
 refine gg ?_
 cases ba with
 | true =>
  refine gg ?_
  refine gM ?_
  refine zJ [fB b xa l.length xc (lo, true)] ⟨rfl, rfl⟩
 | false =>
  refine gg ?_
  refine gM ?_
  refine zJ [fB b xa l.length xc (lo, !ok)] ⟨rfl, rfl⟩
theorem ZL (f : Fl) (s : List UInt8) : Meets Tryz.prog 109 [.pointer (some ⟨b, 0, none⟩), .string (str s)] [fB b xa l.length xc f] fun v A => v = .string (str s) /\ A = [fB b xa l.length xc (vm (sizB s) f)] := by
 unfold sizB
 refine eN Tryz.func109 Tryz.ntmps109 Tryz.results109 fun F => ?_
 refine gg ?_
 cases hb : (s != []) with
 | false =>
  refine gg ?_
  refine cA (qo f false) ?_; rintro v A ⟨rfl, rfl⟩; refine gA ?_
  refine zb [fB b xa l.length xc (vm false f)] ?_; exact ⟨rfl, rfl⟩
 | true =>
  refine gg ?_
  refine cA (qo f (decide ((s.length : Int) <= 64))) ?_; rintro v A ⟨rfl, rfl⟩; refine gA ?_
  refine zb [fB b xa l.length xc (vm (decide ((s.length : Int) <= 64)) f)] ?_; exact ⟨rfl, rfl⟩
theorem II (hX : OwnP X xa xc l) (hl : l.length <= 100000) (f : Fl) (n o : List UInt8) (q : Bool) : Meets Tryz.prog 110 [.pointer (some ⟨b, 0, none⟩), .string (str n), .bool q, .string (str o)] [fB b xa l.length xc f, X]
  fun v A => v = .string (str (if hasB l n = true then (gotP l n).v else o)) /\ A = [fB b xa l.length xc (mayF l n q f), X] := by
 unfold mayF
 refine eN Tryz.func110 Tryz.ntmps110 Tryz.results110 fun F => ?_
 refine gg ?_
 refine cA (ZO hX hl f n) ?_; rintro v A ⟨rfl, rfl⟩; refine gA ?_
 refine oA (encP p0).toArray fun b7 => ?_
 refine oS (encP (gotP l n)) rfl (xL _) ?_
 cases hh : hasB l n with
 | false =>
  refine gg ?_
  refine zb [fB b xa l.length xc f, X] ?_; exact ⟨rfl, rfl⟩
 | true =>
  refine gg ?_
  refine cA (jh hX hl f n q) ?_; rintro v A ⟨rfl, rfl⟩; refine gA ?_
  refine zb [fB b xa l.length xc (getF l n q f), X] ?_; exact ⟨rfl, rfl⟩
theorem ZQ (f : Fl) : Meets Tryz.prog 115 [.pointer (some ⟨b, 0, none⟩)] [fB b xa l.length xc f] fun v A => v = .int .i64 (endF f) /\ A = [fB b xa l.length xc f] := by
 obtain ⟨lo, ba⟩ := f
 refine eN Tryz.func115 Tryz.ntmps115 Tryz.results115 fun F => ?_
 refine gg ?_
 cases lo with
 | true =>
  refine gg ?_
  refine zb [fB b xa l.length xc (true, ba)] ?_; exact ⟨rfl, rfl⟩
 | false =>
  refine gg ?_
  cases ba with
  | true =>
   refine gg ?_
   refine zb [fB b xa l.length xc (false, true)] ?_; exact ⟨rfl, rfl⟩
  | false =>
   refine gg ?_
   refine zb [fB b xa l.length xc (false, false)] ?_; exact ⟨rfl, rfl⟩
theorem Ku (hX : OwnP X xa xc l) (hl : l.length <= 100000) (hb : ∀ p ∈ l, p.v.length <= 100000) (f : Fl) (q : Bool) : Meets Tryz.prog 111 [.pointer (some ⟨b, 0, none⟩), .bool q] [fB b xa l.length xc f, X]
  fun v A => v = .tuple #[] /\ A = [fB b xa l.length xc (comF l q f), X] := by
 have e1 : Value.string ⟨#[113, 111, 112]⟩ = .string (str nQop) := rfl
 have e2 : Value.string ⟨#[97, 108, 103, 111, 114, 105, 116, 104, 109]⟩ = .string (str nAlg) := rfl
 have e3 : Value.string ⟨#[83, 72, 65, 45, 50, 53, 54]⟩ = .string (str nSum) := rfl
 have hal : (gotP l nAlg).v.length <= 100000 := by
  unfold gotP
  cases hf : l.find? fun p => p.n == nAlg with
  | none => show (0 : Nat) <= _; omega
  | some p => exact hb p (List.mem_of_find?_eq_some hf)
 unfold comF
 refine eN Tryz.func111 Tryz.ntmps111 Tryz.results111 fun F => ?_
 refine gg ?_
 (try rw [e1])
 refine cA (jh hX hl f nQop q) ?_; rintro v A ⟨rfl, rfl⟩; refine gA ?_
 refine cA (qo (getF l nQop q f) ((gotP l nQop).v == nAuth)) ?_; rintro v A ⟨rfl, rfl⟩; refine gA ?_
 (try rw [e2])
 refine cA (jh hX hl _ nAlg false) ?_; rintro v A ⟨rfl, rfl⟩; refine gA ?_
 refine cA (qP (gotP l nAlg).v hal) ?_; rintro v A ⟨rfl, rfl⟩; refine gA ?_
 (try rw [e3])
 refine cA (qP nSum (by decide)) ?_; rintro v A ⟨rfl, rfl⟩; refine gA ?_
 refine cA (qo _ (lowL (gotP l nAlg).v == lowL nSum)) ?_; rintro v A ⟨rfl, rfl⟩; refine gA ?_
 refine zJ [fB b xa l.length xc (comF l q f), X] ⟨rfl, rfl⟩
end f
theorem all_in {l : List Par} {p : Par} (h : p ∈ l) : p.n.length + p.v.length + 1 <= Xb l := by
 induction l with
 | nil => cases h
 | cons a l ih =>
  show _ <= a.n.length + a.v.length + 1 + Xb l
  rcases List.mem_cons.1 h with rfl | h
  ·omega
  ·have := ih h; omega
theorem VE (s : List UInt8) : (jf s).1.length <= s.length /\ ∀ p ∈ (jf s).1, p.n.length + p.v.length <= s.length := by
 have h1 := list_len _ (qJ s) (Nat.le_refl _)
 have h2 := yA s
 have h3 := QE (jg (qJ s)).1
 unfold jf
 split
 ·exact ⟨by simp, fun p hp => by cases hp⟩
 split
 ·exact ⟨by simp, fun p hp => by cases hp⟩
 split
 ·exact ⟨by simp, fun p hp => by cases hp⟩
 split
 ·exact ⟨by simp, fun p hp => by cases hp⟩
 ·refine ⟨by show (jg (qJ s)).1.length <= _; omega, fun p hp => ?_⟩
  have := all_in (l := (jg (qJ s)).1) hp
  omega
open Go.RowKit Go.Sha Go.Shelf
theorem JV (d : List UInt8) (c : UInt8) : Meets Tryz.prog 160 [.string (str d), b8 c] [] fun v A => v = .int .i64 (Lib.indexByte d c) /\ A = [] := by
 have h : Meets Tryz.prog 160 [.string (str d), b8 c] [] fun v A => v = .int .i64 (Lib.indexByte d c) /\ A = [[]] := by
  refine jF rfl rfl (by kernel_rfl) fun w hw => ?_
  refine (Any.strings_IndexByte laysI ⟨d.toArray⟩ c.toNat w).mono ?_
  rintro e w' ⟨rfl, rfl⟩
  refine ⟨_, rfl, Below.refl _ _, [], fun k o hm => (by cases hm), by simp, ?_, rfl⟩
  rw [show ((c.toNat : Int).toNat.toUInt8) = c from by simp]
 refine Meets.conv [] h rfl (.nil _) ?_
 rintro v A ⟨rfl, rfl⟩
 exact ⟨[], [[]], rfl, Among.refl _, rfl, rfl⟩
def prs : List UInt8 -> List (List UInt8)
 | [] => []
 | [a] => [[a]]
 | a :: b :: r => [a, b] :: prs r
theorem WA : ∀ (s : List UInt8), s ≠ [] -> prs s = s.take 2 :: prs (s.drop 2)
 | [], h => (h rfl).elim
 | [a], _ => rfl
 | a :: b :: r, _ => rfl
abbrev encG (x : List UInt8) : List Value := [.string (str x)]
abbrev sb (c : Nat) (s : List UInt8) : Chunk := bx c (.string (str s)) 9
abbrev ib (c : Nat) : Chunk := bx c (.int .i64 2) 3
abbrev NextG (q pre : List (List UInt8)) (x : List UInt8) : Prop := ∃ suf, q = pre ++ x :: suf
theorem Kb (s : List UInt8) : Meets Tryz.prog 159 [.string (str s), .int .i64 2] []
  fun u A => ∃ c1 c2, u = .func (.func 208) #[] #[.pointer (some ⟨c1, 0, none⟩), .pointer (some ⟨c2, 0, none⟩)] /\ A = [sb c1 s, ib c2] := by
 refine eN Tryz.func159 Tryz.ntmps159 Tryz.results159 fun F => ?_
 refine gg ?_
 refine oB fun c1 => ?_
 refine oB fun c2 => ?_
 refine gg ?_
 refine zb [sb c1 s, ib c2] ⟨c1, c2, rfl, rfl⟩
theorem Kd (c1 c2 : Nat) (s : List UInt8) (hs : s.length <= 100000) :
  IMeetsG Tryz.prog 208 [] [.pointer (some ⟨c1, 0, none⟩), .pointer (some ⟨c2, 0, none⟩)] encG [sb c1 s, ib c2]
   (fun T => T = []) noH noH noH (NextG (prs s)) (fun pre => pre = prs s)
   (fun _ A => ∃ r, A = [sb c1 r, ib c2]) (fun _ A => ∃ r, A = [sb c1 r, ib c2]) false := by
 refine jB (by kernel_rfl) fun l0 J Jx hN hT hY C hC => ?_
 refine eN Tryz.func208 Tryz.ntmps208 Tryz.results208 fun F => ?_
 refine gg ?_
 refine zB (fun q D L S => ∃ (pre : List (List UInt8)) (t : List UInt8) (C' : Chunk), J pre C' /\ t.length <= s.length /\ prs s = pre ++ prs t /\ q = t.length /\ D = [] /\
  L = [(0, .func (.yield l0) #[] #[]), (1, .pointer (some ⟨c1, 0, none⟩)), (2, .pointer (some ⟨c2, 0, none⟩))] /\ S = [C', sb c1 t, ib c2, F])
  ⟨[], s, C, hC, Nat.le_refl _, rfl, rfl, rfl, rfl, rfl⟩ ?_
 rintro q D L S ⟨pre, t, C', hJ, htl, hps, rfl, rfl, rfl, rfl⟩
 refine gg ?_
 by_cases ht : t = []
 ·subst ht
  (try rw [decide_eq_false (show ¬ (0 : Int) < (([] : List UInt8).length : Nat) by simp)])
  refine gg ?_
  refine zJ [C', sb c1 [], ib c2] ⟨C', _, rfl, .inl ⟨pre, by rw [hps]; simp [prs], hJ, [], rfl⟩⟩
 ·have hp : 0 < t.length := List.length_pos_iff.2 ht
  rw [decide_eq_true (show (0 : Int) < t.length by omega)]
  refine gg ?_
  have em : (if (2 : Int) < t.length then (2 : Int) else t.length) = ((t.take 2).length : Nat) := by rw [List.length_take]; split <;> omega
  have hl2 : (t.take 2).length <= t.length := by rw [List.length_take]; omega
  have et : t.take (t.take 2).length = t.take 2 := by
   rw [List.length_take]
   rcases Nat.le_total 2 t.length with h | h
   ·rw [Nat.min_eq_left h]
   ·rw [Nat.min_eq_right h, List.take_length, List.take_of_length_le h]
  have ed : t.drop (t.take 2).length = t.drop 2 := by
   rw [List.length_take]
   rcases Nat.le_total 2 t.length with h | h
   ·rw [Nat.min_eq_left h]
   ·rw [Nat.min_eq_right h, List.drop_length, List.drop_eq_nil_of_le h]
  (try rw [em])
  (try refine gg ?_)
  (try rw [show (((t.take 2).length : Nat) : Int).toNat = (t.take 2).length from by omega])
  rw [et]
  have hnx : NextG (prs s) pre (t.take 2) := ⟨prs (t.drop 2), by rw [hps, WA t ht]⟩
  refine ze fun K hK => ?_
  refine xy (hY pre (t.take 2) hnx) hJ rfl tkA (fun C4 H4 hJ4 hH4 => ?_) (fun C4 H4 hJ4 hH4 => ?_)
  ·subst hH4
   (try simp only [List.nil_append])
   refine hK _ _ ?_; clear hK K
   refine gg ?_
   rw [ed]
   refine gg ?_
   exact zA ⟨pre ++ [t.take 2], t.drop 2, C4, hJ4, by rw [List.length_drop]; omega, by rw [hps, WA t ht]; simp, rfl, rfl, rfl, rfl⟩ (by rw [List.length_drop]; omega)
  ·subst hH4
   (try simp only [List.nil_append])
   refine hK _ _ ?_; clear hK K
   refine gg ?_
   refine xE [C4, sb c1 t, ib c2] ⟨C4, _, rfl, .inr ⟨pre, _, hnx, hJ4, t, rfl⟩⟩
theorem WR {P : Program} {t : TypeId} {x y : Operand} {j : IntKind} {a : Int} {κ : Value -> Prop} (a0 : 0 <= a) (a1 : a <= 1000000) : PureW P (do eqGuard .shl t x y (.int .i64 a) (.int j 4); binOp .shl t (.int .i64 a) (.int j 4)) κ = κ (.int .i64 (a * 16)) :=
 zk (fun w => by
  have e : min (4 : Int).toNat IntKind.i64.bits = 4 := rfl
  show (Op.shift .shl .i64 a j 4).run P w = _
  rw [Op.shift, if_neg (by decide), e]
  show Result.ok (Value.int .i64 (IntKind.i64.wrap (a * 2 ^ 4))) w = _
  rw [show (2 : Int) ^ 4 = 16 from rfl, vL (by omega) (by omega)]) κ
theorem WS {P : Program} {t : TypeId} {x y : Operand} {a b : Int} {κ : Value -> Prop} (a0 : 0 <= a) (a1 : a <= 1000000) (b0 : 0 <= b) (b1 : b < 16) : PureW P (do eqGuard .or t x y (.int .i64 (a * 16)) (.int .i64 b); binOp .or t (.int .i64 (a * 16)) (.int .i64 b)) κ = κ (.int .i64 (a * 16 + b)) :=
 zk (fun w => by
  obtain ⟨m, rfl⟩ : ∃ m : Nat, a = m := ⟨a.toNat, by omega⟩
  obtain ⟨k, rfl⟩ : ∃ k : Nat, b = k := ⟨b.toNat, by omega⟩
  show Result.ok (Value.int .i64 (IntKind.i64.wrap ((BitVec.ofInt 64 ((m : Int) * 16) ||| BitVec.ofInt 64 (k : Int)).toNat : Int))) w = _
  have e : (BitVec.ofInt 64 ((m : Int) * 16) ||| BitVec.ofInt 64 (k : Int)).toNat = m * 16 + k := by
   rw [show ((m : Int) * 16) = ((m * 16 : Nat) : Int) from by simp, BitVec.ofInt_natCast, BitVec.ofInt_natCast, BitVec.toNat_or, BitVec.toNat_ofNat, BitVec.toNat_ofNat, Nat.mod_eq_of_lt (by omega), Nat.mod_eq_of_lt (by omega)]
   have := Nat.shiftLeft_add_eq_or_of_lt (i := 4) (show k < 2 ^ 4 by omega) m
   rw [Nat.shiftLeft_eq] at this
   exact this.symm
  rw [e, vL (by omega) (by omega)]
  simp) κ
def XN (x : List UInt8) : Bool := match x with
 | [a, b] => decide (0 <= dv a) && decide (0 <= dv b)
 | _ => false
def byteG (x : List UInt8) : UInt8 := match x with
 | [a, b] => UInt8.ofNat (16 * (dv a).toNat + (dv b).toNat)
 | _ => 0
theorem OM : ∀ (k : Nat) (s : List UInt8), s.length <= k -> s.length % 2 = 0 -> ∀ x ∈ prs s, ∃ a b, x = [a, b]
 | _, [], _, _, x, hx => by cases hx
 | _, [a], _, h, x, hx => by simp at h
 | 0, a :: b :: r, hk, h, x, hx => by simp at hk
 | k + 1, a :: b :: r, hk, h, x, hx => by
  simp only [List.length_cons] at hk h
  rcases List.mem_cons.1 (show x ∈ [a, b] :: prs r from hx) with rfl | hx
  ·exact ⟨a, b, rfl⟩
  ·exact OM k r (by omega) (by omega) x hx
theorem QP : ∀ (k : Nat) (s : List UInt8), s.length <= k -> s.length % 2 = 0 -> uhF s = if (prs s).all XN = true then some ((prs s).map byteG) else none
 | _, [], _, _ => rfl
 | _, [a], _, h => by simp at h
 | 0, a :: b :: r, hk, h => by simp at hk
 | k + 1, a :: b :: r, hk, h => by
  simp only [List.length_cons] at hk h
  have ih := QP k r (by omega) (by omega)
  have e : prs (a :: b :: r) = [a, b] :: prs r := rfl
  rw [e, List.all_cons, List.map_cons, uhF, ih]
  have hg : XN [a, b] = (decide (0 <= dv a) && decide (0 <= dv b)) := rfl
  rw [hg]
  by_cases h1 : 0 <= dv a
  ·by_cases h2 : 0 <= dv b
   ·rw [if_neg (by omega), decide_eq_true h1, decide_eq_true h2]
    simp only [Bool.true_and]
    split <;> rfl
   ·rw [if_pos (.inr (by omega)), decide_eq_false h2]
    simp
  ·rw [if_pos (.inl (by omega)), decide_eq_false h1]
   simp
theorem uh_odd {s : List UInt8} (h : s.length % 2 ≠ 0) : uhE s = ([], 2) := by unfold uhE; rw [if_pos h]
theorem uh_good {s : List UInt8} (h : s.length % 2 = 0) (hg : (prs s).all XN = true) : uhE s = ((prs s).map byteG, 0) := by
 unfold uhE; rw [if_neg (by omega), QP _ s (Nat.le_refl _) h, if_pos hg]
theorem uh_bad {s : List UInt8} (h : s.length % 2 = 0) (hg : (prs s).all XN = false) : uhE s = ([], 5) := by
 unfold uhE; rw [if_neg (by omega), QP _ s (Nat.le_refl _) h, if_neg (by rw [hg]; simp)]
theorem ON : ∀ (k : Nat) (s : List UInt8), s.length <= k -> (prs s).length <= s.length
 | _, [], _ => Nat.le_refl _
 | _, [a], _ => Nat.le_refl _
 | 0, a :: b :: r, hk => by simp at hk
 | k + 1, a :: b :: r, hk => by
  have := ON k r (by simp only [List.length_cons] at hk; omega)
  show (prs r).length + 1 <= r.length + 1 + 1; omega
theorem Zq (s : List UInt8) (hs : s.length <= 100000) : Meets Tryz.prog 114 [.string (str s)] []
  fun v A => ∃ X a k, v = .tuple #[.slice a (uhE s).1.length k, .int .i64 (uhE s).2] /\ Own8 5 X a (uhE s).1.length k (uhE s).1 /\ A = [X] := by
 have hpl := ON _ s (Nat.le_refl _)
 refine eN Tryz.func114 Tryz.ntmps114 Tryz.results114 fun F => ?_
 refine zE ?_
 refine gg ?_
 refine ze fun K hK => ?_; refine zv fun b2 => ?_; (try simp only [Value.cells]); refine hK _ _ ?_; clear hK K
 refine ze fun K hK => ?_; refine zv fun b3 => ?_; (try simp only [Value.cells]); refine hK _ _ ?_; clear hK K
 refine gg ?_
 by_cases h2 : s.length % 2 = 0
 ·rw [bne_eq_false_iff_eq.2 (show (s.length : Int) % 2 = 0 by omega)]
  refine gg ?_
  refine ze fun K hK => ?_; refine zv fun b4 => ?_; (try simp only [Value.cells]); refine hK _ _ ?_; clear hK K
  refine gg ?_
  refine cA (Kb s) ?_; rintro v A ⟨c1, c2, rfl, rfl⟩; refine gA ?_
  refine zE ?_
  refine xH (by (try simp only [evT, lookT_hit, lookT_miss, Nat.reduceBEq]); (first | done | exact rfl)) (Kd c1 c2 s hs) (by (repeat (first | exact Take.nil _ | with_reducible exact Pick.head _ _ | with_reducible apply Pick.tail | with_reducible apply Take.cons))) (fun pre C => pre.all XN = true /\ ∃ (X : Chunk) (xa : Option Addr) (xc : Nat), Own8 5 X xa pre.length xc (pre.map byteG) /\
    C = [X, bx b4 (.slice xa pre.length xc) 43, bx b3 (.int .i64 0) 35, bx b2 (.slice none 0 0) 43, [], F])
   (fun k pre C => k = .ret /\ (prs s).all XN = false /\ C = [bx b3 (.int .i64 5) 35, bx b2 (.slice none 0 0) 43, [], F]) (fun h => by cases h) (fun C hC => ⟨[], C.flatten, rfl, by simp⟩) (fun _ => rfl)
   ⟨rfl, [], none, 0, own_nil, rfl⟩ ?_ ?_ ?_
  ·rintro l F1 C H r' pre x ⟨suf, hx⟩ ⟨hg, X, xa, xc, hX, rfl⟩ rfl
   obtain ⟨a, b, rfl⟩ := OM _ s (Nat.le_refl _) h2 x (by rw [hx]; simp)
   have hprl : pre.length < (prs s).length := by rw [hx]; simp
   have ra := WZ a
   have rb := WZ b
   have hgx : XN [a, b] = (decide (0 <= dv a) && decide (0 <= dv b)) := rfl
   have hbad : XN [a, b] = false -> (prs s).all XN = false := fun h => by
    rw [hx, List.all_append, List.all_cons, h]; simp
   have eD : Value.string ⟨#[48, 49, 50, 51, 52, 53, 54, 55, 56, 57, 97, 98, 99, 100, 101, 102]⟩ = .string (str digits) := rfl
   have ia := JV digits a
   have ib' := JV digits b
   rw [show Lib.indexByte digits a = dv a from rfl] at ia
   rw [show Lib.indexByte digits b = dv b from rfl] at ib'
   have hby : byteG [a, b] = UInt8.ofNat (16 * (dv a).toNat + (dv b).toNat) := rfl
   generalize dv a = va at *
   generalize dv b = vb at *
   (try simp only [List.nil_append, List.cons_append, List.append_nil, encG])
   (try simp only [jm, putT, Nat.reduceLT, if_true, reduceIte, Array.toList, List.toList_toArray])
   refine gg ?_
   refine ⟨_, .cons (.head _ _) (Among.refl _), fun r'' _ => ?_⟩
   refine gg ?_
   refine ze fun K hK => ?_; refine zH (by simp [maxLen]) (fun Y ya yc hY => ?_); refine hK _ _ ?_; clear hK K
   refine gg ?_
   rw [show ([a, b] : List UInt8).length = 2 from rfl] at *
   refine zB (fun q D L S => ∃ (k : Nat) (n : Int), ((k = 0 /\ n = 0) ∨ (k = 1 /\ 0 <= va /\ n = va) ∨ (k = 2 /\ 0 <= va /\ 0 <= vb /\ n = va * 16 + vb)) /\ q = 2 - k /\ D = [] /\
    L = [(20, .int .i64 k), (19, .int .i64 2), (18, .slice (some ya) 2 yc), (6, .int .i64 n), (4, .pointer (some ⟨b4, 0, none⟩)), (3, .pointer (some ⟨b3, 0, none⟩)), (2, .pointer (some ⟨b2, 0, none⟩))] /\
    S = [Y, [(l, .loop r'')], F1, X, bx b4 (.slice xa pre.length xc) 43, bx b3 (.int .i64 0) 35, bx b2 (.slice none 0 0) 43, [], F])
    ⟨0, 0, .inl ⟨rfl, rfl⟩, rfl, rfl, rfl, rfl⟩ ?_
   rintro q D L S ⟨k, n, hkn, rfl, rfl, rfl, rfl⟩
   rcases hkn with ⟨rfl, hn⟩ | ⟨rfl, ha, hn⟩ | ⟨rfl, ha, hb, hn⟩
   ·refine gg ?_
    (try rw [show ([a, b] : List UInt8).getD 0 0 = a from rfl])
    (try rw [eD])
    refine cA (ia) ?_; rintro v A ⟨rfl, rfl⟩; refine gA ?_
    by_cases hv : 0 <= va
    ·rw [decide_eq_false (show ¬ va < 0 by omega)]
     refine gg ?_
     refine ze fun K hK => ?_; rw [WR (by omega) (by omega)]; refine hK _ _ ?_; clear hK K
     refine gg ?_
     refine ze fun K hK => ?_; rw [WS (by omega) (by omega) (by omega) (by omega)]; refine hK _ _ ?_; clear hK K
     refine gg ?_
     exact zA ⟨1, n * 16 + va, .inr (.inl ⟨rfl, hv, by omega⟩), rfl, rfl, rfl, rfl⟩
    ·rw [decide_eq_true (show va < 0 by omega)]
     refine gg ?_
     exact ⟨_, ⟨_, [], rfl, ⟨rfl, hbad (by rw [hgx, decide_eq_false hv]; rfl), rfl⟩, rfl⟩, by (try simp only [List.append_nil]); first | ((repeat (first | with_reducible exact Among.nil _ | with_reducible exact Pick.head _ _ | with_reducible apply Pick.tail | with_reducible apply Among.cons)); done) | ((repeat (first | exact Among.nil _ | exact Pick.head _ _ | apply Pick.tail | apply Among.cons)); done)⟩
   ·refine gg ?_
    (try rw [show ([a, b] : List UInt8).getD 1 0 = b from rfl])
    (try rw [eD])
    refine cA (ib') ?_; rintro v A ⟨rfl, rfl⟩; refine gA ?_
    by_cases hv : 0 <= vb
    ·rw [decide_eq_false (show ¬ vb < 0 by omega)]
     refine gg ?_
     refine ze fun K hK => ?_; rw [WR (by omega) (by omega)]; refine hK _ _ ?_; clear hK K
     refine gg ?_
     refine ze fun K hK => ?_; rw [WS (by omega) (by omega) (by omega) (by omega)]; refine hK _ _ ?_; clear hK K
     refine gg ?_
     exact zA ⟨2, n * 16 + vb, .inr (.inr ⟨rfl, ha, hv, by omega⟩), rfl, rfl, rfl, rfl⟩
    ·rw [decide_eq_true (show vb < 0 by omega)]
     refine gg ?_
     exact ⟨_, ⟨_, [], rfl, ⟨rfl, hbad (by rw [hgx, decide_eq_false hv]; simp), rfl⟩, rfl⟩, by (try simp only [List.append_nil]); first | ((repeat (first | with_reducible exact Among.nil _ | with_reducible exact Pick.head _ _ | with_reducible apply Pick.tail | with_reducible apply Among.cons)); done) | ((repeat (first | exact Among.nil _ | exact Pick.head _ _ | apply Pick.tail | apply Among.cons)); done)⟩
   ·refine gg ?_
    have eb : Value.int .u8 n = b8 (byteG [a, b]) := by
     rw [hby]
     simp only [b8, UInt8.toNat_ofNat']
     congr 1; omega
    rw [eb]
    refine ze fun K hK => ?_; refine zR ([byteG [a, b]]) (by decide) rfl (rfl) (fun b7 C7 ho7 => ?_); refine hK _ _ ?_; clear hK K
    refine gg ?_
    refine ze fun K hK => ?_; refine app8 (hX) pkA ((ho7.rd (List.mem_cons_self ..)).mem mmA) (by omega) (fun C9 a9 cap9 ho9 => ?_); refine hK _ _ ?_; clear hK K
    have e1 : pre.length + 1 = (pre ++ [[a, b]]).length := by simp
    have e2 : pre.map byteG ++ [byteG [a, b]] = (pre ++ [[a, b]]).map byteG := by simp
    rw [e1, e2] at ho9
    rw [e1]
    refine gg ?_
    exact ⟨_, ⟨_, [], rfl, ⟨by rw [List.all_append, hg, List.all_cons, hgx, decide_eq_true ha, decide_eq_true hb]; rfl, C9, a9, cap9, ho9, rfl⟩, rfl⟩, by (try simp only [List.append_nil]); first | ((repeat (first | with_reducible exact Among.nil _ | with_reducible exact Pick.head _ _ | with_reducible apply Pick.tail | with_reducible apply Among.cons)); done) | ((repeat (first | exact Among.nil _ | exact Pick.head _ _ | apply Pick.tail | apply Among.cons)); done)⟩
  ·rintro d pre C A rfl ⟨hg, X, xa, xc, hX, rfl⟩ ⟨r, rfl⟩
   rw [uh_good h2 hg]
   (try simp only [List.nil_append, List.cons_append])
   refine gg ?_
   refine zf (vs := [.slice xa ((prs s).map byteG).length xc, .int .i64 0]) [X] ⟨X, xa, xc, rfl, by rw [List.length_map]; exact hX, rfl⟩ (hr := by (intro κ hκ; simp only [resW, withV, lookT_hit, lookT_miss, Nat.reduceBEq, List.length_map] at hκ ⊢; (repeat (first | refine xo lkA ?_ | refine zD lkA rfl ?_)); exact hκ))
  ·rintro d k pre x C A hx ⟨rfl, hbad, rfl⟩ ⟨r, rfl⟩
   rw [uh_bad h2 hbad]
   (try simp only [List.nil_append, List.cons_append])
   refine gg ?_
   refine zf (vs := [.slice none 0 0, .int .i64 5]) [[]] ⟨[], none, 0, rfl, own_nil, rfl⟩
 ·rw [uh_odd h2, bne_iff_ne.2 (show (s.length : Int) % 2 ≠ 0 by omega)]
  refine gg ?_
  refine zf (vs := [.slice none 0 0, .int .i64 2]) [[]] ⟨[], none, 0, rfl, own_nil, rfl⟩
end Go.Proofs.YtebikhhoppiapaaGreatDoor
namespace Go.Proofs.YtebikhhoppiapaaGreatDoor
open Go Go.Ost Go.Sha
theorem OZ (l : List UInt8) (i : Nat) (h : i < l.length) : numW (l.take (i + 1)) = (numW (l.take i) <<< 8) ||| BitVec.ofNat 32 (l.getD i 0).toNat := by
 unfold numW
 rw [List.take_add_one, List.foldl_append, List.getD_eq_getElem?_getD, List.getElem?_eq_getElem h]; rfl
theorem VI (s : List UInt8) (hs : s.length <= 100000) : Meets Tryz.prog 112 [.string (str s)] []
  fun v A => v = .tuple #[b32 (numE s).1, .bool (numE s).2] /\ A = [] := by
 have hle := uh_le s
 unfold numE
 refine eN Tryz.func112 Tryz.ntmps112 Tryz.results112 fun F => ?_
 refine gg ?_
 refine cA (Zq s hs) ?_; rintro v A ⟨X, xa, xk, rfl, hX, rfl⟩; refine gA ?_
 rw [show Value.int .u32 0 = b32 (numW ((uhE s).1.take 0)) from rfl]
 generalize (uhE s).1 = p at *
 generalize (uhE s).2 = e at *
 refine zB (fun q D L S => ∃ i : Nat, i <= p.length /\ q = p.length - i /\ D = [] /\
  L = [(16, .int .i64 i), (15, .int .i64 p.length), (14, .slice xa p.length xk), (6, b32 (numW (p.take i))), (5, .int .i64 e), (0, .string (str s))] /\ S = [X, F])
  ⟨0, by omega, rfl, rfl, rfl, rfl⟩ ?_
 rintro q D L S ⟨i, hi, rfl, rfl, rfl, rfl⟩
 refine gg ?_
 refine if_d (fun hc => ?_) (fun hc => ?_)
 ·have hil : i < p.length := by omega
  have hnx := OZ p i hil
  refine gg ?_
  rw [<- hnx]
  exact zA ⟨i + 1, by omega, rfl, rfl, rfl, rfl⟩
 ·obtain rfl : i = p.length := by omega
  rw [List.take_length]
  refine gg ?_
  by_cases h0 : e = 0
  ·subst h0
   refine gg ?_
   refine zf (vs := [b32 (numW p), .bool (decide ((s.length : Int) = 8))]) [] ⟨by simp [vl], rfl⟩
  ·rw [beq_eq_false_iff_ne.2 h0]
   refine gg ?_
   refine zf (vs := [b32 (numW p), .bool false]) [] ⟨by simp [vl, h0], rfl⟩
instance tpAns : TPlaces Tryz.prog 126 [(0, 1), (1, 1), (2, 1), (3, 1), (4, 1), (5, 1), (6, 1), (7, 1)] := ⟨by kernel_rfl⟩
theorem yY (a : An) (pa : Option Addr) (pk : Nat) : ∀ v ∈ encA a pa pk, Value.cell1 v := by
 intro v hv
 simp only [encA, List.mem_cons, List.not_mem_nil, or_false] at hv
 rcases hv with rfl | rfl | rfl | rfl | rfl | rfl | rfl | rfl <;> simp [Value.cell1, b32]
theorem got_le {l : List Par} {B : Nat} (h : ∀ p ∈ l, p.v.length <= B) (n : List UInt8) : (gotP l n).v.length <= B := by
 unfold gotP
 cases hf : l.find? fun p => p.n == n with
 | none => show (0 : Nat) <= _; omega
 | some p => exact h p (List.mem_of_find?_eq_some hf)
theorem OU (s : List UInt8) (hs : s.length <= 100000) : Meets Tryz.prog 41 [.string (str s)] []
  fun v A => ∃ P pa pk, v = .tuple #[.agg (encA (paE s).1 pa pk).toArray, .int .i64 (paE s).2] /\ Own8 5 P pa (paE s).1.pf.length pk (paE s).1.pf /\ A = [P] := by
 obtain ⟨hpl, hpb⟩ := VE s
 unfold paE
 refine eN Tryz.func41 Tryz.ntmps41 Tryz.results41 fun F => ?_
 refine zE ?_
 refine gg ?_
 refine oA (encA a0 none 0).toArray fun b2 => ?_
 refine gg ?_
 refine cA (YR s hs) ?_; rintro v A ⟨X, xa, xk, rfl, hX, rfl⟩; refine gA ?_
 by_cases h0 : (jf s).2 = 0
 ·rw [h0, if_neg (by decide)]
  generalize (jf s).1 = l at *
  have hvb : ∀ p ∈ l, p.v.length <= 100000 := fun p hp => by have := hpb p hp; omega
  have hl : l.length <= 100000 := by omega
  clear hpl hpb
  refine gg ?_
  refine oT [(0, .slice xa l.length xk)] #[.slice xa l.length xk, .bool false, .bool false] ?_
  refine gg ?_
  refine oB fun b6 => ?_
  refine gg ?_
  refine cA (jh hX hl (false, false) nUser true) ?_; rintro v A ⟨rfl, rfl⟩; refine gA ?_
  refine cA (jh hX hl _ nRealm true) ?_; rintro v A ⟨rfl, rfl⟩; refine gA ?_
  refine cA (jh hX hl _ nNonce true) ?_; rintro v A ⟨rfl, rfl⟩; refine gA ?_
  refine cA (ZL _ (gotP l nNonce).v) ?_; rintro v A ⟨rfl, rfl⟩; refine gA ?_
  refine cA (jh hX hl _ nUri true) ?_; rintro v A ⟨rfl, rfl⟩; refine gA ?_
  refine cA (jh hX hl _ nCnonce true) ?_; rintro v A ⟨rfl, rfl⟩; refine gA ?_
  refine cA (ZL _ (gotP l nCnonce).v) ?_; rintro v A ⟨rfl, rfl⟩; refine gA ?_
  refine cA (II hX hl _ nOpaque [] true) ?_; rintro v A ⟨rfl, rfl⟩; refine gA ?_
  have hop : (if hasB l nOpaque = true then (gotP l nOpaque).v else []) = (gotP l nOpaque).v := by
   split
   ·rfl
   ·rename_i h; rw [got_no (by simpa using h)]; rfl
  rw [hop]
  refine oT [(0, .string (str (gotP l nUser).v)), (1, .string (str (gotP l nRealm).v)), (2, .string (str (gotP l nNonce).v)), (3, .string (str (gotP l nUri).v)), (4, .string (str (gotP l nCnonce).v)), (5, .string (str (gotP l nOpaque).v))] (encA ⟨(gotP l nUser).v, (gotP l nRealm).v, (gotP l nNonce).v, (gotP l nUri).v, (gotP l nCnonce).v, (gotP l nOpaque).v, 0, []⟩ none 0).toArray ?_
  refine gg ?_
  refine oA (encA a0 none 0).toArray fun b7 => ?_
  refine oS (encA ⟨(gotP l nUser).v, (gotP l nRealm).v, (gotP l nNonce).v, (gotP l nUri).v, (gotP l nCnonce).v, (gotP l nOpaque).v, 0, []⟩ none 0) rfl (yY _ _ _) ?_
  refine gg ?_
  refine cA (Ku hX hl hvb _ false) ?_; rintro v A ⟨rfl, rfl⟩; refine gA ?_
  refine cA (jh hX hl _ nNc false) ?_; rintro v A ⟨rfl, rfl⟩; refine gA ?_
  refine cA (VI (gotP l nNc).v (got_le hvb nNc)) ?_; rintro v A ⟨rfl, rfl⟩; refine gA ?_
  refine gM ?_
  refine cA (qo _ (numE (gotP l nNc).v).2) ?_; rintro v A ⟨rfl, rfl⟩; refine gA ?_
  refine cA (jh hX hl _ nResp true) ?_; rintro v A ⟨rfl, rfl⟩; refine gA ?_
  refine cA (Zq (gotP l nResp).v (got_le hvb nResp)) ?_; rintro v A ⟨P, pa, pk, rfl, hP, rfl⟩; refine gA ?_
  refine gM ?_
  have hpa : paF l = vm (yD l) (getF l nResp true (vm (numE (gotP l nNc).v).2 (getF l nNc false (comF l false (mayF l nOpaque true (vm (sizB (gotP l nCnonce).v) (getF l nCnonce true (getF l nUri true (vm (sizB (gotP l nNonce).v) (getF l nNonce true (getF l nRealm true (getF l nUser true (false, false))))))))))))) := rfl
  generalize (getF l nResp true (vm (numE (gotP l nNc).v).2 (getF l nNc false (comF l false (mayF l nOpaque true (vm (sizB (gotP l nCnonce).v) (getF l nCnonce true (getF l nUri true (vm (sizB (gotP l nNonce).v) (getF l nNonce true (getF l nRealm true (getF l nUser true (false, false))))))))))))) = f9 at *
  unfold paL
  by_cases hu : (uhE (gotP l nResp).v).2 = 0
  ·have hpb : yD l = decide (((uhE (gotP l nResp).v).1.length : Int) = 32) := by unfold yD; rw [decide_eq_true hu, Bool.true_and]
   rw [hu]
   refine gg ?_
   refine cA (qo f9 (decide (((uhE (gotP l nResp).v).1.length : Int) = 32))) ?_; rintro v A ⟨rfl, rfl⟩; refine gA ?_
   rw [hpb] at hpa
   refine gM ?_
   rw [<- hpa]
   refine gg ?_
   refine cA (ZQ (paF l)) ?_; rintro v A ⟨rfl, rfl⟩; refine gA ?_
   by_cases he : endF (paF l) = 0
   ·rw [he, if_neg (by decide)]
    refine gg ?_
    refine oL (encA ⟨(gotP l nUser).v, (gotP l nRealm).v, (gotP l nNonce).v, (gotP l nUri).v, (gotP l nCnonce).v, (gotP l nOpaque).v, (numE (gotP l nNc).v).1, (uhE (gotP l nResp).v).1⟩ pa pk) rfl ?_
    refine oS (encA ⟨(gotP l nUser).v, (gotP l nRealm).v, (gotP l nNonce).v, (gotP l nUri).v, (gotP l nCnonce).v, (gotP l nOpaque).v, (numE (gotP l nNc).v).1, (uhE (gotP l nResp).v).1⟩ pa pk) rfl (yY _ _ _) ?_
    refine gg ?_
    refine zf (vs := [.agg (encA ⟨(gotP l nUser).v, (gotP l nRealm).v, (gotP l nNonce).v, (gotP l nUri).v, (gotP l nCnonce).v, (gotP l nOpaque).v, (numE (gotP l nNc).v).1, (uhE (gotP l nResp).v).1⟩ pa pk).toArray, .int .i64 0]) [P] ⟨P, pa, pk, rfl, hP, rfl⟩ (hr := by (intro κ hκ; simp only [resW, withV, lookT_hit, lookT_miss, Nat.reduceBEq]; exact zm (vs := encA ⟨(gotP l nUser).v, (gotP l nRealm).v, (gotP l nNonce).v, (gotP l nUri).v, (gotP l nCnonce).v, (gotP l nOpaque).v, (numE (gotP l nNc).v).1, (uhE (gotP l nResp).v).1⟩ pa pk) lkA rfl hκ))
   ·rw [if_pos he, bne_iff_ne.2 he]
    refine gg ?_
    refine oT [] (encA a0 none 0).toArray ?_
    refine gg ?_
    refine oS (encA a0 none 0) rfl (yY _ _ _) ?_
    refine gg ?_
    refine zf (vs := [.agg (encA a0 none 0).toArray, .int .i64 (endF (paF l))]) [[]] ⟨[], none, 0, rfl, own_nil, rfl⟩ (hr := by (intro κ hκ; simp only [resW, withV, lookT_hit, lookT_miss, Nat.reduceBEq]; exact zm (vs := encA a0 none 0) lkA rfl hκ))
  ·have hpb : yD l = false := by unfold yD; rw [decide_eq_false hu, Bool.false_and]
   rw [beq_eq_false_iff_ne.2 hu]
   refine gg ?_
   refine cA (qo f9 false) ?_; rintro v A ⟨rfl, rfl⟩; refine gA ?_
   rw [hpb] at hpa
   refine gM ?_
   rw [<- hpa]
   refine gg ?_
   refine cA (ZQ (paF l)) ?_; rintro v A ⟨rfl, rfl⟩; refine gA ?_
   by_cases he : endF (paF l) = 0
   ·rw [he, if_neg (by decide)]
    refine gg ?_
    refine oL (encA ⟨(gotP l nUser).v, (gotP l nRealm).v, (gotP l nNonce).v, (gotP l nUri).v, (gotP l nCnonce).v, (gotP l nOpaque).v, (numE (gotP l nNc).v).1, (uhE (gotP l nResp).v).1⟩ pa pk) rfl ?_
    refine oS (encA ⟨(gotP l nUser).v, (gotP l nRealm).v, (gotP l nNonce).v, (gotP l nUri).v, (gotP l nCnonce).v, (gotP l nOpaque).v, (numE (gotP l nNc).v).1, (uhE (gotP l nResp).v).1⟩ pa pk) rfl (yY _ _ _) ?_
    refine gg ?_
    refine zf (vs := [.agg (encA ⟨(gotP l nUser).v, (gotP l nRealm).v, (gotP l nNonce).v, (gotP l nUri).v, (gotP l nCnonce).v, (gotP l nOpaque).v, (numE (gotP l nNc).v).1, (uhE (gotP l nResp).v).1⟩ pa pk).toArray, .int .i64 0]) [P] ⟨P, pa, pk, rfl, hP, rfl⟩ (hr := by (intro κ hκ; simp only [resW, withV, lookT_hit, lookT_miss, Nat.reduceBEq]; exact zm (vs := encA ⟨(gotP l nUser).v, (gotP l nRealm).v, (gotP l nNonce).v, (gotP l nUri).v, (gotP l nCnonce).v, (gotP l nOpaque).v, (numE (gotP l nNc).v).1, (uhE (gotP l nResp).v).1⟩ pa pk) lkA rfl hκ))
   ·rw [if_pos he, bne_iff_ne.2 he]
    refine gg ?_
    refine oT [] (encA a0 none 0).toArray ?_
    refine gg ?_
    refine oS (encA a0 none 0) rfl (yY _ _ _) ?_
    refine gg ?_
    refine zf (vs := [.agg (encA a0 none 0).toArray, .int .i64 (endF (paF l))]) [[]] ⟨[], none, 0, rfl, own_nil, rfl⟩ (hr := by (intro κ hκ; simp only [resW, withV, lookT_hit, lookT_miss, Nat.reduceBEq]; exact zm (vs := encA a0 none 0) lkA rfl hκ))
 ·rw [bne_iff_ne.2 h0, if_pos h0]
  refine gg ?_
  refine oT [] (encA a0 none 0).toArray ?_
  refine gg ?_
  refine oS (encA a0 none 0) rfl (yY _ _ _) ?_
  refine gg ?_
  refine zf (vs := [.agg (encA a0 none 0).toArray, .int .i64 (jf s).2]) [[]] ⟨[], none, 0, rfl, own_nil, rfl⟩ (hr := by (intro κ hκ; simp only [resW, withV, lookT_hit, lookT_miss, Nat.reduceBEq]; exact zm (vs := encA a0 none 0) lkA rfl hκ))
open Go.Nam Go.Tab
theorem VC (A B : Chunk) (a b : Option Addr) (ca cb : Nat) (xs ys : List UInt8) (hx : xs.length <= 100000) (hy : ys.length <= 100000) (h1 : Rd 1 [A] a xs.length (xs.map b8)) (h2 : Rd 1 [B] b ys.length (ys.map b8)) :
  Meets Tryz.prog 43 [.slice a xs.length ca, .slice b ys.length cb] [A, B] fun v S => v = .bool (xs == ys) /\ S = [A, B] := by
 refine eN Tryz.func43 Tryz.ntmps43 Tryz.results43 fun F => ?_
 refine gg ?_
 refine cA (XS A B a b ca cb xs ys hx hy h1 h2) ?_; rintro v A ⟨rfl, rfl⟩; refine gA ?_
 refine zb [A, B] ?_; exact ⟨rfl, rfl⟩
instance tpRes : TPlaces Tryz.prog 50 [(0, 10), (10, 1), (11, 1)] := ⟨by kernel_rfl⟩
def ansE (x : BX) (n : NS) (sec : Sec) (m : List UInt8) (a : An) (now : Int) : Int := if (jR x sec.ha m a).1 = a.pf then (useN n a.n a.nc.toNat now).1 else 13
def ansN (x : BX) (n : NS) (sec : Sec) (m : List UInt8) (a : An) (now : Int) : NS := if (jR x sec.ha m a).1 = a.pf then (useN n a.n a.nc.toNat now).2 else n
theorem OL {qk bx_ s q tb r1 r2 p : Nat} {iter ch last reads gen : Int} {C T M1 M2 G B : Chunk} {m : List (List UInt8 × Value)} {x : BX} {ns : NS} (hg : Globs G) (hn : GNam G) (hC : qG C bx_ x) (hts : x.ts.length <= 800) (hns : NOk ns) (hT : IsTab T tb ns.room ns.es) (h1 : xB M1 r1 (tenM r2)) (h2 : xB M2 r2 m) (hr0 : 0 <= reads) (hr1 : reads < 1000000) (hch0 : 0 <= ch) (hch1 : ch < 1000000)
  (hd u n nn tgt cn o pf mt : List UInt8) (nc : W) (hpa : paE hd = (⟨u, [116], nn, tgt, cn, o, nc, pf⟩, 0)) (hdl : hd.length <= 100000) (hul : u.length <= 4096) (hnnl : nn.length <= 4096) (htl : tgt.length <= 4096) (hcl : cn.length <= 4096) (hpl : pf.length <= 4096) (hml : mt.length <= 1000)
  (hun : xF u 32 = (n, 0)) (hst : xF n 32 = (n, 0)) (hnl : n.length <= 32) (hm : mget m n = some (.pointer (some ⟨p, 0, none⟩))) {vs : List Value} {sec : Sec} (hW : SecW B vs sec) (now : Int) (hn0 : 0 <= now) (hnow : now < 18446744073709551616) :
  Meets Tryz.prog 12 [.pointer (some ⟨qk, 0, none⟩), .agg #[.string (str mt), .string (str tgt), .string (str hd)], .int .u64 now] [quB qk bx_ s q iter [116] ch, C, stB s r1 last reads, M1, M2, nB q tb ns, T, G, crB p n vs gen false, B]
  fun v A => ∃ (C' T' B' : Chunk) (vs' rv : List Value), v = .tuple #[.agg rv.toArray, .int .i64 (ansE x ns sec mt ⟨u, [116], nn, tgt, cn, o, nc, pf⟩ now)] /\ (rv.length = 12 /\ ∀ u ∈ rv, Value.cell1 u) /\ (ansE x ns sec mt ⟨u, [116], nn, tgt, cn, o, nc, pf⟩ now = 0 -> rv = credV n vs' gen false ++ [.string (str nn), b32 nc]) /\ vs'.length = 5 /\
   qG C' bx_ (jR x sec.ha mt ⟨u, [116], nn, tgt, cn, o, nc, pf⟩).2 /\ IsTab T' tb ns.room (ansN x ns sec mt ⟨u, [116], nn, tgt, cn, o, nc, pf⟩ now).es /\ A = [quB qk bx_ s q iter [116] (ch + 1), C', stB s r1 last (reads + 1), M1, M2, nB q tb (ansN x ns sec mt ⟨u, [116], nn, tgt, cn, o, nc, pf⟩ now), T', G, crB p n vs gen false, B', B] := by
 have hps := OU hd hdl
 rw [hpa] at hps
 have hqf := YK (qk := qk) (bx_ := bx_) (q := q) (iter := iter) (ch := ch) (s := s) (last := last) (gen := gen) hn h1 h2 hr0 hr1 u n (by omega) hun hst hnl hm hW
 refine eN Tryz.func12 Tryz.ntmps12 Tryz.results12 fun F => ?_
 refine gg ?_
 refine oB fun b4 => ?_
 refine gg ?_
 refine oA ([.string ⟨#[]⟩, .string ⟨#[]⟩, .slice none 0 0, .int .i64 0, .slice none 0 0, .slice none 0 0, .slice none 0 0, .int .u64 0, .slice none 0 0, .bool false, .string ⟨#[]⟩, .int .u32 0] : List Value).toArray fun b6 => ?_
 refine gg ?_
 refine cA (hps) ?_; rintro v A ⟨P, pa, pk, rfl, hP, rfl⟩; refine gA ?_
 simp only at hP
 refine oA (encA a0 none 0).toArray fun b8 => ?_
 refine gg ?_
 refine oS (encA ⟨u, [116], nn, tgt, cn, o, nc, pf⟩ pa pk) rfl (yY _ _ _) ?_
 refine gg ?_
 refine zn [(0, false, []), (1, false, []), (2, false, []), (3, false, []), (4, false, []), (5, false, []), (6, false, []), (7, false, []), (8, false, []), (9, false, []), (10, false, []), (11, false, []), (12, false, []), (13, false, []), (14, true, [])] ?_
 refine gg ?_
 refine cA (hqf) ?_; rintro v A ⟨B', vs', rfl, hB', rfl⟩; refine gA ?_
 obtain ⟨hvl, hvc⟩ := jr hB'
 have hW2 := hB'
 obtain ⟨e0, e1, e2, e3, f0, f1, f2, f3, rfl, _, g1, g2, g3, _, _, _, hHA⟩ := hW2
 have hc1 : ∀ u ∈ ([.string (str [116]), .string (str n), .slice e0 1 f0, .int .i64 1, .slice e1 sec.st.length f1, .slice e2 sec.sv.length f2, .slice e3 sec.ha.length f3, .int .u64 gen, .slice none 0 0, .bool false] : List Value), Value.cell1 u := by
  intro u hu
  simp only [List.mem_cons, List.not_mem_nil, or_false] at hu
  rcases hu with rfl | rfl | rfl | rfl | rfl | rfl | rfl | rfl | rfl | rfl <;> simp [Value.cell1]
 refine oA ([.string ⟨#[]⟩, .string ⟨#[]⟩, .slice none 0 0, .int .i64 0, .slice none 0 0, .slice none 0 0, .slice none 0 0, .int .u64 0, .slice none 0 0, .bool false] : List Value).toArray fun b10 => ?_
 refine gg ?_
 refine oS [.string (str [116]), .string (str n), .slice e0 1 f0, .int .i64 1, .slice e1 sec.st.length f1, .slice e2 sec.sv.length f2, .slice e3 sec.ha.length f3, .int .u64 gen, .slice none 0 0, .bool false] rfl hc1 ?_
 refine gg ?_
 refine gM ?_
 refine zn [(0, false, []), (1, false, []), (2, false, []), (3, false, []), (4, false, []), (5, false, []), (6, false, []), (7, false, []), (8, false, []), (9, false, []), (10, false, []), (12, false, []), (13, false, []), (11, true, [13]), (14, true, []), (15, true, [])] ?_
 refine gg ?_
 refine qO fun K hK => ?_; refine zm (vs := encA ⟨u, [116], nn, tgt, cn, o, nc, pf⟩ pa pk) lkA rfl ?_; refine hK _ _ ?_; clear hK K
 refine gg ?_
 have rl := yB x sec.ha mt ⟨u, [116], nn, tgt, cn, o, nc, pf⟩
 refine zh fun K hK => ?_; refine zq (Jw hg hC (by omega) sec.ha mt (by omega) hml hHA ⟨u, [116], nn, tgt, cn, o, nc, pf⟩ hnnl htl hcl pa pk) ?_; rintro v A ⟨O, C', oa, oc, rfl, hO, hC', rfl⟩; refine pA hK ?_; clear hK K
 refine gg ?_
 unfold ansE ansN
 generalize jR x sec.ha mt ⟨u, [116], nn, tgt, cn, o, nc, pf⟩ = r at *
 refine zh fun K hK => ?_; refine zq (VC O P oa pa oc pk r.1 pf (by omega) (by omega) (hO.rd (List.mem_cons_self ..)) (hP.rd (List.mem_cons_self ..))) ?_; rintro v A ⟨rfl, rfl⟩; refine pA hK ?_; clear hK K
 refine gg ?_
 (try (try (refine zh fun K hK => ?_; refine hK _ _ ?_; clear hK K)))
 (try refine gg ?_)
 have hz1 : ∀ u ∈ ([.string ⟨#[]⟩, .string ⟨#[]⟩, .slice none 0 0, .int .i64 0, .slice none 0 0, .slice none 0 0, .slice none 0 0, .int .u64 0, .slice none 0 0, .bool false, .string ⟨#[]⟩, .int .u32 0] : List Value), Value.cell1 u := by
  intro u hu
  simp only [List.mem_cons, List.not_mem_nil, or_false] at hu
  rcases hu with rfl | rfl | rfl | rfl | rfl | rfl | rfl | rfl | rfl | rfl | rfl | rfl <;> simp [Value.cell1]
 cases hq : (r.1 == pf) with
 | false =>
  have hne : ¬ r.1 = pf := by simpa using hq
  rw [if_neg hne, if_neg hne]
  refine gg ?_
  refine oT [] ([.string ⟨#[]⟩, .string ⟨#[]⟩, .slice none 0 0, .int .i64 0, .slice none 0 0, .slice none 0 0, .slice none 0 0, .int .u64 0, .slice none 0 0, .bool false, .string ⟨#[]⟩, .int .u32 0] : List Value).toArray ?_
  refine gg ?_
  refine oS [.string ⟨#[]⟩, .string ⟨#[]⟩, .slice none 0 0, .int .i64 0, .slice none 0 0, .slice none 0 0, .slice none 0 0, .int .u64 0, .slice none 0 0, .bool false, .string ⟨#[]⟩, .int .u32 0] rfl hz1 ?_
  refine gg ?_
  refine zf (vs := [.agg ([.string ⟨#[]⟩, .string ⟨#[]⟩, .slice none 0 0, .int .i64 0, .slice none 0 0, .slice none 0 0, .slice none 0 0, .int .u64 0, .slice none 0 0, .bool false, .string ⟨#[]⟩, .int .u32 0] : List Value).toArray, .int .i64 13]) [quB qk bx_ s q iter [116] (ch + 1), C', stB s r1 last (reads + 1), M1, M2, nB q tb ns, T, G, crB p n vs gen false, B', B] ?_ (hr := by (intro κ hκ; simp only [resW, withV, lookT_hit, lookT_miss, Nat.reduceBEq]; exact zm (vs := [.string ⟨#[]⟩, .string ⟨#[]⟩, .slice none 0 0, .int .i64 0, .slice none 0 0, .slice none 0 0, .slice none 0 0, .int .u64 0, .slice none 0 0, .bool false, .string ⟨#[]⟩, .int .u32 0]) lkA rfl hκ))
  exact ⟨C', T, B', _, _, rfl, ⟨rfl, hz1⟩, (fun h => absurd h (show ¬ (13 : Int) = 0 by decide)), hvl, hC', hT, rfl⟩
 | true =>
  have heq : r.1 = pf := by simpa using hq
  rw [if_pos heq, if_pos heq]
  refine gg ?_
  have hu := OY (q := q) (b := tb) hns hT nn (nc.toNat : Int) now (by omega) hnow
  rw [show Value.int .u32 (nc.toNat : Int) = b32 nc from rfl] at hu
  refine zn [(0, false, []), (1, false, []), (2, false, []), (3, false, []), (4, false, []), (5, false, []), (6, false, []), (7, false, []), (8, false, []), (9, false, []), (10, true, []), (11, true, [])] ?_
  refine gg ?_
  refine zh fun K hK => ?_; refine zq (hu) ?_; rintro v A ⟨rfl, T', hT', rfl⟩; refine pA hK ?_; clear hK K
  refine gg ?_
  (try (try (refine zh fun K hK => ?_; refine hK _ _ ?_; clear hK K)))
  (try refine gg ?_)
  generalize useN ns nn (nc.toNat : Int) now = w at *
  by_cases h0 : w.1 = 0
  ·rw [h0]
   refine gg ?_
   refine oL [.string (str [116]), .string (str n), .slice e0 1 f0, .int .i64 1, .slice e1 sec.st.length f1, .slice e2 sec.sv.length f2, .slice e3 sec.ha.length f3, .int .u64 gen, .slice none 0 0, .bool false] rfl ?_
   refine gg ?_
   refine oT [(0, .agg ([.string (str [116]), .string (str n), .slice e0 1 f0, .int .i64 1, .slice e1 sec.st.length f1, .slice e2 sec.sv.length f2, .slice e3 sec.ha.length f3, .int .u64 gen, .slice none 0 0, .bool false] : List Value).toArray), (1, .string (str nn)), (2, b32 nc)] ([.string (str [116]), .string (str n), .slice e0 1 f0, .int .i64 1, .slice e1 sec.st.length f1, .slice e2 sec.sv.length f2, .slice e3 sec.ha.length f3, .int .u64 gen, .slice none 0 0, .bool false, .string (str nn), b32 nc] : List Value).toArray ?_
   refine gg ?_
   have hz2 : ∀ u ∈ ([.string (str [116]), .string (str n), .slice e0 1 f0, .int .i64 1, .slice e1 sec.st.length f1, .slice e2 sec.sv.length f2, .slice e3 sec.ha.length f3, .int .u64 gen, .slice none 0 0, .bool false, .string (str nn), b32 nc] : List Value), Value.cell1 u := by
    intro u hu
    simp only [List.mem_cons, List.not_mem_nil, or_false] at hu
    rcases hu with rfl | rfl | rfl | rfl | rfl | rfl | rfl | rfl | rfl | rfl | rfl | rfl <;> simp [Value.cell1, b32]
   refine oS [.string (str [116]), .string (str n), .slice e0 1 f0, .int .i64 1, .slice e1 sec.st.length f1, .slice e2 sec.sv.length f2, .slice e3 sec.ha.length f3, .int .u64 gen, .slice none 0 0, .bool false, .string (str nn), b32 nc] rfl hz2 ?_
   refine gg ?_
   refine zf (vs := [.agg ([.string (str [116]), .string (str n), .slice e0 1 f0, .int .i64 1, .slice e1 sec.st.length f1, .slice e2 sec.sv.length f2, .slice e3 sec.ha.length f3, .int .u64 gen, .slice none 0 0, .bool false, .string (str nn), b32 nc] : List Value).toArray, .int .i64 0]) [quB qk bx_ s q iter [116] (ch + 1), C', stB s r1 last (reads + 1), M1, M2, nB q tb w.2, T', G, crB p n vs gen false, B', B] ?_ (hr := by (intro κ hκ; simp only [resW, withV, lookT_hit, lookT_miss, Nat.reduceBEq]; exact zm (vs := [.string (str [116]), .string (str n), .slice e0 1 f0, .int .i64 1, .slice e1 sec.st.length f1, .slice e2 sec.sv.length f2, .slice e3 sec.ha.length f3, .int .u64 gen, .slice none 0 0, .bool false, .string (str nn), b32 nc]) lkA rfl hκ))
   exact ⟨C', T', B', _, _, rfl, ⟨rfl, hz2⟩, (fun _ => rfl), hvl, hC', hT', rfl⟩
  ·rw [bne_iff_ne.2 h0]
   refine gg ?_
   refine oT [] ([.string ⟨#[]⟩, .string ⟨#[]⟩, .slice none 0 0, .int .i64 0, .slice none 0 0, .slice none 0 0, .slice none 0 0, .int .u64 0, .slice none 0 0, .bool false, .string ⟨#[]⟩, .int .u32 0] : List Value).toArray ?_
   refine gg ?_
   refine oS [.string ⟨#[]⟩, .string ⟨#[]⟩, .slice none 0 0, .int .i64 0, .slice none 0 0, .slice none 0 0, .slice none 0 0, .int .u64 0, .slice none 0 0, .bool false, .string ⟨#[]⟩, .int .u32 0] rfl hz1 ?_
   refine gg ?_
   refine zf (vs := [.agg ([.string ⟨#[]⟩, .string ⟨#[]⟩, .slice none 0 0, .int .i64 0, .slice none 0 0, .slice none 0 0, .slice none 0 0, .int .u64 0, .slice none 0 0, .bool false, .string ⟨#[]⟩, .int .u32 0] : List Value).toArray, .int .i64 w.1]) [quB qk bx_ s q iter [116] (ch + 1), C', stB s r1 last (reads + 1), M1, M2, nB q tb w.2, T', G, crB p n vs gen false, B', B] ?_ (hr := by (intro κ hκ; simp only [resW, withV, lookT_hit, lookT_miss, Nat.reduceBEq]; exact zm (vs := [.string ⟨#[]⟩, .string ⟨#[]⟩, .slice none 0 0, .int .i64 0, .slice none 0 0, .slice none 0 0, .slice none 0 0, .int .u64 0, .slice none 0 0, .bool false, .string ⟨#[]⟩, .int .u32 0]) lkA rfl hκ))
   exact ⟨C', T', B', _, _, rfl, ⟨rfl, hz1⟩, (fun h => absurd h h0), hvl, hC', hT', rfl⟩
end Go.Proofs.YtebikhhoppiapaaGreatDoor
namespace Go.Proofs.YtebikhhoppiapaaGreatDoor
open Go Go.Ost
theorem OO {l : List Par} (h : (xJ l).2 = 0) : (xJ l).1.length <= 4096 := by
 unfold xJ at h ⊢
 split
 ·simp
 rename_i h1
 rw [if_neg h1] at h
 split
 ·simp
 rename_i h2
 rw [if_neg h2] at h
 split
 ·simp
 ·show (hdr ++ xh l).length <= 4096; omega
instance teqRCh : TEq Tryz.prog 70 [.s, .s, .s, .b] := ⟨by kernel_rfl⟩
open Go.Sha
def numN (p : List UInt8) : Nat := p.foldl (fun n b => n * 256 + b.toNat) 0
theorem or_low (x : W) (b : UInt8) : (x <<< 8) ||| BitVec.ofNat 32 b.toNat = BitVec.ofNat 32 (x.toNat * 256 + b.toNat) := by
 have hb := b.toNat_lt
 apply BitVec.eq_of_toNat_eq
 rw [BitVec.toNat_or, BitVec.toNat_shiftLeft, BitVec.toNat_ofNat, BitVec.toNat_ofNat, Nat.mod_eq_of_lt (show b.toNat < 2 ^ 32 by omega)]
 have h1 : x.toNat <<< 8 % 2 ^ 32 = (x.toNat % 2 ^ 24) <<< 8 := by
  rw [Nat.shiftLeft_eq, Nat.shiftLeft_eq]; omega
 rw [h1, <- Nat.shiftLeft_add_eq_or_of_lt (show b.toNat < 2 ^ 8 by omega), Nat.shiftLeft_eq]
 omega
theorem num_same (p : List UInt8) : BitVec.ofNat 32 (numN p) = numW p := by
 have key : ∀ (l : List UInt8) (n : Nat) (w : W), BitVec.ofNat 32 n = w -> BitVec.ofNat 32 (l.foldl (fun (n : Nat) (b : UInt8) => n * 256 + b.toNat) n) = l.foldl (fun (n : W) (b : UInt8) => (n <<< 8) ||| BitVec.ofNat 32 b.toNat) w := by
  intro l
  induction l with
  | nil => intro n w h; exact h
  | cons b l ih =>
   intro n w h
   rw [List.foldl_cons, List.foldl_cons]
   refine ih _ _ ?_
   rw [or_low, <- h]
   apply BitVec.eq_of_toNat_eq
   rw [BitVec.toNat_ofNat, BitVec.toNat_ofNat, BitVec.toNat_ofNat]
   omega
 exact key p 0 0 rfl
instance tpAnT : TPlaces Tryz.prog 126 [(0, 1), (1, 1), (2, 1), (3, 1), (4, 1), (5, 1), (6, 1), (7, 1)] := ⟨by kernel_rfl⟩
theorem Yc : ∀ k < 16, dv (digits.getD k 0) = k := by decide +kernel
theorem UN : ∀ l : List UInt8, uhF (hex l) = some l
 | [] => rfl
 | b :: l => by
  have hb := b.toNat_lt
  have e : hex (b :: l) = digits.getD (b.toNat / 16) 0 :: digits.getD (b.toNat % 16) 0 :: hex l := rfl
  rw [e, uhF, Yc _ (by omega), Yc _ (by omega), if_neg (by omega), UN l]
  show some (UInt8.ofNat _ :: l) = _
  congr 2
  rw [show 16 * ((b.toNat / 16 : Nat) : Int).toNat + ((b.toNat % 16 : Nat) : Int).toNat = b.toNat from by omega]
  simp
theorem UL (l : List UInt8) : uhE (hex l) = (l, 0) := by
 unfold uhE
 rw [if_neg (by rw [hex_len]; omega), UN]
theorem num_hex (x : W) : numE (hex (zQ x)) = (x, true) := by
 unfold numE
 rw [UL, hex_len]
 have hw : numW (zQ x) = x := by
  have h := x.isLt
  rw [<- num_same]
  apply BitVec.eq_of_toNat_eq
  rw [BitVec.toNat_ofNat]
  show ((((0 * 256 + (UInt8.ofNat (x.toNat / 16777216)).toNat) * 256 + (UInt8.ofNat (x.toNat / 65536)).toNat) * 256 + (UInt8.ofNat (x.toNat / 256)).toNat) * 256 + (UInt8.ofNat x.toNat).toNat) % 2 ^ 32 = _
  simp only [UInt8.toNat_ofNat']
  omega
 rw [hw]; rfl
theorem pa_good (a : An) (hok : anOk a = true) : paL (vp a) = (a, 0) := by
 obtain ⟨u, r, n, uri, cn, o, nc, pf⟩ := a
 unfold anOk at hok
 simp only [Bool.and_eq_true] at hok
 obtain ⟨hs1, hs2, hs3⟩ := hok
 have hc : vp ⟨u, r, n, uri, cn, o, nc, pf⟩ = [(⟨nUser, u, true⟩ : Par), ⟨nRealm, r, true⟩, ⟨nNonce, n, true⟩, ⟨nUri, uri, true⟩, ⟨nQop, nAuth, false⟩, ⟨nNc, hex (zQ nc), false⟩, ⟨nCnonce, cn, true⟩, ⟨nResp, hex pf, true⟩] ++ opqP o ++ [⟨nAlg, nSum, false⟩] := rfl
 have key : ∀ l : List Par, hasB l nUser = true -> gotP l nUser = ⟨nUser, u, true⟩ -> hasB l nRealm = true -> gotP l nRealm = ⟨nRealm, r, true⟩ -> hasB l nNonce = true -> gotP l nNonce = ⟨nNonce, n, true⟩ -> hasB l nUri = true -> gotP l nUri = ⟨nUri, uri, true⟩ -> hasB l nQop = true -> gotP l nQop = ⟨nQop, nAuth, false⟩ -> hasB l nNc = true -> gotP l nNc = ⟨nNc, hex (zQ nc), false⟩ -> hasB l nCnonce = true -> gotP l nCnonce = ⟨nCnonce, cn, true⟩ -> hasB l nResp = true -> gotP l nResp = ⟨nResp, hex pf, true⟩ -> hasB l nAlg = true -> gotP l nAlg = ⟨nAlg, nSum, false⟩ -> (gotP l nOpaque).v = o -> (hasB l nOpaque = true -> (gotP l nOpaque).q = true) -> paL l = (⟨u, r, n, uri, cn, o, nc, pf⟩, 0) := by
  intro l a0 b0 a1 b1 a2 b2 a3 b3 a4 b4 a5 b5 a6 b6 a7 b7 a8 b8v o1 o2
  have hf : paF l = (false, false) := by
   unfold paF comF
   have g : ∀ (m v : List UInt8) (q : Bool), hasB l m = true -> gotP l m = ⟨m, v, q⟩ -> getF l m q (false, false) = (false, false) := by
    intro m v q h1 h2
    unfold getF
    rw [h1, h2]; simp
   have f : ∀ b : Bool, b = true -> vm b (false, false) = (false, false) := by
    intro b h; rw [h]; rfl
   rw [g _ _ _ a0 b0, g _ _ _ a1 b1, g _ _ _ a2 b2, f _ (by rw [b2]; exact hs1), g _ _ _ a3 b3, g _ _ _ a6 b6, f _ (by rw [b6]; exact hs2)]
   have m1 : mayF l nOpaque true (false, false) = (false, false) := by
    unfold mayF
    split
    ·rename_i h; unfold getF; rw [h, o2 h]; rfl
    ·rfl
   rw [m1, g _ _ _ a4 b4, f _ (by rw [b4]; exact beq_self_eq_true _), g _ _ _ a8 b8v, f _ (by rw [b8v]; exact beq_self_eq_true _), g _ _ _ a5 b5, f _ (by rw [b5, num_hex]), g _ _ _ a7 b7]
   exact f _ (by unfold yD; rw [b7, UL]; simpa using hs3)
  unfold paL anL
  rw [hf, if_neg (by decide), b0, b1, b2, b3, b5, b6, b7, o1, num_hex, UL]
 rw [hc]
 cases o with
 | nil => exact key _ (by kernel_rfl) (by kernel_rfl) (by kernel_rfl) (by kernel_rfl) (by kernel_rfl) (by kernel_rfl) (by kernel_rfl) (by kernel_rfl) (by kernel_rfl) (by kernel_rfl) (by kernel_rfl) (by kernel_rfl) (by kernel_rfl) (by kernel_rfl) (by kernel_rfl) (by kernel_rfl) (by kernel_rfl) (by kernel_rfl) (by kernel_rfl) (fun h => absurd h (show ¬ (false = true) by decide))
 | cons a o =>
  have ho : opqP (a :: o) = [⟨nOpaque, a :: o, true⟩] := if_neg (by simp)
  rw [ho]
  exact key _ (by kernel_rfl) (by kernel_rfl) (by kernel_rfl) (by kernel_rfl) (by kernel_rfl) (by kernel_rfl) (by kernel_rfl) (by kernel_rfl) (by kernel_rfl) (by kernel_rfl) (by kernel_rfl) (by kernel_rfl) (by kernel_rfl) (by kernel_rfl) (by kernel_rfl) (by kernel_rfl) (by kernel_rfl) (by kernel_rfl) (by kernel_rfl) (fun _ => by kernel_rfl)
theorem pa_back {a : An} (h : (qu a).2 = 0) : paE (qu a).1 = (a, 0) /\ (qu a).1.length <= 4096 := by
 unfold qu at h ⊢
 cases hs : anOk a with
 | false => rw [if_pos hs] at h; cases h
 | true =>
  have hs' : ¬ anOk a = false := by rw [hs]; simp
  rw [if_neg hs'] at h
  (first | rw [if_neg hs'] | rw [if_neg (show ¬ (true = false) by decide)])
  refine ⟨?_, OO h⟩
  unfold paE
  rw [VD h, if_neg (by simp)]
  exact pa_good a hs
open Go.Nam Go.Tab
theorem st_split {K : Chunk} {s : Nat} {us us1 us2 : List PU} {u : PU} {last reads : Int} (h : IsSt K s us last reads) (hus : us = us1 ++ u :: us2) (hun : ∀ y ∈ us1, y.n ≠ u.n) :
  ∃ (r1 r2 p : Nat) (M1 M2 B U1 U2 : Chunk) (m : List (List UInt8 × Value)) (vs : List Value), xB M1 r1 (tenM r2) /\ xB M2 r2 m /\ mget m u.n = some (.pointer (some ⟨p, 0, none⟩)) /\ SecW B vs u.sec /\
   K = stB s r1 last reads ++ (M1 ++ (M2 ++ (U1 ++ (crB p u.n vs u.gen u.rev ++ (B ++ U2))))) /\ ∀ reads', IsSt (stB s r1 last reads' ++ (M1 ++ (M2 ++ (U1 ++ (crB p u.n vs u.gen u.rev ++ (B ++ U2)))))) s us last reads' := by
 obtain ⟨r1, r2, M1, M2, cs, hc, h1, h2, hs, rfl⟩ := h
 rw [hus] at hc
 obtain ⟨c1, l, rfl, e1, e2⟩ := List.map_eq_append_iff.1 hc
 obtain ⟨c, c2, rfl, rfl, e3⟩ := List.map_eq_cons_iff.1 e2
 have hfl : (c1 ++ c :: c2).flatMap CU.C = c1.flatMap CU.C ++ (crB c.p c.u.n c.vs c.u.gen c.u.rev ++ (c.W ++ c2.flatMap CU.C)) := by simp [List.flatMap_append, CU.C]
 refine ⟨r1, r2, c.p, M1, M2, c.W, c1.flatMap CU.C, c2.flatMap CU.C, mU (c1 ++ c :: c2), c.vs, h1, h2, ?_, hs c (by simp), by rw [hfl], fun r' => ⟨r1, r2, M1, M2, c1 ++ c :: c2, by rw [hus]; exact hc, h1, h2, hs, by rw [hfl]⟩⟩
 clear hc hs h2 hfl hus
 subst e1
 induction c1 with
 | nil => simp [mU, mget]
 | cons d c1 ih =>
  have hd := hun d.u (by simp)
  have hi := ih (fun y hy => hun y (by simp only [List.map_cons, List.mem_cons]; exact .inr hy))
  simp only [mU, List.cons_append, List.map_cons, mget] at hi ⊢
  rw [if_neg (fun e => hd e.symm)]
  exact hi
theorem qchal2 {NT : Chunk} {k b s q : Nat} {iter ch : Int} {n : NS} (h : QH (some ⟨q, 0, none⟩) NT (some n)) (hser : n.ser < 1000) (d : List UInt8) (hd : d.length <= 1000) (st : Bool) (now : Int) (hn : now < 18446744073709551616) (hn0 : 0 <= now) (hln : (xg n d now).1.1.length <= 4000) :
  Meets Tryz.prog 8 [.pointer (some ⟨k, 0, none⟩), .string (str d), .bool st, .int .u64 now] [quB k b s q iter [116] ch, NT]
  fun v A => ∃ NT', v = (if (xg n d now).1.2 = 0 then .tuple #[.string (str (kg ⟨[116], (xg n d now).1.1, [], st⟩).1), .int .i64 (kg ⟨[116], (xg n d now).1.1, [], st⟩).2] else .tuple #[.string (str []), .int .i64 (xg n d now).1.2]) /\ QH (some ⟨q, 0, none⟩) NT' (some (xg n d now).2) /\ A = [quB k b s q iter [116] ch, NT'] := by
 obtain ⟨q', tb, T1, hs, hT, hq, rfl⟩ := h
 simp only [Option.some.injEq, Addr.mk.injEq, and_true] at hq
 subst hq
 refine Meets.conv [quB k b s q iter [116] ch, nB q tb n, T1] (YL hs hser hT d hd st now hn hn0 hln) flA tkA ?_; rintro v A ⟨T', rfl, hT', rfl⟩
 exact ⟨[quB k b s q iter [116] ch, nB q tb (xg n d now).2 ++ T'], [quB k b s q iter [116] ch, nB q tb (xg n d now).2, T'], flA, amA, _, rfl, ⟨q, tb, T', ok_issue hs hser d now hn0, by rw [Ub]; exact hT', rfl, rfl⟩, rfl⟩
theorem qans2 {qk bx_ s q : Nat} {iter ch last reads : Int} {C K NT G : Chunk} {us us1 us2 : List PU} {u : PU} {x : BX} {ns : NS} (hg : Globs G) (hn : GNam G) (hC : qG C bx_ x) (hts : x.ts.length <= 800) (hSt : IsSt K s us last reads) (hus : us = us1 ++ u :: us2) (hun : ∀ y ∈ us1, y.n ≠ u.n) (hrev : u.rev = false) (hsz : xF u.n 32 = (u.n, 0)) (hNT : QH (some ⟨q, 0, none⟩) NT (some ns)) (hr0 : 0 <= reads) (hr1 : reads < 1000000) (hch0 : 0 <= ch) (hch1 : ch < 1000000)
  (hd nn tgt cn o pf mt : List UInt8) (nc : W) (hpa : paE hd = (⟨u.n, [116], nn, tgt, cn, o, nc, pf⟩, 0)) (hdl : hd.length <= 100000) (hnnl : nn.length <= 4096) (htl : tgt.length <= 4096) (hcl : cn.length <= 4096) (hpl : pf.length <= 4096) (hml : mt.length <= 1000) (now : Int) (hn0 : 0 <= now) (hnow : now < 18446744073709551616) :
  Meets Tryz.prog 12 [.pointer (some ⟨qk, 0, none⟩), .agg #[.string (str mt), .string (str tgt), .string (str hd)], .int .u64 now] [quB qk bx_ s q iter [116] ch, C, K, NT, G]
  fun v A => ∃ (C' K' NT' : Chunk) (vs' rv : List Value), v = .tuple #[.agg rv.toArray, .int .i64 (ansE x ns u.sec mt ⟨u.n, [116], nn, tgt, cn, o, nc, pf⟩ now)] /\ (rv.length = 12 /\ ∀ u ∈ rv, Value.cell1 u) /\ (ansE x ns u.sec mt ⟨u.n, [116], nn, tgt, cn, o, nc, pf⟩ now = 0 -> rv = credV u.n vs' u.gen false ++ [.string (str nn), b32 nc]) /\ vs'.length = 5 /\
   qG C' bx_ (jR x u.sec.ha mt ⟨u.n, [116], nn, tgt, cn, o, nc, pf⟩).2 /\ IsSt K' s us last (reads + 1) /\ QH (some ⟨q, 0, none⟩) NT' (some (ansN x ns u.sec mt ⟨u.n, [116], nn, tgt, cn, o, nc, pf⟩ now)) /\ A = [quB qk bx_ s q iter [116] (ch + 1), C', K', NT', G] := by
 obtain ⟨r1, r2, p, M1, M2, B, U1, U2, m, vs, h1, h2, hm, hW, rfl, hback⟩ := st_split hSt hus hun
 obtain ⟨q', tb, T1, hs, hT, hq, rfl⟩ := hNT
 simp only [Option.some.injEq, Addr.mk.injEq, and_true] at hq
 subst hq
 have hnl := (Zv hsz).2
 have hq := OL (qk := qk) (s := s) (q := q) (iter := iter) (ch := ch) (last := last) (gen := u.gen) hg hn hC hts hs hT h1 h2 hr0 hr1 hch0 hch1 hd u.n u.n nn tgt cn o pf mt nc hpa hdl (by omega) hnnl htl hcl hpl hml hsz hsz hnl hm hW now hn0 hnow
 have hroom : (ansN x ns u.sec mt ⟨u.n, [116], nn, tgt, cn, o, nc, pf⟩ now).room = ns.room := by
  unfold ansN; split
  ·exact use_room _ _ _ _
  ·rfl
 have hok : NOk (ansN x ns u.sec mt ⟨u.n, [116], nn, tgt, cn, o, nc, pf⟩ now) := by
  unfold ansN; split
  ·exact ok_use hs _ _ (by omega) _
  ·exact hs
 rw [hrev] at hback ⊢
 refine Meets.conv [quB qk bx_ s q iter [116] ch, C, stB s r1 last reads, M1, M2, U1, crB p u.n vs u.gen false, B, U2, nB q tb ns, T1, G] (hq) flA tkA ?_; rintro v A ⟨C', T', B', vs', rv, rfl, hrv, hres, hvl, hC', hT', rfl⟩
 exact ⟨[quB qk bx_ s q iter [116] (ch + 1), C', stB s r1 last (reads + 1) ++ (M1 ++ (M2 ++ (U1 ++ (crB p u.n vs u.gen false ++ (B ++ U2))))), nB q tb (ansN x ns u.sec mt ⟨u.n, [116], nn, tgt, cn, o, nc, pf⟩ now) ++ T', G], [quB qk bx_ s q iter [116] (ch + 1), C', stB s r1 last (reads + 1), M1, M2, U1, crB p u.n vs u.gen false, B, U2, nB q tb (ansN x ns u.sec mt ⟨u.n, [116], nn, tgt, cn, o, nc, pf⟩ now), T', G], flA, amA, C', _, _, vs', rv, rfl, hrv, hres, hvl, hC', hback _, ⟨q, tb, T', hok, by rw [hroom]; exact hT', rfl, rfl⟩, rfl⟩
def Grows (x y : BX) : Prop := y.sym = x.sym /\ ∃ l, y.ts = x.ts ++ l
theorem Grows.refl (x : BX) : Grows x x := ⟨rfl, [], (List.append_nil _).symm⟩
theorem Grows.trans {x y z : BX} (h : Grows x y) (g : Grows y z) : Grows x z := by
 obtain ⟨h1, l1, h2⟩ := h
 obtain ⟨g1, l2, g2⟩ := g
 exact ⟨g1.trans h1, l1 ++ l2, by rw [g2, h2, List.append_assoc]⟩
theorem UV {t : Tm} : ∀ (l k : List Tm) (i j : Nat), tix t l i = some j -> tix t (l ++ k) i = some j
 | [], _, _, _, h => by cases h
 | u :: l, k, i, j, h => by
  unfold tix at h
  rw [List.cons_append]
  unfold tix
  split at h
  ·rename_i e; rw [if_pos e]; exact h
  ·rename_i e; rw [if_neg e]; exact UV l k (i + 1) j h
theorem KU {t : Tm} : ∀ (l k : List Tm) (i : Nat), tix t l i = none -> tix t (l ++ t :: k) i = some (i + l.length)
 | [], k, i, _ => by simp [tix]
 | u :: l, k, i, h => by
  unfold tix at h
  rw [List.cons_append]
  unfold tix
  split at h
  ·cases h
  ·rename_i e; rw [if_neg e, KU l k (i + 1) h, List.length_cons]; congr 1; omega
theorem wq (x : BX) (t : Tm) : Grows x (tagX x t).2 := by
 unfold tagX
 split
 ·exact .refl x
 ·exact ⟨rfl, [t], rfl⟩
theorem Yq {x y : BX} {t : Tm} (h : Grows (tagX x t).2 y) : tagX y t = ((tagX x t).1, y) := by
 obtain ⟨_, l, hl⟩ := h
 unfold tagX at hl ⊢
 cases ht : tix t x.ts 0 with
 | some i =>
  rw [ht] at hl
  simp only at hl ⊢
  rw [hl, UV _ _ _ _ ht]
 | none =>
  rw [ht] at hl
  simp only at hl ⊢
  rw [hl, List.append_assoc, List.singleton_append, KU _ _ _ ht]
  simp
theorem vg (x : BX) (m : List UInt8) : Grows x (xx x m).2 := by
 unfold xx; split
 ·exact wq _ _
 ·exact .refl x
theorem ZH (x : BX) (k m : List UInt8) : Grows x (macX x k m).2 := by
 unfold macX; split
 ·exact wq _ _
 ·exact .refl x
theorem Yt (x : BX) (p s : List UInt8) (r : Nat) : Grows x (strX x p s r).2 := by
 unfold strX; split
 ·exact wq _ _
 ·exact .refl x
theorem kz {x y : BX} {m : List UInt8} (h : Grows (xx x m).2 y) : xx y m = ((xx x m).1, y) := by
 have hs : y.sym = x.sym := h.1.trans (vg x m).1
 unfold xx at h ⊢
 rw [hs]
 split
 ·rename_i e; rw [if_pos e] at h; exact Yq h
 ·rfl
theorem Vp {x y : BX} {h m : List UInt8} {a b : An} (e : a.uri = b.uri /\ a.n = b.n /\ a.nc = b.nc /\ a.cn = b.cn) (g : Grows (jR x h m a).2 y) : jR y h m b = ((jR x h m a).1, y) := by
 unfold jR at g ⊢
 simp only at g ⊢
 rw [<- e.1, <- e.2.1, <- e.2.2.1, <- e.2.2.2, kz ((vg _ _).trans g), kz g]
theorem VO (x : BX) (n q : List UInt8) : Grows x (jO x n q).2 :=
 (Yt _ _ _ _).trans ((ZH _ _ _).trans ((vg _ _).trans ((ZH _ _ _).trans (vg _ _))))
theorem makeX_ha {x y : BX} {n q : List UInt8} (h : Grows (jO x n q).2 y) : xx y (xi n [116] q) = ((jO x n q).1.ha, y) := kz h
theorem hex2_in (b : UInt8) : (hex2 b).all inB = true := by
 have : ∀ n : Fin 256, (hex2 (UInt8.ofNat n.val)).all inB = true := by decide +kernel
 have h := this ⟨b.toNat, b.toNat_lt⟩
 simpa using h
theorem hex_in (bs : List UInt8) : (hex bs).all inB = true := by
 unfold hex
 rw [List.all_flatMap, List.all_eq_true]
 intro b _
 exact hex2_in b
theorem Iu (l : List Par) : (xh l).length <= (l.map fun p => p.n.length + 2 * p.v.length + 5).sum := by
 have h1 : ∀ p : Par, (vt p).length <= p.n.length + 2 * p.v.length + 3 := by
  intro p
  unfold vt valP
  have := OF p.v
  simp only [List.length_append, List.length_singleton]
  split <;> omega
 unfold xh
 cases l with
 | nil => simp
 | cons p l =>
  have hp := h1 p
  have h2 : (l.flatMap fun p => [44, 32] ++ vt p).length <= (l.map fun p => p.n.length + 2 * p.v.length + 5).sum := by
   induction l with
   | nil => simp
   | cons q l ih =>
    have hq := h1 q
    simp only [List.flatMap_cons, List.length_append, List.map_cons, List.sum_cons, List.length_cons, List.length_nil] at ih ⊢
    omega
  simp only [List.take_succ_cons, List.take_zero, List.flatMap_cons, List.flatMap_nil, List.append_nil, List.drop_succ_cons, List.drop_zero, List.length_append, List.map_cons, List.sum_cons] at h2 ⊢
  omega
theorem an_fine (u n uri cn pf : List UInt8) (nc : W) (hu : u.all inB = true) (hul : u.length <= 100) (hn : n.all inB = true) (hn1 : sizB n = true) (hnl : n.length <= 100) (huri : uri.all inB = true) (hil : uri.length <= 100) (hcn : cn.all inB = true) (hcn1 : sizB cn = true) (hcl : cn.length <= 100) (hpf : pf.length = 32) (hnc : tokB (hex (zQ nc)) = true) : (qu (anC u n uri cn nc pf)).2 = 0 := by
 have hok : anOk (anC u n uri cn nc pf) = true := by
  show (sizB n && (sizB cn && decide ((pf.length : Int) = 32))) = true
  rw [hn1, hcn1, hpf]; rfl
 have hq : ∀ v : List UInt8, v.all inB = true -> (quoE v).2 = true := fun v h => by unfold quoE; rw [if_pos h]
 have hb : (zQ nc).length = 4 := rfl
 have hg : ∀ nm v : List UInt8, v.all inB = true -> (tokB nm && (lowL nm == nm)) = true -> jp ⟨nm, v, true⟩ = true := fun nm v h1 h2 => by
  show ((quoE v).2 && (tokB nm && (lowL nm == nm))) = true
  rw [hq v h1, h2]; rfl
 have hgood : (vp (anC u n uri cn nc pf)).all jp = true := by
  rw [List.all_eq_true]
  intro p hp
  simp only [vp, opqP, List.mem_append, List.mem_cons, List.not_mem_nil, or_false] at hp
  rcases hp with ((rfl | rfl | rfl | rfl | rfl | rfl | rfl | rfl) | hp) | rfl
  ·exact hg _ u hu (by decide)
  ·decide
  ·exact hg _ n hn (by decide)
  ·exact hg _ uri huri (by decide)
  ·decide
  ·show (tokB (hex (zQ nc)) && (tokB nNc && (lowL nNc == nNc))) = true; rw [hnc]; decide
  ·exact hg _ cn hcn (by decide)
  ·exact hg _ _ (hex_in pf) (by decide)
  ·simp at hp
  ·decide
 have hlen : (hdr ++ xh (vp (anC u n uri cn nc pf))).length <= 4096 := by
  have := Iu (vp (anC u n uri cn nc pf))
  rw [List.length_append]
  have h2 : ((vp (anC u n uri cn nc pf)).map fun p => p.n.length + 2 * p.v.length + 5).sum <= 2000 := by
   show (8 + 2 * u.length + 5) + ((5 + 2 * 1 + 5) + ((5 + 2 * n.length + 5) + ((3 + 2 * uri.length + 5) + ((3 + 2 * 4 + 5) + ((2 + 2 * (hex (zQ nc)).length + 5) + ((6 + 2 * cn.length + 5) + ((8 + 2 * (hex pf).length + 5) + ((9 + 2 * 7 + 5) + 0)))))))) <= 2000
   rw [hex_len, hex_len, hpf, hb]
   omega
  have : hdr.length = 7 := rfl
  omega
 have hc : cntE (vp (anC u n uri cn nc pf)) = 0 := by kernel_rfl
 unfold qu
 rw [hok, if_neg (by decide)]
 unfold xJ
 rw [hgood, if_neg (by rw [show decide (0 < (vp (anC u n uri cn nc pf)).length) = true from rfl]; decide), if_neg (by omega), if_neg (by rw [hc]; decide)]
def nonA : List UInt8 := [100, 46, 48, 48, 48, 48, 48, 48, 48, 48, 48, 48, 48, 48, 48, 48, 48, 49]
def mGet : List UInt8 := [71, 69, 84]
theorem iss1 : (xg (ns0 4 100) [100] 5).1 = (nonA, 0) := by decide +kernel
theorem use1 : (useN (xg (ns0 4 100) [100] 5).2 nonA 1 6).1 = 0 := by decide +kernel
theorem ch1 : kg ⟨[116], nonA, [], false⟩ = ([68, 105, 103, 101, 115, 116, 32, 114, 101, 97, 108, 109, 61, 34, 116, 34, 44, 32, 110, 111, 110, 99, 101, 61, 34, 100, 46, 48, 48, 48, 48, 48, 48, 48, 48, 48, 48, 48, 48, 48, 48, 48, 49, 34, 44, 32, 97, 108, 103, 111, 114, 105, 116, 104, 109, 61, 83, 72, 65, 45, 50, 53, 54, 44, 32, 113, 111, 112, 61, 34, 97, 117, 116, 104, 34], 0) := by decide +kernel
def annS (sym : Bool) : Sec := (jO ⟨sym, []⟩ (uN 0) (uP 0)).1
def annU (sym : Bool) : PU := ⟨uN 0, annS sym, 1, false⟩
def bobU (sym : Bool) : PU := ⟨uN 1, (jO (jO ⟨sym, []⟩ (uN 0) (uP 0)).2 (uN 1) (uP 1)).1, 2, false⟩
theorem lx_us (sym : Bool) : (lx sym 2).1 = [] ++ annU sym :: [bobU sym] := rfl
theorem Uv {sym : Bool} {y : BX} (g : Grows (lx sym 2).2 y) (m uri n cn : List UInt8) (nc : W) :
  qF y (uN 0) (uP 0) m uri n cn nc = (qu (anC (uN 0) n uri cn nc (jR y (annS sym).ha m (anC (uN 0) n uri cn nc [])).1), (jR y (annS sym).ha m (anC (uN 0) n uri cn nc [])).2) := by
 have h1 : Grows (jO ⟨sym, []⟩ (uN 0) (uP 0)).2 y := (VO (jO ⟨sym, []⟩ (uN 0) (uP 0)).2 (uN 1) (uP 1)).trans g
 unfold qF
 simp only
 rw [makeX_ha h1]
 rfl
instance tpAsk : TPlaces Tryz.prog 54 [(0, 1), (1, 1), (2, 1)] := ⟨by kernel_rfl⟩
theorem ann_ans {sym : Bool} {qk b s q : Nat} {iter ch last reads : Int} {C K NT G : Chunk} {x : BX} {ns : NS} (hg : Globs G) (hn : GNam G) (hC : qG C b x) (hts : x.ts.length <= 800) (hSt : IsSt K s (lx sym 2).1 last reads) (hNT : QH (some ⟨q, 0, none⟩) NT (some ns)) (hr0 : 0 <= reads) (hr1 : reads < 1000000) (hch0 : 0 <= ch) (hch1 : ch < 1000000)
  (hd uri pf mt : List UInt8) (hpa : paE hd = (anC (uN 0) nonA uri [99] 1 pf, 0)) (hdl : hd.length <= 100000) (htl : uri.length <= 4096) (hpl : pf.length <= 4096) (hml : mt.length <= 1000) :
  Meets Tryz.prog 12 [.pointer (some ⟨qk, 0, none⟩), .agg #[.string (str mt), .string (str uri), .string (str hd)], .int .u64 6] [quB qk b s q iter [116] ch, C, K, NT, G]
  fun v A => ∃ (C' K' NT' : Chunk) (vs' rv : List Value), v = .tuple #[.agg rv.toArray, .int .i64 (ansE x ns (annS sym) mt (anC (uN 0) nonA uri [99] 1 pf) 6)] /\ (rv.length = 12 /\ ∀ u ∈ rv, Value.cell1 u) /\ (ansE x ns (annS sym) mt (anC (uN 0) nonA uri [99] 1 pf) 6 = 0 -> rv = credV (uN 0) vs' 1 false ++ [.string (str nonA), b32 1]) /\ vs'.length = 5 /\
   qG C' b (jR x (annS sym).ha mt (anC (uN 0) nonA uri [99] 1 pf)).2 /\ IsSt K' s (lx sym 2).1 last (reads + 1) /\ QH (some ⟨q, 0, none⟩) NT' (some (ansN x ns (annS sym) mt (anC (uN 0) nonA uri [99] 1 pf) 6)) /\ A = [quB qk b s q iter [116] (ch + 1), C', K', NT', G] :=
 qans2 (u := annU sym) (us1 := []) (us2 := [bobU sym]) hg hn hC hts hSt (lx_us sym) (fun _ h => nomatch h) rfl (kH 0) hNT hr0 hr1 hch0 hch1 hd nonA uri [99] [] pf mt 1 hpa hdl (by decide) htl (by decide) hpl hml 6 (by decide) (by decide)
theorem QD {G : Chunk} (hg : Globs3 G) (hn : GNam G) : Meets Tryz.prog 6 [] [G] fun v A => v = .bool true /\ A = [G] := by
 refine eN Tryz.func6 Tryz.ntmps6 Tryz.results6 fun F => ?_
 refine gg ?_
 refine cA (WO hg hn false 4 100 (by decide) (by decide) (by decide) (by decide)) ?_; rintro v A ⟨b, s, q, k, o, y, rb, rs, rn, C, R, Ks, RKs, NT, RT, rfl, hC, hR, hSt, hRs, hNT, hRT, rfl⟩; refine gA ?_
 obtain ⟨hxt, _⟩ := lx_ts false 2
 have hcl := Uv (Grows.refl (lx false 2).2) mGet [47] nonA [99] 1
 have hst := Vp (a := anC (uN 0) nonA [47] [99] 1 []) (b := anC (uN 0) nonA [47] [99] 1 (jR (lx false 2).2 (annS false).ha mGet (anC (uN 0) nonA [47] [99] 1 [])).1) ⟨rfl, rfl, rfl, rfl⟩ (Grows.refl (jR (lx false 2).2 (annS false).ha mGet (anC (uN 0) nonA [47] [99] 1 [])).2)
 have hts := respX_ts (lx false 2).2 (annS false).ha mGet (anC (uN 0) nonA [47] [99] 1 [])
 have hrl := yB (lx false 2).2 (annS false).ha mGet (anC (uN 0) nonA [47] [99] 1 [])
 have hcs := Kw hg hC hR (k := k) (y := y) (o := o) (s := s) (q := q) (us := rs) (ns := rn) (iter := 2) (it2 := 2) (ch := 0) (by omega) (uN 0) (uP 0) mGet [47] nonA [99] 1 (by decide) (by decide) (by decide) (by decide) (by decide) (by decide)
 rw [hcl] at hcs
 generalize (lx false 2).2 = x at *
 generalize jR x (annS false).ha mGet (anC (uN 0) nonA [47] [99] 1 []) = r at *
 have hq := qchal2 (k := k) (b := b) (s := s) (iter := 2) (ch := 0) hNT (by decide) [100] (by decide) false 5 (by decide) (by decide) (by rw [iss1]; decide)
 rw [iss1, if_pos rfl, ch1] at hq
 have hf := an_fine (uN 0) nonA [47] [99] r.1 1 (by decide) (by decide) (by decide) (by decide) (by decide) (by decide) (by decide) (by decide) (by decide) (by decide) hrl (by decide)
 obtain ⟨hpa, hpl⟩ := pa_back hf
 refine oA ([.pointer none, .pointer none, .pointer none, .int .i64 0, .pointer none, .pointer none, .pointer none] : List Value).toArray fun b1 => ?_
 refine gg ?_
 refine oS (botV b s q 2 o k y) rfl (by simp [Value.cell1]) ?_
 refine gg ?_
 refine gM ?_
 refine cA (hq) ?_; rintro v A ⟨NT', rfl, hNT', rfl⟩; refine gA ?_
 refine oL (botV b s q 2 o k y) rfl ?_
 refine gg ?_
 refine cA (hcs) ?_; rintro v A ⟨C', R', rfl, hC', hR', rfl⟩; refine gA ?_
 refine gM ?_
 refine oT [(0, .string ⟨#[71, 69, 84]⟩), (1, .string ⟨#[47]⟩), (2, .string (str (qu (anC (uN 0) nonA [47] [99] 1 r.1)).1))] ([.string (str mGet), .string (str [47]), .string (str (qu (anC (uN 0) nonA [47] [99] 1 r.1)).1)] : List Value).toArray ?_
 refine gg ?_
 refine cA (ann_ans (sym := false) (x := r.2) (ch := 0) (reads := 0) hg.1 hn hC' (by omega) hSt hNT' (by decide) (by decide) (by decide) (by decide) _ [47] r.1 mGet hpa (by omega) (by decide) (by omega) (by decide)) ?_; rintro v A ⟨C2, Ks2, NT2, vs', rv, rfl, ⟨hrl2, hrc⟩, hres, hvl, hC2, hSt2, hNT2, rfl⟩; refine gA ?_
 have he : ansE r.2 (xg (ns0 4 100) [100] 5).2 (annS false) mGet (anC (uN 0) nonA [47] [99] 1 r.1) 6 = 0 := by
  unfold ansE
  rw [hst, if_pos rfl]
  exact use1
 obtain rfl := hres he
 obtain ⟨v0, v1, v2, v3, v4, rfl⟩ : ∃ v0 v1 v2 v3 v4, vs' = [v0, v1, v2, v3, v4] := by
  match vs', hvl with
  | [v0, v1, v2, v3, v4], _ => exact ⟨v0, v1, v2, v3, v4, rfl⟩
 rw [he]
 simp only [credV, List.cons_append, List.nil_append] at hrc hrl2
 refine oA ([.string ⟨#[]⟩, .string ⟨#[]⟩, .slice none 0 0, .int .i64 0, .slice none 0 0, .slice none 0 0, .slice none 0 0, .int .u64 0, .slice none 0 0, .bool false, .string ⟨#[]⟩, .int .u32 0] : List Value).toArray fun b5 => ?_
 refine gg ?_
 refine oS [.string (str [116]), .string (str (uN 0)), v0, v1, v2, v3, v4, .int .u64 1, .slice none 0 0, .bool false, .string (str nonA), b32 1] hrl2 hrc ?_
 refine gg ?_
 refine ze fun K hK => ?_; simp only [List.append_eq, List.cons_append, List.nil_append, beq_self_eq_true, if_true]; refine hK _ _ ?_; clear hK K
 refine gg ?_
 rw [show (uN 0 == [97, 110, 110]) = true from rfl]
 refine gg ?_
 refine gM ?_
 rw [show b32 1 = .int .u32 1 from rfl]
 refine gg ?_
 refine zb [G] ?_; exact ⟨rfl, rfl⟩
end Go.Proofs.YtebikhhoppiapaaGreatDoor
namespace Go.Proofs.YtebikhhoppiapaaGreatDoor
open Go Go.Ost Go.Sha Go.ChangeShapes Go.WideShapes Go.ChangeAt Go.RowKit
theorem Xj {P : Program} {W : World} {name : String} {zs : List Int} {rest : List (String × DataW Unit)} {ps : List MemPlace} {g : Nat} {t e : TypeId} {n : Nat} {l : List W32}
  (hg : P.globalNamed name = some g) (hty : (P.globals[g]?).map (·.type) = some t) (ht : P.underlying t = some (.array n e)) (he : P.underlying e = some (.int .u32)) (hce : P.cellsOf e = 1) (hct : P.cellsOf t = n)
  (hz : zs = l.map fun x => (x.toNat : Int)) (h : DataW.LaidVars P W ((name, Lib.tabData .u32 zs) :: rest) ps) : (∃ ty m, W.heap[g]? = some (.cells (rowW l) ty m)) /\ ∃ qs, DataW.LaidVars P W rest qs := by
 obtain ⟨g', t', cs, fuel, p, q, hg', ht', hvar, hd, hr, _⟩ := h
 obtain rfl := Option.some.inj (hg.symm.trans hg')
 obtain rfl := Option.some.inj (hty.symm.trans ht')
 refine ⟨?_, q, hr⟩
 have hcs := Lib.cells_of_tab ht he hce hct hd
 simp only [World.var?, hg, Option.bind_some] at hvar
 split at hvar
 ·rename_i c ty fr hb
  cases hvar
  refine ⟨ty, fr, ?_⟩
  rw [hb]
  have : cs = rowW l := by
   apply Array.ext'
   rw [hcs, hz, List.map_map]; rfl
  rw [this]
 ·cases hvar
def firstZ : List Int := [1779033703, 3144134277, 1013904242, 2773480762, 1359893119, 2600822924, 528734635, 1541459225]
def oddZ : List Int := [1116352408, 1899447441, 3049323471, 3921009573, 961987163, 1508970993, 2453635748, 2870763221, 3624381080, 310598401, 607225278, 1426881987, 1925078388, 2162078206, 2614888103, 3248222580, 3835390401, 4022224774, 264347078, 604807628, 770255983, 1249150122, 1555081692, 1996064986, 2554220882, 2821834349, 2952996808, 3210313671, 3336571891, 3584528711, 113926993, 338241895, 666307205, 773529912, 1294757372, 1396182291, 1695183700, 1986661051, 2177026350, 2456956037, 2730485921, 2820302411, 3259730800, 3345764771, 3516065817, 3600352804, 4094571909, 275423344, 430227734, 506948616, 659060556, 883997877, 958139571, 1322822218, 1537002063, 1747873779, 1955562222, 2024104815, 2227730452, 2361852424, 2428436474, 2756734187, 3204031479, 3329325298]
theorem first_z : firstZ = first.list.map fun x => (x.toNat : Int) := by decide +kernel
theorem odd_z : oddZ = odd.map fun x => (x.toNat : Int) := by decide +kernel
open Go.Nam
def span7 (p : Int × Int) : List Lit := [.int .i32 p.1, .int .i32 p.2]
def form7 (i : Nat) : List Lit := [.int .i64 ((i : Int) + 1), .int .u8 ((mk i).toNat : Int), .int .u8 ((ld i).toNat : Int), .int .i32 (ls i)]
def rows7 {H : Type} (rows : List (List Lit)) : DataW H := .agg (rows.map fun r => .agg (r.map DataW.lit))
structure Globs7 (C : Chunk) : Prop where
 g : Globs3 C
 n : GNam C
theorem laid7 {W : World} (h : laidMetH Tryz.prog Rows.questNilRow.laid W) (C : Chunk) (hC : ∀ k o, W.heap[k]? = some o -> (k, o) ∈ C) : Globs7 C := by
 have h' : laidMet Tryz.prog [("ostiary/ostiaryref01.words", Lib.tabData .u32 oddZ), ("ostiary/sha.first", Lib.tabData .u32 firstZ), ("ostiary/sha.odd", Lib.tabData .u32 oddZ), ("ostiary/name.blanks", rows7 (blanks.map span7)), ("ostiary/name.nothing", rows7 (nothing.map span7)), ("ostiary/name.barred", rows7 (barred.map span7)), ("ostiary/name.forms", rows7 ([0, 1, 2, 3].map form7))] W := h
 obtain ⟨ps, h0, _, _⟩ := h'
 obtain ⟨⟨t2, m2, hb2⟩, qs, h1⟩ := Xj (g := 4) (t := 352) (e := 42) (n := 64) (by kernel_rfl) (by kernel_rfl) (by kernel_rfl) (by kernel_rfl) (by kernel_rfl) (by kernel_rfl) odd_z h0
 obtain ⟨⟨t0, m0, hb0⟩, qs, h2⟩ := Xj (g := 0) (t := 302) (e := 42) (n := 8) (by kernel_rfl) (by kernel_rfl) (by kernel_rfl) (by kernel_rfl) (by kernel_rfl) (by kernel_rfl) first_z h1
 obtain ⟨⟨t1, m1, hb1⟩, qs, h3⟩ := Xj (g := 3) (t := 352) (e := 42) (n := 64) (by kernel_rfl) (by kernel_rfl) (by kernel_rfl) (by kernel_rfl) (by kernel_rfl) (by kernel_rfl) odd_z h2
 obtain ⟨⟨t3, m3, hb3⟩, qs, h4⟩ := kP (g := 5) (t := 366) (e := 342) (n := 6) (ks := [.i32, .i32]) (by kernel_rfl) (by kernel_rfl) (by kernel_rfl) (by kernel_rfl) (by kernel_rfl) (by decide) (by kernel_rfl) h3
 obtain ⟨⟨t4, m4, hb4⟩, qs, h5⟩ := kP (g := 6) (t := 367) (e := 342) (n := 5) (ks := [.i32, .i32]) (by kernel_rfl) (by kernel_rfl) (by kernel_rfl) (by kernel_rfl) (by kernel_rfl) (by decide) (by kernel_rfl) h4
 obtain ⟨⟨t5, m5, hb5⟩, qs, h6⟩ := kP (g := 1) (t := 343) (e := 342) (n := 9) (ks := [.i32, .i32]) (by kernel_rfl) (by kernel_rfl) (by kernel_rfl) (by kernel_rfl) (by kernel_rfl) (by decide) (by kernel_rfl) h5
 obtain ⟨⟨t6, m6, hb6⟩, _, _⟩ := kP (g := 7) (t := 370) (e := 369) (n := 4) (ks := [.i64, .u8, .u8, .i32]) (by kernel_rfl) (by kernel_rfl) (by kernel_rfl) (by kernel_rfl) (by kernel_rfl) (by decide) (by kernel_rfl) h6
 exact ⟨⟨⟨⟨t0, m0, hC _ _ hb0⟩, ⟨t1, m1, hC _ _ hb1⟩⟩, ⟨t2, m2, hC _ _ hb2⟩⟩, ⟨t6, m6, hC _ _ hb6⟩, ⟨t5, m5, hC _ _ hb5⟩, ⟨t3, m3, hC _ _ hb3⟩, ⟨t4, m4, hC _ _ hb4⟩⟩
def put7 (cs : Array Value) : Obj -> Obj
 | .cells _ t fr => .cells cs t fr
 | o => o
noncomputable def wA (os : Os) : World :=
 { World.holding Tryz.prog os ⟨#[], #[], []⟩ with heap := (((((((World.holding Tryz.prog os ⟨#[], #[], []⟩).heap.modify 7 (put7 formsV.toArray)).modify 1 (put7 (barred.flatMap yn).toArray)).modify 5 (put7 (blanks.flatMap yn).toArray)).modify 6 (put7 (nothing.flatMap yn).toArray)).modify 0 (put7 (firstZ.map fun z => Value.int .u32 z).toArray)).modify 3 (put7 (oddZ.map fun z => Value.int .u32 z).toArray)).modify 4 (put7 (oddZ.map fun z => Value.int .u32 z).toArray) }
end Go.Proofs.YtebikhhoppiapaaGreatDoor
namespace Go.Proofs.YtebikhhoppiapaaGreatDoor
open Go Go.Ost Go.Sha Go.Nam Go.Tab
abbrev zRes : List Value := [.string ⟨#[]⟩, .string ⟨#[]⟩, .slice none 0 0, .int .i64 0, .slice none 0 0, .slice none 0 0, .slice none 0 0, .int .u64 0, .slice none 0 0, .bool false, .string ⟨#[]⟩, .int .u32 0]
theorem qans_nil (m t h : List UInt8) (now : Int) : Meets Tryz.prog 12 [.pointer none, .agg #[.string (str m), .string (str t), .string (str h)], .int .u64 now] [] fun v A => v = .tuple #[.agg zRes.toArray, .int .i64 6] /\ A = [] := by
 refine eN Tryz.func12 Tryz.ntmps12 Tryz.results12 fun F => ?_
 refine gg ?_
 refine oB fun b4 => ?_
 refine gg ?_
 refine oA ([.string ⟨#[]⟩, .string ⟨#[]⟩, .slice none 0 0, .int .i64 0, .slice none 0 0, .slice none 0 0, .slice none 0 0, .int .u64 0, .slice none 0 0, .bool false, .string ⟨#[]⟩, .int .u32 0] : List Value).toArray fun b6 => ?_
 refine gg ?_
 refine oT [] ([.string ⟨#[]⟩, .string ⟨#[]⟩, .slice none 0 0, .int .i64 0, .slice none 0 0, .slice none 0 0, .slice none 0 0, .int .u64 0, .slice none 0 0, .bool false, .string ⟨#[]⟩, .int .u32 0] : List Value).toArray ?_
 refine gg ?_
 refine oS [.string ⟨#[]⟩, .string ⟨#[]⟩, .slice none 0 0, .int .i64 0, .slice none 0 0, .slice none 0 0, .slice none 0 0, .int .u64 0, .slice none 0 0, .bool false, .string ⟨#[]⟩, .int .u32 0] rfl (by simp [Value.cell1]) ?_
 refine gg ?_
 refine zf (vs := [.agg zRes.toArray, .int .i64 6]) [] ?_ (hr := by (intro κ hκ; simp only [resW, withV, lookT_hit, lookT_miss, Nat.reduceBEq]; exact zm (vs := zRes) lkA rfl hκ))
 exact ⟨rfl, rfl⟩
def newE (iter : Int) (t : List UInt8) : Int := if 1 <= iter /\ iter <= 64 then (if qK t = true then 0 else 5) else 1
theorem Wx (b s q : Nat) (iter : Int) (t : List UInt8) (hl : t.length <= 1000) : Meets Tryz.prog 15 [.agg (offV b s q iter).toArray, .string (str t)] [] fun v A => ∃ p : Option Addr, v = .tuple #[.pointer p, .int .i64 (newE iter t)] /\ A = [] := by
 unfold newE
 by_cases hi : 1 <= iter /\ iter <= 64
 ·rw [if_pos hi]
  by_cases ht : qK t = true
  ·rw [if_pos ht]
   refine Meets.conv [] (OH b s q iter hi t hl ht) rfl (.nil _) ?_
   rintro v A ⟨k, rfl, rfl⟩
   exact ⟨[], [], rfl, .nil _, _, rfl, rfl⟩
  ·rw [if_neg ht]
   refine Meets.conv [] (OG b s q iter hi t hl (by simpa using ht)) rfl (.nil _) ?_
   rintro v A ⟨rfl, rfl⟩
   exact ⟨[], [], rfl, .nil _, _, rfl, rfl⟩
 ·rw [if_neg hi]
  refine Meets.conv [] (qnew_arg b s q iter hi t) rfl (.nil _) ?_
  rintro v A ⟨rfl, rfl⟩
  exact ⟨[], [], rfl, .nil _, _, rfl, rfl⟩
theorem QG (C : Chunk) (h7 : Globs7 C) (iter : Int) (hiter : (Lit.int .i64 iter).wf = true) (tenant : List UInt8) (_ : (str tenant).size <= maxLen) (text : List UInt8) (_ : (str text).size <= maxLen) :
  Meets Tryz.prog 4 [.int .i64 iter, .string (str tenant), .string (str text)] [C] fun v A => v = .bool true /\ A = [C] := by
 obtain ⟨hg, hn⟩ := h7
 have hl1 : (text.take 50).length <= 50 := List.length_take_le _ _
 have hl2 : (tenant.take 40).length <= 40 := List.length_take_le _ _
 refine eN Tryz.func4 Tryz.ntmps4 Tryz.results4 fun F => ?_
 refine gg ?_
 refine cA (QD hg hn) ?_; rintro v A ⟨rfl, rfl⟩; refine gA ?_
 refine cA (wN text 50) ?_; rintro v A ⟨rfl, rfl⟩; refine gA ?_
 refine cA (wN tenant 40) ?_; rintro v A ⟨rfl, rfl⟩; refine gA ?_
 generalize text.take 50 = tx at *
 generalize tenant.take 40 = tn at *
 refine cA (OK tx false 1) ?_; rintro v A ⟨rfl, rfl⟩; refine gA ?_
 refine oT [(2, .string (str tx))] ([.string (str []), .string (str []), .string (str tx)] : List Value).toArray ?_
 refine gg ?_
 refine cA (qans_nil [] [] tx 1) ?_; rintro v A ⟨rfl, rfl⟩; refine gA ?_
 refine oA ([.string ⟨#[]⟩, .string ⟨#[]⟩, .slice none 0 0, .int .i64 0, .slice none 0 0, .slice none 0 0, .slice none 0 0, .int .u64 0, .slice none 0 0, .bool false, .string ⟨#[]⟩, .int .u32 0] : List Value).toArray fun b10 => ?_
 refine gg ?_
 refine oS [.string ⟨#[]⟩, .string ⟨#[]⟩, .slice none 0 0, .int .i64 0, .slice none 0 0, .slice none 0 0, .slice none 0 0, .int .u64 0, .slice none 0 0, .bool false, .string ⟨#[]⟩, .int .u32 0] rfl (by simp [Value.cell1]) ?_
 refine gg ?_
 refine cA (WO hg hn false 4 5 (by decide) (by decide) (by decide) (by decide)) ?_; rintro v A ⟨b, s, q, k, o, y, rb, rs, rn, B, R, Ks, RKs, NT, RT, rfl, _, _, _, _, _, _, rfl⟩; refine gA ?_
 refine oA ([.pointer none, .pointer none, .pointer none, .int .i64 0, .pointer none, .pointer none, .pointer none] : List Value).toArray fun b12 => ?_
 refine gg ?_
 refine oS (botV b s q 2 o k y) rfl (by simp [Value.cell1]) ?_
 refine gg ?_
 refine ze fun K hK => ?_; refine vR (vs := botV b s q 2 o k y) (o := 0) (ws := offV b s q 2) lkA (by show 0 + 4 <= 7; decide) rfl ?_; refine hK _ _ ?_; clear hK K
 refine gg ?_
 refine oA ([.pointer none, .pointer none, .pointer none, .int .i64 0] : List Value).toArray fun b13 => ?_
 refine gg ?_
 refine oS [.pointer (some ⟨b, 0, none⟩), .pointer (some ⟨s, 0, none⟩), .pointer (some ⟨q, 0, none⟩), .int .i64 2] rfl (by simp [Value.cell1]) ?_
 refine gg ?_
 refine gM ?_
 refine oL (offV b s q iter) rfl ?_
 refine gg ?_
 refine cA (Wx b s q iter [116] (by decide)) ?_; rintro v A ⟨p1, rfl, rfl⟩; refine gA ?_
 refine ze fun K hK => ?_; refine vR (vs := botV b s q 2 o k y) (o := 0) (ws := offV b s q 2) lkA (by show 0 + 4 <= 7; decide) rfl ?_; refine hK _ _ ?_; clear hK K
 refine gg ?_
 refine cA (Wx b s q 2 tn (by omega)) ?_; rintro v A ⟨p2, rfl, rfl⟩; refine gA ?_
 refine gM ?_
 refine oL [.pointer (some ⟨b, 0, none⟩), .pointer none, .pointer (some ⟨q, 0, none⟩), .int .i64 iter] rfl ?_
 refine gg ?_
 refine cA (OI b q iter [116]) ?_; rintro v A ⟨rfl, rfl⟩; refine gA ?_
 have e2 : newE 2 tn = 0 ∨ newE 2 tn = 5 := by
  unfold newE
  rw [if_pos (by decide)]
  split
  ·exact .inl rfl
  ·exact .inr rfl
 by_cases hi : 1 <= iter /\ iter <= 64
 ·have e1 : newE iter [116] = 0 := by unfold newE; rw [if_pos hi]; rfl
  rw [e1]
  refine gg ?_
  rw [decide_eq_true hi.1]
  refine gg ?_
  rw [decide_eq_true hi.2]
  refine gg ?_
  rcases e2 with e2 | e2 <;> rw [e2] <;> (refine gg ?_; (refine cA (kq) ?_; rintro v A ⟨rfl, rfl⟩; refine gA ?_); refine zb [C] ?_; exact ⟨rfl, rfl⟩)
 ·have e1 : newE iter [116] = 1 := by unfold newE; rw [if_neg hi]
  rw [e1]
  refine gg ?_
  by_cases h1 : 1 <= iter
  ·rw [decide_eq_true h1]
   refine gg ?_
   rw [decide_eq_false (show ¬ iter <= 64 by omega)]
   refine gg ?_
   rcases e2 with e2 | e2 <;> rw [e2] <;> (refine gg ?_; (refine cA (kq) ?_; rintro v A ⟨rfl, rfl⟩; refine gA ?_); refine zb [C] ?_; exact ⟨rfl, rfl⟩)
  ·rw [decide_eq_false h1]
   refine gg ?_
   rcases e2 with e2 | e2 <;> rw [e2] <;> (refine gg ?_; (refine cA (kq) ?_; rintro v A ⟨rfl, rfl⟩; refine gA ?_); refine zb [C] ?_; exact ⟨rfl, rfl⟩)
end Go.Proofs.YtebikhhoppiapaaGreatDoor
