/- Texts in a row: the walk's rules and contracts, as each says. Conditions: as each says. -/
import Derived.Test.YtfoppclmjmpjiaaM7691d4c8
import Derived.Test.YtfoppclmjmpjiaaM1bd2b66d
import Derived.Test.YtfoppclmjmpjiaaM8f6a7144
/- A text that is gone through: a sign is passed by. Conditions: as each says. -/
set_option linter.unusedSimpArgs false
set_option linter.unusedVariables false
namespace Go.Proofs.Ytfoppclmjmpjiaa
open Go Go.Ost

abbrev scB (b : Nat) (s : List UInt8) : Chunk := [(b, .cells #[.string (str s)] 101 (0, 0))]
def signE (s : List UInt8) (c : UInt8) : Bool × List UInt8 := match s with
  | [] => (false, [])
  | d :: r => if d = c then (true, r) else (false, d :: r)

theorem sign_spec (b : Nat) (s : List UInt8) (c : UInt8) (hs : s.length ≤ 100000) : Meets Try.prog 54 [.pointer (some ⟨b, 0, none⟩), b8 c] [scB b s] fun v A => v = .bool (signE s c).1 ∧ A = [scB b (signE s c).2] := by
  cases s with
  | nil =>
    refine spec_intro Try.func54 rfl (by kernel_rfl) (by rw [Try.ntmps54]; simp) fun F => ?_; rw [Try.ntmps54, Try.results54]
    (repeat (first | (with_reducible refine run_nil ?_) | ((with_reducible refine run_probe ?_); refine runq_more ?_) | (with_reducible refine then_n ?_) | (with_reducible refine then_r ?_) | (with_reducible refine then_e ?_) | (with_reducible refine block_n ?_) | (with_reducible refine block_r ?_) | (with_reducible refine block_e ?_) | ((with_reducible refine block_probe ?_); refine block_o ?_) | (with_reducible refine scope_n ?_) | (with_reducible refine scope_r ?_) | (with_reducible refine scope_e ?_) | (with_reducible refine code_seq ?_) | (with_reducible refine code_skip ?_) | (with_reducible refine code_label ?_) | (with_reducible refine code_block ?_) | (with_reducible refine code_scope ?_) | (with_reducible refine code_exit ?_) | (with_reducible refine code_ret ?_) | ((with_reducible refine reg_probe ?_); refine regq_to ?_) | (with_reducible refine draw_nil ?_) | ((with_reducible refine draw_probe ?_); (first | refine drawq_more ?_ | refine drawq_as ?_)) | ((with_reducible refine cond_probe ?_); (first | refine code_then ?_ | refine code_else ?_))))
    (try rw [beq_self_eq_true])
    (try (repeat (first | (with_reducible refine run_nil ?_) | ((with_reducible refine run_probe ?_); refine runq_more ?_) | (with_reducible refine then_n ?_) | (with_reducible refine then_r ?_) | (with_reducible refine then_e ?_) | (with_reducible refine block_n ?_) | (with_reducible refine block_r ?_) | (with_reducible refine block_e ?_) | ((with_reducible refine block_probe ?_); refine block_o ?_) | (with_reducible refine scope_n ?_) | (with_reducible refine scope_r ?_) | (with_reducible refine scope_e ?_) | (with_reducible refine code_seq ?_) | (with_reducible refine code_skip ?_) | (with_reducible refine code_label ?_) | (with_reducible refine code_block ?_) | (with_reducible refine code_scope ?_) | (with_reducible refine code_exit ?_) | (with_reducible refine code_ret ?_) | ((with_reducible refine reg_probe ?_); refine regq_to ?_) | (with_reducible refine draw_nil ?_) | ((with_reducible refine draw_probe ?_); (first | refine drawq_more ?_ | refine drawq_as ?_)) | ((with_reducible refine cond_probe ?_); (first | refine code_then ?_ | refine code_else ?_)))))
    refine back_tmp [scB b []] ?_; exact ⟨rfl, rfl⟩
  | cons d r =>
    rw [List.length_cons] at hs
    have hl1 : 0 < (d :: r).length := by simp
    simp only [signE]
    refine spec_intro Try.func54 rfl (by kernel_rfl) (by rw [Try.ntmps54]; simp) fun F => ?_; rw [Try.ntmps54, Try.results54]
    (repeat (first | (with_reducible refine run_nil ?_) | ((with_reducible refine run_probe ?_); refine runq_more ?_) | (with_reducible refine then_n ?_) | (with_reducible refine then_r ?_) | (with_reducible refine then_e ?_) | (with_reducible refine block_n ?_) | (with_reducible refine block_r ?_) | (with_reducible refine block_e ?_) | ((with_reducible refine block_probe ?_); refine block_o ?_) | (with_reducible refine scope_n ?_) | (with_reducible refine scope_r ?_) | (with_reducible refine scope_e ?_) | (with_reducible refine code_seq ?_) | (with_reducible refine code_skip ?_) | (with_reducible refine code_label ?_) | (with_reducible refine code_block ?_) | (with_reducible refine code_scope ?_) | (with_reducible refine code_exit ?_) | (with_reducible refine code_ret ?_) | ((with_reducible refine reg_probe ?_); refine regq_to ?_) | (with_reducible refine draw_nil ?_) | ((with_reducible refine draw_probe ?_); (first | refine drawq_more ?_ | refine drawq_as ?_)) | ((with_reducible refine cond_probe ?_); (first | refine code_then ?_ | refine code_else ?_))))
    rw [show ((d :: r : List UInt8) == []) = false from rfl]
    (repeat (first | (with_reducible refine run_nil ?_) | ((with_reducible refine run_probe ?_); refine runq_more ?_) | (with_reducible refine then_n ?_) | (with_reducible refine then_r ?_) | (with_reducible refine then_e ?_) | (with_reducible refine block_n ?_) | (with_reducible refine block_r ?_) | (with_reducible refine block_e ?_) | ((with_reducible refine block_probe ?_); refine block_o ?_) | (with_reducible refine scope_n ?_) | (with_reducible refine scope_r ?_) | (with_reducible refine scope_e ?_) | (with_reducible refine code_seq ?_) | (with_reducible refine code_skip ?_) | (with_reducible refine code_label ?_) | (with_reducible refine code_block ?_) | (with_reducible refine code_scope ?_) | (with_reducible refine code_exit ?_) | (with_reducible refine code_ret ?_) | ((with_reducible refine reg_probe ?_); refine regq_to ?_) | (with_reducible refine draw_nil ?_) | ((with_reducible refine draw_probe ?_); (first | refine drawq_more ?_ | refine drawq_as ?_)) | ((with_reducible refine cond_probe ?_); (first | refine code_then ?_ | refine code_else ?_))))
    rw [show (d :: r).getD 0 0 = d from rfl]
    by_cases hd : d = c
    · subst hd
      rw [if_pos rfl, bne_self_eq_false]
      (repeat (first | (with_reducible refine run_nil ?_) | ((with_reducible refine run_probe ?_); refine runq_more ?_) | (with_reducible refine then_n ?_) | (with_reducible refine then_r ?_) | (with_reducible refine then_e ?_) | (with_reducible refine block_n ?_) | (with_reducible refine block_r ?_) | (with_reducible refine block_e ?_) | ((with_reducible refine block_probe ?_); refine block_o ?_) | (with_reducible refine scope_n ?_) | (with_reducible refine scope_r ?_) | (with_reducible refine scope_e ?_) | (with_reducible refine code_seq ?_) | (with_reducible refine code_skip ?_) | (with_reducible refine code_label ?_) | (with_reducible refine code_block ?_) | (with_reducible refine code_scope ?_) | (with_reducible refine code_exit ?_) | (with_reducible refine code_ret ?_) | ((with_reducible refine reg_probe ?_); refine regq_to ?_) | (with_reducible refine draw_nil ?_) | ((with_reducible refine draw_probe ?_); (first | refine drawq_more ?_ | refine drawq_as ?_)) | ((with_reducible refine cond_probe ?_); (first | refine code_then ?_ | refine code_else ?_))))
      (try rw [show ((d :: r).take (d :: r).length).drop (1 : Int).toNat = r from by simp])
      (try rw [show ((d :: r).drop (1 : Int).toNat).take ((d :: r).length - (1 : Int).toNat) = r from by simp])
      (try (repeat (first | (with_reducible refine run_nil ?_) | ((with_reducible refine run_probe ?_); refine runq_more ?_) | (with_reducible refine then_n ?_) | (with_reducible refine then_r ?_) | (with_reducible refine then_e ?_) | (with_reducible refine block_n ?_) | (with_reducible refine block_r ?_) | (with_reducible refine block_e ?_) | ((with_reducible refine block_probe ?_); refine block_o ?_) | (with_reducible refine scope_n ?_) | (with_reducible refine scope_r ?_) | (with_reducible refine scope_e ?_) | (with_reducible refine code_seq ?_) | (with_reducible refine code_skip ?_) | (with_reducible refine code_label ?_) | (with_reducible refine code_block ?_) | (with_reducible refine code_scope ?_) | (with_reducible refine code_exit ?_) | (with_reducible refine code_ret ?_) | ((with_reducible refine reg_probe ?_); refine regq_to ?_) | (with_reducible refine draw_nil ?_) | ((with_reducible refine draw_probe ?_); (first | refine drawq_more ?_ | refine drawq_as ?_)) | ((with_reducible refine cond_probe ?_); (first | refine code_then ?_ | refine code_else ?_)))))
      refine back_tmp [scB b r] ?_; exact ⟨rfl, rfl⟩
    · rw [if_neg hd, bne_iff_ne.2 hd]
      (repeat (first | (with_reducible refine run_nil ?_) | ((with_reducible refine run_probe ?_); refine runq_more ?_) | (with_reducible refine then_n ?_) | (with_reducible refine then_r ?_) | (with_reducible refine then_e ?_) | (with_reducible refine block_n ?_) | (with_reducible refine block_r ?_) | (with_reducible refine block_e ?_) | ((with_reducible refine block_probe ?_); refine block_o ?_) | (with_reducible refine scope_n ?_) | (with_reducible refine scope_r ?_) | (with_reducible refine scope_e ?_) | (with_reducible refine code_seq ?_) | (with_reducible refine code_skip ?_) | (with_reducible refine code_label ?_) | (with_reducible refine code_block ?_) | (with_reducible refine code_scope ?_) | (with_reducible refine code_exit ?_) | (with_reducible refine code_ret ?_) | ((with_reducible refine reg_probe ?_); refine regq_to ?_) | (with_reducible refine draw_nil ?_) | ((with_reducible refine draw_probe ?_); (first | refine drawq_more ?_ | refine drawq_as ?_)) | ((with_reducible refine cond_probe ?_); (first | refine code_then ?_ | refine code_else ?_))))
      refine back_tmp [scB b (d :: r)] ?_; exact ⟨rfl, rfl⟩

def blank (c : UInt8) : Bool := decide (c = 32) || decide (c = 9)
def spaceL (s : List UInt8) : List UInt8 := s.dropWhile blank

theorem space_spec (b : Nat) (s : List UInt8) (hs : s.length ≤ 100000) : Meets Try.prog 76 [.pointer (some ⟨b, 0, none⟩)] [scB b s] fun v A => v = .tuple #[] ∧ A = [scB b (spaceL s)] := by
  refine spec_intro Try.func76 rfl (by kernel_rfl) (by rw [Try.ntmps76]; simp) fun F => ?_; rw [Try.ntmps76, Try.results76]
  (repeat (first | (with_reducible refine run_nil ?_) | ((with_reducible refine run_probe ?_); refine runq_more ?_) | (with_reducible refine then_n ?_) | (with_reducible refine then_r ?_) | (with_reducible refine then_e ?_) | (with_reducible refine block_n ?_) | (with_reducible refine block_r ?_) | (with_reducible refine block_e ?_) | ((with_reducible refine block_probe ?_); refine block_o ?_) | (with_reducible refine scope_n ?_) | (with_reducible refine scope_r ?_) | (with_reducible refine scope_e ?_) | (with_reducible refine code_seq ?_) | (with_reducible refine code_skip ?_) | (with_reducible refine code_label ?_) | (with_reducible refine code_block ?_) | (with_reducible refine code_scope ?_) | (with_reducible refine code_exit ?_) | (with_reducible refine code_ret ?_) | ((with_reducible refine reg_probe ?_); refine regq_to ?_) | (with_reducible refine draw_nil ?_) | ((with_reducible refine draw_probe ?_); (first | refine drawq_more ?_ | refine drawq_as ?_)) | ((with_reducible refine cond_probe ?_); (first | refine code_then ?_ | refine code_else ?_))))
  refine loop_i (fun q D L S => ∃ t : List UInt8, t.length ≤ s.length ∧ spaceL t = spaceL s ∧ q = t.length ∧ D = [] ∧ L = [(0, .pointer (some ⟨b, 0, none⟩))] ∧ S = [scB b t, F])
    ⟨s, Nat.le_refl _, rfl, rfl, rfl, rfl, rfl⟩ ?_
  rintro q D L S ⟨t, htl, ht, rfl, rfl, rfl, rfl⟩
  cases t with
  | nil =>
    rw [← ht]
    (repeat (first | (with_reducible refine run_nil ?_) | ((with_reducible refine run_probe ?_); refine runq_more ?_) | (with_reducible refine then_n ?_) | (with_reducible refine then_r ?_) | (with_reducible refine then_e ?_) | (with_reducible refine block_n ?_) | (with_reducible refine block_r ?_) | (with_reducible refine block_e ?_) | ((with_reducible refine block_probe ?_); refine block_o ?_) | (with_reducible refine scope_n ?_) | (with_reducible refine scope_r ?_) | (with_reducible refine scope_e ?_) | (with_reducible refine code_seq ?_) | (with_reducible refine code_skip ?_) | (with_reducible refine code_label ?_) | (with_reducible refine code_block ?_) | (with_reducible refine code_scope ?_) | (with_reducible refine code_exit ?_) | (with_reducible refine code_ret ?_) | ((with_reducible refine reg_probe ?_); refine regq_to ?_) | (with_reducible refine draw_nil ?_) | ((with_reducible refine draw_probe ?_); (first | refine drawq_more ?_ | refine drawq_as ?_)) | ((with_reducible refine cond_probe ?_); (first | refine code_then ?_ | refine code_else ?_))))
    (try rw [bne_self_eq_false])
    (try (repeat (first | (with_reducible refine run_nil ?_) | ((with_reducible refine run_probe ?_); refine runq_more ?_) | (with_reducible refine then_n ?_) | (with_reducible refine then_r ?_) | (with_reducible refine then_e ?_) | (with_reducible refine block_n ?_) | (with_reducible refine block_r ?_) | (with_reducible refine block_e ?_) | ((with_reducible refine block_probe ?_); refine block_o ?_) | (with_reducible refine scope_n ?_) | (with_reducible refine scope_r ?_) | (with_reducible refine scope_e ?_) | (with_reducible refine code_seq ?_) | (with_reducible refine code_skip ?_) | (with_reducible refine code_label ?_) | (with_reducible refine code_block ?_) | (with_reducible refine code_scope ?_) | (with_reducible refine code_exit ?_) | (with_reducible refine code_ret ?_) | ((with_reducible refine reg_probe ?_); refine regq_to ?_) | (with_reducible refine draw_nil ?_) | ((with_reducible refine draw_probe ?_); (first | refine drawq_more ?_ | refine drawq_as ?_)) | ((with_reducible refine cond_probe ?_); (first | refine code_then ?_ | refine code_else ?_)))))
    refine back_none_n [scB b []] ⟨rfl, rfl⟩
  | cons d r =>
    have hl1 : 0 < (d :: r).length := by simp
    have hl2 : (d :: r).length = r.length + 1 := rfl
    (repeat (first | (with_reducible refine run_nil ?_) | ((with_reducible refine run_probe ?_); refine runq_more ?_) | (with_reducible refine then_n ?_) | (with_reducible refine then_r ?_) | (with_reducible refine then_e ?_) | (with_reducible refine block_n ?_) | (with_reducible refine block_r ?_) | (with_reducible refine block_e ?_) | ((with_reducible refine block_probe ?_); refine block_o ?_) | (with_reducible refine scope_n ?_) | (with_reducible refine scope_r ?_) | (with_reducible refine scope_e ?_) | (with_reducible refine code_seq ?_) | (with_reducible refine code_skip ?_) | (with_reducible refine code_label ?_) | (with_reducible refine code_block ?_) | (with_reducible refine code_scope ?_) | (with_reducible refine code_exit ?_) | (with_reducible refine code_ret ?_) | ((with_reducible refine reg_probe ?_); refine regq_to ?_) | (with_reducible refine draw_nil ?_) | ((with_reducible refine draw_probe ?_); (first | refine drawq_more ?_ | refine drawq_as ?_)) | ((with_reducible refine cond_probe ?_); (first | refine code_then ?_ | refine code_else ?_))))
    rw [show ((d :: r : List UInt8) != []) = true from rfl]
    (repeat (first | (with_reducible refine run_nil ?_) | ((with_reducible refine run_probe ?_); refine runq_more ?_) | (with_reducible refine then_n ?_) | (with_reducible refine then_r ?_) | (with_reducible refine then_e ?_) | (with_reducible refine block_n ?_) | (with_reducible refine block_r ?_) | (with_reducible refine block_e ?_) | ((with_reducible refine block_probe ?_); refine block_o ?_) | (with_reducible refine scope_n ?_) | (with_reducible refine scope_r ?_) | (with_reducible refine scope_e ?_) | (with_reducible refine code_seq ?_) | (with_reducible refine code_skip ?_) | (with_reducible refine code_label ?_) | (with_reducible refine code_block ?_) | (with_reducible refine code_scope ?_) | (with_reducible refine code_exit ?_) | (with_reducible refine code_ret ?_) | ((with_reducible refine reg_probe ?_); refine regq_to ?_) | (with_reducible refine draw_nil ?_) | ((with_reducible refine draw_probe ?_); (first | refine drawq_more ?_ | refine drawq_as ?_)) | ((with_reducible refine cond_probe ?_); (first | refine code_then ?_ | refine code_else ?_))))
    rw [show (d :: r).getD 0 0 = d from rfl]
    by_cases e1 : d = 32
    · have hb : blank d = true := by rw [e1]; rfl
      rw [beq_iff_eq.2 (show (d.toNat : Int) = 32 by rw [e1]; rfl)]
      (repeat (first | (with_reducible refine run_nil ?_) | ((with_reducible refine run_probe ?_); refine runq_more ?_) | (with_reducible refine then_n ?_) | (with_reducible refine then_r ?_) | (with_reducible refine then_e ?_) | (with_reducible refine block_n ?_) | (with_reducible refine block_r ?_) | (with_reducible refine block_e ?_) | ((with_reducible refine block_probe ?_); refine block_o ?_) | (with_reducible refine scope_n ?_) | (with_reducible refine scope_r ?_) | (with_reducible refine scope_e ?_) | (with_reducible refine code_seq ?_) | (with_reducible refine code_skip ?_) | (with_reducible refine code_label ?_) | (with_reducible refine code_block ?_) | (with_reducible refine code_scope ?_) | (with_reducible refine code_exit ?_) | (with_reducible refine code_ret ?_) | ((with_reducible refine reg_probe ?_); refine regq_to ?_) | (with_reducible refine draw_nil ?_) | ((with_reducible refine draw_probe ?_); (first | refine drawq_more ?_ | refine drawq_as ?_)) | ((with_reducible refine cond_probe ?_); (first | refine code_then ?_ | refine code_else ?_))))
      (try rw [show ((d :: r).take (d :: r).length).drop (1 : Int).toNat = r from by simp])
      (try rw [show ((d :: r).drop (1 : Int).toNat).take ((d :: r).length - (1 : Int).toNat) = r from by simp])
      (try (repeat (first | (with_reducible refine run_nil ?_) | ((with_reducible refine run_probe ?_); refine runq_more ?_) | (with_reducible refine then_n ?_) | (with_reducible refine then_r ?_) | (with_reducible refine then_e ?_) | (with_reducible refine block_n ?_) | (with_reducible refine block_r ?_) | (with_reducible refine block_e ?_) | ((with_reducible refine block_probe ?_); refine block_o ?_) | (with_reducible refine scope_n ?_) | (with_reducible refine scope_r ?_) | (with_reducible refine scope_e ?_) | (with_reducible refine code_seq ?_) | (with_reducible refine code_skip ?_) | (with_reducible refine code_label ?_) | (with_reducible refine code_block ?_) | (with_reducible refine code_scope ?_) | (with_reducible refine code_exit ?_) | (with_reducible refine code_ret ?_) | ((with_reducible refine reg_probe ?_); refine regq_to ?_) | (with_reducible refine draw_nil ?_) | ((with_reducible refine draw_probe ?_); (first | refine drawq_more ?_ | refine drawq_as ?_)) | ((with_reducible refine cond_probe ?_); (first | refine code_then ?_ | refine code_else ?_)))))
      exact again ⟨r, by omega, by rw [← ht]; unfold spaceL; rw [List.dropWhile_cons, if_pos hb], rfl, rfl, rfl, rfl⟩
    · rw [beq_eq_false_iff_ne.2 (show (d.toNat : Int) ≠ 32 from fun h => e1 (UInt8.toNat_inj.1 (show d.toNat = 32 by omega)))]
      (repeat (first | (with_reducible refine run_nil ?_) | ((with_reducible refine run_probe ?_); refine runq_more ?_) | (with_reducible refine then_n ?_) | (with_reducible refine then_r ?_) | (with_reducible refine then_e ?_) | (with_reducible refine block_n ?_) | (with_reducible refine block_r ?_) | (with_reducible refine block_e ?_) | ((with_reducible refine block_probe ?_); refine block_o ?_) | (with_reducible refine scope_n ?_) | (with_reducible refine scope_r ?_) | (with_reducible refine scope_e ?_) | (with_reducible refine code_seq ?_) | (with_reducible refine code_skip ?_) | (with_reducible refine code_label ?_) | (with_reducible refine code_block ?_) | (with_reducible refine code_scope ?_) | (with_reducible refine code_exit ?_) | (with_reducible refine code_ret ?_) | ((with_reducible refine reg_probe ?_); refine regq_to ?_) | (with_reducible refine draw_nil ?_) | ((with_reducible refine draw_probe ?_); (first | refine drawq_more ?_ | refine drawq_as ?_)) | ((with_reducible refine cond_probe ?_); (first | refine code_then ?_ | refine code_else ?_))))
      (try rw [show (d :: r).getD 0 0 = d from rfl])
      by_cases e2 : d = 9
      · have hb : blank d = true := by rw [e2]; rfl
        rw [beq_iff_eq.2 (show (d.toNat : Int) = 9 by rw [e2]; rfl)]
        (repeat (first | (with_reducible refine run_nil ?_) | ((with_reducible refine run_probe ?_); refine runq_more ?_) | (with_reducible refine then_n ?_) | (with_reducible refine then_r ?_) | (with_reducible refine then_e ?_) | (with_reducible refine block_n ?_) | (with_reducible refine block_r ?_) | (with_reducible refine block_e ?_) | ((with_reducible refine block_probe ?_); refine block_o ?_) | (with_reducible refine scope_n ?_) | (with_reducible refine scope_r ?_) | (with_reducible refine scope_e ?_) | (with_reducible refine code_seq ?_) | (with_reducible refine code_skip ?_) | (with_reducible refine code_label ?_) | (with_reducible refine code_block ?_) | (with_reducible refine code_scope ?_) | (with_reducible refine code_exit ?_) | (with_reducible refine code_ret ?_) | ((with_reducible refine reg_probe ?_); refine regq_to ?_) | (with_reducible refine draw_nil ?_) | ((with_reducible refine draw_probe ?_); (first | refine drawq_more ?_ | refine drawq_as ?_)) | ((with_reducible refine cond_probe ?_); (first | refine code_then ?_ | refine code_else ?_))))
        (try rw [show ((d :: r).take (d :: r).length).drop (1 : Int).toNat = r from by simp])
        (try rw [show ((d :: r).drop (1 : Int).toNat).take ((d :: r).length - (1 : Int).toNat) = r from by simp])
        (try (repeat (first | (with_reducible refine run_nil ?_) | ((with_reducible refine run_probe ?_); refine runq_more ?_) | (with_reducible refine then_n ?_) | (with_reducible refine then_r ?_) | (with_reducible refine then_e ?_) | (with_reducible refine block_n ?_) | (with_reducible refine block_r ?_) | (with_reducible refine block_e ?_) | ((with_reducible refine block_probe ?_); refine block_o ?_) | (with_reducible refine scope_n ?_) | (with_reducible refine scope_r ?_) | (with_reducible refine scope_e ?_) | (with_reducible refine code_seq ?_) | (with_reducible refine code_skip ?_) | (with_reducible refine code_label ?_) | (with_reducible refine code_block ?_) | (with_reducible refine code_scope ?_) | (with_reducible refine code_exit ?_) | (with_reducible refine code_ret ?_) | ((with_reducible refine reg_probe ?_); refine regq_to ?_) | (with_reducible refine draw_nil ?_) | ((with_reducible refine draw_probe ?_); (first | refine drawq_more ?_ | refine drawq_as ?_)) | ((with_reducible refine cond_probe ?_); (first | refine code_then ?_ | refine code_else ?_)))))
        exact again ⟨r, by omega, by rw [← ht]; unfold spaceL; rw [List.dropWhile_cons, if_pos hb], rfl, rfl, rfl, rfl⟩
      · have hb : blank d = false := by unfold blank; simp [e1, e2]
        rw [beq_eq_false_iff_ne.2 (show (d.toNat : Int) ≠ 9 from fun h => e2 (UInt8.toNat_inj.1 (show d.toNat = 9 by omega)))]
        rw [← ht, show spaceL (d :: r) = d :: r from by unfold spaceL; rw [List.dropWhile_cons, if_neg (by rw [hb]; simp)]]
        (repeat (first | (with_reducible refine run_nil ?_) | ((with_reducible refine run_probe ?_); refine runq_more ?_) | (with_reducible refine then_n ?_) | (with_reducible refine then_r ?_) | (with_reducible refine then_e ?_) | (with_reducible refine block_n ?_) | (with_reducible refine block_r ?_) | (with_reducible refine block_e ?_) | ((with_reducible refine block_probe ?_); refine block_o ?_) | (with_reducible refine scope_n ?_) | (with_reducible refine scope_r ?_) | (with_reducible refine scope_e ?_) | (with_reducible refine code_seq ?_) | (with_reducible refine code_skip ?_) | (with_reducible refine code_label ?_) | (with_reducible refine code_block ?_) | (with_reducible refine code_scope ?_) | (with_reducible refine code_exit ?_) | (with_reducible refine code_ret ?_) | ((with_reducible refine reg_probe ?_); refine regq_to ?_) | (with_reducible refine draw_nil ?_) | ((with_reducible refine draw_probe ?_); (first | refine drawq_more ?_ | refine drawq_as ?_)) | ((with_reducible refine cond_probe ?_); (first | refine code_then ?_ | refine code_else ?_))))
        refine back_none_n [scB b (d :: r)] ⟨rfl, rfl⟩

end Go.Proofs.Ytfoppclmjmpjiaa

/- The header of parameters, plainly: what is read of a text, what is printed, and that what is printed is read again. Conditions: as each says. -/
set_option linter.unusedSimpArgs false
set_option linter.unusedVariables false
namespace Go.Proofs.Ytfoppclmjmpjiaa
open Go Go.Ost

/-- A parameter. -/
structure Par where
  n : List UInt8
  v : List UInt8
  q : Bool
def tokL (s : List UInt8) : List UInt8 := s.takeWhile tcB
def tokR (s : List UInt8) : List UInt8 := s.dropWhile tcB
/-- Behind a quotation mark: the text, and what is left. -/
def qgo : List UInt8 → Option (List UInt8 × List UInt8)
  | [] => none
  | [c] => if c = 34 then some ([], []) else none
  | c :: d :: r => if c = 34 then some ([], d :: r) else if inB c = false then none else
    if c = 92 then (if inB d = true then (qgo r).map (fun x => (d :: x.1, x.2)) else none) else (qgo (d :: r)).map (fun x => (c :: x.1, x.2))
/-- The parameter in front, and what is left. -/
def oneE (s : List UInt8) : Option (Par × List UInt8) :=
  if tokL s = [] ∨ (signE (spaceL (tokR s)) 61).1 = false then none else
  if (signE (spaceL (signE (spaceL (tokR s)) 61).2) 34).1 = true then
    (qgo (signE (spaceL (signE (spaceL (tokR s)) 61).2) 34).2).map fun z => (⟨lowL (tokL s), z.1, true⟩, z.2)
  else if tokL (spaceL (signE (spaceL (tokR s)) 61).2) = [] then none
  else some (⟨lowL (tokL s), tokL (spaceL (signE (spaceL (tokR s)) 61).2), false⟩, tokR (spaceL (signE (spaceL (tokR s)) 61).2))
def listF : Nat → List UInt8 → List Par × Bool
  | 0, _ => ([], false)
  | n + 1, s => match oneE s with
    | none => ([], false)
    | some (p, r) => if r = [] then ([p], true) else
      if (signE (spaceL r) 44).1 = true then (p :: (listF n (spaceL (signE (spaceL r) 44).2)).1, (listF n (spaceL (signE (spaceL r) 44).2)).2) else ([p], false)
/-- The parameters in front of a list; false: behind them it isn't one. -/
def listE (s : List UInt8) : List Par × Bool := listF (s.length + 1) s

theorem space_len (s : List UInt8) : (spaceL s).length ≤ s.length := (List.dropWhile_sublist _).length_le
theorem tokR_len (s : List UInt8) : (tokR s).length ≤ s.length := (List.dropWhile_sublist _).length_le
theorem tokL_len (s : List UInt8) : (tokL s).length ≤ s.length := (List.takeWhile_sublist _).length_le
theorem tok_both (s : List UInt8) : tokL s ++ tokR s = s := List.takeWhile_append_dropWhile
theorem sign_len (s : List UInt8) (c : UInt8) : (signE s c).2.length ≤ s.length := by
  unfold signE; split
  · simp
  · split
    · simp
    · simp
theorem sign_no (s : List UInt8) (c : UInt8) (h : (signE s c).1 = false) : (signE s c).2 = s := by
  unfold signE at h ⊢; split
  · rfl
  · split
    · rename_i hd; simp [hd] at h
    · rfl
theorem sign_yes (c : UInt8) (r : List UInt8) : signE (c :: r) c = (true, r) := by simp [signE]
theorem sign_not {c d : UInt8} (r : List UInt8) (h : d ≠ c) : signE (d :: r) c = (false, d :: r) := by simp [signE, h]
theorem sign_yes_len (s : List UInt8) (c : UInt8) (h : (signE s c).1 = true) : (signE s c).2.length + 1 = s.length := by
  unfold signE at h ⊢; split
  · simp at h
  · split
    · simp
    · rename_i hd; simp [hd] at h
theorem qgo_len : ∀ (k : Nat) (s : List UInt8), s.length ≤ k → ∀ v r, qgo s = some (v, r) → v.length + r.length < s.length
  | 0, s, hk, v, r, h => by
    obtain rfl : s = [] := List.length_eq_zero_iff.1 (by omega)
    simp [qgo] at h
  | k + 1, [], hk, v, r, h => by simp [qgo] at h
  | k + 1, [c], hk, v, r, h => by
    simp only [qgo] at h
    split at h
    · cases h; simp
    · cases h
  | k + 1, c :: d :: t, hk, v, r, h => by
    simp only [qgo] at h
    simp only [List.length_cons] at hk ⊢
    split at h
    · cases h; simp
    · split at h
      · cases h
      · split at h
        · split at h
          · cases hq : qgo t with
            | none => rw [hq] at h; cases h
            | some x =>
              rw [hq] at h; cases h
              have := qgo_len k t (by omega) x.1 x.2 hq
              simp only [List.length_cons]; omega
          · cases h
        · cases hq : qgo (d :: t) with
          | none => rw [hq] at h; cases h
          | some x =>
            rw [hq] at h; cases h
            have := qgo_len k (d :: t) (by simp only [List.length_cons]; omega) x.1 x.2 hq
            simp only [List.length_cons] at this ⊢; omega
theorem one_len {s : List UInt8} {p : Par} {r : List UInt8} (h : oneE s = some (p, r)) : p.n.length + p.v.length + r.length < s.length ∧ r.length < s.length ∧ 1 ≤ p.n.length := by
  unfold oneE at h
  split at h
  · cases h
  rename_i hno
  rw [not_or] at hno
  obtain ⟨h1, h2⟩ := hno
  have h2' : (signE (spaceL (tokR s)) 61).1 = true := by simpa using h2
  have e1 := sign_yes_len _ _ h2'
  have e2 := space_len (tokR s)
  have e3 := congrArg List.length (tok_both s)
  rw [List.length_append] at e3
  have e4 := space_len (signE (spaceL (tokR s)) 61).2
  have e5 : 0 < (tokL s).length := List.length_pos_iff.2 h1
  have e6 : (lowL (tokL s)).length = (tokL s).length := by unfold lowL; simp
  generalize (spaceL (signE (spaceL (tokR s)) 61).2) = y at *
  split at h
  · rename_i h3
    have e7 := sign_yes_len _ _ h3
    cases hq : qgo (signE y 34).2 with
    | none => rw [hq] at h; cases h
    | some x =>
      rw [hq] at h; cases h
      have := qgo_len _ _ (Nat.le_refl _) _ _ hq
      refine ⟨?_, by omega, ?_⟩
      · show (lowL (tokL s)).length + x.1.length + x.2.length < _
        omega
      · show 1 ≤ (lowL (tokL s)).length
        omega
  · split at h
    · cases h
    · cases h
      have e8 := congrArg List.length (tok_both y)
      rw [List.length_append] at e8
      refine ⟨?_, by omega, ?_⟩
      · show (lowL (tokL s)).length + (tokL y).length + (tokR y).length < _
        omega
      · show 1 ≤ (lowL (tokL s)).length
        omega
theorem listF_more : ∀ (n m : Nat) (s : List UInt8), s.length < n → s.length < m → listF n s = listF m s
  | 0, m, s, hn, hm => by omega
  | n + 1, 0, s, hn, hm => by omega
  | n + 1, m + 1, s, hn, hm => by
    simp only [listF]
    cases h : oneE s with
    | none => rfl
    | some x =>
      obtain ⟨p, r⟩ := x
      have hl := (one_len h).2.1
      have e1 := space_len r
      have e2 := sign_len (spaceL r) 44
      have e3 := space_len (signE (spaceL r) 44).2
      simp only
      rw [listF_more n m _ (by omega) (by omega)]
theorem list_next {s : List UInt8} : listE s = match oneE s with
    | none => ([], false)
    | some (p, r) => if r = [] then ([p], true) else
      if (signE (spaceL r) 44).1 = true then (p :: (listE (spaceL (signE (spaceL r) 44).2)).1, (listE (spaceL (signE (spaceL r) 44).2)).2) else ([p], false) := by
  show listF (s.length + 1) s = _
  rw [listF]
  cases h : oneE s with
  | none => rfl
  | some x =>
    obtain ⟨p, r⟩ := x
    have hl := (one_len h).2.1
    have e1 := space_len r
    have e2 := sign_len (spaceL r) 44
    have e3 := space_len (signE (spaceL r) 44).2
    simp only
    rw [listF_more s.length _ _ (by omega) (Nat.lt_succ_self _)]
    rfl
theorem list_none {s : List UInt8} (h : oneE s = none) : listE s = ([], false) := by rw [list_next, h]
theorem list_last {s : List UInt8} {p : Par} (h : oneE s = some (p, [])) : listE s = ([p], true) := by rw [list_next, h]; rfl
theorem list_stop {s r : List UInt8} {p : Par} (h : oneE s = some (p, r)) (hr : r ≠ []) (hs : (signE (spaceL r) 44).1 = false) : listE s = ([p], false) := by
  rw [list_next, h]; simp only [if_neg hr, hs]; rfl
theorem list_on {s r : List UInt8} {p : Par} (h : oneE s = some (p, r)) (hr : r ≠ []) (hs : (signE (spaceL r) 44).1 = true) :
    listE s = (p :: (listE (spaceL (signE (spaceL r) 44).2)).1, (listE (spaceL (signE (spaceL r) 44).2)).2) := by
  rw [list_next, h]; simp only [if_neg hr, hs, if_true]

/-- How long all is that was read. -/
def allLen : List Par → Nat
  | [] => 0
  | p :: l => p.n.length + p.v.length + 1 + allLen l
theorem list_len : ∀ (k : Nat) (s : List UInt8), s.length ≤ k → allLen (listE s).1 ≤ s.length
  | k, s, hk => by
    cases h : oneE s with
    | none => rw [list_none h]; exact Nat.zero_le _
    | some x =>
      obtain ⟨p, r⟩ := x
      have hl := one_len h
      by_cases hr : r = []
      · subst hr; rw [list_last h]; show p.n.length + p.v.length + 1 + 0 ≤ _; omega
      · cases hs : (signE (spaceL r) 44).1 with
        | false => rw [list_stop h hr hs]; show p.n.length + p.v.length + 1 + 0 ≤ _; omega
        | true =>
          rw [list_on h hr hs]
          have e1 := space_len r
          have e2 := sign_yes_len _ _ hs
          have e3 := space_len (signE (spaceL r) 44).2
          match k, hk with
          | 0, hk => omega
          | k + 1, hk =>
            have := list_len k (spaceL (signE (spaceL r) 44).2) (by omega)
            show p.n.length + p.v.length + 1 + _ ≤ _
            omega

/-! ### Printed -/

/-- A parameter as it stands in a text: its name, what is about it, its value. -/
structure It where
  p : Par
  nm : List UInt8
  ga : List UInt8
  gb : List UInt8
  g1 : List UInt8
  g2 : List UInt8
def valI (p : Par) : List UInt8 := if p.q = true then quo p.v else p.v
def okP (p : Par) : Bool := (if p.q = true then p.v.all inB else tokB p.v) && (tokB p.n && decide (lowL p.n = p.n))
def bodyI (x : It) : List UInt8 := x.nm ++ (x.g1 ++ 61 :: (x.g2 ++ valI x.p))
def tailI : List It → List UInt8
  | [] => []
  | x :: l => x.ga ++ 44 :: (x.gb ++ (bodyI x ++ tailI l))
structure It.ok (x : It) : Prop where
  p : okP x.p = true
  nm : tokB x.nm = true
  low : lowL x.nm = x.p.n
  ga : x.ga.all blank = true
  gb : x.gb.all blank = true
  g1 : x.g1.all blank = true
  g2 : x.g2.all blank = true

theorem blank_tc {c : UInt8} (h : blank c = true) : tcB c = false := by
  unfold blank at h
  simp only [Bool.or_eq_true, decide_eq_true_eq] at h
  rcases h with rfl | rfl <;> decide
theorem tc_blank {c : UInt8} (h : tcB c = true) : blank c = false := by
  cases hb : blank c with
  | false => rfl
  | true => rw [blank_tc hb] at h; cases h
/-- What does not begin with a byte of a token. -/
def stopB (r : List UInt8) : Bool := match r with | [] => true | c :: _ => !tcB c
theorem tok_app {a r : List UInt8} (ha : a.all tcB = true) (hr : stopB r = true) : tokL (a ++ r) = a ∧ tokR (a ++ r) = r := by
  induction a with
  | nil =>
    cases r with
    | nil => exact ⟨rfl, rfl⟩
    | cons c r =>
      have hc : tcB c = false := by simpa [stopB] using hr
      constructor
      · show List.takeWhile tcB (c :: r) = []
        rw [List.takeWhile_cons, if_neg (by rw [hc]; simp)]
      · show List.dropWhile tcB (c :: r) = c :: r
        rw [List.dropWhile_cons, if_neg (by rw [hc]; simp)]
  | cons d a ih =>
    rw [List.all_cons, Bool.and_eq_true] at ha
    obtain ⟨i1, i2⟩ := ih ha.2
    constructor
    · show List.takeWhile tcB (d :: (a ++ r)) = d :: a
      rw [List.takeWhile_cons, if_pos ha.1]; exact congrArg _ i1
    · show List.dropWhile tcB (d :: (a ++ r)) = r
      rw [List.dropWhile_cons, if_pos ha.1]; exact i2
/-- What does not begin with a blank. -/
def hardB (r : List UInt8) : Bool := match r with | [] => true | c :: _ => !blank c
theorem space_app {a r : List UInt8} (ha : a.all blank = true) (hr : hardB r = true) : spaceL (a ++ r) = r := by
  induction a with
  | nil =>
    cases r with
    | nil => rfl
    | cons c r =>
      have hc : blank c = false := by simpa [hardB] using hr
      show List.dropWhile blank (c :: r) = c :: r
      rw [List.dropWhile_cons, if_neg (by rw [hc]; simp)]
  | cons d a ih =>
    rw [List.all_cons, Bool.and_eq_true] at ha
    show List.dropWhile blank (d :: (a ++ r)) = r
    rw [List.dropWhile_cons, if_pos ha.1]; exact ih ha.2
theorem stop_app {a r : List UInt8} (ha : a.all blank = true) (hr : stopB r = true) : stopB (a ++ r) = true := by
  cases a with
  | nil => exact hr
  | cons d a =>
    rw [List.all_cons, Bool.and_eq_true] at ha
    show (!tcB d) = true
    rw [blank_tc ha.1]; rfl
theorem hard_tc {a r : List UInt8} (ha : a.all tcB = true) (h1 : a ≠ []) : hardB (a ++ r) = true := by
  cases a with
  | nil => exact (h1 rfl).elim
  | cons d a =>
    rw [List.all_cons, Bool.and_eq_true] at ha
    show (!blank d) = true
    rw [tc_blank ha.1]; rfl
theorem tok_all {a : List UInt8} (h : tokB a = true) : a.all tcB = true ∧ a ≠ [] := by
  unfold tokB at h
  rw [Bool.and_eq_true, decide_eq_true_eq] at h
  refine ⟨h.1, fun e => ?_⟩
  rw [e] at h; simp at h
theorem qgo_cons {c : UInt8} {s : List UInt8} (h1 : c ≠ 34) (h2 : inB c = true) (h3 : c ≠ 92) : qgo (c :: s) = (qgo s).map fun x => (c :: x.1, x.2) := by
  cases s with
  | nil => simp [qgo, h1]
  | cons d s => rw [qgo, if_neg h1, if_neg (by rw [h2]; simp), if_neg h3]
theorem qgo_esc {d : UInt8} {s : List UInt8} (h : inB d = true) : qgo (92 :: d :: s) = (qgo s).map fun x => (d :: x.1, x.2) := by
  rw [qgo, if_neg (by decide), if_neg (by decide), if_pos rfl, if_pos h]
theorem qgo_end (s : List UInt8) : qgo (34 :: s) = some ([], s) := by
  cases s <;> simp [qgo]
theorem qgo_back : ∀ (v r : List UInt8), v.all inB = true → qgo (v.flatMap esc ++ 34 :: r) = some (v, r)
  | [], r, _ => qgo_end r
  | c :: v, r, h => by
    rw [List.all_cons, Bool.and_eq_true] at h
    have ih := qgo_back v r h.2
    rw [List.flatMap_cons, List.append_assoc]
    by_cases hc : c = 34 ∨ c = 92
    · rw [show esc c = [92, c] from if_pos hc]
      simp only [List.cons_append, List.nil_append]
      rw [qgo_esc h.1, ih]; rfl
    · rw [show esc c = [c] from if_neg hc]
      rw [not_or] at hc
      simp only [List.cons_append, List.nil_append]
      rw [qgo_cons hc.1 h.1 hc.2, ih]; rfl
theorem one_back {x : It} (h : x.ok) {r : List UInt8} (hr : stopB r = true) : oneE (bodyI x ++ r) = some (x.p, r) := by
  obtain ⟨p, nm, ga, gb, g1, g2⟩ := x
  obtain ⟨hp, hn, hl, hga, hgb, hg1, hg2⟩ := h
  obtain ⟨n, v, q⟩ := p
  simp only at hp hn hl hga hgb hg1 hg2
  obtain ⟨n1, n2⟩ := tok_all hn
  have e0 : bodyI ⟨⟨n, v, q⟩, nm, ga, gb, g1, g2⟩ ++ r = nm ++ (g1 ++ (61 :: (g2 ++ (valI ⟨n, v, q⟩ ++ r)))) := by simp [bodyI]
  have t1 := tok_app (r := g1 ++ (61 :: (g2 ++ (valI ⟨n, v, q⟩ ++ r)))) n1 (stop_app hg1 (by rfl))
  have s1 := space_app (r := 61 :: (g2 ++ (valI ⟨n, v, q⟩ ++ r))) hg1 (by rfl)
  rw [e0]
  unfold oneE
  rw [t1.1, t1.2, s1, sign_yes, if_neg (by simp [n2])]
  simp only
  unfold okP at hp
  rw [Bool.and_eq_true] at hp
  cases q with
  | true =>
    rw [if_pos rfl] at hp
    have e1 : valI ⟨n, v, true⟩ ++ r = 34 :: (v.flatMap esc ++ 34 :: r) := by simp [valI, quo]
    rw [e1, space_app hg2 (by rfl), sign_yes, if_pos rfl]
    simp only
    rw [qgo_back v r hp.1, hl]; rfl
  | false =>
    rw [if_neg (by simp)] at hp
    obtain ⟨v1, v2⟩ := tok_all hp.1
    have e1 : valI ⟨n, v, false⟩ ++ r = v ++ r := by simp [valI]
    have t2 := tok_app (r := r) v1 hr
    rw [e1, space_app hg2 (hard_tc v1 v2)]
    have hs : (signE (v ++ r) 34).1 = false := by
      cases v with
      | nil => exact (v2 rfl).elim
      | cons d v =>
        rw [List.all_cons, Bool.and_eq_true] at v1
        rw [List.cons_append, sign_not _ (fun e => by rw [e] at v1; exact absurd v1.1 (by decide))]
    rw [hs, if_neg (by simp), t2.1, t2.2, if_neg v2, hl]
theorem tail_stop (l : List It) (h : ∀ x ∈ l, x.ok) : stopB (tailI l) = true := by
  cases l with
  | nil => rfl
  | cons x l => exact stop_app (h x (List.mem_cons_self ..)).ga (show (!tcB 44) = true by decide)
/-- What is printed is read again. -/
theorem list_back : ∀ (l : List It) (x : It), x.ok → (∀ y ∈ l, y.ok) → listE (bodyI x ++ tailI l) = (x.p :: l.map It.p, true)
  | [], x, hx, _ => list_last (one_back hx rfl)
  | y :: l, x, hx, h => by
    have hy := h y (List.mem_cons_self ..)
    have ht : ∀ z ∈ l, z.ok := fun z hz => h z (List.mem_cons_of_mem _ hz)
    have e1 : tailI (y :: l) = y.ga ++ 44 :: (y.gb ++ (bodyI y ++ tailI l)) := rfl
    have s1 : spaceL (tailI (y :: l)) = 44 :: (y.gb ++ (bodyI y ++ tailI l)) := by rw [e1]; exact space_app hy.ga (by rfl)
    have hn := tok_all hy.nm
    have s2 : spaceL (y.gb ++ (bodyI y ++ tailI l)) = bodyI y ++ tailI l := space_app hy.gb (by
      unfold bodyI; rw [List.append_assoc]; exact hard_tc hn.1 hn.2)
    have hne : tailI (y :: l) ≠ [] := by rw [e1]; simp
    rw [list_on (one_back hx (tail_stop _ h)) hne (by rw [s1, sign_yes]), s1, sign_yes]
    simp only
    rw [s2, list_back l y hy ht]
    rfl


theorem one_no1 {s : List UInt8} (h : tokL s = []) : oneE s = none := by unfold oneE; rw [if_pos (.inl h)]
theorem one_no2 {s : List UInt8} (h : (signE (spaceL (tokR s)) 61).1 = false) : oneE s = none := by unfold oneE; rw [if_pos (.inr h)]
theorem one_q {s y z : List UInt8} (h : tokL s ≠ []) (h1 : spaceL (tokR s) = 61 :: y) (h2 : spaceL y = 34 :: z) : oneE s = (qgo z).map fun x => (⟨lowL (tokL s), x.1, true⟩, x.2) := by
  unfold oneE
  rw [h1, sign_yes, if_neg (by simp [h])]
  simp only
  rw [h2, sign_yes, if_pos rfl]
theorem one_t {s y : List UInt8} (h : tokL s ≠ []) (h1 : spaceL (tokR s) = 61 :: y) (h2 : (signE (spaceL y) 34).1 = false) :
    oneE s = if tokL (spaceL y) = [] then none else some (⟨lowL (tokL s), tokL (spaceL y), false⟩, tokR (spaceL y)) := by
  unfold oneE
  rw [h1, sign_yes, if_neg (by simp [h])]
  simp only
  rw [h2, if_neg (by simp)]
theorem sign_fst {s : List UInt8} {c : UInt8} (h : (signE s c).1 = true) : s = c :: (signE s c).2 := by
  unfold signE at h ⊢; split
  · simp at h
  · split
    · rename_i hd; subst hd; rfl
    · rename_i hd; simp [hd] at h
theorem sign_nil (c : UInt8) : (signE [] c).1 = false := rfl
theorem cut_cut (s : List UInt8) (i j : Nat) : (s.take j).drop i = (s.drop i).take (j - i) := by rw [List.drop_take]

end Go.Proofs.Ytfoppclmjmpjiaa

/- A text that is gone through: a token, a quoted text, a parameter. Conditions: as each says. -/
set_option linter.unusedSimpArgs false
set_option linter.unusedVariables false
namespace Go.Proofs.Ytfoppclmjmpjiaa
open Go Go.Ost

theorem getD_drop (s : List UInt8) (i : Nat) (h : i < s.length) : s.drop i = s.getD i 0 :: s.drop (i + 1) := by
  rw [List.drop_eq_getElem_cons h, List.getD_eq_getElem?_getD, List.getElem?_eq_getElem h]; rfl
theorem tok_at (s : List UInt8) (i : Nat) (ha : (s.take i).all tcB = true) (hs : s.length ≤ i ∨ (i < s.length ∧ tcB (s.getD i 0) = false)) : tokL s = s.take i ∧ tokR s = s.drop i := by
  have := tok_app (r := s.drop i) ha (by
    rcases hs with h | ⟨h1, h2⟩
    · rw [List.drop_eq_nil_of_le h]; rfl
    · rw [getD_drop s i h1]; show (!tcB _) = true; rw [h2]; rfl)
  rwa [List.take_append_drop] at this
theorem stoken_spec (b : Nat) (s : List UInt8) (hs : s.length ≤ 100000) : Meets Try.prog 53 [.pointer (some ⟨b, 0, none⟩)] [scB b s] fun v A => v = .string (str (tokL s)) ∧ A = [scB b (tokR s)] := by
  refine spec_intro Try.func53 rfl (by kernel_rfl) (by rw [Try.ntmps53]; simp) fun F => ?_; rw [Try.ntmps53, Try.results53]
  refine going ?_
  refine loop_i (fun q D L S => ∃ i : Nat, i ≤ s.length ∧ (s.take i).all tcB = true ∧ q = s.length - i ∧ D = [] ∧ L = [(3, .int .i64 i), (0, .pointer (some ⟨b, 0, none⟩))] ∧ S = [scB b s, F])
    ⟨0, by omega, by simp, rfl, rfl, rfl, rfl⟩ ?_
  rintro q D L S ⟨i, hi, hall, rfl, rfl, rfl, rfl⟩
  refine going ?_
  by_cases hil : i < s.length
  · have hnx := all_take_next (p := tcB) s i hil
    rw [decide_eq_true (show (i : Int) < s.length by omega)]
    refine going ?_
    refine run_op fun K hK => ?_; refine calls_to (tchar_spec (s.getD i 0)) ?_; rintro v A ⟨rfl, rfl⟩; (try simp only [List.nil_append, List.cons_append]); refine hK _ _ ?_; clear hK K; refine going ?_
    cases h1 : tcB (s.getD i 0) with
    | true =>
      refine going ?_
      exact again ⟨i + 1, by omega, by rw [hnx, hall, h1]; rfl, rfl, rfl, rfl, rfl⟩
    | false =>
      obtain ⟨e1, e2⟩ := tok_at s i hall (.inr ⟨hil, h1⟩)
      rw [e1, e2]
      refine going ?_
      refine back_tmp [scB b (s.drop i)] ?_; exact ⟨rfl, rfl⟩
  · obtain ⟨e1, e2⟩ := tok_at s i hall (.inl (by omega))
    rw [e1, e2]
    rw [decide_eq_false (show ¬ (i : Int) < s.length by omega)]
    refine going ?_
    refine back_tmp [scB b (s.drop i)] ?_; exact ⟨rfl, rfl⟩

theorem qgo_bad {c : UInt8} {r : List UInt8} (h1 : c ≠ 34) (h2 : inB c = false) : qgo (c :: r) = none := by
  cases r <;> simp [qgo, h1, h2]
theorem qgo_end1 : qgo [92] = none := by simp [qgo]
theorem qgo_bad2 {d : UInt8} {r : List UInt8} (h2 : inB d = false) : qgo (92 :: d :: r) = none := by
  rw [qgo, if_neg (by decide), if_neg (by decide), if_pos rfl, if_neg (by rw [h2]; simp)]
/-- What quoted tells, and what it leaves. -/
def qgoV (s : List UInt8) : List UInt8 × Bool × List UInt8 := match qgo s with
  | some x => (x.1, true, x.2)
  | none => ([], false, s)
theorem qv_none {s : List UInt8} (h : qgo s = none) : qgoV s = ([], false, s) := by unfold qgoV; rw [h]
theorem qv_some {s : List UInt8} {x : List UInt8 × List UInt8} (h : qgo s = some x) : qgoV s = (x.1, true, x.2) := by unfold qgoV; rw [h]

set_option maxHeartbeats 1000000 in
theorem quoted_spec (b : Nat) (s : List UInt8) (hs : s.length ≤ 100000) : Meets Try.prog 82 [.pointer (some ⟨b, 0, none⟩)] [scB b s]
    fun v A => v = .tuple #[.string (str (qgoV s).1), .bool (qgoV s).2.1] ∧ A = [scB b (qgoV s).2.2] := by
  refine spec_intro Try.func82 rfl (by kernel_rfl) (by rw [Try.ntmps82]; simp) fun F => ?_; rw [Try.ntmps82, Try.results82]
  refine going ?_
  refine code_nil ?_
  refine loop_i (fun q D L S => ∃ (i : Nat) (out : List UInt8) (X : Chunk) (xa : Option Addr) (xc : Nat), i ≤ s.length ∧ out.length ≤ i ∧ qgo s = (qgo (s.drop i)).map (fun x => (out ++ x.1, x.2)) ∧ Own8 5 X xa out.length xc out ∧ q = s.length - i ∧ D = [] ∧
    L = [(5, .int .i64 i), (4, .slice xa out.length xc), (0, .pointer (some ⟨b, 0, none⟩))] ∧ S = [X, scB b s, F])
    ⟨0, [], [], none, 0, by omega, by simp, by simp, own_nil, rfl, rfl, rfl, rfl⟩ ?_
  rintro q D L S ⟨i, out, X, xa, xc, hi, hol, hq, hX, rfl, rfl, rfl, rfl⟩
  refine going ?_
  refine if_d (fun hc => ?_) (fun hc => ?_)
  · have hil : i < s.length := by omega
    have hdr := getD_drop s i hil
    have hlt := (s.getD i 0).toNat_lt
    rw [hdr] at hq
    refine going ?_
    by_cases e1 : s.getD i 0 = 34
    · rw [e1, qgo_end, Option.map_some] at hq
      rw [beq_iff_eq.2 (show ((s.getD i 0).toNat : Int) = 34 by rw [e1]; rfl), qv_some hq, List.append_nil]
      refine going ?_
      refine run_op fun K hK => ?_; refine conv_bytes_string (hX.rd (by (repeat (first | with_reducible assumption | with_reducible exact List.mem_cons_self .. | with_reducible apply List.mem_cons_of_mem)))) ?_; refine hK _ _ ?_; clear hK K
      refine going ?_
      refine back_cells (vs := [.string (str out), .bool true]) [scB b (s.drop (i + 1))] ⟨rfl, rfl⟩
    · rw [beq_eq_false_iff_ne.2 (show ((s.getD i 0).toNat : Int) ≠ 34 from fun h => e1 (UInt8.toNat_inj.1 (show (s.getD i 0).toNat = 34 by omega)))]
      refine going ?_
      refine run_op fun K hK => ?_; refine calls_to (inside_spec (s.getD i 0)) ?_; rintro v A ⟨rfl, rfl⟩; (try simp only [List.nil_append, List.cons_append]); refine hK _ _ ?_; clear hK K; refine going ?_
      cases h1 : inB (s.getD i 0) with
      | false =>
        rw [qgo_bad e1 h1, Option.map_none] at hq
        rw [qv_none hq]
        refine going ?_
        refine back_cells (vs := [.string (str []), .bool false]) [scB b s] ⟨rfl, rfl⟩
      | true =>
        refine going ?_
        by_cases e2 : s.getD i 0 = 92
        · rw [beq_iff_eq.2 (show ((s.getD i 0).toNat : Int) = 92 by rw [e2]; rfl)]
          refine going ?_
          rw [e2] at hq
          by_cases hi2 : i + 1 < s.length
          · have hdr2 := getD_drop s (i + 1) hi2
            rw [hdr2] at hq
            rw [beq_eq_false_iff_ne.2 (show (i : Int) + 1 ≠ s.length by omega)]
            refine going ?_
            rw [show ((i : Int) + 1).toNat = i + 1 from by omega]
            refine run_op fun K hK => ?_; refine calls_to (inside_spec (s.getD (i + 1) 0)) ?_; rintro v A ⟨rfl, rfl⟩; (try simp only [List.nil_append, List.cons_append]); refine hK _ _ ?_; clear hK K; refine going ?_
            cases h2 : inB (s.getD (i + 1) 0) with
            | false =>
              rw [qgo_bad2 h2, Option.map_none] at hq
              rw [qv_none hq]
              refine going ?_
              refine back_cells (vs := [.string (str []), .bool false]) [scB b s] ⟨rfl, rfl⟩
            | true =>
              rw [qgo_esc h2, Option.map_map] at hq
              refine going ?_
              rw [show ((i : Int) + 1).toNat = i + 1 from by omega]
              refine run_op fun K hK => ?_; refine build8 ([s.getD (i + 1) 0]) (by decide) rfl (rfl) (fun b7 C7 ho7 => ?_); refine hK _ _ ?_; clear hK K
              refine going ?_
              refine run_op fun K hK => ?_; refine app8 (hX) (by (repeat (first | with_reducible exact Pick.head _ _ | with_reducible apply Pick.tail))) ((ho7.rd (List.mem_cons_self ..)).mem (by (repeat (first | with_reducible assumption | with_reducible exact List.mem_cons_self .. | with_reducible apply List.mem_cons_of_mem)))) (by omega) (fun C9 a9 cap9 ho9 => ?_); refine hK _ _ ?_; clear hK K
              refine going ?_
              rw [show out.length + 1 = (out ++ [s.getD (i + 1) 0]).length from by simp] at ho9 ⊢
              exact again ⟨i + 2, out ++ [s.getD (i + 1) 0], C9, a9, cap9, by omega, by simp; omega, by rw [hq]; congr 1; funext x; simp, ho9, rfl, rfl, rfl, rfl⟩
          · have hnil : s.drop (i + 1) = [] := List.drop_eq_nil_of_le (by omega)
            rw [hnil, qgo_end1, Option.map_none] at hq
            rw [qv_none hq]
            rw [beq_iff_eq.2 (show (i : Int) + 1 = s.length by omega)]
            refine going ?_
            refine back_cells (vs := [.string (str []), .bool false]) [scB b s] ⟨rfl, rfl⟩
        · rw [beq_eq_false_iff_ne.2 (show ((s.getD i 0).toNat : Int) ≠ 92 from fun h => e2 (UInt8.toNat_inj.1 (show (s.getD i 0).toNat = 92 by omega)))]
          rw [qgo_cons e1 h1 e2, Option.map_map] at hq
          refine going ?_
          refine run_op fun K hK => ?_; refine build8 ([s.getD i 0]) (by decide) rfl (rfl) (fun b7 C7 ho7 => ?_); refine hK _ _ ?_; clear hK K
          refine going ?_
          refine run_op fun K hK => ?_; refine app8 (hX) (by (repeat (first | with_reducible exact Pick.head _ _ | with_reducible apply Pick.tail))) ((ho7.rd (List.mem_cons_self ..)).mem (by (repeat (first | with_reducible assumption | with_reducible exact List.mem_cons_self .. | with_reducible apply List.mem_cons_of_mem)))) (by omega) (fun C9 a9 cap9 ho9 => ?_); refine hK _ _ ?_; clear hK K
          refine going ?_
          rw [show out.length + 1 = (out ++ [s.getD i 0]).length from by simp] at ho9 ⊢
          exact again ⟨i + 1, out ++ [s.getD i 0], C9, a9, cap9, by omega, by simp; omega, by rw [hq]; congr 1; funext x; simp, ho9, rfl, rfl, rfl, rfl⟩
  · obtain rfl : i = s.length := by omega
    rw [List.drop_length] at hq
    rw [qv_none (by rw [hq]; rfl)]
    refine going ?_
    refine back_cells (vs := [.string (str []), .bool false]) [scB b s] ⟨rfl, rfl⟩


/-! ### A parameter -/

abbrev encP (p : Par) : List Value := [.string (str p.n), .string (str p.v), .bool p.q]
theorem encP_len (p : Par) : (encP p).length = 3 := rfl
theorem cell_P (p : Par) : ∀ v ∈ encP p, Value.cell1 v := by
  intro v hv
  simp only [encP, List.mem_cons, List.not_mem_nil, or_false] at hv
  rcases hv with rfl | rfl | rfl <;> simp [Value.cell1]
def p0 : Par := ⟨[], [], false⟩
instance : TPlaces Try.prog 43 [(0, 1), (1, 1), (2, 1)] := ⟨by kernel_rfl⟩

set_option maxHeartbeats 2000000 in
theorem param_spec (b : Nat) (s : List UInt8) (hs : s.length ≤ 100000) : Meets Try.prog 75 [.pointer (some ⟨b, 0, none⟩)] [scB b s]
    fun v A => ∃ (p : Par) (ok : Bool) (r : List UInt8), v = .tuple #[.agg (encP p).toArray, .bool ok] ∧ A = [scB b r] ∧ oneE s = (if ok = true then some (p, r) else none) := by
  have l1 := tokR_len s
  have l0 := tokL_len s
  have l2 := space_len (tokR s)
  have l3 := sign_len (spaceL (tokR s)) 61
  have low0 : (lowL (tokL s) = []) ↔ tokL s = [] := by unfold lowL; exact List.map_eq_nil_iff
  refine spec_intro Try.func75 rfl (by kernel_rfl) (by rw [Try.ntmps75]; simp) fun F => ?_; rw [Try.ntmps75, Try.results75]
  refine going ?_
  refine run_op fun K hK => ?_; refine alloc_as (encP p0).toArray rfl fun b2 => ?_; refine hK _ _ ?_; clear hK K
  refine going ?_
  refine run_op fun K hK => ?_; refine calls_to (stoken_spec b s hs) ?_; rintro v A ⟨rfl, rfl⟩; (try simp only [List.nil_append, List.cons_append]); refine hK _ _ ?_; clear hK K; refine going ?_
  refine run_op fun K hK => ?_; refine calls_to (lower_spec (tokL s) (by omega)) ?_; rintro v A ⟨rfl, rfl⟩; (try simp only [List.nil_append, List.cons_append]); refine hK _ _ ?_; clear hK K; refine going ?_
  refine run_op fun K hK => ?_; rw [build_struct (ps := [(0, .string (str (lowL (tokL s))))]) (cs := (encP ⟨lowL (tokL s), [], false⟩).toArray) rfl]; refine hK _ _ ?_; clear hK K
  refine going ?_
  refine run_op fun K hK => ?_; refine alloc_as (encP p0).toArray rfl fun b4 => ?_; refine hK _ _ ?_; clear hK K
  refine run_op fun K hK => ?_; refine store_all (vs := encP ⟨lowL (tokL s), [], false⟩) rfl (cell_P _) (by (repeat (first | with_reducible exact Upd.one | with_reducible apply Upd.next))) (by rfl) ?_; refine hK _ _ ?_; clear hK K
  refine going ?_
  refine run_op fun K hK => ?_; refine calls_to (space_spec b (tokR s) (by omega)) ?_; rintro v A ⟨rfl, rfl⟩; (try simp only [List.nil_append, List.cons_append]); refine hK _ _ ?_; clear hK K; refine going ?_
  by_cases ha : tokL s = []
  · have hn : lowL (tokL s) = [] := low0.2 ha
    have l4 := space_len (spaceL (tokR s))
    rw [hn]
    refine going ?_
    (try rw [bne_self_eq_false])
    refine going ?_
    refine run_op fun K hK => ?_; refine calls_to (space_spec b (spaceL (tokR s)) (by omega)) ?_; rintro v A ⟨rfl, rfl⟩; (try simp only [List.nil_append, List.cons_append]); refine hK _ _ ?_; clear hK K; refine going ?_
    refine run_op fun K hK => ?_; refine calls_to (stoken_spec b (spaceL (spaceL (tokR s))) (by omega)) ?_; rintro v A ⟨rfl, rfl⟩; (try simp only [List.nil_append, List.cons_append]); refine hK _ _ ?_; clear hK K; refine going ?_
    (try simp only [List.setIfInBounds_toArray, List.set_cons_succ, List.set_cons_zero, List.getElem_toArray, List.getElem_cons_succ, List.getElem_cons_zero])
    refine code_dr [[], [], [1], [1, 2], [1, 2, 3], [1, 2, 3, 4], [1, 2, 3, 4, 5], [0, 1, 2], [0, 1, 2, 3, 4, 5, 6, 7]] [(0, false, []), (1, false, []), (2, false, []), (3, false, []), (4, false, []), (5, false, []), (6, false, []), (7, true, [4]), (8, true, [])] ?_
    refine going ?_
    refine draw_quiet (by simp only [List.getElem?_toArray, List.getElem?_cons_succ, List.getElem?_cons_zero]; rfl) fun K hK => ?_; (try simp only [gos, gob, Nat.reduceBEq, if_true, reduceIte, reduceCtorEq, Nat.reduceLT, Nat.reduceEqDiff, Nat.reduceAdd, Nat.reduceSub, Int.reduceLT, Int.reduceLE, Int.reduceBEq, Int.reduceBNe, Int.reduceToNat, Int.reduceAdd, Int.reduceSub, Int.reduceMul, Int.reduceDiv, Int.reduceMod, Int.reducePow, Int.toNat_natCast, Nat.sub_zero, goq]); (try (simp (disch := omega) only [gow, gobw]; try simp only [gos, gob, Nat.reduceBEq, if_true, reduceIte, reduceCtorEq, Nat.reduceLT, Nat.reduceEqDiff, Nat.reduceAdd, Nat.reduceSub, Int.reduceLT, Int.reduceLE, Int.reduceBEq, Int.reduceBNe, Int.reduceToNat, Int.reduceAdd, Int.reduceSub, Int.reduceMul, Int.reduceDiv, Int.reduceMod, Int.reducePow, Int.toNat_natCast, Nat.sub_zero, goq]))
    refine load_all (vs := encP ⟨[], tokL (spaceL (spaceL (tokR s))), false⟩) (by (repeat (first | with_reducible exact Lies.one | with_reducible apply Lies.next))) rfl ?_; refine hK _ _ ?_; clear hK K
    refine going ?_
    refine draw_op fun K hK => ?_; refine store_all (vs := encP ⟨[], tokL (spaceL (spaceL (tokR s))), false⟩) rfl (cell_P _) (by (repeat (first | with_reducible exact Upd.one | with_reducible apply Upd.next))) (by rfl) ?_; (repeat refine pend ?_); refine hK _ _ ?_; clear hK K
    refine going ?_
    refine back_cells (vs := [.agg (encP ⟨[], tokL (spaceL (spaceL (tokR s))), false⟩).toArray, .bool false]) [scB b (tokR (spaceL (spaceL (tokR s))))] ⟨⟨[], tokL (spaceL (spaceL (tokR s))), false⟩, false, (tokR (spaceL (spaceL (tokR s)))), rfl, rfl, by rw [one_no1 ha]; rfl⟩ (hr := by (intro κ hκ; simp only [resW, withV, lookT_hit, lookT_miss, Nat.reduceBEq]; exact load_all (vs := encP ⟨[], tokL (spaceL (spaceL (tokR s))), false⟩) (by (repeat (first | with_reducible exact Lies.one | with_reducible apply Lies.next))) rfl hκ))
  · have hn : (lowL (tokL s) != []) = true := bne_iff_ne.2 (fun e => ha (low0.1 e))
    refine going ?_
    rw [hn]
    refine going ?_
    (try rw [show Value.int .u8 61 = b8 61 from rfl])
    refine run_op fun K hK => ?_; refine calls_to (sign_spec b (spaceL (tokR s)) 61 (by omega)) ?_; rintro v A ⟨rfl, rfl⟩; (try simp only [List.nil_append, List.cons_append]); refine hK _ _ ?_; clear hK K; refine going ?_
    have l4 := space_len (signE (spaceL (tokR s)) 61).2
    cases h1 : (signE (spaceL (tokR s)) 61).1 with
    | false =>
      refine going ?_
      refine run_op fun K hK => ?_; refine calls_to (space_spec b (signE (spaceL (tokR s)) 61).2 (by omega)) ?_; rintro v A ⟨rfl, rfl⟩; (try simp only [List.nil_append, List.cons_append]); refine hK _ _ ?_; clear hK K; refine going ?_
      refine run_op fun K hK => ?_; refine calls_to (stoken_spec b (spaceL (signE (spaceL (tokR s)) 61).2) (by omega)) ?_; rintro v A ⟨rfl, rfl⟩; (try simp only [List.nil_append, List.cons_append]); refine hK _ _ ?_; clear hK K; refine going ?_
      (try simp only [List.setIfInBounds_toArray, List.set_cons_succ, List.set_cons_zero, List.getElem_toArray, List.getElem_cons_succ, List.getElem_cons_zero])
      refine code_dr [[], [], [1], [1, 2], [1, 2, 3], [1, 2, 3, 4], [1, 2, 3, 4, 5], [0, 1, 2], [0, 1, 2, 3, 4, 5, 6, 7]] [(0, false, []), (1, false, []), (2, false, []), (3, false, []), (4, false, []), (5, false, []), (6, false, []), (7, true, [4]), (8, true, [])] ?_
      refine going ?_
      refine draw_quiet (by simp only [List.getElem?_toArray, List.getElem?_cons_succ, List.getElem?_cons_zero]; rfl) fun K hK => ?_; (try simp only [gos, gob, Nat.reduceBEq, if_true, reduceIte, reduceCtorEq, Nat.reduceLT, Nat.reduceEqDiff, Nat.reduceAdd, Nat.reduceSub, Int.reduceLT, Int.reduceLE, Int.reduceBEq, Int.reduceBNe, Int.reduceToNat, Int.reduceAdd, Int.reduceSub, Int.reduceMul, Int.reduceDiv, Int.reduceMod, Int.reducePow, Int.toNat_natCast, Nat.sub_zero, goq]); (try (simp (disch := omega) only [gow, gobw]; try simp only [gos, gob, Nat.reduceBEq, if_true, reduceIte, reduceCtorEq, Nat.reduceLT, Nat.reduceEqDiff, Nat.reduceAdd, Nat.reduceSub, Int.reduceLT, Int.reduceLE, Int.reduceBEq, Int.reduceBNe, Int.reduceToNat, Int.reduceAdd, Int.reduceSub, Int.reduceMul, Int.reduceDiv, Int.reduceMod, Int.reducePow, Int.toNat_natCast, Nat.sub_zero, goq]))
      refine load_all (vs := encP ⟨lowL (tokL s), tokL (spaceL (signE (spaceL (tokR s)) 61).2), false⟩) (by (repeat (first | with_reducible exact Lies.one | with_reducible apply Lies.next))) rfl ?_; refine hK _ _ ?_; clear hK K
      refine going ?_
      refine draw_op fun K hK => ?_; refine store_all (vs := encP ⟨lowL (tokL s), tokL (spaceL (signE (spaceL (tokR s)) 61).2), false⟩) rfl (cell_P _) (by (repeat (first | with_reducible exact Upd.one | with_reducible apply Upd.next))) (by rfl) ?_; (repeat refine pend ?_); refine hK _ _ ?_; clear hK K
      refine going ?_
      refine back_cells (vs := [.agg (encP ⟨lowL (tokL s), tokL (spaceL (signE (spaceL (tokR s)) 61).2), false⟩).toArray, .bool false]) [scB b (tokR (spaceL (signE (spaceL (tokR s)) 61).2))] ⟨⟨lowL (tokL s), tokL (spaceL (signE (spaceL (tokR s)) 61).2), false⟩, false, (tokR (spaceL (signE (spaceL (tokR s)) 61).2)), rfl, rfl, by rw [one_no2 h1]; rfl⟩ (hr := by (intro κ hκ; simp only [resW, withV, lookT_hit, lookT_miss, Nat.reduceBEq]; exact load_all (vs := encP ⟨lowL (tokL s), tokL (spaceL (signE (spaceL (tokR s)) 61).2), false⟩) (by (repeat (first | with_reducible exact Lies.one | with_reducible apply Lies.next))) rfl hκ))
    | true =>
      have hy := sign_fst h1
      obtain ⟨y, hy2⟩ : ∃ y, (signE (spaceL (tokR s)) 61).2 = y := ⟨_, rfl⟩
      rw [hy2] at hy l4 l3 ⊢
      refine going ?_
      refine run_op fun K hK => ?_; refine calls_to (space_spec b y (by omega)) ?_; rintro v A ⟨rfl, rfl⟩; (try simp only [List.nil_append, List.cons_append]); refine hK _ _ ?_; clear hK K; refine going ?_
      (try rw [show Value.int .u8 34 = b8 34 from rfl])
      refine run_op fun K hK => ?_; refine calls_to (sign_spec b (spaceL y) 34 (by omega)) ?_; rintro v A ⟨rfl, rfl⟩; (try simp only [List.nil_append, List.cons_append]); refine hK _ _ ?_; clear hK K; refine going ?_
      cases h2 : (signE (spaceL y) 34).1 with
      | true =>
        have hz := sign_fst h2
        have l5 := sign_len (spaceL y) 34
        obtain ⟨z, hz2⟩ : ∃ z, (signE (spaceL y) 34).2 = z := ⟨_, rfl⟩
        rw [hz2] at hz l5 ⊢
        refine going ?_
        (try simp only [List.setIfInBounds_toArray, List.set_cons_succ, List.set_cons_zero, List.getElem_toArray, List.getElem_cons_succ, List.getElem_cons_zero])
        refine run_op fun K hK => ?_; refine calls_to (quoted_spec b z (by omega)) ?_; rintro v A ⟨rfl, rfl⟩; (try simp only [List.nil_append, List.cons_append]); refine hK _ _ ?_; clear hK K; refine going ?_
        (try simp only [List.setIfInBounds_toArray, List.set_cons_succ, List.set_cons_zero, List.getElem_toArray, List.getElem_cons_succ, List.getElem_cons_zero])
        refine run_op fun K hK => ?_; refine load_all (vs := encP ⟨lowL (tokL s), (qgoV z).1, true⟩) (by (repeat (first | with_reducible exact Lies.one | with_reducible apply Lies.next))) rfl ?_; refine hK _ _ ?_; clear hK K
        refine going ?_
        refine run_op fun K hK => ?_; refine store_all (vs := encP ⟨lowL (tokL s), (qgoV z).1, true⟩) rfl (cell_P _) (by (repeat (first | with_reducible exact Upd.one | with_reducible apply Upd.next))) (by rfl) ?_; refine hK _ _ ?_; clear hK K
        refine going ?_
        refine back_cells (vs := [.agg (encP ⟨lowL (tokL s), (qgoV z).1, true⟩).toArray, .bool (qgoV z).2.1]) [scB b (qgoV z).2.2] ⟨⟨lowL (tokL s), (qgoV z).1, true⟩, (qgoV z).2.1, (qgoV z).2.2, rfl, rfl, ?_⟩ (hr := by (intro κ hκ; simp only [resW, withV, lookT_hit, lookT_miss, Nat.reduceBEq]; exact load_all (vs := encP ⟨lowL (tokL s), (qgoV z).1, true⟩) (by (repeat (first | with_reducible exact Lies.one | with_reducible apply Lies.next))) rfl hκ))
        rw [one_q ha hy hz]
        cases hq : qgo z with
        | none => rw [qv_none hq]; rfl
        | some x => rw [qv_some hq]; rfl
      | false =>
        have hs2 := sign_no _ _ h2
        rw [hs2]
        refine going ?_
        refine run_op fun K hK => ?_; refine calls_to (stoken_spec b (spaceL y) (by omega)) ?_; rintro v A ⟨rfl, rfl⟩; (try simp only [List.nil_append, List.cons_append]); refine hK _ _ ?_; clear hK K; refine going ?_
        (try simp only [List.setIfInBounds_toArray, List.set_cons_succ, List.set_cons_zero, List.getElem_toArray, List.getElem_cons_succ, List.getElem_cons_zero])
        have ho := one_t ha hy h2
        by_cases hv : tokL (spaceL y) = []
        · rw [if_pos hv] at ho
          rw [hv]
          refine code_dr [[], [], [1], [1, 2], [1, 2, 3], [1, 2, 3, 4], [1, 2, 3, 4, 5], [0, 1, 2], [0, 1, 2, 3, 4, 5, 6, 7]] [(0, false, []), (1, false, []), (2, false, []), (3, false, []), (4, false, []), (5, false, []), (6, false, []), (7, true, [4]), (8, true, [])] ?_
          refine going ?_
          refine draw_quiet (by simp only [List.getElem?_toArray, List.getElem?_cons_succ, List.getElem?_cons_zero]; rfl) fun K hK => ?_; (try simp only [gos, gob, Nat.reduceBEq, if_true, reduceIte, reduceCtorEq, Nat.reduceLT, Nat.reduceEqDiff, Nat.reduceAdd, Nat.reduceSub, Int.reduceLT, Int.reduceLE, Int.reduceBEq, Int.reduceBNe, Int.reduceToNat, Int.reduceAdd, Int.reduceSub, Int.reduceMul, Int.reduceDiv, Int.reduceMod, Int.reducePow, Int.toNat_natCast, Nat.sub_zero, goq]); (try (simp (disch := omega) only [gow, gobw]; try simp only [gos, gob, Nat.reduceBEq, if_true, reduceIte, reduceCtorEq, Nat.reduceLT, Nat.reduceEqDiff, Nat.reduceAdd, Nat.reduceSub, Int.reduceLT, Int.reduceLE, Int.reduceBEq, Int.reduceBNe, Int.reduceToNat, Int.reduceAdd, Int.reduceSub, Int.reduceMul, Int.reduceDiv, Int.reduceMod, Int.reducePow, Int.toNat_natCast, Nat.sub_zero, goq]))
          refine load_all (vs := encP ⟨lowL (tokL s), [], false⟩) (by (repeat (first | with_reducible exact Lies.one | with_reducible apply Lies.next))) rfl ?_; refine hK _ _ ?_; clear hK K
          refine going ?_
          (try rw [bne_self_eq_false]); (try refine going ?_)
          refine draw_op fun K hK => ?_; refine store_all (vs := encP ⟨lowL (tokL s), [], false⟩) rfl (cell_P _) (by (repeat (first | with_reducible exact Upd.one | with_reducible apply Upd.next))) (by rfl) ?_; (repeat refine pend ?_); refine hK _ _ ?_; clear hK K
          refine going ?_
          refine back_cells (vs := [.agg (encP ⟨lowL (tokL s), [], false⟩).toArray, .bool false]) [scB b (tokR (spaceL y))] ⟨⟨lowL (tokL s), [], false⟩, false, (tokR (spaceL y)), rfl, rfl, by rw [ho]; rfl⟩ (hr := by (intro κ hκ; simp only [resW, withV, lookT_hit, lookT_miss, Nat.reduceBEq]; exact load_all (vs := encP ⟨lowL (tokL s), [], false⟩) (by (repeat (first | with_reducible exact Lies.one | with_reducible apply Lies.next))) rfl hκ))
        · rw [if_neg hv] at ho
          have hv2 : (tokL (spaceL y) != []) = true := bne_iff_ne.2 hv
          refine code_dr [[], [], [1], [1, 2], [1, 2, 3], [1, 2, 3, 4], [1, 2, 3, 4, 5], [0, 1, 2], [0, 1, 2, 3, 4, 5, 6, 7]] [(0, false, []), (1, false, []), (2, false, []), (3, false, []), (4, false, []), (5, false, []), (6, false, []), (7, true, [4]), (8, true, [])] ?_
          refine going ?_
          refine draw_quiet (by simp only [List.getElem?_toArray, List.getElem?_cons_succ, List.getElem?_cons_zero]; rfl) fun K hK => ?_; (try simp only [gos, gob, Nat.reduceBEq, if_true, reduceIte, reduceCtorEq, Nat.reduceLT, Nat.reduceEqDiff, Nat.reduceAdd, Nat.reduceSub, Int.reduceLT, Int.reduceLE, Int.reduceBEq, Int.reduceBNe, Int.reduceToNat, Int.reduceAdd, Int.reduceSub, Int.reduceMul, Int.reduceDiv, Int.reduceMod, Int.reducePow, Int.toNat_natCast, Nat.sub_zero, goq]); (try (simp (disch := omega) only [gow, gobw]; try simp only [gos, gob, Nat.reduceBEq, if_true, reduceIte, reduceCtorEq, Nat.reduceLT, Nat.reduceEqDiff, Nat.reduceAdd, Nat.reduceSub, Int.reduceLT, Int.reduceLE, Int.reduceBEq, Int.reduceBNe, Int.reduceToNat, Int.reduceAdd, Int.reduceSub, Int.reduceMul, Int.reduceDiv, Int.reduceMod, Int.reducePow, Int.toNat_natCast, Nat.sub_zero, goq]))
          refine load_all (vs := encP ⟨lowL (tokL s), tokL (spaceL y), false⟩) (by (repeat (first | with_reducible exact Lies.one | with_reducible apply Lies.next))) rfl ?_; refine hK _ _ ?_; clear hK K
          refine going ?_
          rw [hv2]; refine going ?_
          refine draw_op fun K hK => ?_; refine store_all (vs := encP ⟨lowL (tokL s), tokL (spaceL y), false⟩) rfl (cell_P _) (by (repeat (first | with_reducible exact Upd.one | with_reducible apply Upd.next))) (by rfl) ?_; (repeat refine pend ?_); refine hK _ _ ?_; clear hK K
          refine going ?_
          refine back_cells (vs := [.agg (encP ⟨lowL (tokL s), tokL (spaceL y), false⟩).toArray, .bool true]) [scB b (tokR (spaceL y))] ⟨⟨lowL (tokL s), tokL (spaceL y), false⟩, true, (tokR (spaceL y)), rfl, rfl, by rw [ho]; rfl⟩ (hr := by (intro κ hκ; simp only [resW, withV, lookT_hit, lookT_miss, Nat.reduceBEq]; exact load_all (vs := encP ⟨lowL (tokL s), tokL (spaceL y), false⟩) (by (repeat (first | with_reducible exact Lies.one | with_reducible apply Lies.next))) rfl hκ))

end Go.Proofs.Ytfoppclmjmpjiaa

/- Slices of parameters; how many there may be. Conditions: as each says. -/
set_option linter.unusedSimpArgs false
set_option linter.unusedVariables false
namespace Go.Proofs.Ytfoppclmjmpjiaa
open Go Go.Ost

abbrev OwnR (X : Chunk) (a : Option Addr) (k : Nat) (l : List Par) : Prop := Ost.Own 3 37 X a l.length k (l.flatMap encP)
abbrev OwnP (X : Chunk) (a : Option Addr) (k : Nat) (l : List Par) : Prop := Ost.Own 3 43 X a l.length k (l.flatMap encP)
abbrev rpB (b : Nat) (p : Par) : Chunk := [(b, .cells (encP p).toArray 37 (0, 0))]
abbrev dpB (b : Nat) (p : Par) : Chunk := [(b, .cells (encP p).toArray 43 (0, 0))]
instance tpRPar : TPlaces Try.prog 37 [(0, 1), (1, 1), (2, 1)] := ⟨by kernel_rfl⟩
instance teqRPar : TEq Try.prog 37 [.s, .s, .b] := ⟨by kernel_rfl⟩
theorem eqP (p : Par) : eqL [.s, .s, .b] (encP p) (encP p) = some true := by
  obtain ⟨n, v, q⟩ := p
  simp only [encP, eqL, if_true, Option.map_some, beq_self_eq_true, Bool.and_self, reduceIte]
/-- Is the name of parameter i there already? -/
def dupAt (l : List Par) (i : Nat) : Bool := (l.take i).any fun q => (l.getD i p0).n == q.n
/-- Too many, or a name that comes twice. -/
def cntE (l : List Par) : Int := if 16 < l.length then 3 else if (List.range l.length).any (dupAt l) = true then 7 else 0
theorem range_next (f : Nat → Bool) (i : Nat) : (List.range (i + 1)).any f = ((List.range i).any f || f i) := by
  rw [List.range_succ, List.any_append]; simp
theorem range_has (f : Nat → Bool) {i n : Nat} (h : i < n) (hf : f i = true) : (List.range n).any f = true := List.any_eq_true.2 ⟨i, List.mem_range.2 h, hf⟩
theorem take_any (l : List Par) (f : Par → Bool) (j : Nat) (h : j < l.length) : (l.take (j + 1)).any f = ((l.take j).any f || f (l.getD j p0)) := by
  rw [List.take_add_one, List.any_append, List.getD_eq_getElem?_getD, List.getElem?_eq_getElem h]; simp
theorem get_par (l : List Par) (i : Nat) (h : i < l.length) : l[i]? = some (l.getD i p0) := by
  rw [List.getD_eq_getElem?_getD, List.getElem?_eq_getElem h]; rfl
theorem take_par (l : List Par) {i j : Nat} (hj : j < i) (hi : i ≤ l.length) : (l.take i)[j]? = some (l.getD j p0) := by
  rw [List.getElem?_take_of_lt hj]; exact get_par l j (by omega)
theorem dup_has {l : List Par} {i j : Nat} (hj : j < i) (hi : i ≤ l.length) (hb : ((l.getD i p0).n == (l.getD j p0).n) = true) : dupAt l i = true :=
  List.any_eq_true.2 ⟨_, List.mem_of_getElem? (take_par l hj hi), hb⟩

end Go.Proofs.Ytfoppclmjmpjiaa

/- Parameters counted, in both. Conditions: as each says. -/
set_option linter.unusedSimpArgs false
set_option linter.unusedVariables false
namespace Go.Proofs.Ytfoppclmjmpjiaa
open Go Go.Ost

theorem cutA_zero {s : Nat} {a : Option Addr} {m : Nat} : cutA s a 0 m = a := by
  unfold cutA
  split
  · rfl
  · cases a with
    | none => simp
    | some x => simp [Addr.add]

set_option maxHeartbeats 2000000 in
theorem counted_spec {X : Chunk} {xa : Option Addr} {xc : Nat} {l : List Par} (hX : OwnP X xa xc l) (hl : l.length ≤ 100000) : Meets Try.prog 50 [.slice xa l.length xc] [X]
    fun v A => v = .int .i64 (cntE l) ∧ A = [X] := by
  have hs := encP_len
  have hle := hX.1
  unfold cntE
  refine spec_intro Try.func50 rfl (by kernel_rfl) (by rw [Try.ntmps50]; simp) fun F => ?_; rw [Try.ntmps50, Try.results50]
  refine going ?_
  by_cases h16 : 16 < l.length
  · rw [if_pos h16, decide_eq_true (show (16 : Int) < l.length by omega)]
    refine going ?_
    refine back_tmp [X] ⟨rfl, rfl⟩
  rw [if_neg h16, decide_eq_false (show ¬ (16 : Int) < l.length by omega)]
  refine going ?_
  refine loop_i (fun q D L S => ∃ i : Nat, i ≤ l.length ∧ (List.range i).any (dupAt l) = false ∧ q = l.length - i ∧ D = [] ∧
    L = [(12, .int .i64 i), (11, .int .i64 l.length), (10, .slice xa l.length xc), (0, .slice xa l.length xc)] ∧ S = [X, F])
    ⟨0, by omega, rfl, rfl, rfl, rfl, rfl⟩ ?_
  rintro q D L S ⟨i, hi, hno, rfl, rfl, rfl, rfl⟩
  refine going ?_
  refine if_d (fun hc => ?_) (fun hc => ?_)
  · have hil : i < l.length := by omega
    have hx := get_par l i hil
    have hrn := range_next (dupAt l) i
    refine going ?_
    refine run_op fun K hK => ?_; refine load_el_agg hX hs hx (by decide) (by (repeat (first | with_reducible assumption | with_reducible exact List.mem_cons_self .. | with_reducible apply List.mem_cons_of_mem))) ?_; refine hK _ _ ?_; clear hK K
    refine run_op fun K hK => ?_; refine alloc_as (encP p0).toArray rfl fun b4 => ?_; refine hK _ _ ?_; clear hK K
    refine going ?_
    refine run_op fun K hK => ?_; refine store_all (vs := encP (l.getD i p0)) rfl (cell_P _) (by (repeat (first | with_reducible exact Upd.one | with_reducible apply Upd.next))) (by rfl) ?_; refine hK _ _ ?_; clear hK K
    refine going ?_
    have hcut : Ost.Own 3 43 X xa i xc ((l.take i).flatMap encP) := by
      have q := own_cut hX (l := 0) (h' := i) (m := xc) (by omega) (by omega) (by omega) (by omega)
      rwa [cutA_zero, Nat.sub_zero, Nat.sub_zero, Nat.zero_mul, List.drop_zero, flat_take encP 3 hs] at q
    (try (refine run_op fun K hK => ?_; rw [cut_hi (e := 43) (s := 3) (hs := inferInstance) (by omega) (by omega)]; refine hK _ _ ?_; clear hK K))
    simp only [cutA_zero, Nat.sub_zero, show ((i : Int)).toNat = i from by omega]
    refine going ?_
    refine loop_i (fun q D L S => ∃ j : Nat, j ≤ i ∧ ((l.take j).any fun q => (l.getD i p0).n == q.n) = false ∧ q = i - j ∧ D = [] ∧
      L = [(21, .int .i64 j), (20, .int .i64 i), (19, .slice xa i xc), (4, .pointer (some ⟨b4, 0, none⟩)), (12, .int .i64 i), (11, .int .i64 l.length), (10, .slice xa l.length xc), (0, .slice xa l.length xc)] ∧ S = [dpB b4 (l.getD i p0), X, F])
      ⟨0, by omega, rfl, rfl, rfl, rfl, rfl⟩ ?_
    rintro q D L S ⟨j, hj, hnj, rfl, rfl, rfl, rfl⟩
    refine going ?_
    refine if_d (fun hc => ?_) (fun hc => ?_)
    · have hji : j < i := by omega
      have hx2 := take_par l hji hi
      refine going ?_
      refine run_op fun K hK => ?_; refine load_el_agg hcut hs hx2 (by decide) (by (repeat (first | with_reducible assumption | with_reducible exact List.mem_cons_self .. | with_reducible apply List.mem_cons_of_mem))) ?_; refine hK _ _ ?_; clear hK K
      refine run_op fun K hK => ?_; refine alloc_as (encP p0).toArray rfl fun b6 => ?_; refine hK _ _ ?_; clear hK K
      refine going ?_
      refine run_op fun K hK => ?_; refine store_all (vs := encP (l.getD j p0)) rfl (cell_P _) (by (repeat (first | with_reducible exact Upd.one | with_reducible apply Upd.next))) (by rfl) ?_; refine hK _ _ ?_; clear hK K
      refine going ?_
      cases hb : ((l.getD i p0).n == (l.getD j p0).n) with
      | true =>
        refine going ?_
        rw [if_pos (range_has (dupAt l) hil (dup_has hji hi hb))]
        refine back_tmp [X] ⟨rfl, rfl⟩
      | false =>
        refine going ?_
        exact again ⟨j + 1, by omega, by rw [take_any l _ j (by omega), hnj, hb]; rfl, rfl, rfl, rfl, rfl⟩
    · obtain rfl : j = i := by omega
      refine going ?_
      exact again ⟨j + 1, by omega, by rw [hrn, hno]; exact hnj, rfl, rfl, rfl, rfl⟩
  · obtain rfl : i = l.length := by omega
    rw [hno]
    refine going ?_
    refine back_tmp [X] ⟨rfl, rfl⟩

set_option maxHeartbeats 2000000 in
theorem rcounted_spec {X : Chunk} {xa : Option Addr} {xc : Nat} {l : List Par} (hX : OwnR X xa xc l) (hl : l.length ≤ 100000) : Meets Try.prog 52 [.slice xa l.length xc] [X]
    fun v A => v = .int .i64 (cntE l) ∧ A = [X] := by
  have hs := encP_len
  have hle := hX.1
  unfold cntE
  refine spec_intro Try.func52 rfl (by kernel_rfl) (by rw [Try.ntmps52]; simp) fun F => ?_; rw [Try.ntmps52, Try.results52]
  refine going ?_
  by_cases h16 : 16 < l.length
  · rw [if_pos h16, decide_eq_true (show (16 : Int) < l.length by omega)]
    refine going ?_
    refine back_tmp [X] ⟨rfl, rfl⟩
  rw [if_neg h16, decide_eq_false (show ¬ (16 : Int) < l.length by omega)]
  refine going ?_
  refine loop_i (fun q D L S => ∃ i : Nat, i ≤ l.length ∧ (List.range i).any (dupAt l) = false ∧ q = l.length - i ∧ D = [] ∧
    L = [(10, .int .i64 i), (9, .int .i64 l.length), (0, .slice xa l.length xc)] ∧ S = [X, F])
    ⟨0, by omega, rfl, rfl, rfl, rfl, rfl⟩ ?_
  rintro q D L S ⟨i, hi, hno, rfl, rfl, rfl, rfl⟩
  refine going ?_
  refine if_d (fun hc => ?_) (fun hc => ?_)
  · have hil : i < l.length := by omega
    have hx := get_par l i hil
    have hrn := range_next (dupAt l) i
    refine going ?_
    refine loop_i (fun q D L S => ∃ j : Nat, j ≤ i ∧ ((l.take j).any fun q => (l.getD i p0).n == q.n) = false ∧ q = i - j ∧ D = [] ∧
      L = [(4, .int .i64 j), (3, .int .i64 i), (10, .int .i64 i), (9, .int .i64 l.length), (0, .slice xa l.length xc)] ∧ S = [X, F])
      ⟨0, by omega, rfl, rfl, rfl, rfl, rfl⟩ ?_
    rintro q D L S ⟨j, hj, hnj, rfl, rfl, rfl, rfl⟩
    refine going ?_
    refine if_d (fun hc => ?_) (fun hc => ?_)
    · have hji : j < i := by omega
      have hx2 := get_par l j (by omega)
      refine going ?_
      refine code_dr [[], [], [0, 1], [0, 1, 2], [0, 1, 2, 3], [], [], [5, 6], [5, 6, 7], [5, 6, 7, 8], [0, 1, 2, 3, 4, 5, 6, 7, 8, 9]] [(0, false, []), (1, false, []), (2, false, []), (3, false, []), (4, false, []), (5, false, []), (6, false, []), (7, false, []), (8, false, []), (9, false, []), (10, false, [])] ?_
      refine going ?_
      (try (refine draw_quiet (by simp only [List.getElem?_toArray, List.getElem?_cons_succ, List.getElem?_cons_zero]; rfl) fun K hK => ?_; (try simp only [gos, gob, Nat.reduceBEq, if_true, reduceIte, reduceCtorEq, Nat.reduceLT, Nat.reduceEqDiff, Nat.reduceAdd, Nat.reduceSub, Int.reduceLT, Int.reduceLE, Int.reduceBEq, Int.reduceBNe, Int.reduceToNat, Int.reduceAdd, Int.reduceSub, Int.reduceMul, Int.reduceDiv, Int.reduceMod, Int.reducePow, Int.toNat_natCast, Nat.sub_zero, goq]); (try (simp (disch := omega) only [gow, gobw]; try simp only [gos, gob, Nat.reduceBEq, if_true, reduceIte, reduceCtorEq, Nat.reduceLT, Nat.reduceEqDiff, Nat.reduceAdd, Nat.reduceSub, Int.reduceLT, Int.reduceLE, Int.reduceBEq, Int.reduceBNe, Int.reduceToNat, Int.reduceAdd, Int.reduceSub, Int.reduceMul, Int.reduceDiv, Int.reduceMod, Int.reducePow, Int.toNat_natCast, Nat.sub_zero, goq])); refine load_el (off := 0) hX hs hx rfl (by (repeat (first | with_reducible assumption | with_reducible exact List.mem_cons_self .. | with_reducible apply List.mem_cons_of_mem))) ?_; refine hK _ _ ?_; clear hK K; refine going ?_))
      (try (refine draw_quiet (by simp only [List.getElem?_toArray, List.getElem?_cons_succ, List.getElem?_cons_zero]; rfl) fun K hK => ?_; (try simp only [gos, gob, Nat.reduceBEq, if_true, reduceIte, reduceCtorEq, Nat.reduceLT, Nat.reduceEqDiff, Nat.reduceAdd, Nat.reduceSub, Int.reduceLT, Int.reduceLE, Int.reduceBEq, Int.reduceBNe, Int.reduceToNat, Int.reduceAdd, Int.reduceSub, Int.reduceMul, Int.reduceDiv, Int.reduceMod, Int.reducePow, Int.toNat_natCast, Nat.sub_zero, goq]); (try (simp (disch := omega) only [gow, gobw]; try simp only [gos, gob, Nat.reduceBEq, if_true, reduceIte, reduceCtorEq, Nat.reduceLT, Nat.reduceEqDiff, Nat.reduceAdd, Nat.reduceSub, Int.reduceLT, Int.reduceLE, Int.reduceBEq, Int.reduceBNe, Int.reduceToNat, Int.reduceAdd, Int.reduceSub, Int.reduceMul, Int.reduceDiv, Int.reduceMod, Int.reducePow, Int.toNat_natCast, Nat.sub_zero, goq])); refine load_el (off := 0) hX hs hx2 rfl (by (repeat (first | with_reducible assumption | with_reducible exact List.mem_cons_self .. | with_reducible apply List.mem_cons_of_mem))) ?_; refine hK _ _ ?_; clear hK K; refine going ?_))
      cases hb : ((l.getD i p0).n == (l.getD j p0).n) with
      | true =>
        refine going ?_
        rw [if_pos (range_has (dupAt l) hil (dup_has hji hi hb))]
        refine back_tmp [X] ⟨rfl, rfl⟩
      | false =>
        refine going ?_
        exact again ⟨j + 1, by omega, by rw [take_any l _ j (by omega), hnj, hb]; rfl, rfl, rfl, rfl, rfl⟩
    · obtain rfl : j = i := by omega
      refine going ?_
      exact again ⟨j + 1, by omega, by rw [hrn, hno]; exact hnj, rfl, rfl, rfl, rfl⟩
  · obtain rfl : i = l.length := by omega
    rw [hno]
    refine going ?_
    refine back_tmp [X] ⟨rfl, rfl⟩

end Go.Proofs.Ytfoppclmjmpjiaa

/- A header printed and read, plainly. Conditions: as each says. -/
set_option linter.unusedSimpArgs false
set_option linter.unusedVariables false
namespace Go.Proofs.Ytfoppclmjmpjiaa
open Go Go.Ost

/-- 'Digest ' -/
def hdr : List UInt8 := [68, 105, 103, 101, 115, 116, 32]
/-- 'digest' -/
def scheme : List UInt8 := [100, 105, 103, 101, 115, 116]
def valP (p : Par) : List UInt8 := if p.q = true then (quoE p.v).1 else p.v
def fineP (p : Par) : Bool := if p.q = true then (quoE p.v).2 else tokB p.v
def textP (p : Par) : List UInt8 := p.n ++ [61] ++ valP p
/-- Is the parameter one that may be printed? -/
def goodP (p : Par) : Bool := fineP p && (tokB p.n && (lowL p.n == p.n))
def joinP (l : List Par) : List UInt8 := (l.take 1).flatMap textP ++ (l.drop 1).flatMap (fun p => [44, 32] ++ textP p)
def printE (l : List Par) : List UInt8 × Int :=
  if (decide (0 < l.length) && l.all goodP) = false then ([], 4) else if 4096 < (hdr ++ joinP l).length then ([], 3) else
  if cntE l ≠ 0 then ([], cntE l) else (hdr ++ joinP l, 0)

theorem join_next (l : List Par) (i : Nat) (h : i < l.length) : joinP (l.take (i + 1)) = joinP (l.take i) ++ ((if 0 < i then [44, 32] else []) ++ textP (l.getD i p0)) := by
  have htk : l.take (i + 1) = l.take i ++ [l.getD i p0] := by rw [List.take_add_one, get_par l i h]; rfl
  rw [htk]
  unfold joinP
  by_cases h0 : 0 < i
  · have hl : (l.take i).length = i := by rw [List.length_take]; omega
    rw [if_pos h0, List.take_append_of_le_length (by omega), List.drop_append_of_le_length (by omega), List.flatMap_append]
    simp
  · obtain rfl : i = 0 := by omega
    simp
theorem quo_len (v : List UInt8) : (quoE v).1.length ≤ 2 * v.length + 2 := by
  unfold quoE
  split
  · show (quo v).length ≤ _
    unfold quo
    have := esc_len v
    rw [List.length_cons, List.length_append, List.length_singleton]; omega
  · simp
theorem val_len (p : Par) : (valP p).length ≤ 2 * p.v.length + 2 := by
  unfold valP
  split
  · exact quo_len p.v
  · omega
theorem text_len (p : Par) : (textP p).length ≤ p.n.length + 2 * p.v.length + 3 := by
  unfold textP
  have := val_len p
  rw [List.length_append, List.length_append, List.length_singleton]; omega
theorem join_len (l : List Par) (h : ∀ p ∈ l, p.n.length + p.v.length ≤ 5000) : (joinP l).length ≤ l.length * 12000 := by
  have key : ∀ (l : List Par) (f : Par → List UInt8), (∀ p ∈ l, (f p).length ≤ 12000) → (l.flatMap f).length ≤ l.length * 12000 := by
    intro l f
    induction l with
    | nil => intro _; simp
    | cons p l ih =>
      intro h
      rw [List.flatMap_cons, List.length_append, List.length_cons]
      have h1 := h p (List.mem_cons_self ..)
      have h2 := ih fun q hq => h q (List.mem_cons_of_mem _ hq)
      rw [Nat.add_mul]; omega
  have htx : ∀ p ∈ l, (textP p).length ≤ 11000 := fun p hp => by
    have := text_len p
    have := h p hp
    omega
  have a1 := key (l.take 1) textP fun p hp => Nat.le_trans (htx p (List.mem_of_mem_take hp)) (by decide)
  have a2 := key (l.drop 1) (fun p => [44, 32] ++ textP p) fun p hp => by
    have := htx p (List.mem_of_mem_drop hp)
    rw [List.length_append]
    show 2 + _ ≤ _
    omega
  unfold joinP
  rw [List.length_append]
  rw [List.length_take] at a1
  rw [List.length_drop] at a2
  have : min 1 l.length * 12000 + (l.length - 1) * 12000 = (min 1 l.length + (l.length - 1)) * 12000 := by rw [Nat.add_mul]
  have h3 : min 1 l.length + (l.length - 1) = l.length := by omega
  rw [h3] at this
  omega
theorem all_par {f : Par → Bool} (l : List Par) (j : Nat) (h : j < l.length) : (l.take (j + 1)).all f = ((l.take j).all f && f (l.getD j p0)) := by
  rw [List.take_add_one, List.all_append, List.getD_eq_getElem?_getD, List.getElem?_eq_getElem h]; simp
theorem all_par_cut {f : Par → Bool} {l : List Par} {j : Nat} (h : j < l.length) (hf : f (l.getD j p0) = false) : l.all f = false := by
  rw [List.all_eq_false]
  refine ⟨_, List.mem_of_getElem? (get_par l j h), ?_⟩
  rw [hf]; simp

/-! ### Read -/

def restE (s : List UInt8) : List UInt8 := (signE (tokR s) 32).2.dropWhile (fun c => c == 32)
def parseE (s : List UInt8) : List Par × Int :=
  if 4096 < s.length then ([], 3) else
  if lowL (tokL s) ≠ scheme ∨ (signE (tokR s) 32).1 = false then ([], 4) else
  if (listE (restE s)).2 = false then ([], 4) else
  if cntE (listE (restE s)).1 ≠ 0 then ([], cntE (listE (restE s)).1) else ((listE (restE s)).1, 0)
theorem rest_len (s : List UInt8) : (restE s).length ≤ s.length := by
  have h1 := (List.dropWhile_sublist (fun c : UInt8 => c == 32) (l := (signE (tokR s) 32).2)).length_le
  have h2 := sign_len (tokR s) 32
  have h3 := tokR_len s
  unfold restE; omega

/-- The item of a parameter that is printed as it is. -/
def itP (p : Par) : It := ⟨p, p.n, [], [32], [], []⟩
theorem good_it {p : Par} (h : goodP p = true) : (itP p).ok := by
  unfold goodP at h
  rw [Bool.and_eq_true, Bool.and_eq_true, beq_iff_eq] at h
  obtain ⟨h1, h2, h3⟩ := h
  refine ⟨?_, h2, h3, rfl, rfl, rfl, rfl⟩
  show okP p = true
  unfold okP
  rw [h2, h3]
  unfold fineP at h1
  cases hq : p.q with
  | true =>
    rw [hq, if_pos rfl] at h1
    unfold quoE at h1
    split at h1
    · rename_i ha; rw [if_pos rfl, ha]; simp
    · cases h1
  | false =>
    rw [hq, if_neg (by simp)] at h1
    rw [if_neg (by simp), h1]; simp
theorem good_val {p : Par} (h : goodP p = true) : valP p = valI p := by
  unfold goodP at h
  rw [Bool.and_eq_true] at h
  unfold valP valI
  cases hq : p.q with
  | true =>
    have h1 := h.1
    unfold fineP at h1
    rw [hq, if_pos rfl] at h1
    unfold quoE at h1 ⊢
    split at h1
    · rename_i ha; rw [if_pos rfl, if_pos rfl, if_pos ha]
    · cases h1
  | false => rw [if_neg (by simp), if_neg (by simp)]
theorem join_it : ∀ (l : List Par) (p : Par), (∀ q ∈ p :: l, goodP q = true) → joinP (p :: l) = bodyI (itP p) ++ tailI (l.map itP) := by
  intro l p h
  have key : ∀ l : List Par, (∀ q ∈ l, goodP q = true) → l.flatMap (fun p => [44, 32] ++ textP p) = tailI (l.map itP) := by
    intro l
    induction l with
    | nil => intro _; rfl
    | cons q l ih =>
      intro h
      rw [List.flatMap_cons, ih fun x hx => h x (List.mem_cons_of_mem _ hx), List.map_cons, tailI]
      unfold textP
      rw [good_val (h q (List.mem_cons_self ..))]
      simp [itP, bodyI]
  show List.flatMap textP [p] ++ l.flatMap _ = _
  rw [key l fun q hq => h q (List.mem_cons_of_mem _ hq)]
  have hp := good_val (h p (List.mem_cons_self ..))
  simp [textP, hp, itP, bodyI]
/-- What was printed is read again. -/
theorem parse_print {l : List Par} (h : (printE l).2 = 0) : parseE (printE l).1 = (l, 0) := by
  unfold printE at h ⊢
  split at h
  · cases h
  rename_i h1
  split at h
  · cases h
  rename_i h2
  split at h
  · rename_i h3; exact (h3 h).elim
  rename_i h3
  rw [if_neg h1, if_neg h2, if_neg h3]
  show parseE (hdr ++ joinP l) = _
  have hc : cntE l = 0 := by simpa using h3
  have h1' : (decide (0 < l.length) && l.all goodP) = true := by simpa using h1
  rw [Bool.and_eq_true, decide_eq_true_eq, List.all_eq_true] at h1'
  obtain ⟨hl, hg⟩ := h1'
  cases l with
  | nil => simp at hl
  | cons p l =>
    have hj := join_it l p hg
    have hok : ∀ y ∈ l.map itP, y.ok := fun y hy => by
      obtain ⟨q, hq, rfl⟩ := List.mem_map.1 hy
      exact good_it (hg q (List.mem_cons_of_mem _ hq))
    have hb := list_back (l.map itP) (itP p) (good_it (hg p (List.mem_cons_self ..))) hok
    rw [← hj] at hb
    have hmm : (itP p).p :: (l.map itP).map It.p = p :: l := by
      rw [List.map_map]
      show p :: l.map (fun x => x) = _
      rw [List.map_id']
    rw [hmm] at hb
    have ht := tok_app (a := [68, 105, 103, 101, 115, 116]) (r := 32 :: joinP (p :: l)) (by decide) (by show (!tcB 32) = true; decide)
    have e0 : hdr ++ joinP (p :: l) = [68, 105, 103, 101, 115, 116] ++ 32 :: joinP (p :: l) := rfl
    have hr : restE (hdr ++ joinP (p :: l)) = joinP (p :: l) := by
      unfold restE
      rw [e0, ht.2, sign_yes]
      have hn := (tok_all (good_it (hg p (List.mem_cons_self ..))).nm)
      rw [hj]
      unfold bodyI
      rw [List.append_assoc]
      cases hnm : (itP p).nm with
      | nil => exact (hn.2 hnm).elim
      | cons c r =>
        rw [hnm, List.all_cons, Bool.and_eq_true] at hn
        have hc32 : c ≠ 32 := fun e => by rw [e] at hn; exact absurd hn.1.1 (by decide)
        rw [List.cons_append, List.dropWhile_cons, if_neg (by simpa using hc32)]
    unfold parseE
    rw [if_neg h2, if_neg (by rw [e0, ht.1, ht.2, sign_yes]; simp; decide), hr, hb]
    simp only
    rw [if_neg (by simp), if_neg (by rw [hc]; simp)]

end Go.Proofs.Ytfoppclmjmpjiaa

/- A header printed, in digest. Conditions: as each says. -/
set_option linter.unusedSimpArgs false
set_option linter.unusedVariables false
namespace Go.Proofs.Ytfoppclmjmpjiaa
open Go Go.Ost

set_option maxHeartbeats 4000000 in
theorem print_spec {X : Chunk} {xa : Option Addr} {xc : Nat} {l : List Par} (hX : OwnP X xa xc l) (hl : l.length ≤ 20) (hb : ∀ p ∈ l, p.n.length + p.v.length ≤ 5000) :
    Meets Try.prog 22 [.slice xa l.length xc] [X] fun v A => v = .tuple #[.string (str (printE l).1), .int .i64 (printE l).2] ∧ A = [X] := by
  have hs := encP_len
  have s7 : Value.string ⟨#[68, 105, 103, 101, 115, 116, 32]⟩ = .string (str hdr) := rfl
  have s2 : Value.string ⟨#[44, 32]⟩ = .string (str [44, 32]) := rfl
  have s1 : Value.string ⟨#[61]⟩ = .string (str [61]) := rfl
  refine spec_intro Try.func22 rfl (by kernel_rfl) (by rw [Try.ntmps22]; simp) fun F => ?_; rw [Try.ntmps22, Try.results22]
  refine going ?_
  refine run_op fun K hK => ?_; refine alloc_new fun b4 => ?_; (try simp only [Value.cells]); refine hK _ _ ?_; clear hK K
  refine code_nil ?_
  refine going ?_
  have hw := wstr_spec (Bd.new b4) hdr (by decide) (by decide)
  rw [List.length_nil, List.nil_append] at hw
  rw [s7]
  refine run_op fun K hK => ?_; refine calls_to (hw) ?_; rintro v A ⟨⟨u, rfl⟩, p1, a1, cap1, X1, hB1, rfl⟩; (try simp only [List.nil_append, List.cons_append]); refine hK _ _ ?_; clear hK K; refine going ?_
  have e0 : hdr = hdr ++ joinP (l.take 0) := by simp [joinP]
  rw [e0] at hB1
  rw [show hdr.length = (hdr ++ joinP (l.take 0)).length from congrArg List.length e0, show decide ((0 : Int) < l.length) = (decide ((0 : Int) < l.length) && (l.take 0).all goodP) from by simp]
  refine loop_i (fun q D L S => ∃ (i : Nat) (p a' : Option Addr) (cap' : Nat) (Y : Chunk), i ≤ l.length ∧ Bd b4 (hdr ++ joinP (l.take i)) p a' cap' Y ∧ q = l.length - i ∧ D = [] ∧
    L = [(18, .int .i64 i), (17, .int .i64 l.length), (16, .slice xa l.length xc), (4, .pointer (some ⟨b4, 0, none⟩)), (5, .bool (decide ((0 : Int) < l.length) && (l.take i).all goodP)), (0, .slice xa l.length xc)] ∧
    S = [bdB b4 p a' (hdr ++ joinP (l.take i)).length cap', Y, X, F])
    ⟨0, p1, a1, cap1, X1, by omega, hB1, rfl, rfl, rfl, rfl⟩ ?_
  rintro q D L S ⟨i, p, a', cap', Y, hi, hB, rfl, rfl, rfl, rfl⟩
  have hjl := join_len (l.take i) fun p hp => hb p (List.mem_of_mem_take hp)
  have htl : (l.take i).length ≤ 20 := by rw [List.length_take]; omega
  have hh7 : hdr.length = 7 := rfl
  have hjl2 : (joinP (l.take i)).length ≤ 240000 := Nat.le_trans hjl (by omega)
  have hol : (hdr ++ joinP (l.take i)).length ≤ 240007 := by rw [List.length_append]; omega
  clear hjl
  refine going ?_
  refine if_d (fun hc => ?_) (fun hc => ?_)
  · have hil : i < l.length := by omega
    have hx := get_par l i hil
    have hjn := join_next l i hil
    have han := all_par (f := goodP) l i hil
    have hpb := hb _ (List.mem_of_getElem? hx)
    have htx := text_len (l.getD i p0)
    have hvl := val_len (l.getD i p0)
    generalize l.getD i p0 = x at *
    obtain ⟨n, v, qq⟩ := x
    simp only at hpb htx hvl
    generalize hokk : (decide ((0 : Int) < l.length) && (l.take i).all goodP) = okk
    refine going ?_
    refine run_op fun K hK => ?_; refine load_el_agg hX hs hx (by decide) (by (repeat (first | with_reducible assumption | with_reducible exact List.mem_cons_self .. | with_reducible apply List.mem_cons_of_mem))) ?_; refine hK _ _ ?_; clear hK K
    refine run_op fun K hK => ?_; refine alloc_as (encP p0).toArray rfl fun b7 => ?_; refine hK _ _ ?_; clear hK K
    refine going ?_
    refine run_op fun K hK => ?_; refine store_all (vs := encP ⟨n, v, qq⟩) rfl (cell_P _) (by (repeat (first | with_reducible exact Upd.one | with_reducible apply Upd.next))) (by rfl) ?_; refine hK _ _ ?_; clear hK K
    refine going ?_
    refine code_dr [[], [0], [], [2], [2, 3], [0, 1, 2, 3, 4], [0, 1, 2, 3, 4, 5]] [(0, false, []), (1, false, []), (2, false, []), (3, false, []), (4, true, [1]), (5, true, []), (6, true, [])] ?_
    refine going ?_
    refine draw_op fun K hK => ?_; refine calls_to (token_spec v (by omega)) ?_; rintro v A ⟨rfl, rfl⟩; (try simp only [List.nil_append, List.cons_append]); (repeat refine pend ?_); refine hK _ _ ?_; clear hK K
    refine going ?_
    refine then_mid (fun D L S => D = [] ∧ L = [(8, .string (str (valP ⟨n, v, qq⟩))), (9, .bool (fineP ⟨n, v, qq⟩)), (7, .pointer (some ⟨b7, 0, none⟩)), (6, .int .i64 i), (18, .int .i64 i), (17, .int .i64 l.length), (16, .slice xa l.length xc), (4, .pointer (some ⟨b4, 0, none⟩)), (5, .bool okk), (0, .slice xa l.length xc)] ∧
      S = [bdB b4 p a' (hdr ++ joinP (l.take i)).length cap', Y, X, dpB b7 ⟨n, v, qq⟩, F]) ?_ ?_
    · cases qq with
      | true =>
        refine going ?_
        refine run_op fun K hK => ?_; refine calls_to (quote_spec v (by omega)) ?_; rintro v A ⟨rfl, rfl⟩; (try simp only [List.nil_append, List.cons_append]); refine hK _ _ ?_; clear hK K; refine going ?_
        exact mid ⟨rfl, rfl, rfl⟩
      | false =>
        refine going ?_
        exact mid ⟨rfl, rfl, rfl⟩
    rintro D L S ⟨rfl, rfl, rfl⟩
    (with_reducible refine code_seq ?_); refine then_mid (fun D L S => D = [] ∧ L = [(5, .bool (okk && goodP ⟨n, v, qq⟩)), (8, .string (str (valP ⟨n, v, qq⟩))), (7, .pointer (some ⟨b7, 0, none⟩)), (6, .int .i64 i), (18, .int .i64 i), (17, .int .i64 l.length), (16, .slice xa l.length xc), (4, .pointer (some ⟨b4, 0, none⟩)), (0, .slice xa l.length xc)] ∧
      S = [bdB b4 p a' (hdr ++ joinP (l.take i)).length cap', Y, X, dpB b7 ⟨n, v, qq⟩, F]) ?_ ?_
    · have hgd : goodP ⟨n, v, qq⟩ = (fineP ⟨n, v, qq⟩ && (tokB n && (lowL n == n))) := rfl
      rw [hgd]
      generalize fineP ⟨n, v, qq⟩ = ff
      refine code_dr [[], [0], [0, 1], [0, 1, 2], [0, 1, 2, 3], [0, 1, 2, 3, 4], [0, 1, 2, 3, 4, 5], [0, 1, 2, 3, 4, 5, 6], [0, 1, 2, 3, 4, 5, 6, 7], [0, 1, 2, 3, 4, 5, 6, 7, 8], [0, 1, 2, 3, 4, 5, 6, 7, 8, 9], [0, 1, 2, 3, 4, 5, 6, 7, 8, 9, 10], [0, 1, 2, 3, 4, 5, 6, 7, 8, 9, 10, 11], [0, 1, 2, 3, 4, 5, 6, 7, 8, 9], [0, 1, 2, 3, 4, 5, 6, 7, 8, 9, 13], [0, 1, 2, 3, 4, 5, 6, 7, 8, 9, 10, 11, 12, 13, 14], [0, 1, 2, 3, 4, 5, 6, 7, 8, 9, 10, 11, 12, 13, 14, 15], [0, 1, 2, 3, 4, 5, 6, 7, 8, 9, 10, 11, 12, 13, 14, 15, 16]] [(0, false, []), (1, false, []), (2, false, []), (3, false, []), (4, false, []), (5, false, []), (6, false, []), (7, true, []), (8, false, []), (9, false, []), (10, false, []), (11, false, []), (13, false, []), (14, false, []), (12, true, [14]), (15, false, []), (16, false, []), (17, true, [])] ?_
      refine going ?_
      cases okk with
      | false =>
        refine going ?_
        exact mid ⟨rfl, rfl, rfl⟩
      | true =>
        refine going ?_
        cases ff with
        | false =>
          refine going ?_
          exact mid ⟨rfl, rfl, rfl⟩
        | true =>
          refine going ?_
          refine draw_op fun K hK => ?_; refine calls_to (token_spec n (by omega)) ?_; rintro v A ⟨rfl, rfl⟩; (try simp only [List.nil_append, List.cons_append]); (repeat refine pend ?_); refine hK _ _ ?_; clear hK K
          refine going ?_
          cases tokB n with
          | false =>
            refine going ?_
            exact mid ⟨rfl, rfl, rfl⟩
          | true =>
            refine going ?_
            refine draw_op fun K hK => ?_; refine calls_to (lower_spec n (by omega)) ?_; rintro v A ⟨rfl, rfl⟩; (try simp only [List.nil_append, List.cons_append]); (repeat refine pend ?_); refine hK _ _ ?_; clear hK K
            refine going ?_
            exact mid ⟨rfl, rfl, rfl⟩
    rintro D L S ⟨rfl, rfl, rfl⟩
    rw [← hokk, Bool.and_assoc, ← han]
    clear hokk
    generalize hokn : (decide ((0 : Int) < l.length) && (l.take (i + 1)).all goodP) = okn
    (with_reducible refine code_seq ?_); refine then_mid (fun D L S => ∃ (p a' : Option Addr) (cap' : Nat) (Y : Chunk), Bd b4 (hdr ++ (joinP (l.take i) ++ (if 0 < i then [44, 32] else []))) p a' cap' Y ∧ D = [] ∧ L = [(5, .bool okn), (8, .string (str (valP ⟨n, v, qq⟩))), (7, .pointer (some ⟨b7, 0, none⟩)), (18, .int .i64 i), (17, .int .i64 l.length), (16, .slice xa l.length xc), (4, .pointer (some ⟨b4, 0, none⟩)), (0, .slice xa l.length xc)] ∧
      S = [bdB b4 p a' (hdr ++ (joinP (l.take i) ++ (if 0 < i then [44, 32] else []))).length cap', Y, X, dpB b7 ⟨n, v, qq⟩, F]) ?_ ?_
    · refine going ?_
      by_cases h0 : 0 < i
      · rw [decide_eq_true (show (0 : Int) < i by omega), if_pos h0, ← List.append_assoc]
        refine going ?_
        rw [s2]
        refine run_op fun K hK => ?_; refine calls_to (wstr_spec hB [44, 32] (by rw [show ([44, 32] : List UInt8).length = 2 from rfl]; omega) (by decide)) ?_; rintro v A ⟨⟨u, rfl⟩, p2, a2, cap2, X2, hB2, rfl⟩; (try simp only [List.nil_append, List.cons_append]); refine hK _ _ ?_; clear hK K; refine going ?_
        exact mid ⟨p2, a2, cap2, X2, hB2, rfl, rfl, rfl⟩
      · rw [decide_eq_false (show ¬ (0 : Int) < i by omega), if_neg h0, List.append_nil]
        refine going ?_
        exact mid ⟨p, a', cap', Y, hB, rfl, rfl, rfl⟩
    rintro D L S ⟨p, a', cap', Y, hB, rfl, rfl, rfl⟩
    have hol2 : (hdr ++ (joinP (l.take i) ++ (if 0 < i then [44, 32] else []))).length ≤ 240009 := by
      rw [List.length_append, List.length_append]
      have : (if 0 < i then [44, 32] else [] : List UInt8).length ≤ 2 := by split <;> simp
      omega
    have hfin : hdr ++ (joinP (l.take i) ++ (if 0 < i then [44, 32] else [])) ++ (n ++ [61] ++ valP ⟨n, v, qq⟩) = hdr ++ joinP (l.take (i + 1)) := by
      rw [hjn]; simp [textP]
    generalize valP ⟨n, v, qq⟩ = w at *
    have hnl : (n ++ [61] ++ w).length ≤ 20000 ∧ 1 ≤ (n ++ [61] ++ w).length := by rw [List.length_append, List.length_append, List.length_singleton]; omega
    refine going ?_
    rw [s1]
    refine run_op fun K hK => ?_; rw [str_add (by rw [List.length_singleton]; omega)]; refine hK _ _ ?_; clear hK K
    refine going ?_
    refine run_op fun K hK => ?_; rw [str_add (by rw [List.length_append, List.length_singleton]; omega)]; refine hK _ _ ?_; clear hK K
    refine going ?_
    refine run_op fun K hK => ?_; refine calls_to (wstr_spec hB (n ++ [61] ++ w) (by omega) (by omega)) ?_; rintro v A ⟨⟨u, rfl⟩, p3, a3, cap3, X3, hB3, rfl⟩; (try simp only [List.nil_append, List.cons_append]); refine hK _ _ ?_; clear hK K; refine going ?_
    rw [hfin] at hB3 ⊢
    subst hokn
    exact again ⟨i + 1, p3, a3, cap3, X3, by omega, hB3, rfl, rfl, rfl, rfl⟩
  · obtain rfl : i = l.length := by omega
    rw [List.take_length] at hB hol ⊢
    have hpe : printE l = (if (decide ((0 : Int) < l.length) && l.all goodP) = false then ([], 4) else if 4096 < (hdr ++ joinP l).length then ([], 3) else if cntE l ≠ 0 then ([], cntE l) else (hdr ++ joinP l, 0)) := by
      unfold printE
      rw [show decide ((0 : Int) < l.length) = decide (0 < l.length) from by rw [decide_eq_decide]; omega]
    rw [hpe]
    generalize (decide ((0 : Int) < l.length) && l.all goodP) = okk at *
    refine going ?_
    refine run_op fun K hK => ?_; refine calls_to (bstring_spec hB (by omega)) ?_; rintro v A ⟨rfl, rfl⟩; (try simp only [List.nil_append, List.cons_append]); refine hK _ _ ?_; clear hK K; refine going ?_
    cases okk with
    | false =>
      rw [if_pos rfl]
      refine going ?_
      refine back_cells (vs := [.string (str []), .int .i64 4]) [X] ⟨rfl, rfl⟩
    | true =>
      rw [if_neg (by simp)]
      refine going ?_
      by_cases h2 : 4096 < (hdr ++ joinP l).length
      · rw [if_pos h2, decide_eq_true (show (4096 : Int) < ((hdr ++ joinP l).length : Nat) by omega)]
        refine going ?_
        refine back_cells (vs := [.string (str []), .int .i64 3]) [X] ⟨rfl, rfl⟩
      · rw [if_neg h2, decide_eq_false (show ¬ (4096 : Int) < ((hdr ++ joinP l).length : Nat) by omega)]
        refine going ?_
        refine run_op fun K hK => ?_; refine calls_to (counted_spec hX (by omega)) ?_; rintro v A ⟨rfl, rfl⟩; (try simp only [List.nil_append, List.cons_append]); refine hK _ _ ?_; clear hK K; refine going ?_
        by_cases h3 : cntE l = 0
        · rw [if_neg (by simp [h3]), h3]
          refine going ?_
          refine back_cells (vs := [.string (str (hdr ++ joinP l)), .int .i64 0]) [X] ⟨rfl, rfl⟩
        · rw [if_pos h3, bne_iff_ne.2 h3]
          refine going ?_
          refine back_cells (vs := [.string (str []), .int .i64 (cntE l)]) [X] ⟨rfl, rfl⟩

end Go.Proofs.Ytfoppclmjmpjiaa

/- Challenges and answers in a header, plainly. Conditions: as each says. -/
set_option linter.unusedSimpArgs false
set_option linter.unusedVariables false
namespace Go.Proofs.Ytfoppclmjmpjiaa
open Go Go.Ost

def nRealm : List UInt8 := [114, 101, 97, 108, 109]
def nNonce : List UInt8 := [110, 111, 110, 99, 101]
def nOpaque : List UInt8 := [111, 112, 97, 113, 117, 101]
def nAlg : List UInt8 := [97, 108, 103, 111, 114, 105, 116, 104, 109]
def nStale : List UInt8 := [115, 116, 97, 108, 101]
def nQop : List UInt8 := [113, 111, 112]
def nAuth : List UInt8 := [97, 117, 116, 104]
def nTrue : List UInt8 := [116, 114, 117, 101]
def nFalse : List UInt8 := [102, 97, 108, 115, 101]
def nSum : List UInt8 := [83, 72, 65, 45, 50, 53, 54]
def nSumL : List UInt8 := [115, 104, 97, 45, 50, 53, 54]
def nUser : List UInt8 := [117, 115, 101, 114, 110, 97, 109, 101]
def nUri : List UInt8 := [117, 114, 105]
def nNc : List UInt8 := [110, 99]
def nCnonce : List UInt8 := [99, 110, 111, 110, 99, 101]
def nResp : List UInt8 := [114, 101, 115, 112, 111, 110, 115, 101]

def sizB (s : List UInt8) : Bool := s != [] && decide ((s.length : Int) ≤ 64)

/-- A challenge. -/
structure Ch where
  r : List UInt8
  n : List UInt8
  o : List UInt8
  st : Bool
abbrev encC (c : Ch) : List Value := [.string (str c.r), .string (str c.n), .string (str c.o), .bool c.st]
def c0 : Ch := ⟨[], [], [], false⟩
def opqP (o : List UInt8) : List Par := if o = [] then [] else [⟨nOpaque, o, true⟩]
def staP (b : Bool) : List Par := if b = true then [⟨nStale, nTrue, false⟩] else []
def chPar (c : Ch) : List Par := [⟨nRealm, c.r, true⟩, ⟨nNonce, c.n, true⟩] ++ opqP c.o ++ [⟨nAlg, nSum, false⟩] ++ staP c.st ++ [⟨nQop, nAuth, true⟩]
def chText (c : Ch) : List UInt8 × Int := if sizB c.n = false then ([], 4) else printE (chPar c)

/-! ### Read -/

def hasB (l : List Par) (n : List UInt8) : Bool := (l.find? fun p => p.n == n).isSome
def gotP (l : List Par) (n : List UInt8) : Par := (l.find? fun p => p.n == n).getD p0
theorem got_no {l : List Par} {n : List UInt8} (h : hasB l n = false) : gotP l n = p0 := by
  unfold hasB at h; unfold gotP
  cases hf : l.find? fun p => p.n == n with
  | none => rfl
  | some p => rw [hf] at h; cases h
/-- What was missing, and what was wrong. -/
abbrev Fl := Bool × Bool
def getF (l : List Par) (n : List UInt8) (q : Bool) (f : Fl) : Fl := (f.1 || !hasB l n, f.2 || (gotP l n).q != q)
def fineF (b : Bool) (f : Fl) : Fl := (f.1, f.2 || !b)
def mayF (l : List Par) (n : List UInt8) (q : Bool) (f : Fl) : Fl := if hasB l n = true then getF l n q f else f
def comF (l : List Par) (q : Bool) (f : Fl) : Fl := fineF (lowL (gotP l nAlg).v == lowL nSum) (getF l nAlg false (fineF ((gotP l nQop).v == nAuth) (getF l nQop q f)))
def endF (f : Fl) : Int := if f.1 = true then 6 else if f.2 = true then 4 else 0
def staV (l : List Par) : List UInt8 := if hasB l nStale = true then (gotP l nStale).v else nFalse
def pcF (l : List Par) : Fl :=
  fineF (staV l == nTrue || staV l == nFalse) (mayF l nStale false (comF l true (mayF l nOpaque true (fineF (sizB (gotP l nNonce).v) (getF l nNonce true (getF l nRealm true (false, false)))))))
def pcL (l : List Par) : Ch × Int := if endF (pcF l) ≠ 0 then (c0, endF (pcF l)) else (⟨(gotP l nRealm).v, (gotP l nNonce).v, (gotP l nOpaque).v, staV l == nTrue⟩, 0)
def pcE (s : List UInt8) : Ch × Int := if (parseE s).2 ≠ 0 then (c0, (parseE s).2) else pcL (parseE s).1

/-- Are these there, and is each quoted just if it must be? -/
def lookE (l : List Par) (must q : List (List UInt8)) : Bool × Bool :=
  (must.all (hasB l), (must ++ [nOpaque, nStale]).all fun n => !(hasB l n && (gotP l n).q != q.contains n))
def rpcB (l : List Par) : Bool :=
  (hasB l nStale && ((gotP l nStale).v != nTrue && (gotP l nStale).v != nFalse)) || (!(lookE l [nRealm, nNonce, nQop, nAlg] [nRealm, nNonce, nQop, nOpaque]).2 || ((gotP l nQop).v != nAuth || (lowL (gotP l nAlg).v != nSumL || !sizB (gotP l nNonce).v)))
def rpcL (l : List Par) : Ch × Int :=
  if (lookE l [nRealm, nNonce, nQop, nAlg] [nRealm, nNonce, nQop, nOpaque]).1 = false then (c0, 6) else if rpcB l = true then (c0, 4) else
  (⟨(gotP l nRealm).v, (gotP l nNonce).v, (gotP l nOpaque).v, (gotP l nStale).v == nTrue⟩, 0)
theorem fine_fst (b : Bool) (f : Fl) : (fineF b f).1 = f.1 := rfl
theorem get_fst (l : List Par) (n : List UInt8) (q : Bool) (f : Fl) : (getF l n q f).1 = (f.1 || !hasB l n) := rfl
theorem may_fst (l : List Par) (n : List UInt8) (q : Bool) (f : Fl) : (mayF l n q f).1 = f.1 := by
  unfold mayF
  split
  · rename_i h; rw [get_fst, h]; simp
  · rfl
theorem pc_lost (l : List Par) : (pcF l).1 = !(hasB l nRealm && (hasB l nNonce && (hasB l nQop && hasB l nAlg))) := by
  unfold pcF comF
  simp only [fine_fst, get_fst, may_fst]
  generalize hasB l nRealm = a
  generalize hasB l nNonce = b
  generalize hasB l nQop = c
  generalize hasB l nAlg = d
  cases a <;> cases b <;> cases c <;> cases d <;> rfl
theorem pc_same (l : List Par) : pcL l = rpcL l := by
  have hl := pc_lost l
  have hlk : (lookE l [nRealm, nNonce, nQop, nAlg] [nRealm, nNonce, nQop, nOpaque]).1 = (hasB l nRealm && (hasB l nNonce && (hasB l nQop && hasB l nAlg))) := by
    show ([nRealm, nNonce, nQop, nAlg] : List (List UInt8)).all (hasB l) = _
    simp [Bool.and_assoc]
  unfold pcL rpcL
  cases hall : (hasB l nRealm && (hasB l nNonce && (hasB l nQop && hasB l nAlg))) with
  | false =>
    rw [hall] at hl hlk
    rw [if_pos hlk]
    have he : endF (pcF l) = 6 := by unfold endF; rw [hl]; rfl
    rw [he, if_pos (by decide)]
  | true =>
    rw [hall] at hl hlk
    rw [hlk, if_neg (show ¬ (true = false) by decide)]
    simp only [Bool.and_eq_true] at hall
    obtain ⟨ha, hb, hc, hd⟩ := hall
    have hbad : (pcF l).2 = rpcB l := by
      have hsum : lowL nSum = nSumL := by decide
      have c1 : ([nRealm, nNonce, nQop, nOpaque] : List (List UInt8)).contains nRealm = true := by decide
      have c2 : ([nRealm, nNonce, nQop, nOpaque] : List (List UInt8)).contains nNonce = true := by decide
      have c3 : ([nRealm, nNonce, nQop, nOpaque] : List (List UInt8)).contains nQop = true := by decide
      have c4 : ([nRealm, nNonce, nQop, nOpaque] : List (List UInt8)).contains nAlg = false := by decide
      have c5 : ([nRealm, nNonce, nQop, nOpaque] : List (List UInt8)).contains nOpaque = true := by decide
      have c6 : ([nRealm, nNonce, nQop, nOpaque] : List (List UInt8)).contains nStale = false := by decide
      unfold rpcB lookE pcF comF mayF getF fineF staV
      simp only [List.cons_append, List.nil_append, List.all_cons, List.all_nil, c1, c2, c3, c4, c5, c6, ha, hb, hc, hd, hsum]
      have hn1 : ((gotP l nStale).v != nTrue) = !((gotP l nStale).v == nTrue) := rfl
      have hn2 : ((gotP l nStale).v != nFalse) = !((gotP l nStale).v == nFalse) := rfl
      have hn3 : ((gotP l nQop).v != nAuth) = !((gotP l nQop).v == nAuth) := rfl
      have hn4 : (lowL (gotP l nAlg).v != nSumL) = !(lowL (gotP l nAlg).v == nSumL) := rfl
      have hn5 : (nFalse == nTrue) = false := by decide
      rw [hn1, hn2, hn3, hn4]
      generalize sizB (gotP l nNonce).v = x1
      generalize ((gotP l nQop).v == nAuth) = x2
      generalize (lowL (gotP l nAlg).v == nSumL) = x3
      generalize hx4 : ((gotP l nStale).v == nTrue) = x4
      generalize hx5 : ((gotP l nStale).v == nFalse) = x5
      generalize (gotP l nRealm).q = q1
      generalize (gotP l nNonce).q = q2
      generalize (gotP l nQop).q = q3
      generalize (gotP l nAlg).q = q4
      generalize (gotP l nOpaque).q = q5
      generalize (gotP l nStale).q = q6
      cases hasB l nOpaque <;> cases hasB l nStale <;> simp only [if_true, if_false, reduceIte, Bool.false_eq_true, hx4, hx5, hn5, beq_self_eq_true, Bool.false_or, Bool.true_or, Bool.or_true, Bool.or_false, Bool.true_and, Bool.false_and, Bool.not_true, Bool.not_false, Bool.and_true] <;>
        cases q1 <;> (try simp) <;> cases q2 <;> (try simp) <;> cases q3 <;> (try simp) <;> cases q4 <;> (try simp) <;> cases x1 <;> (try simp) <;> cases x2 <;> (try simp) <;> cases x3 <;> (try simp) <;> cases q5 <;> (try simp) <;> cases q6 <;> (try simp) <;> cases x4 <;> (try simp)
    unfold endF
    rw [hl]
    have hst : (staV l == nTrue) = ((gotP l nStale).v == nTrue) := by
      unfold staV
      split
      · rfl
      · rename_i h
        rw [got_no (by simpa using h)]; decide
    rw [hbad]
    cases rpcB l with
    | true => simp
    | false => simp [hst]

end Go.Proofs.Ytfoppclmjmpjiaa
