/- What is one's own may be written over. Conditions: none. -/
import Derived.Test.YtfaobbekodifmaaDoorSk3
set_option linter.unusedSimpArgs false
set_option linter.unusedVariables false
namespace Go.Ost
open Go

theorem own_wr {e : TypeId} {C : Chunk} {a : Option Addr} {n cap : Nat} {bs : List UInt8} (hn : bs.length = n) (h : Own8 e C a n cap bs) : Wr C a bs := fun hne => by
  obtain ⟨h1, h2, h3, h4⟩ := h
  have hpos := List.length_pos_iff.2 hne
  rcases h4 with ⟨h5, _⟩ | ⟨b, o, cs, m, rfl, rfl, hs, hbig, hc⟩
  · omega
  · obtain ⟨lo, hi⟩ := m
    refine ⟨b, o, cs, e, lo, hi, rfl, rfl, fun i hi' => ?_, fun i hi' => ?_⟩
    · rw [hc i (by simpa using hi')]; simp [List.getD, hi']
    · rcases hs with hs | hs
      · simp only at hs; omega
      · simp only at hs; omega

end Go.Ost
