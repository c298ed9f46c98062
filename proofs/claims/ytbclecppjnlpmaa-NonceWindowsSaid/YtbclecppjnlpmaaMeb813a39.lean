/- Texts in a row: the walk's rules and contracts, as each says. Conditions: as each says. -/
import Derived.Test.YtbclecppjnlpmaaM04048848
import Derived.Test.YtbclecppjnlpmaaM35b0b5b9
/- A store of nonces, or none, beside the document's. Conditions: as each says. -/
set_option linter.unusedSimpArgs false
set_option linter.unusedVariables false
namespace Go.Proofs.Ytbclecppjnlpmaa
open Go Go.Ost Go.Tab Go.Sha

def NHalf (sp : Option Addr) (T : Chunk) : Option NS → Prop
  | none => sp = none ∧ T = []
  | some s => ∃ q b T1, NOk s ∧ IsTab T1 b s.room s.es ∧ sp = some ⟨q, 0, none⟩ ∧ T = nB q b s ++ T1
def RHalf (xp : Option Addr) (U : Chunk) : Option NS → Prop
  | none => xp = none ∧ U = []
  | some s => ∃ r la lc Cl, NOk s ∧ OwnR Cl la lc s.es ∧ xp = some ⟨r, 0, none⟩ ∧ U = xN r s la s.es.length lc ++ Cl
def oFind (st : Option NS) (n : List UInt8) (now : Int) : Int := match st with
  | none => 6
  | some s => (findN s n now).1
def oSpend (st : Option NS) (n : List UInt8) (now : Int) : Int × Option NS := match st with
  | none => (6, none)
  | some s => ((spendN s n now).1, some (spendN s n now).2)
def oUse (st : Option NS) (n : List UInt8) (c now : Int) : Int × Option NS := match st with
  | none => (6, none)
  | some s => ((useN s n c now).1, some (useN s n c now).2)
def oSweep (st : Option NS) (now : Int) : Int × Option NS := match st with
  | none => (0, none)
  | some s => ((sweepN s now).1, some (sweepN s now).2)
def oIssue (st : Option NS) (d : List UInt8) (now : Int) : (List UInt8 × Int) × Option NS := match st with
  | none => (([], 6), none)
  | some s => ((issueN s d now).1, some (issueN s d now).2)
def oSer (st : Option NS) : Nat := match st with
  | none => 0
  | some s => s.ser
def oEs (st : Option NS) : Es := match st with
  | none => []
  | some s => s.es

theorem issue_room (s : NS) (d : List UInt8) (now : Int) : (issueN s d now).2.room = s.room := by
  unfold issueN
  split
  · rfl
  · split
    · rfl
    · split
      · rfl
      · exact room_room s now
theorem spend_room (s : NS) (n : List UInt8) (now : Int) : (spendN s n now).2.room = s.room := by
  unfold spendN; split
  · split <;> rfl
  · rfl
theorem use_room (s : NS) (n : List UInt8) (c now : Int) : (useN s n c now).2.room = s.room := by
  unfold useN; split
  · split
    · rfl
    · split <;> rfl
  · rfl

theorem hSpend {sp : Option Addr} {T : Chunk} {st : Option NS} (h : NHalf sp T st) (n : List UInt8) (now : Int) (hn : now < 18446744073709551616) :
    Meets Try.prog 15 [.pointer sp, .string (str n), .int .u64 now] [T] fun v A => v = .int .i64 (oSpend st n now).1 ∧ ∃ T', NHalf sp T' (oSpend st n now).2 ∧ A = [T'] := by
  rcases st with _ | s
  · obtain ⟨rfl, rfl⟩ := h
    refine Meets.conv [] (nspend_nil (.string (str n)) (.int .u64 now)) rfl (.nil _) ?_
    rintro v A ⟨rfl, rfl⟩
    exact ⟨[[]], [], rfl, .nil _, rfl, [], ⟨rfl, rfl⟩, rfl⟩
  · obtain ⟨q, b, T1, hs, hT, rfl, rfl⟩ := h
    refine Meets.conv [nB q b s, T1] (nspend_spec hs hT n now hn) (by simp only [List.flatten_cons, List.flatten_nil, List.append_assoc, List.append_nil]) (by (repeat (first | with_reducible exact Take.nil _ | with_reducible exact Pick.head _ _ | with_reducible apply Pick.tail | with_reducible apply Take.cons))) ?_; rintro v A ⟨rfl, T', hT', rfl⟩
    exact ⟨[nB q b (spendN s n now).2 ++ T'], [nB q b (spendN s n now).2, T'], by simp only [List.flatten_cons, List.flatten_nil, List.append_assoc, List.append_nil], by first | ((repeat (first | with_reducible exact Among.nil _ | with_reducible exact Pick.head _ _ | with_reducible apply Pick.tail | with_reducible apply Among.cons)); done) | ((repeat (first | exact Among.nil _ | exact Pick.head _ _ | apply Pick.tail | apply Among.cons)); done), rfl, _, ⟨q, b, T', ok_spend hs n now, by rw [spend_room]; exact hT', rfl, rfl⟩, rfl⟩

theorem hUse {sp : Option Addr} {T : Chunk} {st : Option NS} (h : NHalf sp T st) (n : List UInt8) (c now : Int) (hc : 0 ≤ c) (hn : now < 18446744073709551616) :
    Meets Try.prog 16 [.pointer sp, .string (str n), .int .u32 c, .int .u64 now] [T] fun v A => v = .int .i64 (oUse st n c now).1 ∧ ∃ T', NHalf sp T' (oUse st n c now).2 ∧ A = [T'] := by
  rcases st with _ | s
  · obtain ⟨rfl, rfl⟩ := h
    refine Meets.conv [] (nuse_nil (.string (str n)) (.int .u32 c) (.int .u64 now)) rfl (.nil _) ?_
    rintro v A ⟨rfl, rfl⟩
    exact ⟨[[]], [], rfl, .nil _, rfl, [], ⟨rfl, rfl⟩, rfl⟩
  · obtain ⟨q, b, T1, hs, hT, rfl, rfl⟩ := h
    refine Meets.conv [nB q b s, T1] (nuse_spec hs hT n c now hc hn) (by simp only [List.flatten_cons, List.flatten_nil, List.append_assoc, List.append_nil]) (by (repeat (first | with_reducible exact Take.nil _ | with_reducible exact Pick.head _ _ | with_reducible apply Pick.tail | with_reducible apply Take.cons))) ?_; rintro v A ⟨rfl, T', hT', rfl⟩
    exact ⟨[nB q b (useN s n c now).2 ++ T'], [nB q b (useN s n c now).2, T'], by simp only [List.flatten_cons, List.flatten_nil, List.append_assoc, List.append_nil], by first | ((repeat (first | with_reducible exact Among.nil _ | with_reducible exact Pick.head _ _ | with_reducible apply Pick.tail | with_reducible apply Among.cons)); done) | ((repeat (first | exact Among.nil _ | exact Pick.head _ _ | apply Pick.tail | apply Among.cons)); done), rfl, _, ⟨q, b, T', ok_use hs n c hc now, by rw [use_room]; exact hT', rfl, rfl⟩, rfl⟩

theorem hSweep {sp : Option Addr} {T : Chunk} {st : Option NS} (h : NHalf sp T st) (now : Int) (hn : now < 18446744073709551616) :
    Meets Try.prog 17 [.pointer sp, .int .u64 now] [T] fun v A => v = .int .i64 (oSweep st now).1 ∧ ∃ T', NHalf sp T' (oSweep st now).2 ∧ A = [T'] := by
  rcases st with _ | s
  · obtain ⟨rfl, rfl⟩ := h
    refine Meets.conv [] (nsweep_nil now) rfl (.nil _) ?_
    rintro v A ⟨rfl, rfl⟩
    exact ⟨[[]], [], rfl, .nil _, rfl, [], ⟨rfl, rfl⟩, rfl⟩
  · obtain ⟨q, b, T1, hs, hT, rfl, rfl⟩ := h
    refine Meets.conv [nB q b s, T1] (nsweep_spec hs hT now hn) (by simp only [List.flatten_cons, List.flatten_nil, List.append_assoc, List.append_nil]) (by (repeat (first | with_reducible exact Take.nil _ | with_reducible exact Pick.head _ _ | with_reducible apply Pick.tail | with_reducible apply Take.cons))) ?_; rintro v A ⟨rfl, T', hT', rfl⟩
    exact ⟨[nB q b (sweepN s now).2 ++ T'], [nB q b (sweepN s now).2, T'], by simp only [List.flatten_cons, List.flatten_nil, List.append_assoc, List.append_nil], by first | ((repeat (first | with_reducible exact Among.nil _ | with_reducible exact Pick.head _ _ | with_reducible apply Pick.tail | with_reducible apply Among.cons)); done) | ((repeat (first | exact Among.nil _ | exact Pick.head _ _ | apply Pick.tail | apply Among.cons)); done), rfl, _, ⟨q, b, T', ok_sweep hs now, hT', rfl, rfl⟩, rfl⟩

theorem hIssue {sp : Option Addr} {T : Chunk} {st : Option NS} (h : NHalf sp T st) (hser : oSer st < 1000) (d : List UInt8) (hd : d.length ≤ 1000) (now : Int) (hn0 : 0 ≤ now) (hn : now < 18446744073709551616) :
    Meets Try.prog 9 [.pointer sp, .string (str d), .int .u64 now] [T] fun v A => v = .tuple #[.string (str (oIssue st d now).1.1), .int .i64 (oIssue st d now).1.2] ∧ ∃ T', NHalf sp T' (oIssue st d now).2 ∧ A = [T'] := by
  rcases st with _ | s
  · obtain ⟨rfl, rfl⟩ := h
    refine Meets.conv [] (nissue_nil (.string (str d)) rfl (.int .u64 now)) rfl (.nil _) ?_
    rintro v A ⟨rfl, rfl⟩
    exact ⟨[[]], [], rfl, .nil _, rfl, [], ⟨rfl, rfl⟩, rfl⟩
  · obtain ⟨q, b, T1, hs, hT, rfl, rfl⟩ := h
    refine Meets.conv [nB q b s, T1] (nissue_spec hs hser hT d hd now hn) (by simp only [List.flatten_cons, List.flatten_nil, List.append_assoc, List.append_nil]) (by (repeat (first | with_reducible exact Take.nil _ | with_reducible exact Pick.head _ _ | with_reducible apply Pick.tail | with_reducible apply Take.cons))) ?_; rintro v A ⟨rfl, T', hT', rfl⟩
    exact ⟨[nB q b (issueN s d now).2 ++ T'], [nB q b (issueN s d now).2, T'], by simp only [List.flatten_cons, List.flatten_nil, List.append_assoc, List.append_nil], by first | ((repeat (first | with_reducible exact Among.nil _ | with_reducible exact Pick.head _ _ | with_reducible apply Pick.tail | with_reducible apply Among.cons)); done) | ((repeat (first | exact Among.nil _ | exact Pick.head _ _ | apply Pick.tail | apply Among.cons)); done), rfl, _, ⟨q, b, T', ok_issue hs hser d now hn0, by rw [issue_room]; exact hT', rfl, rfl⟩, rfl⟩

theorem xSpend {xp : Option Addr} {U : Chunk} {st : Option NS} (h : RHalf xp U st) (n : List UInt8) (now : Int) (hn : now < 18446744073709551616) :
    Meets Try.prog 36 [.pointer xp, .string (str n), .int .u64 now] [U] fun v A => v = .int .i64 (oSpend st n now).1 ∧ ∃ U', RHalf xp U' (oSpend st n now).2 ∧ A = [U'] := by
  rcases st with _ | s
  · obtain ⟨rfl, rfl⟩ := h
    refine Meets.conv [] (rspend_nil (.string (str n)) (.int .u64 now)) rfl (.nil _) ?_
    rintro v A ⟨rfl, rfl⟩
    exact ⟨[[]], [], rfl, .nil _, rfl, [], ⟨rfl, rfl⟩, rfl⟩
  · obtain ⟨r, la, lc, Cl, hs, ho, rfl, rfl⟩ := h
    refine Meets.conv [xN r s la s.es.length lc, Cl] (rspend_spec hs ho n now hn) (by simp only [List.flatten_cons, List.flatten_nil, List.append_assoc, List.append_nil]) (by (repeat (first | with_reducible exact Take.nil _ | with_reducible exact Pick.head _ _ | with_reducible apply Pick.tail | with_reducible apply Take.cons))) ?_; rintro v A ⟨rfl, la', lc', Cl', ho', rfl⟩
    exact ⟨[xN r (spendN s n now).2 la' (spendN s n now).2.es.length lc' ++ Cl'], [xN r (spendN s n now).2 la' (spendN s n now).2.es.length lc', Cl'], by simp only [List.flatten_cons, List.flatten_nil, List.append_assoc, List.append_nil], by first | ((repeat (first | with_reducible exact Among.nil _ | with_reducible exact Pick.head _ _ | with_reducible apply Pick.tail | with_reducible apply Among.cons)); done) | ((repeat (first | exact Among.nil _ | exact Pick.head _ _ | apply Pick.tail | apply Among.cons)); done), rfl, _, ⟨r, la', lc', Cl', ok_spend hs n now, ho', rfl, rfl⟩, rfl⟩

theorem xUse {xp : Option Addr} {U : Chunk} {st : Option NS} (h : RHalf xp U st) (n : List UInt8) (c now : Int) (hc : 0 ≤ c) (hn : now < 18446744073709551616) :
    Meets Try.prog 37 [.pointer xp, .string (str n), .int .u32 c, .int .u64 now] [U] fun v A => v = .int .i64 (oUse st n c now).1 ∧ ∃ U', RHalf xp U' (oUse st n c now).2 ∧ A = [U'] := by
  rcases st with _ | s
  · obtain ⟨rfl, rfl⟩ := h
    refine Meets.conv [] (ruse_nil (.string (str n)) (.int .u32 c) (.int .u64 now)) rfl (.nil _) ?_
    rintro v A ⟨rfl, rfl⟩
    exact ⟨[[]], [], rfl, .nil _, rfl, [], ⟨rfl, rfl⟩, rfl⟩
  · obtain ⟨r, la, lc, Cl, hs, ho, rfl, rfl⟩ := h
    refine Meets.conv [xN r s la s.es.length lc, Cl] (ruse_spec hs ho n c now hc hn) (by simp only [List.flatten_cons, List.flatten_nil, List.append_assoc, List.append_nil]) (by (repeat (first | with_reducible exact Take.nil _ | with_reducible exact Pick.head _ _ | with_reducible apply Pick.tail | with_reducible apply Take.cons))) ?_; rintro v A ⟨rfl, la', lc', Cl', ho', rfl⟩
    exact ⟨[xN r (useN s n c now).2 la' (useN s n c now).2.es.length lc' ++ Cl'], [xN r (useN s n c now).2 la' (useN s n c now).2.es.length lc', Cl'], by simp only [List.flatten_cons, List.flatten_nil, List.append_assoc, List.append_nil], by first | ((repeat (first | with_reducible exact Among.nil _ | with_reducible exact Pick.head _ _ | with_reducible apply Pick.tail | with_reducible apply Among.cons)); done) | ((repeat (first | exact Among.nil _ | exact Pick.head _ _ | apply Pick.tail | apply Among.cons)); done), rfl, _, ⟨r, la', lc', Cl', ok_use hs n c hc now, ho', rfl, rfl⟩, rfl⟩

theorem xSweep {xp : Option Addr} {U : Chunk} {st : Option NS} (h : RHalf xp U st) (now : Int) (hn : now < 18446744073709551616) :
    Meets Try.prog 38 [.pointer xp, .int .u64 now] [U] fun v A => v = .int .i64 (oSweep st now).1 ∧ ∃ U', RHalf xp U' (oSweep st now).2 ∧ A = [U'] := by
  rcases st with _ | s
  · obtain ⟨rfl, rfl⟩ := h
    refine Meets.conv [] (rsweep_nil (.int .u64 now)) rfl (.nil _) ?_
    rintro v A ⟨rfl, rfl⟩
    exact ⟨[[]], [], rfl, .nil _, rfl, [], ⟨rfl, rfl⟩, rfl⟩
  · obtain ⟨r, la, lc, Cl, hs, ho, rfl, rfl⟩ := h
    refine Meets.conv [xN r s la s.es.length lc, Cl] (rsweep_spec hs ho now hn) (by simp only [List.flatten_cons, List.flatten_nil, List.append_assoc, List.append_nil]) (by (repeat (first | with_reducible exact Take.nil _ | with_reducible exact Pick.head _ _ | with_reducible apply Pick.tail | with_reducible apply Take.cons))) ?_; rintro v A ⟨rfl, la', lc', Cl', ho', rfl⟩
    exact ⟨[xN r (sweepN s now).2 la' (sweepN s now).2.es.length lc' ++ Cl'], [xN r (sweepN s now).2 la' (sweepN s now).2.es.length lc', Cl'], by simp only [List.flatten_cons, List.flatten_nil, List.append_assoc, List.append_nil], by first | ((repeat (first | with_reducible exact Among.nil _ | with_reducible exact Pick.head _ _ | with_reducible apply Pick.tail | with_reducible apply Among.cons)); done) | ((repeat (first | exact Among.nil _ | exact Pick.head _ _ | apply Pick.tail | apply Among.cons)); done), rfl, _, ⟨r, la', lc', Cl', ok_sweep hs now, ho', rfl, rfl⟩, rfl⟩

theorem xIssue {xp : Option Addr} {U : Chunk} {st : Option NS} (h : RHalf xp U st) (hser : oSer st < 1000) (d : List UInt8) (hd : d.length ≤ 1000) (now : Int) (hn0 : 0 ≤ now) (hn : now < 18446744073709551616) :
    Meets Try.prog 40 [.pointer xp, .string (str d), .int .u64 now] [U] fun v A => v = .tuple #[.string (str (oIssue st d now).1.1), .int .i64 (oIssue st d now).1.2] ∧ ∃ U', RHalf xp U' (oIssue st d now).2 ∧ A = [U'] := by
  rcases st with _ | s
  · obtain ⟨rfl, rfl⟩ := h
    refine Meets.conv [] (rissue_nil (.string (str d)) (.int .u64 now)) rfl (.nil _) ?_
    rintro v A ⟨rfl, rfl⟩
    exact ⟨[[]], [], rfl, .nil _, rfl, [], ⟨rfl, rfl⟩, rfl⟩
  · obtain ⟨r, la, lc, Cl, hs, ho, rfl, rfl⟩ := h
    refine Meets.conv [xN r s la s.es.length lc, Cl] (rissue_spec hs hser ho d hd now hn) (by simp only [List.flatten_cons, List.flatten_nil, List.append_assoc, List.append_nil]) (by (repeat (first | with_reducible exact Take.nil _ | with_reducible exact Pick.head _ _ | with_reducible apply Pick.tail | with_reducible apply Take.cons))) ?_; rintro v A ⟨rfl, la', lc', Cl', ho', rfl⟩
    exact ⟨[xN r (issueN s d now).2 la' (issueN s d now).2.es.length lc' ++ Cl'], [xN r (issueN s d now).2 la' (issueN s d now).2.es.length lc', Cl'], by simp only [List.flatten_cons, List.flatten_nil, List.append_assoc, List.append_nil], by first | ((repeat (first | with_reducible exact Among.nil _ | with_reducible exact Pick.head _ _ | with_reducible apply Pick.tail | with_reducible apply Among.cons)); done) | ((repeat (first | exact Among.nil _ | exact Pick.head _ _ | apply Pick.tail | apply Among.cons)); done), rfl, _, ⟨r, la', lc', Cl', ok_issue hs hser d now hn0, ho', rfl, rfl⟩, rfl⟩

theorem hCheck {sp : Option Addr} {T : Chunk} {st : Option NS} (h : NHalf sp T st) (n : List UInt8) (now : Int) (hn : now < 18446744073709551616) :
    Meets Try.prog 12 [.pointer sp, .string (str n), .int .u64 now] [T] fun v A => v = .int .i64 (oFind st n now) ∧ A = [T] := by
  rcases st with _ | s
  · obtain ⟨rfl, rfl⟩ := h
    refine Meets.conv [] (ncheck_nil (.string (str n)) (.int .u64 now)) rfl (.nil _) ?_
    rintro v A ⟨rfl, rfl⟩
    exact ⟨[[]], [], rfl, .nil _, rfl, rfl⟩
  · obtain ⟨q, b, T1, hs, hT, rfl, rfl⟩ := h
    refine Meets.conv [nB q b s, T1] (ncheck_spec hs hT n now hn) (by simp only [List.flatten_cons, List.flatten_nil, List.append_assoc, List.append_nil]) (by (repeat (first | with_reducible exact Take.nil _ | with_reducible exact Pick.head _ _ | with_reducible apply Pick.tail | with_reducible apply Take.cons))) ?_; rintro v A ⟨rfl, rfl⟩
    exact ⟨[nB q b s ++ T1], [nB q b s, T1], by simp only [List.flatten_cons, List.flatten_nil, List.append_assoc, List.append_nil], by first | ((repeat (first | with_reducible exact Among.nil _ | with_reducible exact Pick.head _ _ | with_reducible apply Pick.tail | with_reducible apply Among.cons)); done) | ((repeat (first | exact Among.nil _ | exact Pick.head _ _ | apply Pick.tail | apply Among.cons)); done), rfl, rfl⟩

theorem hLen {sp : Option Addr} {T : Chunk} {st : Option NS} (h : NHalf sp T st)  :
    Meets Try.prog 13 [.pointer sp] [T] fun v A => v = .int .i64 (oEs st).length ∧ A = [T] := by
  rcases st with _ | s
  · obtain ⟨rfl, rfl⟩ := h
    refine Meets.conv [] (nlen_nil) rfl (.nil _) ?_
    rintro v A ⟨rfl, rfl⟩
    exact ⟨[[]], [], rfl, .nil _, rfl, rfl⟩
  · obtain ⟨q, b, T1, hs, hT, rfl, rfl⟩ := h
    refine Meets.conv [nB q b s, T1] (nlen_spec hT) (by simp only [List.flatten_cons, List.flatten_nil, List.append_assoc, List.append_nil]) (by (repeat (first | with_reducible exact Take.nil _ | with_reducible exact Pick.head _ _ | with_reducible apply Pick.tail | with_reducible apply Take.cons))) ?_; rintro v A ⟨rfl, rfl⟩
    exact ⟨[nB q b s ++ T1], [nB q b s, T1], by simp only [List.flatten_cons, List.flatten_nil, List.append_assoc, List.append_nil], by first | ((repeat (first | with_reducible exact Among.nil _ | with_reducible exact Pick.head _ _ | with_reducible apply Pick.tail | with_reducible apply Among.cons)); done) | ((repeat (first | exact Among.nil _ | exact Pick.head _ _ | apply Pick.tail | apply Among.cons)); done), rfl, rfl⟩

theorem xCheck {xp : Option Addr} {U : Chunk} {st : Option NS} (h : RHalf xp U st) (n : List UInt8) (now : Int) (hn : now < 18446744073709551616) :
    Meets Try.prog 39 [.pointer xp, .string (str n), .int .u64 now] [U] fun v A => v = .int .i64 (oFind st n now) ∧ A = [U] := by
  rcases st with _ | s
  · obtain ⟨rfl, rfl⟩ := h
    refine Meets.conv [] (rcheck_nil (.string (str n)) (.int .u64 now)) rfl (.nil _) ?_
    rintro v A ⟨rfl, rfl⟩
    exact ⟨[[]], [], rfl, .nil _, rfl, rfl⟩
  · obtain ⟨r, la, lc, Cl, hs, ho, rfl, rfl⟩ := h
    refine Meets.conv [xN r s la s.es.length lc, Cl] (rcheck_spec hs ho n now hn) (by simp only [List.flatten_cons, List.flatten_nil, List.append_assoc, List.append_nil]) (by (repeat (first | with_reducible exact Take.nil _ | with_reducible exact Pick.head _ _ | with_reducible apply Pick.tail | with_reducible apply Take.cons))) ?_; rintro v A ⟨rfl, rfl⟩
    exact ⟨[xN r s la s.es.length lc ++ Cl], [xN r s la s.es.length lc, Cl], by simp only [List.flatten_cons, List.flatten_nil, List.append_assoc, List.append_nil], by first | ((repeat (first | with_reducible exact Among.nil _ | with_reducible exact Pick.head _ _ | with_reducible apply Pick.tail | with_reducible apply Among.cons)); done) | ((repeat (first | exact Among.nil _ | exact Pick.head _ _ | apply Pick.tail | apply Among.cons)); done), rfl, rfl⟩

end Go.Proofs.Ytbclecppjnlpmaa

/- What the laws of nonces call: a call on both. Conditions: as each says. -/
set_option linter.unusedSimpArgs false
set_option linter.unusedVariables false
namespace Go.Proofs.Ytbclecppjnlpmaa
open Go Go.Ost Go.Tab Go.Sha

theorem cuttext_spec (s : List UInt8) (n : Nat) : Meets Try.prog 14 [.string (str s), .int .i64 n] [] fun v A => v = .string (str (s.take n)) ∧ A = [] := by
  refine spec_intro Try.func14 rfl (by kernel_rfl) (by rw [Try.ntmps14]; simp) fun F => ?_; rw [Try.ntmps14, Try.results14]
  refine going ?_
  have e : s.take (if (n : Int) < s.length then (n : Int) else s.length).toNat = s.take n := by
    split
    · rw [show ((n : Int)).toNat = n from by omega]
    · rw [List.take_of_length_le (by omega), List.take_of_length_le (by omega)]
  rw [e]
  refine back_tmp [] ?_; exact ⟨rfl, rfl⟩

structure Op12 where
  d : Int
  text : List UInt8
  which : Int
  own : Bool
  count : Int
  ticks : Int
  back : Int
structure Op12.Ok (o : Op12) : Prop where
  d0 : 0 ≤ o.d
  d1 : o.d < 256
  w0 : 0 ≤ o.which
  w1 : o.which < 256
  c0 : 0 ≤ o.count
  c1 : o.count < 4294967296
  t0 : 0 ≤ o.ticks
  t1 : o.ticks < 4294967296
  b0 : 0 ≤ o.back
  b1 : o.back < 256
def encO (o : Op12) : List Value := [.int .u8 o.d, .string (str o.text), .int .u8 o.which, .bool o.own, .int .u32 o.count, .int .u32 o.ticks, .int .u8 o.back]
theorem encO_len (o : Op12) : (encO o).length = 7 := rfl
theorem cell_O (o : Op12) : ∀ u ∈ encO o, Value.cell1 u := by simp [encO, Value.cell1]
abbrev sV (l : List UInt8) : Value := .string (str l)
abbrev OwnS (C : Chunk) (a : Option Addr) (c : Nat) (all : List (List UInt8)) : Prop := Ost.Own 1 9 C a all.length c (all.map sV)
abbrev pB (p : Nat) (sp xp aa : Option Addr) (n ac : Nat) (now : Int) : Chunk := [(p, .cells #[.pointer sp, .pointer xp, .slice aa n ac, .int .u64 now] 61 (0, 0))]
abbrev opB (b : Nat) (o : Op12) : Chunk := [(b, .cells #[.int .u8 o.d, .string (str o.text), .int .u8 o.which, .bool o.own, .int .u32 o.count, .int .u32 o.ticks, .int .u8 o.back] 49 (0, 0))]

def nowD (now : Int) (o : Op12) : Int := now + o.ticks % 100
def atD (now : Int) (o : Op12) : Int := nowD now o - (if o.back % 4 < nowD now o then o.back % 4 else nowD now o)
def nonD (all : List (List UInt8)) (o : Op12) : List UInt8 := if o.own = true ∧ 0 < all.length then all.getD (o.which.toNat % all.length) [] else o.text.take 50
def doD (st : Option NS) (all : List (List UInt8)) (now : Int) (o : Op12) : Option NS × List (List UInt8) :=
  if o.d % 10 = 4 ∨ o.d % 10 = 5 then ((oSpend st (nonD all o) (atD now o)).2, all)
  else if o.d % 10 = 6 ∨ o.d % 10 = 7 then ((oUse st (nonD all o) o.count (atD now o)).2, all)
  else if o.d % 10 = 8 then ((oSweep st (atD now o)).2, all)
  else if o.d % 10 = 9 then (st, all)
  else ((oIssue st (o.text.take 50) (atD now o)).2, if (oIssue st (o.text.take 50) (atD now o)).1.2 = 0 then all ++ [(oIssue st (o.text.take 50) (atD now o)).1.1] else all)

set_option maxHeartbeats 4000000 in
theorem do_spec {p : Nat} {sp xp aa : Option Addr} {ac : Nat} {now : Int} {CA T U : Chunk} {st : Option NS} {all : List (List UInt8)} (hall : all.length ≤ 1000) (hser : oSer st < 1000) (hnow0 : 0 ≤ now) (hnow1 : now ≤ 1000000)
    (hA : OwnS CA aa ac all) (hT : NHalf sp T st) (hU : RHalf xp U st) (o : Op12) (ho : o.Ok) :
    Meets Try.prog 19 [.pointer (some ⟨p, 0, none⟩), .agg (encO o).toArray] [pB p sp xp aa all.length ac now, CA, T, U]
      fun v A => v = .bool true ∧ ∃ aa' ac' CA' T' U', OwnS CA' aa' ac' (doD st all now o).2 ∧ NHalf sp T' (doD st all now o).1 ∧ RHalf xp U' (doD st all now o).1 ∧ A = [pB p sp xp aa' (doD st all now o).2.length ac' (nowD now o), CA', T', U'] := by
  obtain ⟨hd0, hd1, hw0, hw1, hc0, hc1, ht0, ht1, hb0, hb1⟩ := ho
  have hlen : (o.text.take 50).length ≤ 1000 := by rw [List.length_take]; omega
  simp only [encO]
  refine spec_intro Try.func19 rfl (by kernel_rfl) (by rw [Try.ntmps19]; simp) fun F => ?_; rw [Try.ntmps19, Try.results19]
  (with_reducible refine code_seq ?_); refine then_mid (fun D L S => ∃ b3 : Nat, D = [] ∧ L = [(3, .pointer (some ⟨b3, 0, none⟩)), (0, .pointer (some ⟨p, 0, none⟩))] ∧ S = [opB b3 o, pB p sp xp aa all.length ac now, CA, T, U, F]) ?_ ?_
  · refine going ?_
    refine run_op fun K hK => ?_; refine box_new fun b3 => ?_; (try simp only [Value.cells]); refine hK _ _ ?_; clear hK K
    refine going ?_
    exact mid ⟨b3, rfl, rfl, rfl⟩
  rintro D L S ⟨b3, rfl, rfl, rfl⟩
  (with_reducible refine code_seq ?_); refine then_mid (fun D L S => D = [] ∧ L = [(3, .pointer (some ⟨b3, 0, none⟩)), (0, .pointer (some ⟨p, 0, none⟩))] ∧ S = [opB b3 o, pB p sp xp aa all.length ac (nowD now o), CA, T, U, F]) ?_ ?_
  · refine going ?_
    refine code_dr [[], [0], [0, 1], [0, 1, 2], [], [4], [4, 5], [4, 5, 6], [0, 1, 2, 3, 4, 5, 6, 7], [0, 1, 2, 3, 4, 5, 6, 7, 8], [0, 1, 2, 3, 4, 5, 6, 7, 8, 9], [0, 1, 2, 3, 4, 5, 6, 7, 8, 9, 10]] [(0, false, []), (1, false, []), (2, false, []), (3, false, []), (4, false, []), (5, false, []), (6, false, []), (7, false, []), (8, false, []), (9, false, []), (10, false, []), (11, true, [])] ?_
    refine going ?_
    exact mid ⟨rfl, rfl, rfl⟩
  rintro D L S ⟨rfl, rfl, rfl⟩
  have hn0 : 0 ≤ nowD now o := by unfold nowD; omega
  have hn1 : nowD now o ≤ 1000100 := by unfold nowD; omega
  have hat : atD now o = nowD now o - (if o.back % 4 < nowD now o then o.back % 4 else nowD now o) := rfl
  have ha0 : 0 ≤ atD now o := by rw [hat]; split <;> omega
  have ha1 : atD now o < 18446744073709551616 := by rw [hat]; split <;> omega
  generalize hnw : nowD now o = nw at *
  generalize hav : atD now o = av at *
  (with_reducible refine code_seq ?_); refine then_mid (fun D L S => D = [] ∧ L = [(5, .int .u64 av), (3, .pointer (some ⟨b3, 0, none⟩)), (0, .pointer (some ⟨p, 0, none⟩))] ∧ S = [opB b3 o, pB p sp xp aa all.length ac nw, CA, T, U, F]) ?_ ?_
  · refine going ?_
    refine code_dr [[], [0], [0, 1], [0, 1, 2], [], [4], [4, 5], [4, 5, 6], [], [8], [8, 9], [8, 9, 10], [4, 5, 6, 7, 8, 9, 10, 11], [0, 1, 2, 3, 4, 5, 6, 7, 8, 9, 10, 11, 12], [0, 1, 2, 3, 4, 5, 6, 7, 8, 9, 10, 11, 12, 13]] [(0, false, []), (1, false, []), (2, false, []), (3, false, []), (4, false, []), (5, false, []), (6, false, []), (7, false, []), (8, false, []), (9, false, []), (10, false, []), (11, false, []), (12, false, []), (13, false, []), (14, true, [])] ?_
    refine going ?_
    rw [← hat]
    exact mid ⟨rfl, rfl, rfl⟩
  rintro D L S ⟨rfl, rfl, rfl⟩
  (with_reducible refine code_seq ?_); refine then_mid (fun D L S => D = [] ∧ L = [(6, .string (str (o.text.take 50))), (5, .int .u64 av), (3, .pointer (some ⟨b3, 0, none⟩)), (0, .pointer (some ⟨p, 0, none⟩))] ∧ S = [opB b3 o, pB p sp xp aa all.length ac nw, CA, T, U, F]) ?_ ?_
  · refine going ?_
    refine run_op fun K hK => ?_; refine calls_to (cuttext_spec o.text 50) ?_; rintro v A ⟨rfl, rfl⟩; (try simp only [List.nil_append, List.cons_append]); refine hK _ _ ?_; clear hK K; refine going ?_
    exact mid ⟨rfl, rfl, rfl⟩
  rintro D L S ⟨rfl, rfl, rfl⟩
  (with_reducible refine code_seq ?_); refine then_mid (fun D L S => D = [] ∧ L = [(7, .string (str (o.text.take 50))), (6, .string (str (o.text.take 50))), (5, .int .u64 av), (3, .pointer (some ⟨b3, 0, none⟩)), (0, .pointer (some ⟨p, 0, none⟩))] ∧ S = [opB b3 o, pB p sp xp aa all.length ac nw, CA, T, U, F]) ?_ ?_
  · refine going ?_
    exact mid ⟨rfl, rfl, rfl⟩
  rintro D L S ⟨rfl, rfl, rfl⟩
  (with_reducible refine code_seq ?_); refine then_mid (fun D L S => D = [] ∧ L = [(7, .string (str (nonD all o))), (6, .string (str (o.text.take 50))), (5, .int .u64 av), (3, .pointer (some ⟨b3, 0, none⟩)), (0, .pointer (some ⟨p, 0, none⟩))] ∧ S = [opB b3 o, pB p sp xp aa all.length ac nw, CA, T, U, F]) ?_ ?_
  · refine going ?_
    cases hown : o.own with
    | false =>
      rw [show nonD all o = o.text.take 50 from by unfold nonD; rw [if_neg (by rw [hown]; simp)]]
      refine going ?_
      exact mid ⟨rfl, rfl, rfl⟩
    | true =>
      refine going ?_
      by_cases hz : 0 < all.length
      · rw [decide_eq_true (show (0 : Int) < all.length by omega)]
        obtain ⟨w, hw⟩ : ∃ w : Nat, o.which = w := ⟨o.which.toNat, by omega⟩
        obtain ⟨j, hj, hj2, hjl⟩ : ∃ j : Nat, o.which % (all.length : Int) = j ∧ w % all.length = j ∧ j < all.length := ⟨w % all.length, by rw [hw]; rfl, rfl, Nat.mod_lt _ hz⟩
        have hx : (all.map sV)[j]? = some (sV all[j]) := by rw [List.getElem?_map, List.getElem?_eq_getElem hjl]; rfl
        rw [show nonD all o = all[j] from by
          unfold nonD; rw [if_pos ⟨hown, hz⟩, hw, Int.toNat_natCast, hj2, List.getD_eq_getElem?_getD, List.getElem?_eq_getElem hjl]; rfl]
        refine going ?_
        refine code_dr [[], [0], [0, 1], [0, 1, 2], [], [4], [4, 5], [], [7], [7, 8], [7, 8, 9], [7, 8, 9, 10], [4, 5, 6, 7, 8, 9, 10, 11], [0, 1, 2, 3, 4, 5, 6, 7, 8, 9, 10, 11, 12], [0, 1, 2, 3, 4, 5, 6, 7, 8, 9, 10, 11, 12, 13], [0, 1, 2, 3, 4, 5, 6, 7, 8, 9, 10, 11, 12, 13, 14]] [(0, false, []), (1, false, []), (2, false, []), (3, false, []), (4, false, []), (5, false, []), (6, false, []), (7, false, []), (8, false, []), (9, false, []), (10, false, []), (11, false, []), (12, false, []), (13, false, []), (14, false, []), (15, true, [])] ?_
        (repeat (first | (with_reducible refine then_n ?_) | (with_reducible refine then_r ?_) | (with_reducible refine then_e ?_) | (with_reducible refine block_n ?_) | (with_reducible refine block_r ?_) | (with_reducible refine block_e ?_) | refine block_o ?_ | (with_reducible refine scope_n ?_) | (with_reducible refine scope_r ?_) | (with_reducible refine scope_e ?_) | (with_reducible refine code_seq ?_) | (with_reducible refine code_skip ?_) | (with_reducible refine code_label ?_) | (with_reducible refine code_block ?_) | (with_reducible refine code_scope ?_) | (with_reducible refine code_exit ?_) | (with_reducible refine code_ret ?_) | refine regq_to ?_ | (with_reducible refine run_nil ?_) | ((with_reducible refine run_probe ?_); refine runq_more ?_) | (with_reducible refine draw_nil ?_) | ((with_reducible refine draw_probe ?_); (first | refine drawq_more ?_ | refine drawq_as ?_)) | refine code_then ?_ | refine code_else ?_))
        rw [hj, Int.toNat_natCast]
        (repeat (first | (with_reducible refine then_n ?_) | (with_reducible refine then_r ?_) | (with_reducible refine then_e ?_) | (with_reducible refine block_n ?_) | (with_reducible refine block_r ?_) | (with_reducible refine block_e ?_) | refine block_o ?_ | (with_reducible refine scope_n ?_) | (with_reducible refine scope_r ?_) | (with_reducible refine scope_e ?_) | (with_reducible refine code_seq ?_) | (with_reducible refine code_skip ?_) | (with_reducible refine code_label ?_) | (with_reducible refine code_block ?_) | (with_reducible refine code_scope ?_) | (with_reducible refine code_exit ?_) | (with_reducible refine code_ret ?_) | refine regq_to ?_ | (with_reducible refine run_nil ?_) | ((with_reducible refine run_probe ?_); refine runq_more ?_) | (with_reducible refine draw_nil ?_) | ((with_reducible refine draw_probe ?_); (first | refine drawq_more ?_ | refine drawq_as ?_)) | refine code_then ?_ | refine code_else ?_))
        exact mid ⟨rfl, rfl, rfl⟩
      · rw [decide_eq_false (show ¬ (0 : Int) < all.length by omega), show nonD all o = o.text.take 50 from by unfold nonD; rw [if_neg (fun h => hz h.2)]]
        refine going ?_
        exact mid ⟨rfl, rfl, rfl⟩
  rintro D L S ⟨rfl, rfl, rfl⟩
  unfold doD
  generalize nonD all o = n at *
  generalize o.text.take 50 = d at *
  rw [hav]
  refine going ?_
  refine then_mid (fun D L S => ∃ w : Bool, w = decide (o.d % 10 = 4 ∨ o.d % 10 = 5) ∧ D = [] ∧ L = [(69, .bool w), (68, .int .u8 (o.d % 10)), (7, .string (str n)), (6, .string (str d)), (5, .int .u64 av), (3, .pointer (some ⟨b3, 0, none⟩)), (0, .pointer (some ⟨p, 0, none⟩))] ∧ S = [opB b3 o, pB p sp xp aa all.length ac nw, CA, T, U, F]) ?_ ?_
  · refine if_b (fun hc => ?_) (fun hc => ?_)
    · refine going ?_
      exact mid ⟨(o.d % 10 == 4), by rw [Bool.eq_iff_iff]; simp [hc], rfl, rfl, rfl⟩
    · refine going ?_
      exact mid ⟨(o.d % 10 == 5), by rw [Bool.eq_iff_iff]; simp [hc], rfl, rfl, rfl⟩
  rintro D L S ⟨w, hw, rfl, rfl, rfl⟩
  cases w with
  | true =>
    rw [if_pos (of_decide_eq_true hw.symm)]
    refine going ?_
    refine code_dr [[], [0], [0, 1], [0, 1, 2], [], [], [0, 1, 2, 3, 4, 5], [], [7], [7, 8], [7, 8, 9], [], [], [0, 1, 2, 3, 4, 5, 6, 7, 8, 9, 10, 11, 12], [0, 1, 2, 3, 4, 5, 6, 7, 8, 9, 10, 11, 12, 13], [0, 1, 2, 3, 4, 5, 6, 7, 8, 9, 10, 11, 12, 13, 14]] [(0, false, []), (1, false, []), (2, false, []), (3, false, []), (4, false, []), (5, false, []), (7, false, []), (8, false, []), (9, false, []), (10, false, []), (11, false, []), (12, false, []), (6, true, [10]), (13, true, []), (14, false, []), (15, true, [])] ?_
    refine going ?_
    refine draw_op fun K hK => ?_; refine calls_to (hSpend hT n av ha1) ?_; rintro v A ⟨rfl, T', hT', rfl⟩; (try simp only [List.nil_append, List.cons_append]); (repeat refine pend ?_); refine hK _ _ ?_; clear hK K
    refine going ?_
    refine draw_op fun K hK => ?_; refine calls_to (xSpend hU n av ha1) ?_; rintro v A ⟨rfl, U', hU', rfl⟩; (try simp only [List.nil_append, List.cons_append]); (repeat refine pend ?_); refine hK _ _ ?_; clear hK K
    refine going ?_
    refine back_tmp [pB p sp xp aa all.length ac nw, CA, T', U'] ⟨rfl, aa, ac, CA, T', U', hA, hT', hU', rfl⟩
  | false =>
    rw [if_neg (of_decide_eq_false hw.symm)]
    refine going ?_
    refine then_mid (fun D L S => ∃ w : Bool, w = decide (o.d % 10 = 6 ∨ o.d % 10 = 7) ∧ D = [] ∧ L = [(87, .bool w), (68, .int .u8 (o.d % 10)), (7, .string (str n)), (6, .string (str d)), (5, .int .u64 av), (3, .pointer (some ⟨b3, 0, none⟩)), (0, .pointer (some ⟨p, 0, none⟩))] ∧ S = [opB b3 o, pB p sp xp aa all.length ac nw, CA, T, U, F]) ?_ ?_
    · refine if_b (fun hc => ?_) (fun hc => ?_)
      · refine going ?_
        exact mid ⟨(o.d % 10 == 6), by rw [Bool.eq_iff_iff]; simp [hc], rfl, rfl, rfl⟩
      · refine going ?_
        exact mid ⟨(o.d % 10 == 7), by rw [Bool.eq_iff_iff]; simp [hc], rfl, rfl, rfl⟩
    rintro D L S ⟨w, hw, rfl, rfl, rfl⟩
    cases w with
    | true =>
      rw [if_pos (of_decide_eq_true hw.symm)]
      refine going ?_
      refine code_dr [[], [0], [0, 1], [0, 1, 2], [], [], [5], [], [0, 1, 2, 3, 4, 5, 6, 7], [], [9], [9, 10], [9, 10, 11], [], [], [14], [], [0, 1, 2, 3, 4, 5, 6, 7, 8, 9, 10, 11, 12, 13, 14, 15, 16], [0, 1, 2, 3, 4, 5, 6, 7, 8, 9, 10, 11, 12, 13, 14, 15, 16, 17], [0, 1, 2, 3, 4, 5, 6, 7, 8, 9, 10, 11, 12, 13, 14, 15, 16, 17, 18]] [(0, false, []), (1, false, []), (2, false, []), (3, false, []), (4, false, []), (5, false, []), (6, false, []), (7, false, []), (9, false, []), (10, false, []), (11, false, []), (12, false, []), (13, false, []), (14, false, []), (15, false, []), (16, false, []), (8, true, [12, 15]), (17, true, []), (18, false, []), (19, true, [])] ?_
      refine going ?_
      refine draw_op fun K hK => ?_; refine calls_to (hUse hT n o.count av hc0 ha1) ?_; rintro v A ⟨rfl, T', hT', rfl⟩; (try simp only [List.nil_append, List.cons_append]); (repeat refine pend ?_); refine hK _ _ ?_; clear hK K
      refine going ?_
      refine draw_op fun K hK => ?_; refine calls_to (xUse hU n o.count av hc0 ha1) ?_; rintro v A ⟨rfl, U', hU', rfl⟩; (try simp only [List.nil_append, List.cons_append]); (repeat refine pend ?_); refine hK _ _ ?_; clear hK K
      refine going ?_
      refine back_tmp [pB p sp xp aa all.length ac nw, CA, T', U'] ⟨rfl, aa, ac, CA, T', U', hA, hT', hU', rfl⟩
    | false =>
      rw [if_neg (of_decide_eq_false hw.symm)]
      refine going ?_
      refine if_b (fun hc => ?_) (fun hc => ?_)
      · rw [if_pos hc]
        refine going ?_
        refine code_dr [[], [0], [0, 1], [0, 1, 2], [], [0, 1, 2, 3, 4], [], [6], [6, 7], [6, 7, 8], [], [0, 1, 2, 3, 4, 5, 6, 7, 8, 9, 10], [0, 1, 2, 3, 4, 5, 6, 7, 8, 9, 10, 11], [0, 1, 2, 3, 4, 5, 6, 7, 8, 9, 10, 11, 12]] [(0, false, []), (1, false, []), (2, false, []), (3, false, []), (4, false, []), (6, false, []), (7, false, []), (8, false, []), (9, false, []), (10, false, []), (5, true, [9]), (11, true, []), (12, false, []), (13, true, [])] ?_
        refine going ?_
        refine draw_op fun K hK => ?_; refine calls_to (hSweep hT av ha1) ?_; rintro v A ⟨rfl, T', hT', rfl⟩; (try simp only [List.nil_append, List.cons_append]); (repeat refine pend ?_); refine hK _ _ ?_; clear hK K
        refine going ?_
        refine draw_op fun K hK => ?_; refine calls_to (xSweep hU av ha1) ?_; rintro v A ⟨rfl, U', hU', rfl⟩; (try simp only [List.nil_append, List.cons_append]); (repeat refine pend ?_); refine hK _ _ ?_; clear hK K
        refine going ?_
        refine back_tmp [pB p sp xp aa all.length ac nw, CA, T', U'] ⟨rfl, aa, ac, CA, T', U', hA, hT', hU', rfl⟩
      · rw [if_neg hc]
        refine going ?_
        refine if_b (fun hc => ?_) (fun hc => ?_)
        · rw [if_pos hc]
          refine going ?_
          refine code_dr [[], [0], [0, 1], [0, 1, 2], [], [], [0, 1, 2, 3, 4, 5], [], [7], [7, 8], [7, 8, 9], [], [], [0, 1, 2, 3, 4, 5, 6, 7, 8, 9, 10, 11, 12], [0, 1, 2, 3, 4, 5, 6, 7, 8, 9, 10, 11, 12, 13], [0, 1, 2, 3, 4, 5, 6, 7, 8, 9, 10, 11, 12, 13, 14]] [(0, false, []), (1, false, []), (2, false, []), (3, false, []), (4, false, []), (5, false, []), (7, false, []), (8, false, []), (9, false, []), (10, false, []), (11, false, []), (12, false, []), (6, true, [10]), (13, true, []), (14, false, []), (15, true, [])] ?_
          refine going ?_
          refine draw_op fun K hK => ?_; refine calls_to (hCheck hT n av ha1) ?_; rintro v A ⟨rfl, rfl⟩; (try simp only [List.nil_append, List.cons_append]); (repeat refine pend ?_); refine hK _ _ ?_; clear hK K
          refine going ?_
          refine draw_op fun K hK => ?_; refine calls_to (xCheck hU n av ha1) ?_; rintro v A ⟨rfl, rfl⟩; (try simp only [List.nil_append, List.cons_append]); (repeat refine pend ?_); refine hK _ _ ?_; clear hK K
          refine going ?_
          refine back_tmp [pB p sp xp aa all.length ac nw, CA, T, U] ⟨rfl, aa, ac, CA, T, U, hA, hT, hU, rfl⟩
        · rw [if_neg hc]
          refine going ?_
          refine run_op fun K hK => ?_; refine calls_to (hIssue hT hser d hlen av ha0 ha1) ?_; rintro v A ⟨rfl, T', hT', rfl⟩; (try simp only [List.nil_append, List.cons_append]); refine hK _ _ ?_; clear hK K; refine going ?_
          refine run_op fun K hK => ?_; refine calls_to (xIssue hU hser d hlen av ha0 ha1) ?_; rintro v A ⟨rfl, U', hU', rfl⟩; (try simp only [List.nil_append, List.cons_append]); refine hK _ _ ?_; clear hK K; refine going ?_
          generalize oIssue st d av = r at *
          obtain ⟨⟨rn, re⟩, rs⟩ := r
          simp only at hT' hU' ⊢
          refine if_b (fun hc => ?_) (fun hc => ?_)
          · rw [if_pos hc]
            subst hc
            refine going ?_
            refine run_op fun K hK => ?_; refine build1 rfl [.string (str rn)] (by decide) rfl rfl (by simp [Value.cell1]) (fun b9 C9 ho9 => ?_); refine hK _ _ ?_; clear hK K
            refine going ?_
            refine run_op fun K hK => ?_; refine append_own (e := 9) (s := 1) (hs := inferInstance) (by rfl) (by decide) hA (.inr (by (repeat (first | with_reducible exact Pick.head _ _ | with_reducible apply Pick.tail)))) (ho9.rd (by (repeat (first | with_reducible assumption | with_reducible exact List.mem_cons_self .. | with_reducible apply List.mem_cons_of_mem)))) (by simp [Value.cell1]) (by simp only [maxLen]; omega) (by omega) (fun C3 a3 cap3 ho3 => ?_); refine hK _ _ ?_; clear hK K
            have e1 : all.length + 1 = (all ++ [rn]).length := by simp
            have e2 : all.map sV ++ [.string (str rn)] = (all ++ [rn]).map sV := by simp
            rw [e1, e2] at ho3
            rw [e1]
            refine going ?_
            refine back_tmp [pB p sp xp a3 (all ++ [rn]).length cap3 nw, C3, T', U'] ⟨rfl, a3, cap3, C3, T', U', ho3, hT', hU', rfl⟩
          · rw [if_neg hc]
            refine going ?_
            refine back_tmp [pB p sp xp aa all.length ac nw, CA, T', U'] ⟨rfl, aa, ac, CA, T', U', hA, hT', hU', rfl⟩

end Go.Proofs.Ytbclecppjnlpmaa

/- What the laws of nonces call: all entries; is a store the document's? Conditions: as each says. -/
set_option linter.unusedSimpArgs false
set_option linter.unusedVariables false
namespace Go.Proofs.Ytbclecppjnlpmaa
open Go Go.Ost Go.Tab Go.Sha

def encQ (x : List UInt8 × V) : List Value := encV x.2
theorem encQ_len (x : List UInt8 × V) : (encQ x).length = 4 := rfl
abbrev OwnQ (C : Chunk) (a : Option Addr) (c : Nat) (es : Es) : Prop := Ost.Own 4 66 C a es.length c (es.flatMap encQ)

theorem entries_nil (most : Int) : Meets Try.prog 20 [.pointer none, .int .i64 most] [] fun v A => v = .slice none 0 0 ∧ A = [] := by
  refine spec_intro Try.func20 rfl (by kernel_rfl) (by rw [Try.ntmps20]; simp) fun F => ?_; rw [Try.ntmps20, Try.results20]
  refine going ?_
  refine run_op fun K hK => ?_; refine box_new fun b3 => ?_; (try simp only [Value.cells]); refine hK _ _ ?_; clear hK K
  refine going ?_
  refine run_op fun K hK => ?_; refine alloc_new fun b5 => ?_; (try simp only [Value.cells]); refine hK _ _ ?_; clear hK K
  refine going ?_
  refine run_op fun K hK => ?_; refine calls_to (nentries_spec none) ?_; rintro v A ⟨c, rfl, rfl⟩; (try simp only [List.nil_append, List.cons_append]); refine hK _ _ ?_; clear hK K; refine going ?_
  refine code_rangeG (by (try simp only [evT, lookT_hit, lookT_miss, Nat.reduceBEq]); (first | done | exact rfl)) (entries_iter_nil c) (by (repeat (first | exact Take.nil _ | with_reducible exact Pick.head _ _ | with_reducible apply Pick.tail | with_reducible apply Take.cons))) (fun pre C => C = [bx b5 (.slice none 0 0) 63, bx b3 (.int .i64 most) 3, F]) (fun c pre C => False) (fun h => by cases h) (fun C hC => ⟨[], C.flatten, rfl, by simp⟩) (fun _ => rfl) rfl ?_ ?_ ?_
  · rintro l F1 C H r pre x hx
    exact hx.elim
  · rintro d pre C A hd rfl rfl
    (try simp only [List.nil_append, List.cons_append])
    refine going ?_
    refine back_cells [] ?_; exact ⟨rfl, rfl⟩
  · rintro d c pre x C A hx
    exact hx.elim

set_option maxHeartbeats 1000000 in
theorem entries_core {T : Chunk} {b q : Nat} {s : NS} (hT : IsTab T b s.room s.es) (hb : s.es.length ≤ 64) (most : Nat) (hm : 1 ≤ most) :
    Meets Try.prog 20 [.pointer (some ⟨q, 0, none⟩), .int .i64 most] [nB q b s ++ T] fun v A => ∃ X a k, v = .slice a (s.es.take most).length k ∧ OwnQ X a k (s.es.take most) ∧ A = [X, nB q b s ++ T] := by
  refine spec_intro Try.func20 rfl (by kernel_rfl) (by rw [Try.ntmps20]; simp) fun F => ?_; rw [Try.ntmps20, Try.results20]
  refine going ?_
  refine run_op fun K hK => ?_; refine box_new fun b3 => ?_; (try simp only [Value.cells]); refine hK _ _ ?_; clear hK K
  refine going ?_
  refine run_op fun K hK => ?_; refine alloc_new fun b5 => ?_; (try simp only [Value.cells]); refine hK _ _ ?_; clear hK K
  refine going ?_
  refine run_op fun K hK => ?_; refine calls_to (nentries_spec _) ?_; rintro v A ⟨cc, rfl, rfl⟩; (try simp only [List.nil_append, List.cons_append]); refine hK _ _ ?_; clear hK K; refine going ?_
  refine code_nil ?_
  refine code_rangeG (by (try simp only [evT, lookT_hit, lookT_miss, Nat.reduceBEq]); (first | done | exact rfl)) (entries_iter cc q b s) (.cons (.tail _ (.head _ _)) (.nil _)) (fun pre C => pre.length < most ∧ ∃ X xa xc, OwnQ X xa xc pre ∧
      C = [X, bx b5 (.slice xa pre.length xc) 63, bx b3 (.int .i64 most) 3, F, nB q b s ++ T])
    (fun k pre C => k = .exit 0 ∧ pre.length = most ∧ ∃ X xa xc, OwnQ X xa xc pre ∧
      C = [X, bx b5 (.slice xa pre.length xc) 63, bx b3 (.int .i64 most) 3, F, nB q b s ++ T]) (fun h => by cases h) (fun C hC => ?_) (fun _ => rfl) ⟨by simp; omega, [], none, 0, own_nil, rfl⟩ ?_ ?_ ?_
  · obtain ⟨_, X, xa, xc, hX, rfl⟩ := hC
    exact T0_pick ⟨T, hT, rfl⟩ (by (repeat (first | with_reducible exact Pick.head _ _ | with_reducible apply Pick.tail)))
  · rintro l F1 C H r pre x ⟨suf1, hx⟩ ⟨hlt, X, xa, xc, hX, rfl⟩ rfl
    obtain ⟨k, v⟩ := x
    have hprl : pre.length + 1 ≤ 64 := by
      have := congrArg List.length hx
      rw [List.length_append, List.length_cons] at this
      omega
    (try simp only [List.nil_append, List.cons_append, List.append_nil, encN])
    (try simp only [putAll, putT, Nat.reduceLT, if_true, reduceIte, Array.toList, List.toList_toArray])
    refine going ?_
    refine run_op fun K hK => ?_; refine alloc_as (encV v0).toArray rfl fun b6 => ?_; refine hK _ _ ?_; clear hK K
    refine run_op fun K hK => ?_; refine store_all (vs := encV v) rfl (cell_V v) (by (repeat (first | with_reducible exact Upd.one | with_reducible apply Upd.next))) (by rfl) ?_; refine hK _ _ ?_; clear hK K
    refine going ?_
    refine ⟨_, .cons (.tail _ (.head _ _)) (Among.refl _), fun r' _ => ?_⟩
    refine going ?_
    refine run_op fun K hK => ?_; refine load_all (vs := encV v) (by (repeat (first | with_reducible exact Lies.one | with_reducible apply Lies.next))) rfl ?_; refine hK _ _ ?_; clear hK K
    refine run_op fun K hK => ?_; refine build_el1 (e := 66) (s := 4) (hs := inferInstance) (vs := encQ (k, v)) (by rfl) (by decide) (by decide) rfl (fun b1 C1 ho1 => ?_); refine hK _ _ ?_; clear hK K
    refine run_op fun K hK => ?_; refine append_own (e := 66) (s := 4) (hs := inferInstance) (by rfl) (by decide) hX (.inr (by (repeat (first | with_reducible exact Pick.head _ _ | with_reducible apply Pick.tail)))) (ho1.rd (by (repeat (first | with_reducible assumption | with_reducible exact List.mem_cons_self .. | with_reducible apply List.mem_cons_of_mem)))) (cell_V _) (by simp only [maxLen]; omega) (by omega) (fun C3 a3 cap3 ho3 => ?_); refine hK _ _ ?_; clear hK K
    have e1 : pre.length + 1 = (pre ++ [(k, v)]).length := by simp
    have e2 : pre.flatMap encQ ++ encQ (k, v) = (pre ++ [(k, v)]).flatMap encQ := by simp
    rw [e1, e2] at ho3
    rw [e1]
    refine going ?_
    refine if_b (fun hc => ?_) (fun hc => ?_)
    · refine going ?_
      exact ⟨_, ⟨_, [], rfl, ⟨rfl, by omega, C3, a3, cap3, ho3, rfl⟩, rfl⟩, by (try simp only [List.append_nil]); first | ((repeat (first | with_reducible exact Among.nil _ | with_reducible exact Pick.head _ _ | with_reducible apply Pick.tail | with_reducible apply Among.cons)); done) | ((repeat (first | exact Among.nil _ | exact Pick.head _ _ | apply Pick.tail | apply Among.cons)); done)⟩
    · refine going ?_
      exact ⟨_, ⟨_, [], rfl, ⟨by omega, C3, a3, cap3, ho3, rfl⟩, rfl⟩, by (try simp only [List.append_nil]); first | ((repeat (first | with_reducible exact Among.nil _ | with_reducible exact Pick.head _ _ | with_reducible apply Pick.tail | with_reducible apply Among.cons)); done) | ((repeat (first | exact Among.nil _ | exact Pick.head _ _ | apply Pick.tail | apply Among.cons)); done)⟩
  · rintro d pre C A rfl ⟨hlt, X, xa, xc, hX, rfl⟩ rfl
    rw [List.take_of_length_le (by omega)]
    (try simp only [List.nil_append, List.cons_append])
    refine going ?_
    refine back_cells [X, nB q b s ++ T] ⟨X, xa, xc, rfl, hX, rfl⟩
  · rintro d k pre x C A ⟨suf, hx⟩ ⟨rfl, hlen, X, xa, xc, hX, rfl⟩ rfl
    have et : s.es.take most = pre ++ [x] := by
      rw [hx, ← hlen, show pre ++ x :: suf = (pre ++ [x]) ++ suf from by simp, List.take_left' rfl]
    rw [et]
    (try simp only [List.nil_append, List.cons_append])
    refine going ?_
    refine back_cells [X, nB q b s ++ T] ⟨X, xa, xc, rfl, hX, rfl⟩

theorem hEntries {sp : Option Addr} {T : Chunk} {st : Option NS} (h : NHalf sp T st) (most : Nat) (hm : 1 ≤ most) :
    Meets Try.prog 20 [.pointer sp, .int .i64 most] [T] fun v A => ∃ X a k, v = .slice a ((oEs st).take most).length k ∧ OwnQ X a k ((oEs st).take most) ∧ A = [X, T] := by
  rcases st with _ | s
  · obtain ⟨rfl, rfl⟩ := h
    refine Meets.conv [] (entries_nil most) rfl (.nil _) ?_
    rintro v A ⟨rfl, rfl⟩
    exact ⟨[[], []], [], rfl, .nil _, [], none, 0, by simp [oEs], by show OwnQ [] none 0 (List.take most []); rw [List.take_nil]; exact own_nil, rfl⟩
  · obtain ⟨q, b, T1, hs, hT, rfl, rfl⟩ := h
    exact entries_core hT (by have := hs.fit; have := hs.r2; omega) most hm

def oMark (st : Option NS) : Int × Bool := match st with
  | none => (0, false)
  | some s => (s.mark, s.mrk)
theorem hMark {sp : Option Addr} {T : Chunk} {st : Option NS} (h : NHalf sp T st) :
    Meets Try.prog 11 [.pointer sp] [T] fun v A => v = .tuple #[.int .u64 (oMark st).1, .bool (oMark st).2] ∧ A = [T] := by
  rcases st with _ | s
  · obtain ⟨rfl, rfl⟩ := h
    refine Meets.conv [] nmark_nil rfl (.nil _) ?_
    rintro v A ⟨rfl, rfl⟩
    exact ⟨[[]], [], rfl, .nil _, rfl, rfl⟩
  · obtain ⟨q, b, T1, hs, hT, rfl, rfl⟩ := h
    refine Meets.conv [nB q b s, T1] (nmark_spec s) (by simp only [List.flatten_cons, List.flatten_nil, List.append_assoc, List.append_nil]) (by (repeat (first | with_reducible exact Take.nil _ | with_reducible exact Pick.head _ _ | with_reducible apply Pick.tail | with_reducible apply Take.cons))) ?_
    rintro v A ⟨rfl, rfl⟩
    exact ⟨[nB q b s ++ T1], [nB q b s, T1], by simp only [List.flatten_cons, List.flatten_nil, List.append_assoc, List.append_nil], by first | ((repeat (first | with_reducible exact Among.nil _ | with_reducible exact Pick.head _ _ | with_reducible apply Pick.tail | with_reducible apply Among.cons)); done) | ((repeat (first | exact Among.nil _ | exact Pick.head _ _ | apply Pick.tail | apply Among.cons)); done), rfl, rfl⟩
theorem hSer {sp : Option Addr} {T : Chunk} {st : Option NS} (h : NHalf sp T st) :
    Meets Try.prog 18 [.pointer sp] [T] fun v A => v = .int .u64 (oSer st) ∧ A = [T] := by
  rcases st with _ | s
  · obtain ⟨rfl, rfl⟩ := h
    refine Meets.conv [] nser_nil rfl (.nil _) ?_
    rintro v A ⟨rfl, rfl⟩
    exact ⟨[[]], [], rfl, .nil _, rfl, rfl⟩
  · obtain ⟨q, b, T1, hs, hT, rfl, rfl⟩ := h
    refine Meets.conv [nB q b s, T1] (nser_spec s) (by simp only [List.flatten_cons, List.flatten_nil, List.append_assoc, List.append_nil]) (by (repeat (first | with_reducible exact Take.nil _ | with_reducible exact Pick.head _ _ | with_reducible apply Pick.tail | with_reducible apply Take.cons))) ?_
    rintro v A ⟨rfl, rfl⟩
    exact ⟨[nB q b s ++ T1], [nB q b s, T1], by simp only [List.flatten_cons, List.flatten_nil, List.append_assoc, List.append_nil], by first | ((repeat (first | with_reducible exact Among.nil _ | with_reducible exact Pick.head _ _ | with_reducible apply Pick.tail | with_reducible apply Among.cons)); done) | ((repeat (first | exact Among.nil _ | exact Pick.head _ _ | apply Pick.tail | apply Among.cons)); done), rfl, rfl⟩

set_option maxHeartbeats 2000000 in
theorem same_nil {p : Nat} {aa : Option Addr} {n ac : Nat} {now : Int} : Meets Try.prog 22 [.pointer (some ⟨p, 0, none⟩)] [pB p none none aa n ac now] fun v A => v = .bool true ∧ A = [pB p none none aa n ac now] := by
  refine spec_intro Try.func22 rfl (by kernel_rfl) (by rw [Try.ntmps22]; simp) fun F => ?_; rw [Try.ntmps22, Try.results22]
  refine going ?_
  refine run_op fun K hK => ?_; refine calls_to (entries_nil 1000) ?_; rintro v A ⟨rfl, rfl⟩; (try simp only [List.nil_append, List.cons_append]); refine hK _ _ ?_; clear hK K; refine going ?_
  refine run_op fun K hK => ?_; refine calls_to (nmark_nil) ?_; rintro v A ⟨rfl, rfl⟩; (try simp only [List.nil_append, List.cons_append]); refine hK _ _ ?_; clear hK K; refine going ?_
  refine run_op fun K hK => ?_; refine calls_to (nser_nil) ?_; rintro v A ⟨rfl, rfl⟩; (try simp only [List.nil_append, List.cons_append]); refine hK _ _ ?_; clear hK K; refine going ?_
  refine run_op fun K hK => ?_; refine calls_to (nlen_nil) ?_; rintro v A ⟨rfl, rfl⟩; (try simp only [List.nil_append, List.cons_append]); refine hK _ _ ?_; clear hK K; refine going ?_
  refine back_tmp [pB p none none aa n ac now] ?_; exact ⟨rfl, rfl⟩

set_option maxHeartbeats 2000000 in
theorem same_core {p q r : Nat} {s : NS} {T Cl : Chunk} {aa la : Option Addr} {n ac lc : Nat} {now : Int} (hs : NOk s) (hH : NHalf (some ⟨q, 0, none⟩) T (some s)) (ho : OwnR Cl la lc s.es) :
    Meets Try.prog 22 [.pointer (some ⟨p, 0, none⟩)] [pB p (some ⟨q, 0, none⟩) (some ⟨r, 0, none⟩) aa n ac now, T, xN r s la s.es.length lc, Cl]
      fun v A => v = .bool true ∧ A = [pB p (some ⟨q, 0, none⟩) (some ⟨r, 0, none⟩) aa n ac now, T, xN r s la s.es.length lc, Cl] := by
  have hb : s.es.length ≤ 64 := by have := hs.fit; have := hs.r2; omega
  have hl := encR_len
  have hl2 := encQ_len
  have hen := hEntries hH 1000 (by decide)
  rw [show (oEs (some s)).take 1000 = s.es from List.take_of_length_le (by show s.es.length ≤ 1000; omega)] at hen
  rw [show ((1000 : Nat) : Int) = 1000 from rfl] at hen
  refine spec_intro Try.func22 rfl (by kernel_rfl) (by rw [Try.ntmps22]; simp) fun F => ?_; rw [Try.ntmps22, Try.results22]
  refine going ?_
  refine run_op fun K hK => ?_; refine calls_to (hen) ?_; rintro v A ⟨X, xa, xc, rfl, hX, rfl⟩; (try simp only [List.nil_append, List.cons_append]); refine hK _ _ ?_; clear hK K; refine going ?_
  refine run_op fun K hK => ?_; refine calls_to (hMark hH) ?_; rintro v A ⟨rfl, rfl⟩; (try simp only [List.nil_append, List.cons_append]); refine hK _ _ ?_; clear hK K; refine going ?_
  refine code_dr [[], [0], [], [2], [2, 3], [2, 3, 4], [2, 3, 4, 5], [2, 3, 4, 5, 6], [2, 3, 4, 5, 6, 7], [2, 3, 4, 5, 6, 7, 8], [0, 1, 2, 3, 4, 5, 6, 7, 8, 9], [0, 1, 2, 3, 4, 5, 6, 7, 8, 9, 10], [0, 1, 2, 3, 4, 5, 6, 7, 8, 9, 10, 11], [0, 1, 2, 3, 4, 5, 6, 7, 8, 9, 10, 11, 12], [0, 1, 2, 3, 4, 5, 6, 7, 8, 9, 10, 11, 12, 13], [0, 1, 2, 3, 4, 5, 6, 7, 8, 9, 10, 11, 12, 13, 14], [0, 1, 2, 3, 4, 5, 6, 7, 8, 9, 10, 11, 12, 13, 14, 15], [0, 1, 2, 3, 4, 5, 6, 7, 8, 9, 10, 11], [0, 1, 2, 3, 4, 5, 6, 7, 8, 9, 10, 11, 17], [0, 1, 2, 3, 4, 5, 6, 7, 8, 9, 10, 11, 12, 13, 14, 15, 16, 17, 18], [0, 1, 2, 3, 4, 5, 6, 7, 8, 9, 10, 11, 12, 13, 14, 15, 16, 17, 18, 19], [0, 1, 2, 3, 4, 5, 6, 7, 8, 9, 10, 11, 12, 13, 14, 15, 16, 17, 18, 19, 20], [0, 1, 2, 3, 4, 5, 6, 7, 8, 9, 10, 11, 12, 13, 14, 15, 16, 17, 18, 19, 20, 21], [0, 1, 2, 3, 4, 5, 6, 7, 8, 9, 10, 11, 12, 13, 14, 15, 16, 17, 18, 19, 20, 21], [0, 1, 2, 3, 4, 5, 6, 7, 8, 9, 10, 11, 12, 13, 14, 15, 16, 17, 18, 19, 20, 21, 23], [0, 1, 2, 3, 4, 5, 6, 7, 8, 9, 10, 11, 12, 13, 14, 15, 16, 17, 18, 19, 20, 21, 23, 24], [0, 1, 2, 3, 4, 5, 6, 7, 8, 9, 10, 11, 12, 13, 14, 15, 16, 17, 18, 19, 20, 21, 23, 24, 25], [0, 1, 2, 3, 4, 5, 6, 7, 8, 9, 10, 11, 12, 13, 14, 15, 16, 17, 18, 19, 20, 21, 23, 24, 25, 26], [0, 1, 2, 3, 4, 5, 6, 7, 8, 9, 10, 11, 12, 13, 14, 15, 16, 17, 18, 19, 20, 21, 23, 24, 25, 26, 27], [0, 1, 2, 3, 4, 5, 6, 7, 8, 9, 10, 11, 12, 13, 14, 15, 16, 17, 18, 19, 20, 21, 23, 24, 25, 26, 27, 28], [0, 1, 2, 3, 4, 5, 6, 7, 8, 9, 10, 11, 12, 13, 14, 15, 16, 17, 18, 19, 20, 21, 22, 23, 24, 25, 26, 27, 28, 29], [0, 1, 2, 3, 4, 5, 6, 7, 8, 9, 10, 11, 12, 13, 14, 15, 16, 17, 18, 19, 20, 21, 22, 23, 24, 25, 26, 27, 28, 29, 30], [0, 1, 2, 3, 4, 5, 6, 7, 8, 9, 10, 11, 12, 13, 14, 15, 16, 17, 18, 19, 20, 21, 22, 23, 24, 25, 26, 27, 28, 29, 30, 31], [0, 1, 2, 3, 4, 5, 6, 7, 8, 9, 10, 11, 12, 13, 14, 15, 16, 17, 18, 19, 20, 21, 22, 23, 24, 25, 26, 27, 28, 29, 30, 31, 32], [0, 1, 2, 3, 4, 5, 6, 7, 8, 9, 10, 11, 12, 13, 14, 15, 16, 17, 18, 19, 20, 21, 22, 23, 24, 25, 26, 27, 28, 29, 30, 31, 32], [0, 1, 2, 3, 4, 5, 6, 7, 8, 9, 10, 11, 12, 13, 14, 15, 16, 17, 18, 19, 20, 21, 22, 23, 24, 25, 26, 27, 28, 29, 30, 31, 32, 34], [0, 1, 2, 3, 4, 5, 6, 7, 8, 9, 10, 11, 12, 13, 14, 15, 16, 17, 18, 19, 20, 21, 22, 23, 24, 25, 26, 27, 28, 29, 30, 31, 32, 34, 35], [0, 1, 2, 3, 4, 5, 6, 7, 8, 9, 10, 11, 12, 13, 14, 15, 16, 17, 18, 19, 20, 21, 22, 23, 24, 25, 26, 27, 28, 29, 30, 31, 32, 34, 35, 36], [0, 1, 2, 3, 4, 5, 6, 7, 8, 9, 10, 11, 12, 13, 14, 15, 16, 17, 18, 19, 20, 21, 22, 23, 24, 25, 26, 27, 28, 29, 30, 31, 32, 34, 35, 36, 37], [0, 1, 2, 3, 4, 5, 6, 7, 8, 9, 10, 11, 12, 13, 14, 15, 16, 17, 18, 19, 20, 21, 22, 23, 24, 25, 26, 27, 28, 29, 30, 31, 32, 34, 35, 36, 37, 38], [0, 1, 2, 3, 4, 5, 6, 7, 8, 9, 10, 11, 12, 13, 14, 15, 16, 17, 18, 19, 20, 21, 22, 23, 24, 25, 26, 27, 28, 29, 30, 31, 32, 34, 35, 36, 37, 38, 39], [0, 1, 2, 3, 4, 5, 6, 7, 8, 9, 10, 11, 12, 13, 14, 15, 16, 17, 18, 19, 20, 21, 22, 23, 24, 25, 26, 27, 28, 29, 30, 31, 32, 33, 34, 35, 36, 37, 38, 39, 40], [0, 1, 2, 3, 4, 5, 6, 7, 8, 9, 10, 11, 12, 13, 14, 15, 16, 17, 18, 19, 20, 21, 22, 23, 24, 25, 26, 27, 28, 29, 30, 31, 32, 33, 34, 35, 36, 37, 38, 39, 40, 41], [0, 1, 2, 3, 4, 5, 6, 7, 8, 9, 10, 11, 12, 13, 14, 15, 16, 17, 18, 19, 20, 21, 22, 23, 24, 25, 26, 27, 28, 29, 30, 31, 32, 33, 34, 35, 36, 37, 38, 39, 40, 41, 42], [0, 1, 2, 3, 4, 5, 6, 7, 8, 9, 10, 11, 12, 13, 14, 15, 16, 17, 18, 19, 20, 21, 22, 23, 24, 25, 26, 27, 28, 29, 30, 31, 32, 33, 34, 35, 36, 37, 38, 39, 40, 41, 42, 43], [0, 1, 2, 3, 4, 5, 6, 7, 8, 9, 10, 11, 12, 13, 14, 15, 16, 17, 18, 19, 20, 21, 22, 23, 24, 25, 26, 27, 28, 29, 30, 31, 32, 33, 34, 35, 36, 37, 38, 39, 40, 41, 42, 43, 44], [0, 1, 2, 3, 4, 5, 6, 7, 8, 9, 10, 11, 12, 13, 14, 15, 16, 17, 18, 19, 20, 21, 22, 23, 24, 25, 26, 27, 28, 29, 30, 31, 32, 33, 34, 35, 36, 37, 38, 39, 40, 41, 42, 43, 44, 45], [0, 1, 2, 3, 4, 5, 6, 7, 8, 9, 10, 11, 12, 13, 14, 15, 16, 17, 18, 19, 20, 21, 22, 23, 24, 25, 26, 27, 28, 29, 30, 31, 32, 33, 34, 35, 36, 37, 38, 39, 40, 41, 42, 43, 44, 45, 46], [0, 1, 2, 3, 4, 5, 6, 7, 8, 9, 10, 11, 12, 13, 14, 15, 16, 17, 18, 19, 20, 21, 22, 23, 24, 25, 26, 27, 28, 29, 30, 31, 32, 33, 34, 35, 36, 37, 38, 39, 40, 41, 42, 43, 44, 45, 46, 47], [0, 1, 2, 3, 4, 5, 6, 7, 8, 9, 10, 11, 12, 13, 14, 15, 16, 17, 18, 19, 20, 21, 22, 23, 24, 25, 26, 27, 28, 29, 30, 31, 32, 33, 34, 35, 36, 37, 38, 39, 40, 41, 42, 43], [0, 1, 2, 3, 4, 5, 6, 7, 8, 9, 10, 11, 12, 13, 14, 15, 16, 17, 18, 19, 20, 21, 22, 23, 24, 25, 26, 27, 28, 29, 30, 31, 32, 33, 34, 35, 36, 37, 38, 39, 40, 41, 42, 43, 49], [0, 1, 2, 3, 4, 5, 6, 7, 8, 9, 10, 11, 12, 13, 14, 15, 16, 17, 18, 19, 20, 21, 22, 23, 24, 25, 26, 27, 28, 29, 30, 31, 32, 33, 34, 35, 36, 37, 38, 39, 40, 41, 42, 43, 49, 50], [0, 1, 2, 3, 4, 5, 6, 7, 8, 9, 10, 11, 12, 13, 14, 15, 16, 17, 18, 19, 20, 21, 22, 23, 24, 25, 26, 27, 28, 29, 30, 31, 32, 33, 34, 35, 36, 37, 38, 39, 40, 41, 42, 43, 49, 50, 51], [0, 1, 2, 3, 4, 5, 6, 7, 8, 9, 10, 11, 12, 13, 14, 15, 16, 17, 18, 19, 20, 21, 22, 23, 24, 25, 26, 27, 28, 29, 30, 31, 32, 33, 34, 35, 36, 37, 38, 39, 40, 41, 42, 43, 49, 50, 51, 52], [0, 1, 2, 3, 4, 5, 6, 7, 8, 9, 10, 11, 12, 13, 14, 15, 16, 17, 18, 19, 20, 21, 22, 23, 24, 25, 26, 27, 28, 29, 30, 31, 32, 33, 34, 35, 36, 37, 38, 39, 40, 41, 42, 43, 49, 50, 51, 52, 53], [0, 1, 2, 3, 4, 5, 6, 7, 8, 9, 10, 11, 12, 13, 14, 15, 16, 17, 18, 19, 20, 21, 22, 23, 24, 25, 26, 27, 28, 29, 30, 31, 32, 33, 34, 35, 36, 37, 38, 39, 40, 41, 42, 43, 49, 50, 51, 52, 53, 54], [0, 1, 2, 3, 4, 5, 6, 7, 8, 9, 10, 11, 12, 13, 14, 15, 16, 17, 18, 19, 20, 21, 22, 23, 24, 25, 26, 27, 28, 29, 30, 31, 32, 33, 34, 35, 36, 37, 38, 39, 40, 41, 42, 43, 44, 45, 46, 47, 48, 49, 50, 51, 52, 53, 54, 55], [0, 1, 2, 3, 4, 5, 6, 7, 8, 9, 10, 11, 12, 13, 14, 15, 16, 17, 18, 19, 20, 21, 22, 23, 24, 25, 26, 27, 28, 29, 30, 31, 32, 33, 34, 35, 36, 37, 38, 39, 40, 41, 42, 43, 44, 45, 46, 47, 48, 49, 50, 51, 52, 53, 54, 55, 56]] [(0, false, []), (1, false, []), (2, false, []), (3, false, []), (4, false, []), (5, false, []), (6, false, []), (7, false, []), (8, false, []), (9, false, []), (10, false, []), (11, false, []), (12, false, []), (13, false, []), (14, false, []), (15, false, []), (17, false, []), (18, false, []), (16, true, [18]), (19, false, []), (20, false, []), (21, false, []), (22, false, []), (23, false, []), (24, false, []), (25, false, []), (26, false, []), (27, false, []), (28, false, []), (29, false, []), (30, false, []), (31, false, []), (32, false, []), (33, false, []), (34, false, []), (35, false, []), (36, false, []), (37, false, []), (38, false, []), (39, false, []), (40, false, []), (41, false, []), (42, false, []), (43, false, []), (44, false, []), (45, false, []), (46, false, []), (47, false, []), (49, false, []), (50, false, []), (51, false, []), (52, false, []), (53, false, []), (54, false, []), (55, false, []), (48, true, [52, 55]), (56, false, []), (57, false, [])] ?_
  refine going ?_
  refine draw_op fun K hK => ?_; refine calls_to (hLen hH) ?_; rintro v A ⟨rfl, rfl⟩; (try simp only [List.nil_append, List.cons_append]); (repeat refine pend ?_); refine hK _ _ ?_; clear hK K
  (try simp only [oEs, oMark, oSer])
  refine going ?_
  refine draw_op fun K hK => ?_; refine calls_to (hSer hH) ?_; rintro v A ⟨rfl, rfl⟩; (try simp only [List.nil_append, List.cons_append]); (repeat refine pend ?_); refine hK _ _ ?_; clear hK K
  (try simp only [oEs, oMark, oSer])
  refine going ?_
  refine loop_i (fun q' D L S => ∃ i : Nat, i ≤ s.es.length ∧ q' = s.es.length - i ∧ D = [] ∧
    L = [(114, .int .i64 i), (113, .int .i64 s.es.length), (112, .slice xa s.es.length xc), (0, .pointer (some ⟨p, 0, none⟩))] ∧ S = [X, pB p (some ⟨q, 0, none⟩) (some ⟨r, 0, none⟩) aa n ac now, T, xN r s la s.es.length lc, Cl, F])
    ⟨0, by omega, rfl, rfl, rfl, rfl⟩ ?_
  rintro q' D L S ⟨i, hi, rfl, rfl, rfl, rfl⟩
  refine going ?_
  refine if_d (fun hc => ?_) (fun hc => ?_)
  · have hil : i < s.es.length := by omega
    have hx : s.es[i]? = some s.es[i] := List.getElem?_eq_getElem hil
    generalize s.es[i] = x at *
    refine going ?_
    refine run_op fun K hK => ?_; refine load_el_agg hX hl2 hx (by decide) (by (repeat (first | with_reducible assumption | with_reducible exact List.mem_cons_self .. | with_reducible apply List.mem_cons_of_mem))) ?_; refine hK _ _ ?_; clear hK K
    refine run_op fun K hK => ?_; refine alloc_as (encV v0).toArray rfl fun b7 => ?_; refine hK _ _ ?_; clear hK K
    refine going ?_
    refine run_op fun K hK => ?_; refine store_all (vs := listV x.2) rfl (cell_V x.2) (by (repeat (first | with_reducible exact Upd.one | with_reducible apply Upd.next))) (by rfl) ?_; refine hK _ _ ?_; clear hK K
    refine going ?_
    refine run_op fun K hK => ?_; refine load_el_agg ho hl hx (by decide) (by (repeat (first | with_reducible assumption | with_reducible exact List.mem_cons_self .. | with_reducible apply List.mem_cons_of_mem))) ?_; refine hK _ _ ?_; clear hK K
    refine run_op fun K hK => ?_; refine alloc_new fun b8 => ?_; (try simp only [Value.cells]); refine hK _ _ ?_; clear hK K
    refine run_op fun K hK => ?_; refine store_all (vs := encR x) rfl (cell_R1 x) (by (repeat (first | with_reducible exact Upd.one | with_reducible apply Upd.next))) (by rfl) ?_; refine hK _ _ ?_; clear hK K
    simp only [encR]
    refine going ?_
    exact again ⟨i + 1, by omega, rfl, rfl, rfl, rfl⟩
  · refine going ?_
    refine back_tmp [pB p (some ⟨q, 0, none⟩) (some ⟨r, 0, none⟩) aa n ac now, T, xN r s la s.es.length lc, Cl] ⟨rfl, rfl⟩

theorem same_spec {p : Nat} {sp xp aa : Option Addr} {n ac : Nat} {now : Int} {T U : Chunk} {st : Option NS} (hT : NHalf sp T st) (hU : RHalf xp U st) :
    Meets Try.prog 22 [.pointer (some ⟨p, 0, none⟩)] [pB p sp xp aa n ac now, T, U] fun v A => v = .bool true ∧ A = [pB p sp xp aa n ac now, T, U] := by
  rcases st with _ | s
  · obtain ⟨rfl, rfl⟩ := hT
    obtain ⟨rfl, rfl⟩ := hU
    refine Meets.conv [pB p none none aa n ac now] same_nil (by simp only [List.flatten_cons, List.flatten_nil, List.append_assoc, List.append_nil]) (by (repeat (first | with_reducible exact Take.nil _ | with_reducible exact Pick.head _ _ | with_reducible apply Pick.tail | with_reducible apply Take.cons))) ?_
    rintro v A ⟨rfl, rfl⟩
    exact ⟨[pB p none none aa n ac now, [], []], [pB p none none aa n ac now], by simp, by first | ((repeat (first | with_reducible exact Among.nil _ | with_reducible exact Pick.head _ _ | with_reducible apply Pick.tail | with_reducible apply Among.cons)); done) | ((repeat (first | exact Among.nil _ | exact Pick.head _ _ | apply Pick.tail | apply Among.cons)); done), rfl, rfl⟩
  · have hH := hT
    obtain ⟨q, b, T1, hs, _, rfl, rfl⟩ := hT
    obtain ⟨r, la, lc, Cl, _, ho, rfl, rfl⟩ := hU
    refine Meets.conv [pB p (some ⟨q, 0, none⟩) (some ⟨r, 0, none⟩) aa n ac now, nB q b s ++ T1, xN r s la s.es.length lc, Cl] (same_core hs hH ho) (by simp only [List.flatten_cons, List.flatten_nil, List.append_assoc, List.append_nil]) (by (repeat (first | with_reducible exact Take.nil _ | with_reducible exact Pick.head _ _ | with_reducible apply Pick.tail | with_reducible apply Take.cons))) ?_; rintro v A ⟨rfl, rfl⟩
    exact ⟨[pB p (some ⟨q, 0, none⟩) (some ⟨r, 0, none⟩) aa n ac now, nB q b s ++ T1, xN r s la s.es.length lc ++ Cl], [pB p (some ⟨q, 0, none⟩) (some ⟨r, 0, none⟩) aa n ac now, nB q b s ++ T1, xN r s la s.es.length lc, Cl], by simp only [List.flatten_cons, List.flatten_nil, List.append_assoc, List.append_nil], by first | ((repeat (first | with_reducible exact Among.nil _ | with_reducible exact Pick.head _ _ | with_reducible apply Pick.tail | with_reducible apply Among.cons)); done) | ((repeat (first | exact Among.nil _ | exact Pick.head _ _ | apply Pick.tail | apply Among.cons)); done), rfl, rfl⟩

end Go.Proofs.Ytbclecppjnlpmaa

/- The statement NoncePlays. Conditions: as each says. -/
set_option linter.unusedSimpArgs false
set_option linter.unusedVariables false
namespace Go.Proofs.Ytbclecppjnlpmaa
open Go Go.Ost Go.Tab Go.Sha

abbrev FKS : List FK := [.int .u8, .str, .int .u8, .bool, .int .u32, .int .u32, .int .u8]
theorem ops12_of {C : Chunk} : ∀ rows : List (List Value), (∀ r ∈ rows, RowW C FKS r) → ∃ ops : List Op12, rows = ops.map encO ∧ ∀ o ∈ ops, o.Ok
  | [], _ => ⟨[], rfl, by simp⟩
  | r :: rows, h => by
    obtain ⟨ops, e, ho⟩ := ops12_of rows fun x hx => h x (List.mem_cons_of_mem _ hx)
    have hr := h r (List.mem_cons_self ..)
    obtain ⟨x1, x2, x3, x4, x5, x6, x7, rfl⟩ : ∃ x1 x2 x3 x4 x5 x6 x7, r = [x1, x2, x3, x4, x5, x6, x7] := by
      rcases r with _ | ⟨x1, _ | ⟨x2, _ | ⟨x3, _ | ⟨x4, _ | ⟨x5, _ | ⟨x6, _ | ⟨x7, _ | ⟨x8, r⟩⟩⟩⟩⟩⟩⟩⟩
      · exact hr.elim
      · exact hr.2.elim
      · exact hr.2.2.elim
      · exact hr.2.2.2.elim
      · exact hr.2.2.2.2.elim
      · exact hr.2.2.2.2.2.elim
      · exact hr.2.2.2.2.2.2.elim
      · exact ⟨x1, x2, x3, x4, x5, x6, x7, rfl⟩
      · exact hr.2.2.2.2.2.2.2.elim
    obtain ⟨⟨d, rfl, hd⟩, ⟨t, rfl, _⟩, ⟨w, rfl, hw⟩, ⟨ow, rfl⟩, ⟨c, rfl, hc⟩, ⟨k, rfl, hk⟩, ⟨g, rfl, hg⟩, _⟩ := hr
    simp only [Lit.wf, Bool.and_eq_true, decide_eq_true_eq] at hd hw hc hk hg
    have hd2 : 0 ≤ d ∧ d ≤ 255 := ⟨hd.1, hd.2⟩
    have hw2 : 0 ≤ w ∧ w ≤ 255 := ⟨hw.1, hw.2⟩
    have hc2 : 0 ≤ c ∧ c ≤ 4294967295 := ⟨hc.1, hc.2⟩
    have hk2 : 0 ≤ k ∧ k ≤ 4294967295 := ⟨hk.1, hk.2⟩
    have hg2 : 0 ≤ g ∧ g ≤ 255 := ⟨hg.1, hg.2⟩
    refine ⟨⟨d, t, w, ow, c, k, g⟩ :: ops, by rw [e]; rfl, fun o ho' => ?_⟩
    rcases List.mem_cons.1 ho' with rfl | ho'
    · exact ⟨hd2.1, by show d < 256; omega, hw2.1, by show w < 256; omega, hc2.1, by show c < 4294967296; omega, hk2.1, by show k < 4294967296; omega, hg2.1, by show g < 256; omega⟩
    · exact ho o ho'
structure Script12 (C : Chunk) (v : Value) (ops : List Op12) : Prop where
  out : ∃ a cap, v = .slice a ops.length cap ∧ ops.length ≤ cap ∧ cap ≤ maxLen ∧ Rd 7 [C] a ops.length (ops.flatMap encO)
  ok : ∀ o ∈ ops, o.Ok
theorem script12_of {C : Chunk} {v : Value} {rows : List (List Value)} (h : RowsK C FKS v rows) : ∃ ops, Script12 C v ops := by
  obtain ⟨a, cap, rfl, h1, h2, h3, h4⟩ := h
  obtain ⟨ops, rfl, ho⟩ := ops12_of rows h4
  refine ⟨ops, ⟨a, cap, by simp, by simpa using h1, h2, ?_⟩, ho⟩
  simpa [List.flatMap_def] using h3

theorem doD_len (st : Option NS) (all : List (List UInt8)) (now : Int) (o : Op12) : (doD st all now o).2.length ≤ all.length + 1 := by
  unfold doD
  split
  · simp
  · split
    · simp
    · split
      · simp
      · split
        · simp
        · simp only; split <;> simp
theorem oSer_issue (st : Option NS) (d : List UInt8) (now : Int) : oSer (oIssue st d now).2 ≤ oSer st + 1 := by
  rcases st with _ | s
  · simp [oIssue, oSer]
  · exact issue_ser s d now
theorem doD_ser (st : Option NS) (all : List (List UInt8)) (now : Int) (o : Op12) : oSer (doD st all now o).1 ≤ oSer st + 1 := by
  unfold doD
  split
  · rcases st with _ | s
    · simp [oSpend, oSer]
    · show (spendN _ _ _).2.ser ≤ s.ser + 1; rw [spend_ser]; omega
  · split
    · rcases st with _ | s
      · simp [oUse, oSer]
      · show (useN _ _ _ _).2.ser ≤ s.ser + 1; rw [use_ser]; omega
    · split
      · rcases st with _ | s
        · simp [oSweep, oSer]
        · exact Nat.le_succ _
      · split
        · exact Nat.le_succ _
        · exact oSer_issue _ _ _

theorem right_spec (room win : Int) : Meets Try.prog 21 [.int .i64 room, .int .u64 win] [] fun v A => v = .bool (decide (1 ≤ room ∧ room ≤ 64 ∧ 1 ≤ win ∧ win ≤ 1099511627776)) ∧ A = [] := by
  refine spec_intro Try.func21 rfl (by kernel_rfl) (by rw [Try.ntmps21]; simp) fun F => ?_; rw [Try.ntmps21, Try.results21]
  refine going ?_
  by_cases h1 : 1 ≤ room
  · rw [decide_eq_true h1]
    refine going ?_
    by_cases h2 : room ≤ 64
    · rw [decide_eq_true h2]
      refine going ?_
      by_cases h3 : 1 ≤ win
      · rw [decide_eq_true h3]
        refine going ?_
        refine back_tmp [] ?_; exact ⟨by simp [h1, h2, h3], rfl⟩
      · rw [decide_eq_false h3]
        refine going ?_
        refine back_tmp [] ?_; exact ⟨by simp [h1, h2, h3], rfl⟩
    · rw [decide_eq_false h2]
      refine going ?_
      refine back_tmp [] ?_; exact ⟨by simp [h1, h2], rfl⟩
  · rw [decide_eq_false h1]
    refine going ?_
    refine back_tmp [] ?_; exact ⟨by simp [h1], rfl⟩

instance : TPlaces Try.prog 31 [(0, 1), (1, 1)] := ⟨by kernel_rfl⟩
instance : TPlaces Try.prog 59 [(0, 1), (1, 1), (2, 1), (3, 1), (4, 1), (5, 1), (6, 1)] := ⟨by kernel_rfl⟩
instance : TPlaces Try.prog 61 [(0, 1), (1, 1), (2, 1), (3, 1)] := ⟨by kernel_rfl⟩

set_option maxHeartbeats 2000000 in
theorem awake_spec : Meets Try.prog 7 [] [] fun v A => v = .bool true ∧ A = [] := by
  have k0 := ok_new (room := 1) (win := 5) (by decide) (by decide) (by decide) (by decide)
  have f1 : (issueN (ns0 1 5) [97] 0).1 = (nonN [97] 1, 0) := by kernel_rfl
  have g1 := issue_room (ns0 1 5) [97] 0
  have k1 := ok_issue k0 (by decide) [97] 0 (by decide)
  have f2 : (issueN (issueN (ns0 1 5) [97] 0).2 [98] 3).1.2 = 0 := by kernel_rfl
  have g2 := issue_room (issueN (ns0 1 5) [97] 0).2 [98] 3
  have q1 : (issueN (ns0 1 5) [97] 0).2.ser = 1 := by kernel_rfl
  have k2 := ok_issue k1 (by rw [q1]; decide) [98] 3 (by decide)
  have f3 : (issueN (issueN (ns0 1 5) [97] 0).2 [98] 3).2.mrk = true := by kernel_rfl
  have f4 : (issueN (issueN (ns0 1 5) [97] 0).2 [98] 3).2.mark = 0 := by kernel_rfl
  have f5 : (findN (issueN (issueN (ns0 1 5) [97] 0).2 [98] 3).2 (nonN [97] 1) 3).1 = 6 := by kernel_rfl
  have f6 : nonN [97] 1 = [97, 46, 48, 48, 48, 48, 48, 48, 48, 48, 48, 48, 48, 48, 48, 48, 48, 49] := by kernel_rfl
  refine spec_intro Try.func7 rfl (by kernel_rfl) (by rw [Try.ntmps7]; simp) fun F => ?_; rw [Try.ntmps7, Try.results7]
  refine going ?_
  refine run_op fun K hK => ?_; rw [build_struct (ps := [(0, .int .i64 1), (1, .int .u64 5)]) (cs := #[.int .i64 1, .int .u64 5]) rfl]; refine hK _ _ ?_; clear hK K
  refine run_op fun K hK => ?_; refine calls_to (nnew_yes 1 5 (by decide) (by decide) (by decide) (by decide)) ?_; rintro v A ⟨q, b, T, rfl, hT, rfl⟩; (try simp only [List.nil_append, List.cons_append]); refine hK _ _ ?_; clear hK K; refine going ?_
  have h1 := nissue_spec (q := q) k0 (by decide) hT [97] (by decide) 0 (by decide)
  rw [f1] at h1
  refine run_op fun K hK => ?_; refine calls_to (h1) ?_; rintro v A ⟨rfl, T1, hT1, rfl⟩; (try simp only [List.nil_append, List.cons_append]); refine hK _ _ ?_; clear hK K; refine going ?_
  generalize (issueN (ns0 1 5) [97] 0).2 = s1 at *
  have h2 := nissue_spec (q := q) k1 (by rw [q1]; decide) (by rw [g1]; exact hT1) [98] (by decide) 3 (by decide)
  rw [f2] at h2
  refine run_op fun K hK => ?_; refine calls_to (h2) ?_; rintro v A ⟨rfl, T2, hT2, rfl⟩; (try simp only [List.nil_append, List.cons_append]); refine hK _ _ ?_; clear hK K; refine going ?_
  have h3 := nmark_spec (b := b) (q := q) (issueN s1 [98] 3).2
  rw [f3, f4] at h3
  refine run_op fun K hK => ?_; refine calls_to (h3) ?_; rintro v A ⟨rfl, rfl⟩; (try simp only [List.nil_append, List.cons_append]); refine hK _ _ ?_; clear hK K; refine going ?_
  have h5 := ncheck_spec (q := q) k2 (by rw [g2]; exact hT2) (nonN [97] 1) 3 (by decide)
  rw [f5] at h5
  rw [f6] at h5 ⊢
  refine going ?_
  refine run_op fun K hK => ?_; refine calls_to (h5) ?_; rintro v A ⟨rfl, rfl⟩; (try simp only [List.nil_append, List.cons_append]); refine hK _ _ ?_; clear hK K; refine going ?_
  refine back_tmp [] ?_; exact ⟨rfl, rfl⟩

theorem nnew_one (room : Nat) (win : Int) (r1 : 1 ≤ room) (r2 : room ≤ 64) (w1 : 1 ≤ win) (w2 : win ≤ 1099511627776) : Meets Try.prog 8 [.agg #[.int .i64 room, .int .u64 win]] [] fun v A => ∃ q T, v = .tuple #[.pointer (some ⟨q, 0, none⟩), .int .i64 0] ∧ NHalf (some ⟨q, 0, none⟩) T (some (ns0 room win)) ∧ A = [T] := by
  refine Meets.conv [] (nnew_yes room win r1 r2 w1 w2) rfl (.nil _) ?_
  rintro v A ⟨q, b, T, rfl, hT, rfl⟩
  exact ⟨[nB q b (ns0 room win) ++ T], [nB q b (ns0 room win), T], by simp only [List.flatten_cons, List.flatten_nil, List.append_assoc, List.append_nil], by first | ((repeat (first | with_reducible exact Among.nil _ | with_reducible exact Pick.head _ _ | with_reducible apply Pick.tail | with_reducible apply Among.cons)); done) | ((repeat (first | exact Among.nil _ | exact Pick.head _ _ | apply Pick.tail | apply Among.cons)); done), q, _, rfl, ⟨q, b, T, ok_new r1 r2 w1 w2, hT, rfl, rfl⟩, rfl⟩

/-- How a script begins. -/
def NStart (B : Bool) (room win : Int) (pv : Option Addr) (e : Int) (T : Chunk) : Prop :=
  (B = true ∧ e = 0 ∧ ∃ k : Nat, room = k ∧ NOk (ns0 k win) ∧ NHalf pv T (some (ns0 k win)) ∧ ∃ q, pv = some ⟨q, 0, none⟩) ∨ (B = false ∧ pv = none ∧ e = 1 ∧ T = [])


set_option maxHeartbeats 4000000 in
theorem NoncePlays_law (C : Chunk) (_ : True) (none_ : Bool) (room : Int) (hroom : (Lit.int .i64 room).wf = true) (win : Int) (hwin : (Lit.int .u64 win).wf = true) (v : Value) (rows : List (List Value)) (hv : RowsK C FKS v rows) :
    Meets Try.prog 6 [.bool none_, .int .i64 room, .int .u64 win, v] [C] fun v A => v = .bool true ∧ A = [C] := by
  obtain ⟨ops, ⟨a, cap, rfl, hcap, hmax, hrd⟩, hops⟩ := script12_of hv
  obtain ⟨B, hB⟩ : ∃ B : Bool, decide (1 ≤ room ∧ room ≤ 64 ∧ 1 ≤ win ∧ win ≤ 1099511627776) = B := ⟨_, rfl⟩
  have hs := encO_len
  refine spec_intro Try.func6 rfl (by kernel_rfl) (by rw [Try.ntmps6]; simp) fun F => ?_; rw [Try.ntmps6, Try.results6]
  (with_reducible refine code_seq ?_); refine then_mid (fun D L S => D = [] ∧ L = [(0, .bool none_), (1, .int .i64 room), (2, .int .u64 win), (3, .slice a ops.length cap)] ∧ S = [F, C]) ?_ ?_
  · refine going ?_
    exact mid ⟨rfl, rfl, rfl⟩
  rintro D L S ⟨rfl, rfl, rfl⟩
  (with_reducible refine code_seq ?_); refine then_mid (fun D L S => D = [] ∧ L = [(0, .bool none_), (1, .int .i64 room), (2, .int .u64 win), (3, .slice a ops.length cap)] ∧ S = [F, C]) ?_ ?_
  · refine going ?_
    refine run_op fun K hK => ?_; refine calls_to (awake_spec) ?_; rintro v A ⟨rfl, rfl⟩; (try simp only [List.nil_append, List.cons_append]); refine hK _ _ ?_; clear hK K; refine going ?_
    exact mid ⟨rfl, rfl, rfl⟩
  rintro D L S ⟨rfl, rfl, rfl⟩
  (with_reducible refine code_seq ?_); refine then_mid (fun D L S => ∃ (pv : Option Addr) (e : Int) (T : Chunk), NStart B room win pv e T ∧ D = [] ∧ L = [(9, .pointer pv), (10, .int .i64 e), (0, .bool none_), (1, .int .i64 room), (2, .int .u64 win), (3, .slice a ops.length cap)] ∧ S = [T, F, C]) ?_ ?_
  · cases hBc : B with
    | true =>
      rw [hBc] at hB
      have hb := of_decide_eq_true hB
      obtain ⟨k, hk⟩ : ∃ k : Nat, room = k := ⟨room.toNat, by omega⟩
      subst hk
      have hok := ok_new (room := k) (win := win) (by omega) (by omega) (by omega) (by omega)
      refine going ?_
      refine run_op fun K hK => ?_; rw [build_struct (ps := [(0, .int .i64 k), (1, .int .u64 win)]) (cs := #[.int .i64 k, .int .u64 win]) rfl]; refine hK _ _ ?_; clear hK K
      refine run_op fun K hK => ?_; refine calls_to (nnew_one k win (by omega) (by omega) (by omega) (by omega)) ?_; rintro v A ⟨q, T, rfl, hT, rfl⟩; (try simp only [List.nil_append, List.cons_append]); refine hK _ _ ?_; clear hK K; refine going ?_
      exact mid ⟨some ⟨q, 0, none⟩, 0, T, .inl ⟨rfl, rfl, k, rfl, hok, hT, q, rfl⟩, rfl, rfl, rfl⟩
    | false =>
      rw [hBc] at hB
      refine code_nil ?_
      refine going ?_
      refine run_op fun K hK => ?_; rw [build_struct (ps := [(0, .int .i64 room), (1, .int .u64 win)]) (cs := #[.int .i64 room, .int .u64 win]) rfl]; refine hK _ _ ?_; clear hK K
      refine run_op fun K hK => ?_; refine calls_to (nnew_no room win (of_decide_eq_false hB)) ?_; rintro v A ⟨rfl, rfl⟩; (try simp only [List.nil_append, List.cons_append]); refine hK _ _ ?_; clear hK K; refine going ?_
      exact mid ⟨none, 1, [], .inr ⟨rfl, rfl, rfl, rfl⟩, rfl, rfl, rfl⟩
  rintro D L S ⟨pv, e, T, hS, rfl, rfl, rfl⟩
  (with_reducible refine code_seq ?_); refine then_mid (fun D L S => D = [] ∧ L = [(11, .bool B), (9, .pointer pv), (10, .int .i64 e), (0, .bool none_), (1, .int .i64 room), (2, .int .u64 win), (3, .slice a ops.length cap)] ∧ S = [T, F, C]) ?_ ?_
  · refine going ?_
    have hr := right_spec room win
    rw [hB] at hr
    refine run_op fun K hK => ?_; refine calls_to (hr) ?_; rintro v A ⟨rfl, rfl⟩; (try simp only [List.nil_append, List.cons_append]); refine hK _ _ ?_; clear hK K; refine going ?_
    exact mid ⟨rfl, rfl, rfl⟩
  rintro D L S ⟨rfl, rfl, rfl⟩
  (with_reducible refine code_seq ?_); refine then_mid (fun D L S => D = [] ∧ L = [(11, .bool B), (9, .pointer pv), (0, .bool none_), (1, .int .i64 room), (2, .int .u64 win), (3, .slice a ops.length cap)] ∧ S = [T, F, C]) ?_ ?_
  · rcases hS with ⟨hBt, rfl, k, rfl, hok, hH, q, rfl⟩ | ⟨hBt, rfl, rfl, rfl⟩
    · rw [hBt]
      refine going ?_
      (try rw [show (false == true) = false from rfl])
      (try refine going ?_)
      exact mid ⟨rfl, rfl, rfl⟩
    · rw [hBt]
      refine going ?_
      (try rw [show (true == false) = false from rfl])
      (try refine going ?_)
      exact mid ⟨rfl, rfl, rfl⟩
  rintro D L S ⟨rfl, rfl, rfl⟩
  (with_reducible refine code_seq ?_); refine then_mid (fun D L S => ∃ rb pb : Nat, D = [] ∧ L = [(12, .pointer (some ⟨pb, 0, none⟩)), (11, .bool B), (0, .bool none_), (3, .slice a ops.length cap)] ∧
    S = [pB pb pv (some ⟨rb, 0, none⟩) none 0 0 0, [(rb, .cells #[.int .i64 room, .int .u64 win, .slice none 0 0, .int .u64 0, .int .u64 0, .int .u64 0, .bool false] 59 (0, 0))], T, F, C]) ?_ ?_
  · refine going ?_
    refine run_op fun K hK => ?_; rw [build_struct (ps := [(0, .int .i64 room), (1, .int .u64 win)]) (cs := #[.int .i64 room, .int .u64 win, .slice none 0 0, .int .u64 0, .int .u64 0, .int .u64 0, .bool false]) rfl]; refine hK _ _ ?_; clear hK K
    refine going ?_
    refine run_op fun K hK => ?_; refine box_new fun rb => ?_; (try simp only [Value.cells]); refine hK _ _ ?_; clear hK K
    refine going ?_
    refine run_op fun K hK => ?_; rw [build_struct (ps := [(0, .pointer pv), (1, .pointer (some ⟨rb, 0, none⟩))]) (cs := #[.pointer pv, .pointer (some ⟨rb, 0, none⟩), .slice none 0 0, .int .u64 0]) rfl]; refine hK _ _ ?_; clear hK K
    refine going ?_
    refine run_op fun K hK => ?_; refine box_new fun pb => ?_; (try simp only [Value.cells]); refine hK _ _ ?_; clear hK K
    refine going ?_
    exact mid ⟨rb, pb, rfl, rfl, rfl⟩
  rintro D L S ⟨rb, pb, rfl, rfl, rfl⟩
  (with_reducible refine code_seq ?_); refine then_mid (fun D L S => ∃ (sp xp : Option Addr) (T U CA : Chunk) (st : Option NS), oSer st = 0 ∧ NHalf sp T st ∧ RHalf xp U st ∧ OwnS CA none 0 [] ∧ D = [] ∧ L = [(12, .pointer (some ⟨pb, 0, none⟩)), (3, .slice a ops.length cap)] ∧
    S = [pB pb sp xp none 0 0 0, CA, T, U, F, C]) ?_ ?_
  · rcases hS with ⟨hBt, _, k, rfl, hok, hH, q, rfl⟩ | ⟨hBt, rfl, _, rfl⟩
    · rw [hBt]
      cases none_ with
      | true =>
        refine code_nil ?_
        refine code_nil ?_
        refine code_nil ?_
        refine going ?_
        exact mid ⟨none, none, [], [], [], none, rfl, ⟨rfl, rfl⟩, ⟨rfl, rfl⟩, own_nil, rfl, rfl, rfl⟩
      | false =>
        refine code_nil ?_
        refine going ?_
        exact mid ⟨some ⟨q, 0, none⟩, some ⟨rb, 0, none⟩, T, _, [], some (ns0 k win), rfl, hH, ⟨rb, none, 0, [], hok, own_nil, rfl, rfl⟩, own_nil, rfl, rfl, rfl⟩
    · rw [hBt]
      refine code_nil ?_
      refine code_nil ?_
      refine code_nil ?_
      cases none_ with
      | true =>
        refine going ?_
        exact mid ⟨none, none, [], [], [], none, rfl, ⟨rfl, rfl⟩, ⟨rfl, rfl⟩, own_nil, rfl, rfl, rfl⟩
      | false =>
        refine going ?_
        exact mid ⟨none, none, [], [], [], none, rfl, ⟨rfl, rfl⟩, ⟨rfl, rfl⟩, own_nil, rfl, rfl, rfl⟩
  rintro D L S ⟨sp, xp, T, U, CA, st, hser, hT, hU, hCA, rfl, rfl, rfl⟩
  refine going ?_
  refine loop_i (fun q D L S => ∃ (i : Nat) (all : List (List UInt8)) (aa : Option Addr) (ac : Nat) (CA T U : Chunk) (st : Option NS) (now : Int), i ≤ ops.length ∧ i ≤ 50 ∧ all.length ≤ i ∧ oSer st ≤ i ∧ 0 ≤ now ∧ now ≤ 100 * i ∧ OwnS CA aa ac all ∧ NHalf sp T st ∧ RHalf xp U st ∧ q = ops.length - i ∧ D = [] ∧
    L = [(65, .int .i64 i), (64, .int .i64 ops.length), (63, .slice a ops.length cap), (12, .pointer (some ⟨pb, 0, none⟩))] ∧ S = [pB pb sp xp aa all.length ac now, CA, T, U, F, C])
    ⟨0, [], none, 0, CA, T, U, st, 0, by omega, by omega, by simp, by omega, by omega, by omega, hCA, hT, hU, rfl, rfl, rfl, rfl⟩ ?_
  rintro q D L S ⟨i, all, aa, ac, CA, T, U, st, now, hi, hi50, hal, hser, hn0, hn1, hCA, hT, hU, rfl, rfl, rfl, rfl⟩
  refine going ?_
  refine if_d (fun hc => ?_) (fun hc => ?_)
  · have hil : i < ops.length := by omega
    have hx : ops[i]? = some ops[i] := List.getElem?_eq_getElem hil
    have hok := hops _ (List.getElem_mem hil)
    generalize ops[i] = o at *
    refine going ?_
    refine run_op fun K hK => ?_; rw [el_at hrd (by omega) (by omega) (by decide), Int.toNat_natCast]; refine hK _ _ ?_; clear hK K
    refine run_op fun K hK => ?_; refine load_rd_agg hrd hs hx (by decide) (by (repeat (first | with_reducible assumption | with_reducible exact List.mem_cons_self .. | with_reducible apply List.mem_cons_of_mem))) ?_; refine hK _ _ ?_; clear hK K
    refine run_op fun K hK => ?_; refine alloc_new fun b14 => ?_; (try simp only [Value.cells]); refine hK _ _ ?_; clear hK K
    refine going ?_
    refine run_op fun K hK => ?_; refine store_all rfl (cell_O o) (by (repeat (first | with_reducible exact Upd.one | with_reducible apply Upd.next))) (by rfl) ?_; refine hK _ _ ?_; clear hK K
    refine going ?_
    refine if_d (fun hc => ?_) (fun hc => ?_)
    · refine going ?_
      refine back_tmp [C] ?_; exact ⟨rfl, rfl⟩
    · have hl2 := doD_len st all now o
      have hs2 := doD_ser st all now o
      have hnw : 0 ≤ nowD now o ∧ nowD now o ≤ now + 100 := by have := hok.t0; unfold nowD; omega
      refine going ?_
      refine run_op fun K hK => ?_; refine load_all (vs := encO o) (by (repeat (first | with_reducible exact Lies.one | with_reducible apply Lies.next))) rfl ?_; refine hK _ _ ?_; clear hK K
      refine run_op fun K hK => ?_; refine calls_to (do_spec (by omega) (by omega) hn0 (by omega) hCA hT hU o hok) ?_; rintro v A ⟨rfl, aa', ac', CA', T', U', hCA', hT', hU', rfl⟩; (try simp only [List.nil_append, List.cons_append]); refine hK _ _ ?_; clear hK K; refine going ?_
      refine run_op fun K hK => ?_; refine calls_to (same_spec hT' hU') ?_; rintro v A ⟨rfl, rfl⟩; (try simp only [List.nil_append, List.cons_append]); refine hK _ _ ?_; clear hK K; refine going ?_
      exact again ⟨i + 1, (doD st all now o).2, aa', ac', CA', T', U', (doD st all now o).1, nowD now o, by omega, by omega, by omega, by omega, by omega, by omega, hCA', hT', hU', rfl, rfl, rfl, rfl⟩
  · refine going ?_
    refine back_tmp [C] ?_; exact ⟨rfl, rfl⟩

end Go.Proofs.Ytbclecppjnlpmaa

/- The statement NonceRoom. Conditions: as each says. -/
set_option linter.unusedSimpArgs false
set_option linter.unusedVariables false
namespace Go.Proofs.Ytbclecppjnlpmaa
open Go Go.Ost Go.Tab Go.Sha

/-! ### Nobody is ahead of now -/

def oRoom (st : Option NS) : Nat := match st with
  | none => 0
  | some s => s.room
def oWin (st : Option NS) : Int := match st with
  | none => 0
  | some s => s.win
def past (st : Option NS) (now : Int) : Prop := ∀ x ∈ oEs st, x.2.at_ ≤ now
theorem past_le {st : Option NS} {a b : Int} (h : past st a) (hab : a ≤ b) : past st b := fun x hx => Int.le_trans (h x hx) hab
theorem mput_at {es : Es} {n : List UInt8} {w v : V} {now : Int} (hm : mget es n = some v) (hw : w.at_ = v.at_) (h : ∀ x ∈ es, x.2.at_ ≤ now) : ∀ x ∈ mput es n w, x.2.at_ ≤ now := by
  obtain ⟨pre, post, e1, e2, _, _⟩ := mget_split hm
  intro x hx
  rw [e2] at hx
  rw [e1] at h
  rcases List.mem_append.1 hx with hx | hx
  · exact h x (by simp [hx])
  · rcases List.mem_cons.1 hx with rfl | hx
    · have := h (n, v) (by simp)
      show w.at_ ≤ now; rw [hw]; exact this
    · exact h x (by simp [hx])
theorem past_spend {st : Option NS} {now : Int} (h : past st now) (n : List UInt8) (t : Int) : past (oSpend st n t).2 now := by
  rcases st with _ | s
  · exact h
  · show ∀ x ∈ (spendN s n t).2.es, _
    rcases find_cases s n t with ⟨e, _⟩ | ⟨v, hm, ⟨e, _⟩ | ⟨e, _⟩⟩
    · rw [spend_no e (by decide)]; exact h
    · rw [spend_no e (by decide)]; exact h
    · rw [spend_of e]; split
      · exact h
      · exact mput_at hm rfl h
theorem past_use {st : Option NS} {now : Int} (h : past st now) (n : List UInt8) (c t : Int) : past (oUse st n c t).2 now := by
  rcases st with _ | s
  · exact h
  · show ∀ x ∈ (useN s n c t).2.es, _
    rcases find_cases s n t with ⟨e, _⟩ | ⟨v, hm, ⟨e, _⟩ | ⟨e, _⟩⟩
    · rw [use_no e (by decide)]; exact h
    · rw [use_no e (by decide)]; exact h
    · rw [use_of e]; split
      · exact h
      · split
        · exact h
        · exact mput_at hm rfl h
theorem past_sweep {st : Option NS} {now : Int} (h : past st now) (t : Int) : past (oSweep st t).2 now := by
  rcases st with _ | s
  · exact h
  · exact fun x hx => h x (List.mem_filter.1 hx).1
theorem room_sub (s : NS) (now : Int) : ∀ x ∈ (roomN s now).es, x ∈ s.es := by
  unfold roomN
  split
  · split
    · exact fun x hx => (List.mem_filter.1 hx).1
    · unfold dropN
      split
      · exact fun x hx => hx
      · rename_i y es h
        intro x hx
        rw [h]; exact List.mem_cons_of_mem _ hx
  · exact fun x hx => hx
theorem past_issue {st : Option NS} {now : Int} (h : past st now) (d : List UInt8) : past (oIssue st d now).2 now := by
  rcases st with _ | s
  · exact h
  · show ∀ x ∈ (issueN s d now).2.es, _
    unfold issueN
    split
    · exact h
    · split
      · exact h
      · split
        · exact h
        · intro x hx
          rcases List.mem_append.1 hx with hx | hx
          · exact h x (room_sub s now x hx)
          · rw [List.mem_singleton.1 hx]; exact Int.le_refl _
theorem at_back {o : Op12} (hb : o.back = 0) {now : Int} (hn : 0 ≤ nowD now o) : atD now o = nowD now o := by
  unfold atD; rw [hb]; split <;> omega
theorem past_do {st : Option NS} {now : Int} (h : past st now) (all : List (List UInt8)) {o : Op12} (hb : o.back = 0) (hn : 0 ≤ nowD now o) (hle : now ≤ nowD now o) : past (doD st all now o).1 (nowD now o) := by
  have h' := past_le h hle
  have hat := at_back hb hn
  unfold doD
  split
  · exact past_spend h' _ _
  · split
    · exact past_use h' _ _ _
    · split
      · exact past_sweep h' _
      · split
        · exact h'
        · rw [hat]; exact past_issue h' _
theorem oRoom_do (st : Option NS) (all : List (List UInt8)) (now : Int) (o : Op12) : oRoom (doD st all now o).1 = oRoom st := by
  unfold doD
  rcases st with _ | s
  · split
    · rfl
    · split
      · rfl
      · split
        · rfl
        · split <;> rfl
  · split
    · exact spend_room s _ _
    · split
      · exact use_room s _ _ _
      · split
        · rfl
        · split
          · rfl
          · exact issue_room s _ _
theorem some_do (s : NS) (all : List (List UInt8)) (now : Int) (o : Op12) : ∃ s', (doD (some s) all now o).1 = some s' := by
  unfold doD
  split
  · exact ⟨_, rfl⟩
  · split
    · exact ⟨_, rfl⟩
    · split
      · exact ⟨_, rfl⟩
      · split <;> exact ⟨_, rfl⟩

/-- What a sweep leaves may be used. -/
theorem kept_ok {s : NS} (hs : NOk s) {now : Int} (hp : past (some s) now) (hnd : (s.es.map (·.1)).Nodup) : ∀ x ∈ (sweepN s now).2.es, (findN (sweepN s now).2 x.2.non now).1 = 0 := by
  intro x hx
  have hx' : x ∈ s.es.filter fun x => !oldB s now x := hx
  obtain ⟨h1, h2⟩ := List.mem_filter.1 hx'
  have hkey := (hs.en x h1).key
  have hat := hp x h1
  have hnd2 : ((sweepN s now).2.es.map (·.1)).Nodup := (List.filter_sublist.map _).nodup hnd
  obtain ⟨k, v⟩ := x
  simp only at hkey hat h2
  subst hkey
  have hm : mget (sweepN s now).2.es v.non = some v := by
    obtain ⟨pre, post, e⟩ := List.append_of_mem hx
    rw [e] at hnd2 ⊢
    exact (mdel_mid pre post hnd2).2
  have hold : oldB s now (v.non, v) = false := by simpa using h2
  have hl : lateB (sweepN s now).2 now v = false := by
    have e1 : oldB s now (v.non, v) = (decide (v.at_ < now) && decide (s.win < now - v.at_) || (s.mrk && decide (v.at_ ≤ s.mark))) := rfl
    have e2 : lateB (sweepN s now).2 now v = (!decide (v.at_ ≤ now ∧ now - v.at_ ≤ s.win) || (s.mrk && decide (v.at_ ≤ s.mark))) := rfl
    have hw := hs.w1
    rw [e1] at hold
    rw [e2]
    rw [Bool.or_eq_false_iff] at hold ⊢
    refine ⟨?_, hold.2⟩
    have h3 := hold.1
    rw [decide_eq_true (show v.at_ ≤ now ∧ now - v.at_ ≤ s.win from by
      refine ⟨hat, ?_⟩
      rw [Bool.and_eq_false_iff] at h3
      rcases h3 with h3 | h3
      · have := of_decide_eq_false h3; omega
      · have := of_decide_eq_false h3; omega)]
    rfl
  unfold findN
  rw [hm]
  simp only [hl]
  rfl
/-- A second sweep finds nothing. -/
theorem again_none (s : NS) (now : Int) : (sweepN (sweepN s now).2 now).1 = 0 := by
  show (((s.es.filter fun x => !oldB s now x).filter (oldB (sweepN s now).2 now)).length : Int) = 0
  have e : oldB (sweepN s now).2 now = oldB s now := rfl
  rw [e, List.filter_filter]
  have : (s.es.filter fun a => oldB s now a && !oldB s now a) = [] := by
    rw [List.filter_eq_nil_iff]; intro x _; cases oldB s now x <;> simp
  rw [this]; rfl

theorem wf_u8 {r : Int} (hr : (Lit.int .u8 r).wf = true) : 0 ≤ r ∧ r ≤ 255 := by
  simp only [Lit.wf, Bool.and_eq_true, decide_eq_true_eq] at hr; exact ⟨hr.1, hr.2⟩
theorem wf_u16 {r : Int} (hr : (Lit.int .u16 r).wf = true) : 0 ≤ r ∧ r ≤ 65535 := by
  simp only [Lit.wf, Bool.and_eq_true, decide_eq_true_eq] at hr; exact ⟨hr.1, hr.2⟩
theorem keys_of {sp : Option Addr} {T : Chunk} {s : NS} (h : NHalf sp T (some s)) : (s.es.map (·.1)).Nodup := by
  obtain ⟨q, b, T1, hs, hT, rfl, rfl⟩ := h
  exact hT.keys

set_option maxHeartbeats 4000000 in
theorem NonceRoom_law (C : Chunk) (_ : True) (rr : Int) (hrr : (Lit.int .u8 rr).wf = true) (ww : Int) (hww : (Lit.int .u16 ww).wf = true) (v : Value) (rows : List (List Value)) (hv : RowsK C FKS v rows) :
    Meets Try.prog 5 [.int .u8 rr, .int .u16 ww, v] [C] fun v A => v = .bool true ∧ A = [C] := by
  obtain ⟨ops, ⟨a, cap, rfl, hcap, hmax, hrd⟩, hops⟩ := script12_of hv
  have hr0 := wf_u8 hrr
  have hw0 := wf_u16 hww
  have hs := encO_len
  have hq := encQ_len
  obtain ⟨k, hk, hk1, hk2⟩ : ∃ k : Nat, 1 + rr % 6 = k ∧ 1 ≤ k ∧ k ≤ 64 := ⟨(1 + rr % 6).toNat, by omega, by omega, by omega⟩
  obtain ⟨win, hwn, hw1, hw2⟩ : ∃ win : Int, 1 + ww % 300 = win ∧ 1 ≤ win ∧ win ≤ 1099511627776 := ⟨_, rfl, by omega, by omega⟩
  refine spec_intro Try.func5 rfl (by kernel_rfl) (by rw [Try.ntmps5]; simp) fun F => ?_; rw [Try.ntmps5, Try.results5]
  refine going ?_
  refine run_op fun K hK => ?_; refine calls_to (awake_spec) ?_; rintro v A ⟨rfl, rfl⟩; (try simp only [List.nil_append, List.cons_append]); refine hK _ _ ?_; clear hK K; refine going ?_
  rw [hk, hwn]
  refine run_op fun K hK => ?_; rw [build_struct (ps := [(0, .int .i64 k), (1, .int .u64 win)]) (cs := #[.int .i64 k, .int .u64 win, .slice none 0 0, .int .u64 0, .int .u64 0, .int .u64 0, .bool false]) rfl]; refine hK _ _ ?_; clear hK K
  refine going ?_
  refine run_op fun K hK => ?_; refine box_new fun rb => ?_; (try simp only [Value.cells]); refine hK _ _ ?_; clear hK K
  refine going ?_
  refine run_op fun K hK => ?_; rw [build_struct (ps := [(1, .pointer (some ⟨rb, 0, none⟩))]) (cs := #[.pointer none, .pointer (some ⟨rb, 0, none⟩), .slice none 0 0, .int .u64 0]) rfl]; refine hK _ _ ?_; clear hK K
  refine going ?_
  refine run_op fun K hK => ?_; refine box_new fun pb => ?_; (try simp only [Value.cells]); refine hK _ _ ?_; clear hK K
  refine going ?_
  refine run_op fun K hK => ?_; rw [build_struct (ps := [(0, .int .i64 k), (1, .int .u64 win)]) (cs := #[.int .i64 k, .int .u64 win]) rfl]; refine hK _ _ ?_; clear hK K
  refine run_op fun K hK => ?_; refine calls_to (nnew_one k win hk1 hk2 hw1 hw2) ?_; rintro v A ⟨q, T, rfl, hT, rfl⟩; (try simp only [List.nil_append, List.cons_append]); refine hK _ _ ?_; clear hK K; refine going ?_
  refine code_nil ?_
  refine block_mid (fun D L S => ∃ (all : List (List UInt8)) (aa : Option Addr) (ac : Nat) (CA T U : Chunk) (s : NS) (now : Int), now ≤ 6000 ∧ past (some s) now ∧ OwnS CA aa ac all ∧ NHalf (some ⟨q, 0, none⟩) T (some s) ∧ D = [] ∧ L = [(9, .pointer (some ⟨pb, 0, none⟩))] ∧
    S = [pB pb (some ⟨q, 0, none⟩) (some ⟨rb, 0, none⟩) aa all.length ac now, CA, T, U, F, C]) ?_ ?_
  · refine loop_i (fun q' D L S => ∃ (i : Nat) (all : List (List UInt8)) (aa : Option Addr) (ac : Nat) (CA T U : Chunk) (s : NS) (now : Int), i ≤ ops.length ∧ i ≤ 50 ∧ all.length ≤ i ∧ s.ser ≤ i ∧ s.room = k ∧ 0 ≤ now ∧ now ≤ 100 * i ∧ past (some s) now ∧ OwnS CA aa ac all ∧ NHalf (some ⟨q, 0, none⟩) T (some s) ∧ RHalf (some ⟨rb, 0, none⟩) U (some s) ∧ q' = ops.length - i ∧ D = [] ∧
      L = [(46, .int .i64 i), (45, .int .i64 ops.length), (44, .slice a ops.length cap), (9, .pointer (some ⟨pb, 0, none⟩)), (7, .int .i64 k)] ∧ S = [pB pb (some ⟨q, 0, none⟩) (some ⟨rb, 0, none⟩) aa all.length ac now, CA, T, U, F, C])
      ⟨0, [], none, 0, [], T, _, ns0 k win, 0, by omega, by omega, by simp, Nat.le_refl _, rfl, by omega, by omega, (fun x hx => by cases hx), own_nil, hT, ⟨rb, none, 0, [], ok_new hk1 hk2 hw1 hw2, own_nil, rfl, rfl⟩, rfl, rfl, rfl, rfl⟩ ?_
    rintro q' D L S ⟨i, all, aa, ac, CA, T, U, s, now, hi, hi50, hal, hser, hroom, hn0, hn1, hpast, hCA, hT, hU, rfl, rfl, rfl, rfl⟩
    refine going ?_
    refine if_d (fun hc => ?_) (fun hc => ?_)
    · have hil : i < ops.length := by omega
      have hx : ops[i]? = some ops[i] := List.getElem?_eq_getElem hil
      have hok := hops _ (List.getElem_mem hil)
      generalize ops[i] = o at *
      refine going ?_
      refine run_op fun K hK => ?_; rw [el_at hrd (by omega) (by omega) (by decide), Int.toNat_natCast]; refine hK _ _ ?_; clear hK K
      refine run_op fun K hK => ?_; refine load_rd_agg hrd hs hx (by decide) (by (repeat (first | with_reducible assumption | with_reducible exact List.mem_cons_self .. | with_reducible apply List.mem_cons_of_mem))) ?_; refine hK _ _ ?_; clear hK K
      refine run_op fun K hK => ?_; refine alloc_new fun b12 => ?_; (try simp only [Value.cells]); refine hK _ _ ?_; clear hK K
      refine going ?_
      refine run_op fun K hK => ?_; refine store_all rfl (cell_O o) (by (repeat (first | with_reducible exact Upd.one | with_reducible apply Upd.next))) (by rfl) ?_; refine hK _ _ ?_; clear hK K
      simp only [encO]
      refine going ?_
      refine if_d (fun hc => ?_) (fun hc => ?_)
      · refine going ?_
        exact mid ⟨all, aa, ac, CA, T, U, s, now, by omega, hpast, hCA, hT, rfl, rfl, rfl⟩
      · obtain ⟨h1, h2, h3, h4, h5, h6, h7, h8, h9, h10⟩ := hok
        have hok' : Op12.Ok { o with back := 0 } := ⟨h1, h2, h3, h4, h5, h6, h7, h8, by show (0 : Int) ≤ 0; omega, by show (0 : Int) < 256; omega⟩
        have hnw : now ≤ nowD now { o with back := 0 } ∧ nowD now { o with back := 0 } ≤ now + 100 := by unfold nowD; simp only; omega
        have hl2 := doD_len (some s) all now { o with back := 0 }
        have hs2 := doD_ser (some s) all now { o with back := 0 }
        have hr2 := oRoom_do (some s) all now { o with back := 0 }
        have hp2 := past_do hpast all (o := { o with back := 0 }) rfl (by omega) hnw.1
        obtain ⟨s', hs'⟩ := some_do s all now { o with back := 0 }
        have hdo := do_spec (p := pb) (by omega) (show oSer (some s) < 1000 by show s.ser < 1000; omega) hn0 (by omega) hCA hT hU { o with back := 0 } hok'
        rw [hs'] at hdo hs2 hr2 hp2
        simp only [oSer, oRoom] at hs2 hr2
        generalize (doD (some s) all now { o with back := 0 }).2 = all' at *
        generalize nowD now { o with back := 0 } = now' at *
        refine going ?_
        refine run_op fun K hK => ?_; refine load_all (vs := [.int .u8 o.d, .string (str o.text), .int .u8 o.which, .bool o.own, .int .u32 o.count, .int .u32 o.ticks, .int .u8 0]) (by (repeat (first | with_reducible exact Lies.one | with_reducible apply Lies.next))) rfl ?_; refine hK _ _ ?_; clear hK K
        refine run_op fun K hK => ?_; refine calls_to (hdo) ?_; rintro v A ⟨rfl, aa', ac', CA', T', U', hCA', hT', hU', rfl⟩; (try simp only [List.nil_append, List.cons_append]); refine hK _ _ ?_; clear hK K; refine going ?_
        have hfit : s'.es.length ≤ s'.room := by obtain ⟨_, _, _, hok, _⟩ := hT'; exact hok.fit
        have hlen := hLen hT'
        refine run_op fun K hK => ?_; refine calls_to (hlen) ?_; rintro v A ⟨rfl, rfl⟩; (try simp only [List.nil_append, List.cons_append]); refine hK _ _ ?_; clear hK K; refine going ?_
        rw [decide_eq_false (show ¬ (k : Int) < (oEs (some s')).length by show ¬ (k : Int) < (s'.es.length : Nat); omega)]
        refine going ?_
        exact again ⟨i + 1, all', aa', ac', CA', T', U', s', now', by omega, by omega, by omega, by omega, by omega, by omega, by omega, hp2, hCA', hT', hU', rfl, rfl, rfl, rfl⟩
    · refine going ?_
      exact mid ⟨all, aa, ac, CA, T, U, s, now, by omega, hpast, hCA, hT, rfl, rfl, rfl⟩
  rintro D L S ⟨all, aa, ac, CA, T, U, s, now, hn1, hpast, hCA, hT, rfl, rfl, rfl⟩
  have hsok : NOk s := by obtain ⟨_, _, _, hok, _⟩ := hT; exact hok
  have hkept := kept_ok hsok hpast (keys_of hT)
  have hag := again_none s now
  have hs1 := ok_sweep hsok now
  have hn2 : now < 18446744073709551616 := by omega
  have hsw1 : Meets Try.prog 17 [.pointer (some ⟨q, 0, none⟩), .int .u64 now] [T] fun v A => v = .int .i64 (sweepN s now).1 ∧ ∃ T', NHalf (some ⟨q, 0, none⟩) T' (some (sweepN s now).2) ∧ A = [T'] := hSweep hT now hn2
  refine going ?_
  refine code_dr [[], [0], [0, 1], [0, 1, 2], [], [4], [4, 5], [4, 5, 6], [0, 1, 2, 3, 4, 5, 6, 7]] [(0, false, []), (1, false, []), (2, false, []), (3, false, []), (4, false, []), (5, false, []), (6, false, []), (7, false, []), (8, true, [])] ?_
  refine going ?_
  refine draw_op fun K hK => ?_; refine calls_to (hsw1) ?_; rintro v A ⟨rfl, T1, hT1, rfl⟩; (try simp only [List.nil_append, List.cons_append]); (repeat refine pend ?_); refine hK _ _ ?_; clear hK K
  generalize (sweepN s now).2 = s1 at *
  have hle1 : s1.es.length ≤ 64 := by have := hs1.fit; have := hs1.r2; omega
  have hen := hEntries hT1 1000 (by decide)
  rw [show (oEs (some s1)).take 1000 = s1.es from List.take_of_length_le (by show s1.es.length ≤ 1000; omega), show ((1000 : Nat) : Int) = 1000 from rfl] at hen
  have hen2 := hEntries hT1 2 (by decide)
  rw [show ((2 : Nat) : Int) = 2 from rfl] at hen2
  have hsw2 : Meets Try.prog 17 [.pointer (some ⟨q, 0, none⟩), .int .u64 now] [T1] fun v A => v = .int .i64 0 ∧ ∃ T', NHalf (some ⟨q, 0, none⟩) T' (some (sweepN s1 now).2) ∧ A = [T'] := by
    have h := hSweep hT1 now hn2
    rw [show (oSweep (some s1) now).1 = 0 from hag] at h
    exact h
  have h2l : ((oEs (some s1)).take 2).length ≤ 2 := by rw [List.length_take]; omega
  generalize (oEs (some s1)).take 2 = few at *
  refine going ?_
  refine run_op fun K hK => ?_; refine calls_to (hen) ?_; rintro v A ⟨X, xa, xc, rfl, hX, rfl⟩; (try simp only [List.nil_append, List.cons_append]); refine hK _ _ ?_; clear hK K; refine going ?_
  refine loop_i (fun q' D L S => ∃ i : Nat, i ≤ s1.es.length ∧ q' = s1.es.length - i ∧ D = [] ∧
    L = [(83, .int .i64 i), (82, .int .i64 s1.es.length), (81, .slice xa s1.es.length xc), (9, .pointer (some ⟨pb, 0, none⟩))] ∧ S = [X, pB pb (some ⟨q, 0, none⟩) (some ⟨rb, 0, none⟩) aa all.length ac now, CA, T1, U, F, C])
    ⟨0, by omega, rfl, rfl, rfl, rfl⟩ ?_
  rintro q' D L S ⟨i, hi, rfl, rfl, rfl, rfl⟩
  refine going ?_
  refine if_d (fun hc => ?_) (fun hc => ?_)
  · have hil : i < s1.es.length := by omega
    have hx : s1.es[i]? = some s1.es[i] := List.getElem?_eq_getElem hil
    have hxm := List.getElem_mem hil
    generalize s1.es[i] = x at *
    have hck := hCheck hT1 x.2.non now hn2
    rw [show oFind (some s1) x.2.non now = 0 from hkept x hxm] at hck
    refine going ?_
    refine run_op fun K hK => ?_; refine load_el_agg hX hq hx (by decide) (by (repeat (first | with_reducible assumption | with_reducible exact List.mem_cons_self .. | with_reducible apply List.mem_cons_of_mem))) ?_; refine hK _ _ ?_; clear hK K
    refine run_op fun K hK => ?_; refine alloc_as (encV v0).toArray rfl fun b14 => ?_; refine hK _ _ ?_; clear hK K
    refine run_op fun K hK => ?_; refine store_all (vs := listV x.2) rfl (cell_V x.2) (by (repeat (first | with_reducible exact Upd.one | with_reducible apply Upd.next))) (by rfl) ?_; refine hK _ _ ?_; clear hK K
    refine going ?_
    refine code_dr [[], [0], [0, 1], [0, 1, 2], [], [4], [], [6], [6, 7], [6, 7, 8], [0, 1, 2, 3, 4, 5, 6, 7, 8, 9], [0, 1, 2, 3, 4, 5, 6, 7, 8, 9, 10]] [(0, false, []), (1, false, []), (2, false, []), (3, false, []), (4, false, []), (5, false, []), (6, false, []), (7, false, []), (8, false, []), (9, false, []), (10, true, []), (11, false, [])] ?_
    refine going ?_
    refine draw_op fun K hK => ?_; refine calls_to (hck) ?_; rintro v A ⟨rfl, rfl⟩; (try simp only [List.nil_append, List.cons_append]); (repeat refine pend ?_); refine hK _ _ ?_; clear hK K
    refine going ?_
    exact again ⟨i + 1, by omega, rfl, rfl, rfl, rfl⟩
  · refine going ?_
    refine run_op fun K hK => ?_; refine calls_to (hen2) ?_; rintro v A ⟨Y, ya, yc, rfl, hY, rfl⟩; (try simp only [List.nil_append, List.cons_append]); refine hK _ _ ?_; clear hK K; refine going ?_
    refine code_dr [[], [0], [0, 1], [0, 1, 2], [], [4], [4, 5], [4, 5, 6], [0, 1, 2, 3, 4, 5, 6, 7], [0, 1, 2, 3, 4, 5, 6, 7, 8], [0, 1, 2, 3, 4, 5, 6, 7, 8, 9], [0, 1, 2, 3, 4, 5, 6, 7, 8, 9, 10], [0, 1, 2, 3, 4, 5, 6, 7, 8, 9, 10, 11], [0, 1, 2, 3, 4, 5, 6, 7, 8, 9, 10, 11, 12], [0, 1, 2, 3, 4, 5, 6, 7, 8, 9, 10, 11, 12, 13], [0, 1, 2, 3, 4, 5, 6, 7, 8, 9, 10, 11, 12, 13, 14]] [(0, false, []), (1, false, []), (2, false, []), (3, false, []), (4, false, []), (5, false, []), (6, false, []), (7, false, []), (8, true, []), (9, false, []), (10, false, []), (11, false, []), (12, false, []), (13, false, []), (14, false, []), (15, true, [])] ?_
    refine going ?_
    refine draw_op fun K hK => ?_; refine calls_to (hsw2) ?_; rintro v A ⟨rfl, T2, hT2, rfl⟩; (try simp only [List.nil_append, List.cons_append]); (repeat refine pend ?_); refine hK _ _ ?_; clear hK K
    refine going ?_
    rw [decide_eq_true (show (few.length : Int) ≤ 2 by omega)]
    refine going ?_
    refine back_tmp [C] ?_; exact ⟨rfl, rfl⟩

end Go.Proofs.Ytbclecppjnlpmaa
