/-
  No cell of these rows narrows 'for every input' (looked for: loops, veiled, ifaces, maps, wideKeys, modest, calm, conditions, laid).
  DERIVED. THE GIVEN ROWS OF THIS SEAT. 6 by the template 'for every input the law returns true; each argument reads behind the call as it read before'; 0 by the template 'total and deterministic' (their statements: YthfmdljohlolpaaTotals.lean).
  GIVEN WITH THE SEED: the statements are not yours to turn. If you find one false, say at which input.
  Laid BY PROGRAM, IN A SANDBOX (cutbox-rows.mjs): the forced cells as the released guide's own fill.sh prints them over the translation 84a1481becee8089… (all of the seat's roots in one cut). By AI agents, Wed Nov 11 2026. No macro, syntax, notation, axiom, sorry.
-/
import Derived.Test.YthfmdljohlolpaaChecked
import GoSem.Claim
import GoSem.ClaimJoined
import GoSem.ClaimMapViews
import Derived.JoinedTies
import Derived.KernelRfl
namespace Go.Proofs.Ythfmdljohlolpaa
/- THE CELL 'sum', in the pinned program and in every row, IS THE sha256 OF THE DUMP (.gsa) THAT YthfmdljohlolpaaProg.lean LOADS. Nothing in Lean hashes anything: it is a label: what it is worth is what the hold of that sum in a sandbox is worth. -/
noncomputable def Try.pinned : Pinned := { name := "ythfmdljohlolpaa", sum := "84a1481becee8089ceb2e1419a1d1e1576743b25c98bd435f1005b7518248319", checked := Try.checked }
namespace Rows
def none {H : Type} : Left H := { results := [], args := [] }

/-- 'baliselaw08.TimerEnds': WHATEVER THE INPUT: true; the input reads as it did. -/
def timerEndsSpec : ChangeSpec := { name := "timerEnds", fn := fun _ => fun
  | [d1, d2] => { results := [.lit (.bool true)], args := [d1, d2] }
  | _ => none }
def timerEndsRow : OpenClaim := { program := "ythfmdljohlolpaa", sum := "84a1481becee8089ceb2e1419a1d1e1576743b25c98bd435f1005b7518248319", func := "balise/baliselaw08.TimerEnds", spec := "timerEnds", unfollowed := true, recurses := true, apart := false }
def TimerEndsSaid : Prop := timerEndsRow.holds Try.pinned (OpenSpec.ofChange timerEndsSpec)

/-- ITS FALSE NEIGHBOUR: 'it returns false'. Refute it at one input. -/
def timerEndsWrong : ChangeSpec := { name := "timerEnds", fn := fun _ => fun
  | [d1, d2] => { results := [.lit (.bool false)], args := [d1, d2] }
  | _ => none }
def TimerEndsWrongFalsely : Prop := timerEndsRow.holds Try.pinned (OpenSpec.ofChange timerEndsWrong)

/-- 'baliselaw08.TimerFull': WHATEVER THE INPUT: true; the input reads as it did. -/
def timerFullSpec : ChangeSpec := { name := "timerFull", fn := fun _ => fun
  | [d1, d2] => { results := [.lit (.bool true)], args := [d1, d2] }
  | _ => none }
def timerFullRow : OpenClaim := { program := "ythfmdljohlolpaa", sum := "84a1481becee8089ceb2e1419a1d1e1576743b25c98bd435f1005b7518248319", func := "balise/baliselaw08.TimerFull", spec := "timerFull", unfollowed := true, recurses := true, apart := false }
def TimerFullSaid : Prop := timerFullRow.holds Try.pinned (OpenSpec.ofChange timerFullSpec)

/-- ITS FALSE NEIGHBOUR: 'it returns false'. Refute it at one input. -/
def timerFullWrong : ChangeSpec := { name := "timerFull", fn := fun _ => fun
  | [d1, d2] => { results := [.lit (.bool false)], args := [d1, d2] }
  | _ => none }
def TimerFullWrongFalsely : Prop := timerFullRow.holds Try.pinned (OpenSpec.ofChange timerFullWrong)

/-- 'baliselaw08.TimerPlays': WHATEVER THE INPUT: true; the input reads as it did. -/
def timerPlaysSpec : ChangeSpec := { name := "timerPlays", fn := fun _ => fun
  | [d1, d2] => { results := [.lit (.bool true)], args := [d1, d2] }
  | _ => none }
def timerPlaysRow : OpenClaim := { program := "ythfmdljohlolpaa", sum := "84a1481becee8089ceb2e1419a1d1e1576743b25c98bd435f1005b7518248319", func := "balise/baliselaw08.TimerPlays", spec := "timerPlays", unfollowed := true, recurses := true, apart := false }
def TimerPlaysSaid : Prop := timerPlaysRow.holds Try.pinned (OpenSpec.ofChange timerPlaysSpec)

/-- ITS FALSE NEIGHBOUR: 'it returns false'. Refute it at one input. -/
def timerPlaysWrong : ChangeSpec := { name := "timerPlays", fn := fun _ => fun
  | [d1, d2] => { results := [.lit (.bool false)], args := [d1, d2] }
  | _ => none }
def TimerPlaysWrongFalsely : Prop := timerPlaysRow.holds Try.pinned (OpenSpec.ofChange timerPlaysWrong)

/-- 'baliselaw08.TimerAnew': WHATEVER THE INPUT: true; the input reads as it did. -/
def timerAnewSpec : ChangeSpec := { name := "timerAnew", fn := fun _ => fun
  | [d1, d2, d3] => { results := [.lit (.bool true)], args := [d1, d2, d3] }
  | _ => none }
def timerAnewRow : OpenClaim := { program := "ythfmdljohlolpaa", sum := "84a1481becee8089ceb2e1419a1d1e1576743b25c98bd435f1005b7518248319", func := "balise/baliselaw08.TimerAnew", spec := "timerAnew", unfollowed := true, recurses := true, apart := false }
def TimerAnewSaid : Prop := timerAnewRow.holds Try.pinned (OpenSpec.ofChange timerAnewSpec)

/-- ITS FALSE NEIGHBOUR: 'it returns false'. Refute it at one input. -/
def timerAnewWrong : ChangeSpec := { name := "timerAnew", fn := fun _ => fun
  | [d1, d2, d3] => { results := [.lit (.bool false)], args := [d1, d2, d3] }
  | _ => none }
def TimerAnewWrongFalsely : Prop := timerAnewRow.holds Try.pinned (OpenSpec.ofChange timerAnewWrong)

/-- 'baliselaw08.TimerNil': WHATEVER THE INPUT: true; the input reads as it did. -/
def timerNilSpec : ChangeSpec := { name := "timerNil", fn := fun _ => fun
  | [d1, d2] => { results := [.lit (.bool true)], args := [d1, d2] }
  | _ => none }
def timerNilRow : OpenClaim := { program := "ythfmdljohlolpaa", sum := "84a1481becee8089ceb2e1419a1d1e1576743b25c98bd435f1005b7518248319", func := "balise/baliselaw08.TimerNil", spec := "timerNil", unfollowed := true, recurses := true, apart := false }
def TimerNilSaid : Prop := timerNilRow.holds Try.pinned (OpenSpec.ofChange timerNilSpec)

/-- ITS FALSE NEIGHBOUR: 'it returns false'. Refute it at one input. -/
def timerNilWrong : ChangeSpec := { name := "timerNil", fn := fun _ => fun
  | [d1, d2] => { results := [.lit (.bool false)], args := [d1, d2] }
  | _ => none }
def TimerNilWrongFalsely : Prop := timerNilRow.holds Try.pinned (OpenSpec.ofChange timerNilWrong)

/-- 'baliselaw08.TimerStops': WHATEVER THE INPUT: true; the input reads as it did. -/
def timerStopsSpec : ChangeSpec := { name := "timerStops", fn := fun _ => fun
  | [d1, d2, d3] => { results := [.lit (.bool true)], args := [d1, d2, d3] }
  | _ => none }
def timerStopsRow : OpenClaim := { program := "ythfmdljohlolpaa", sum := "84a1481becee8089ceb2e1419a1d1e1576743b25c98bd435f1005b7518248319", func := "balise/baliselaw08.TimerStops", spec := "timerStops", unfollowed := true, recurses := true, apart := false }
def TimerStopsSaid : Prop := timerStopsRow.holds Try.pinned (OpenSpec.ofChange timerStopsSpec)

/-- ITS FALSE NEIGHBOUR: 'it returns false'. Refute it at one input. -/
def timerStopsWrong : ChangeSpec := { name := "timerStops", fn := fun _ => fun
  | [d1, d2, d3] => { results := [.lit (.bool false)], args := [d1, d2, d3] }
  | _ => none }
def TimerStopsWrongFalsely : Prop := timerStopsRow.holds Try.pinned (OpenSpec.ofChange timerStopsWrong)

/- THE SECOND FORM. 'bulk': how many values and letters a reading holds, each counted each time it is reached (what is shared counts as often as it is met; a slice's spare places count too). A statement '..UptoSaid' is the law's where the arguments, and the package variables that the reading takes, are together of bulk at most 1048576: NARROWER than '..Said'. Prove '..Said' where nothing that the law and all that it calls make is longer than what came in: it says more and counts as full. Else prove '..UptoSaid'. A law counts once. -/
mutual
def uptoBulk {H : Type} : DataW H → Nat
  | .lit (.string bytes) => bytes.length + 1
  | .lit _ => 1
  | .nil => 1
  | .ptr d => uptoBulk d + 1
  | .slice elems spare => uptoBulkAll elems + uptoBulkAll spare + 1
  | .agg parts => uptoBulkAll parts + 1
  | .iface _ d => uptoBulk d + 1
  | .map entries => uptoBulkEntries entries + 1
  | .held _ => 1
def uptoBulkAll {H : Type} : List (DataW H) → Nat
  | [] => 0
  | d :: r => uptoBulk d + uptoBulkAll r
def uptoBulkEntries {H : Type} : List (Lit × DataW H) → Nat
  | [] => 0
  | x :: r => uptoBulkEntry x + uptoBulkEntries r
def uptoBulkEntry {H : Type} : Lit × DataW H → Nat
  | (.string bytes, d) => bytes.length + uptoBulk d + 1
  | (_, d) => uptoBulk d + 1
 end
def uptoSmall : (H : Type) → List (DataW H) → Bool := fun _ ds => decide (uptoBulkAll ds ≤ 1048576)
def OpenSpec.upto (s : _root_.Go.ChangeSpec) : _root_.Go.OpenSpec := { _root_.Go.OpenSpec.ofChange s with cond := some uptoSmall }

/-- 'baliselaw08.TimerEnds', WHERE WHAT IT READS IS OF BULK AT MOST 1048576: true; the input reads as it did. -/
def timerEndsUptoRow : OpenClaim := { program := "ythfmdljohlolpaa", sum := "84a1481becee8089ceb2e1419a1d1e1576743b25c98bd435f1005b7518248319", func := "balise/baliselaw08.TimerEnds", spec := "timerEnds", unfollowed := true, recurses := true, apart := false, narrowed := true }
def TimerEndsUptoSaid : Prop := timerEndsUptoRow.holds Try.pinned (OpenSpec.upto timerEndsSpec)

/-- 'baliselaw08.TimerFull', WHERE WHAT IT READS IS OF BULK AT MOST 1048576: true; the input reads as it did. -/
def timerFullUptoRow : OpenClaim := { program := "ythfmdljohlolpaa", sum := "84a1481becee8089ceb2e1419a1d1e1576743b25c98bd435f1005b7518248319", func := "balise/baliselaw08.TimerFull", spec := "timerFull", unfollowed := true, recurses := true, apart := false, narrowed := true }
def TimerFullUptoSaid : Prop := timerFullUptoRow.holds Try.pinned (OpenSpec.upto timerFullSpec)

/-- 'baliselaw08.TimerPlays', WHERE WHAT IT READS IS OF BULK AT MOST 1048576: true; the input reads as it did. -/
def timerPlaysUptoRow : OpenClaim := { program := "ythfmdljohlolpaa", sum := "84a1481becee8089ceb2e1419a1d1e1576743b25c98bd435f1005b7518248319", func := "balise/baliselaw08.TimerPlays", spec := "timerPlays", unfollowed := true, recurses := true, apart := false, narrowed := true }
def TimerPlaysUptoSaid : Prop := timerPlaysUptoRow.holds Try.pinned (OpenSpec.upto timerPlaysSpec)

/-- 'baliselaw08.TimerAnew', WHERE WHAT IT READS IS OF BULK AT MOST 1048576: true; the input reads as it did. -/
def timerAnewUptoRow : OpenClaim := { program := "ythfmdljohlolpaa", sum := "84a1481becee8089ceb2e1419a1d1e1576743b25c98bd435f1005b7518248319", func := "balise/baliselaw08.TimerAnew", spec := "timerAnew", unfollowed := true, recurses := true, apart := false, narrowed := true }
def TimerAnewUptoSaid : Prop := timerAnewUptoRow.holds Try.pinned (OpenSpec.upto timerAnewSpec)

/-- 'baliselaw08.TimerNil', WHERE WHAT IT READS IS OF BULK AT MOST 1048576: true; the input reads as it did. -/
def timerNilUptoRow : OpenClaim := { program := "ythfmdljohlolpaa", sum := "84a1481becee8089ceb2e1419a1d1e1576743b25c98bd435f1005b7518248319", func := "balise/baliselaw08.TimerNil", spec := "timerNil", unfollowed := true, recurses := true, apart := false, narrowed := true }
def TimerNilUptoSaid : Prop := timerNilUptoRow.holds Try.pinned (OpenSpec.upto timerNilSpec)

/-- 'baliselaw08.TimerStops', WHERE WHAT IT READS IS OF BULK AT MOST 1048576: true; the input reads as it did. -/
def timerStopsUptoRow : OpenClaim := { program := "ythfmdljohlolpaa", sum := "84a1481becee8089ceb2e1419a1d1e1576743b25c98bd435f1005b7518248319", func := "balise/baliselaw08.TimerStops", spec := "timerStops", unfollowed := true, recurses := true, apart := false, narrowed := true }
def TimerStopsUptoSaid : Prop := timerStopsUptoRow.holds Try.pinned (OpenSpec.upto timerStopsSpec)

end Rows
end Go.Proofs.Ythfmdljohlolpaa
