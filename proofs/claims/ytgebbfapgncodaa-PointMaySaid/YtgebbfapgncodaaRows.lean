/-
  No cell of these rows narrows 'for every input' (looked for: loops, veiled, ifaces, maps, wideKeys, modest, calm, conditions, laid).
  DERIVED. THE GIVEN ROWS OF THIS SEAT. 5 by the template 'for every input the law returns true; each argument reads behind the call as it read before'; 0 by the template 'total and deterministic' (their statements: YtgebbfapgncodaaTotals.lean).
  GIVEN WITH THE SEED: the statements are not yours to turn. If you find one false, say at which input.
  Laid BY PROGRAM, IN A SANDBOX (cutbox-rows.mjs): the forced cells as the released guide's own fill.sh prints them over the translation 09acca193ad667f2… (all of the seat's roots in one cut). By AI agents, Wed Nov 11 2026. No macro, syntax, notation, axiom, sorry.
-/
import Derived.Test.YtgebbfapgncodaaChecked
import GoSem.Claim
import GoSem.ClaimJoined
import GoSem.ClaimMapViews
import Derived.JoinedTies
import Derived.KernelRfl
namespace Go.Proofs.Ytgebbfapgncodaa
/- THE CELL 'sum', in the pinned program and in every row, IS THE sha256 OF THE DUMP (.gsa) THAT YtgebbfapgncodaaProg.lean LOADS. Nothing in Lean hashes anything: it is a label: what it is worth is what the hold of that sum in a sandbox is worth. -/
noncomputable def Try.pinned : Pinned := { name := "ytgebbfapgncodaa", sum := "09acca193ad667f2073b99d4b177f503e92a880b0cf2acdbba39fd68ddbc2845", checked := Try.checked }
namespace Rows
def none {H : Type} : Left H := { results := [], args := [] }

/-- 'baliselaw14.PointTwice': WHATEVER THE INPUT: true; the input reads as it did. -/
def pointTwiceSpec : ChangeSpec := { name := "pointTwice", fn := fun _ => fun
  | [d1, d2, d3, d4, d5] => { results := [.lit (.bool true)], args := [d1, d2, d3, d4, d5] }
  | _ => none }
def pointTwiceRow : OpenClaim := { program := "ytgebbfapgncodaa", sum := "09acca193ad667f2073b99d4b177f503e92a880b0cf2acdbba39fd68ddbc2845", func := "balise/baliselaw14.PointTwice", spec := "pointTwice", apart := false }
def PointTwiceSaid : Prop := pointTwiceRow.holds Try.pinned (OpenSpec.ofChange pointTwiceSpec)

/-- ITS FALSE NEIGHBOUR: 'it returns false'. Refute it at one input. -/
def pointTwiceWrong : ChangeSpec := { name := "pointTwice", fn := fun _ => fun
  | [d1, d2, d3, d4, d5] => { results := [.lit (.bool false)], args := [d1, d2, d3, d4, d5] }
  | _ => none }
def PointTwiceWrongFalsely : Prop := pointTwiceRow.holds Try.pinned (OpenSpec.ofChange pointTwiceWrong)

/-- 'baliselaw14.PointMay': WHATEVER THE INPUT: true; the input reads as it did. -/
def pointMaySpec : ChangeSpec := { name := "pointMay", fn := fun _ => fun
  | [d1, d2, d3, d4, d5, d6, d7] => { results := [.lit (.bool true)], args := [d1, d2, d3, d4, d5, d6, d7] }
  | _ => none }
def pointMayRow : OpenClaim := { program := "ytgebbfapgncodaa", sum := "09acca193ad667f2073b99d4b177f503e92a880b0cf2acdbba39fd68ddbc2845", func := "balise/baliselaw14.PointMay", spec := "pointMay", unfollowed := true, recurses := true, apart := false }
def PointMaySaid : Prop := pointMayRow.holds Try.pinned (OpenSpec.ofChange pointMaySpec)

/-- ITS FALSE NEIGHBOUR: 'it returns false'. Refute it at one input. -/
def pointMayWrong : ChangeSpec := { name := "pointMay", fn := fun _ => fun
  | [d1, d2, d3, d4, d5, d6, d7] => { results := [.lit (.bool false)], args := [d1, d2, d3, d4, d5, d6, d7] }
  | _ => none }
def PointMayWrongFalsely : Prop := pointMayRow.holds Try.pinned (OpenSpec.ofChange pointMayWrong)

/-- 'baliselaw14.PointFree': WHATEVER THE INPUT: true; the input reads as it did. -/
def pointFreeSpec : ChangeSpec := { name := "pointFree", fn := fun _ => fun
  | [d1, d2, d3] => { results := [.lit (.bool true)], args := [d1, d2, d3] }
  | _ => none }
def pointFreeRow : OpenClaim := { program := "ytgebbfapgncodaa", sum := "09acca193ad667f2073b99d4b177f503e92a880b0cf2acdbba39fd68ddbc2845", func := "balise/baliselaw14.PointFree", spec := "pointFree", unfollowed := true, recurses := true, apart := false }
def PointFreeSaid : Prop := pointFreeRow.holds Try.pinned (OpenSpec.ofChange pointFreeSpec)

/-- ITS FALSE NEIGHBOUR: 'it returns false'. Refute it at one input. -/
def pointFreeWrong : ChangeSpec := { name := "pointFree", fn := fun _ => fun
  | [d1, d2, d3] => { results := [.lit (.bool false)], args := [d1, d2, d3] }
  | _ => none }
def PointFreeWrongFalsely : Prop := pointFreeRow.holds Try.pinned (OpenSpec.ofChange pointFreeWrong)

/-- 'baliselaw14.PointMoves': WHATEVER THE INPUT: true; the input reads as it did. -/
def pointMovesSpec : ChangeSpec := { name := "pointMoves", fn := fun _ => fun
  | [d1, d2, d3] => { results := [.lit (.bool true)], args := [d1, d2, d3] }
  | _ => none }
def pointMovesRow : OpenClaim := { program := "ytgebbfapgncodaa", sum := "09acca193ad667f2073b99d4b177f503e92a880b0cf2acdbba39fd68ddbc2845", func := "balise/baliselaw14.PointMoves", spec := "pointMoves", unfollowed := true, recurses := true, apart := false }
def PointMovesSaid : Prop := pointMovesRow.holds Try.pinned (OpenSpec.ofChange pointMovesSpec)

/-- ITS FALSE NEIGHBOUR: 'it returns false'. Refute it at one input. -/
def pointMovesWrong : ChangeSpec := { name := "pointMoves", fn := fun _ => fun
  | [d1, d2, d3] => { results := [.lit (.bool false)], args := [d1, d2, d3] }
  | _ => none }
def PointMovesWrongFalsely : Prop := pointMovesRow.holds Try.pinned (OpenSpec.ofChange pointMovesWrong)

/-- 'baliselaw14.PointStands': WHATEVER THE INPUT: true; the input reads as it did. -/
def pointStandsSpec : ChangeSpec := { name := "pointStands", fn := fun _ => fun
  | [d1, d2] => { results := [.lit (.bool true)], args := [d1, d2] }
  | _ => none }
def pointStandsRow : OpenClaim := { program := "ytgebbfapgncodaa", sum := "09acca193ad667f2073b99d4b177f503e92a880b0cf2acdbba39fd68ddbc2845", func := "balise/baliselaw14.PointStands", spec := "pointStands", unfollowed := true, recurses := true, apart := false }
def PointStandsSaid : Prop := pointStandsRow.holds Try.pinned (OpenSpec.ofChange pointStandsSpec)

/-- ITS FALSE NEIGHBOUR: 'it returns false'. Refute it at one input. -/
def pointStandsWrong : ChangeSpec := { name := "pointStands", fn := fun _ => fun
  | [d1, d2] => { results := [.lit (.bool false)], args := [d1, d2] }
  | _ => none }
def PointStandsWrongFalsely : Prop := pointStandsRow.holds Try.pinned (OpenSpec.ofChange pointStandsWrong)

/- THE SECOND FORM. 'bulk': how many values and letters a reading holds, each counted each time it is reached (what is shared counts as often as it is met; a slice's spare places count too). A statement '..UptoSaid' is the law's where the arguments, and the package variables that the reading takes, are together of bulk at most 1048576: NARROWER than '..Said'. Prove '..Said' where nothing that the law and all that it calls make is longer than what came in: it says more and counts as full. Else prove '..UptoSaid'. A law counts once. -/
mutual
def uptoBulk {H : Type} : DataW H → Nat
  | .lit (.string bytes) => bytes.length + 1
  | .lit _ => 1
  | .nil => 1
  | .ptr d => uptoBulk d + 1
  | .slice elems spare => uptoBulkAll elems + uptoBulkAll spare + 1
  | .agg parts => uptoBulkAll parts + 1
  | .iface _ d => uptoBulk d + 1
  | .map entries => uptoBulkEntries entries + 1
  | .held _ => 1
def uptoBulkAll {H : Type} : List (DataW H) → Nat
  | [] => 0
  | d :: r => uptoBulk d + uptoBulkAll r
def uptoBulkEntries {H : Type} : List (Lit × DataW H) → Nat
  | [] => 0
  | x :: r => uptoBulkEntry x + uptoBulkEntries r
def uptoBulkEntry {H : Type} : Lit × DataW H → Nat
  | (.string bytes, d) => bytes.length + uptoBulk d + 1
  | (_, d) => uptoBulk d + 1
 end
def uptoSmall : (H : Type) → List (DataW H) → Bool := fun _ ds => decide (uptoBulkAll ds ≤ 1048576)
def OpenSpec.upto (s : _root_.Go.ChangeSpec) : _root_.Go.OpenSpec := { _root_.Go.OpenSpec.ofChange s with cond := some uptoSmall }

/-- 'baliselaw14.PointTwice', WHERE WHAT IT READS IS OF BULK AT MOST 1048576: true; the input reads as it did. -/
def pointTwiceUptoRow : OpenClaim := { program := "ytgebbfapgncodaa", sum := "09acca193ad667f2073b99d4b177f503e92a880b0cf2acdbba39fd68ddbc2845", func := "balise/baliselaw14.PointTwice", spec := "pointTwice", apart := false, narrowed := true }
def PointTwiceUptoSaid : Prop := pointTwiceUptoRow.holds Try.pinned (OpenSpec.upto pointTwiceSpec)

/-- 'baliselaw14.PointMay', WHERE WHAT IT READS IS OF BULK AT MOST 1048576: true; the input reads as it did. -/
def pointMayUptoRow : OpenClaim := { program := "ytgebbfapgncodaa", sum := "09acca193ad667f2073b99d4b177f503e92a880b0cf2acdbba39fd68ddbc2845", func := "balise/baliselaw14.PointMay", spec := "pointMay", unfollowed := true, recurses := true, apart := false, narrowed := true }
def PointMayUptoSaid : Prop := pointMayUptoRow.holds Try.pinned (OpenSpec.upto pointMaySpec)

/-- 'baliselaw14.PointFree', WHERE WHAT IT READS IS OF BULK AT MOST 1048576: true; the input reads as it did. -/
def pointFreeUptoRow : OpenClaim := { program := "ytgebbfapgncodaa", sum := "09acca193ad667f2073b99d4b177f503e92a880b0cf2acdbba39fd68ddbc2845", func := "balise/baliselaw14.PointFree", spec := "pointFree", unfollowed := true, recurses := true, apart := false, narrowed := true }
def PointFreeUptoSaid : Prop := pointFreeUptoRow.holds Try.pinned (OpenSpec.upto pointFreeSpec)

/-- 'baliselaw14.PointMoves', WHERE WHAT IT READS IS OF BULK AT MOST 1048576: true; the input reads as it did. -/
def pointMovesUptoRow : OpenClaim := { program := "ytgebbfapgncodaa", sum := "09acca193ad667f2073b99d4b177f503e92a880b0cf2acdbba39fd68ddbc2845", func := "balise/baliselaw14.PointMoves", spec := "pointMoves", unfollowed := true, recurses := true, apart := false, narrowed := true }
def PointMovesUptoSaid : Prop := pointMovesUptoRow.holds Try.pinned (OpenSpec.upto pointMovesSpec)

/-- 'baliselaw14.PointStands', WHERE WHAT IT READS IS OF BULK AT MOST 1048576: true; the input reads as it did. -/
def pointStandsUptoRow : OpenClaim := { program := "ytgebbfapgncodaa", sum := "09acca193ad667f2073b99d4b177f503e92a880b0cf2acdbba39fd68ddbc2845", func := "balise/baliselaw14.PointStands", spec := "pointStands", unfollowed := true, recurses := true, apart := false, narrowed := true }
def PointStandsUptoSaid : Prop := pointStandsUptoRow.holds Try.pinned (OpenSpec.upto pointStandsSpec)

end Rows
end Go.Proofs.Ytgebbfapgncodaa
