/-
  No cell of these rows narrows 'for every input' (looked for: loops, veiled, ifaces, maps, wideKeys, modest, calm, conditions, laid).
  DERIVED. THE GIVEN ROWS OF THIS SEAT. 6 by the template 'for every input the law returns true; each argument reads behind the call as it read before'; 0 by the template 'total and deterministic' (their statements: YtpgbplgljfjhnaaTotals.lean).
  GIVEN WITH THE SEED: the statements are not yours to turn. If you find one false, say at which input.
  Laid BY PROGRAM, IN A SANDBOX (cutbox-rows.mjs): the forced cells as the released guide's own fill.sh prints them over the translation f7ead1c60cd0880a… (all of the seat's roots in one cut). By AI agents, Wed Nov 11 2026. No macro, syntax, notation, axiom, sorry.
-/
import Derived.Test.YtpgbplgljfjhnaaChecked
import GoSem.Claim
import GoSem.ClaimJoined
import GoSem.ClaimMapViews
import Derived.JoinedTies
import Derived.KernelRfl
namespace Go.Proofs.Ytpgbplgljfjhnaa
/- THE CELL 'sum', in the pinned program and in every row, IS THE sha256 OF THE DUMP (.gsa) THAT YtpgbplgljfjhnaaProg.lean LOADS. Nothing in Lean hashes anything: it is a label: what it is worth is what the hold of that sum in a sandbox is worth. -/
noncomputable def Try.pinned : Pinned := { name := "ytpgbplgljfjhnaa", sum := "f7ead1c60cd0880a5a5c35c8141d62853392d07f83747828babf4512e2d168f3", checked := Try.checked }
namespace Rows
def none {H : Type} : Left H := { results := [], args := [] }

/-- 'baliselaw11.ChainGrows': WHATEVER THE INPUT: true; the input reads as it did. -/
def chainGrowsSpec : ChangeSpec := { name := "chainGrows", fn := fun _ => fun
  | [d1, d2, d3, d4] => { results := [.lit (.bool true)], args := [d1, d2, d3, d4] }
  | _ => none }
def chainGrowsRow : OpenClaim := { program := "ytpgbplgljfjhnaa", sum := "f7ead1c60cd0880a5a5c35c8141d62853392d07f83747828babf4512e2d168f3", func := "balise/baliselaw11.ChainGrows", spec := "chainGrows", inPlace := ["slices.overlaps[int]"], unfollowed := true, recurses := true, apart := false }
def ChainGrowsSaid : Prop := chainGrowsRow.holds Try.pinned (OpenSpec.ofChange chainGrowsSpec)

/-- ITS FALSE NEIGHBOUR: 'it returns false'. Refute it at one input. -/
def chainGrowsWrong : ChangeSpec := { name := "chainGrows", fn := fun _ => fun
  | [d1, d2, d3, d4] => { results := [.lit (.bool false)], args := [d1, d2, d3, d4] }
  | _ => none }
def ChainGrowsWrongFalsely : Prop := chainGrowsRow.holds Try.pinned (OpenSpec.ofChange chainGrowsWrong)

/-- 'baliselaw11.ChainCovers': WHATEVER THE INPUT: true; the input reads as it did. -/
def chainCoversSpec : ChangeSpec := { name := "chainCovers", fn := fun _ => fun
  | [d1, d2, d3] => { results := [.lit (.bool true)], args := [d1, d2, d3] }
  | _ => none }
def chainCoversRow : OpenClaim := { program := "ytpgbplgljfjhnaa", sum := "f7ead1c60cd0880a5a5c35c8141d62853392d07f83747828babf4512e2d168f3", func := "balise/baliselaw11.ChainCovers", spec := "chainCovers", inPlace := ["slices.overlaps[int]"], unfollowed := true, recurses := true, apart := false }
def ChainCoversSaid : Prop := chainCoversRow.holds Try.pinned (OpenSpec.ofChange chainCoversSpec)

/-- ITS FALSE NEIGHBOUR: 'it returns false'. Refute it at one input. -/
def chainCoversWrong : ChangeSpec := { name := "chainCovers", fn := fun _ => fun
  | [d1, d2, d3] => { results := [.lit (.bool false)], args := [d1, d2, d3] }
  | _ => none }
def ChainCoversWrongFalsely : Prop := chainCoversRow.holds Try.pinned (OpenSpec.ofChange chainCoversWrong)

/-- 'baliselaw11.ChainPoints': WHATEVER THE INPUT: true; the input reads as it did. -/
def chainPointsSpec : ChangeSpec := { name := "chainPoints", fn := fun _ => fun
  | [d1, d2, d3] => { results := [.lit (.bool true)], args := [d1, d2, d3] }
  | _ => none }
def chainPointsRow : OpenClaim := { program := "ytpgbplgljfjhnaa", sum := "f7ead1c60cd0880a5a5c35c8141d62853392d07f83747828babf4512e2d168f3", func := "balise/baliselaw11.ChainPoints", spec := "chainPoints", inPlace := ["slices.overlaps[int]"], unfollowed := true, recurses := true, apart := false }
def ChainPointsSaid : Prop := chainPointsRow.holds Try.pinned (OpenSpec.ofChange chainPointsSpec)

/-- ITS FALSE NEIGHBOUR: 'it returns false'. Refute it at one input. -/
def chainPointsWrong : ChangeSpec := { name := "chainPoints", fn := fun _ => fun
  | [d1, d2, d3] => { results := [.lit (.bool false)], args := [d1, d2, d3] }
  | _ => none }
def ChainPointsWrongFalsely : Prop := chainPointsRow.holds Try.pinned (OpenSpec.ofChange chainPointsWrong)

/-- 'baliselaw11.ChainSpans': WHATEVER THE INPUT: true; the input reads as it did. -/
def chainSpansSpec : ChangeSpec := { name := "chainSpans", fn := fun _ => fun
  | [d1, d2] => { results := [.lit (.bool true)], args := [d1, d2] }
  | _ => none }
def chainSpansRow : OpenClaim := { program := "ytpgbplgljfjhnaa", sum := "f7ead1c60cd0880a5a5c35c8141d62853392d07f83747828babf4512e2d168f3", func := "balise/baliselaw11.ChainSpans", spec := "chainSpans", inPlace := ["slices.overlaps[int]"], unfollowed := true, recurses := true, apart := false }
def ChainSpansSaid : Prop := chainSpansRow.holds Try.pinned (OpenSpec.ofChange chainSpansSpec)

/-- ITS FALSE NEIGHBOUR: 'it returns false'. Refute it at one input. -/
def chainSpansWrong : ChangeSpec := { name := "chainSpans", fn := fun _ => fun
  | [d1, d2] => { results := [.lit (.bool false)], args := [d1, d2] }
  | _ => none }
def ChainSpansWrongFalsely : Prop := chainSpansRow.holds Try.pinned (OpenSpec.ofChange chainSpansWrong)

/-- 'baliselaw11.ChainHeard': WHATEVER THE INPUT: true; the input reads as it did. -/
def chainHeardSpec : ChangeSpec := { name := "chainHeard", fn := fun _ => fun
  | [d1, d2] => { results := [.lit (.bool true)], args := [d1, d2] }
  | _ => none }
def chainHeardRow : OpenClaim := { program := "ytpgbplgljfjhnaa", sum := "f7ead1c60cd0880a5a5c35c8141d62853392d07f83747828babf4512e2d168f3", func := "balise/baliselaw11.ChainHeard", spec := "chainHeard", inPlace := ["slices.overlaps[int]"], unfollowed := true, recurses := true, apart := false }
def ChainHeardSaid : Prop := chainHeardRow.holds Try.pinned (OpenSpec.ofChange chainHeardSpec)

/-- ITS FALSE NEIGHBOUR: 'it returns false'. Refute it at one input. -/
def chainHeardWrong : ChangeSpec := { name := "chainHeard", fn := fun _ => fun
  | [d1, d2] => { results := [.lit (.bool false)], args := [d1, d2] }
  | _ => none }
def ChainHeardWrongFalsely : Prop := chainHeardRow.holds Try.pinned (OpenSpec.ofChange chainHeardWrong)

/-- 'baliselaw11.ChainMeets': WHATEVER THE INPUT: true; the input reads as it did. -/
def chainMeetsSpec : ChangeSpec := { name := "chainMeets", fn := fun _ => fun
  | [d1, d2] => { results := [.lit (.bool true)], args := [d1, d2] }
  | _ => none }
def chainMeetsRow : OpenClaim := { program := "ytpgbplgljfjhnaa", sum := "f7ead1c60cd0880a5a5c35c8141d62853392d07f83747828babf4512e2d168f3", func := "balise/baliselaw11.ChainMeets", spec := "chainMeets", inPlace := ["slices.overlaps[int]"], unfollowed := true, recurses := true, apart := false }
def ChainMeetsSaid : Prop := chainMeetsRow.holds Try.pinned (OpenSpec.ofChange chainMeetsSpec)

/-- ITS FALSE NEIGHBOUR: 'it returns false'. Refute it at one input. -/
def chainMeetsWrong : ChangeSpec := { name := "chainMeets", fn := fun _ => fun
  | [d1, d2] => { results := [.lit (.bool false)], args := [d1, d2] }
  | _ => none }
def ChainMeetsWrongFalsely : Prop := chainMeetsRow.holds Try.pinned (OpenSpec.ofChange chainMeetsWrong)

/- THE SECOND FORM. 'bulk': how many values and letters a reading holds, each counted each time it is reached (what is shared counts as often as it is met; a slice's spare places count too). A statement '..UptoSaid' is the law's where the arguments, and the package variables that the reading takes, are together of bulk at most 1048576: NARROWER than '..Said'. Prove '..Said' where nothing that the law and all that it calls make is longer than what came in: it says more and counts as full. Else prove '..UptoSaid'. A law counts once. -/
mutual
def uptoBulk {H : Type} : DataW H → Nat
  | .lit (.string bytes) => bytes.length + 1
  | .lit _ => 1
  | .nil => 1
  | .ptr d => uptoBulk d + 1
  | .slice elems spare => uptoBulkAll elems + uptoBulkAll spare + 1
  | .agg parts => uptoBulkAll parts + 1
  | .iface _ d => uptoBulk d + 1
  | .map entries => uptoBulkEntries entries + 1
  | .held _ => 1
def uptoBulkAll {H : Type} : List (DataW H) → Nat
  | [] => 0
  | d :: r => uptoBulk d + uptoBulkAll r
def uptoBulkEntries {H : Type} : List (Lit × DataW H) → Nat
  | [] => 0
  | x :: r => uptoBulkEntry x + uptoBulkEntries r
def uptoBulkEntry {H : Type} : Lit × DataW H → Nat
  | (.string bytes, d) => bytes.length + uptoBulk d + 1
  | (_, d) => uptoBulk d + 1
 end
def uptoSmall : (H : Type) → List (DataW H) → Bool := fun _ ds => decide (uptoBulkAll ds ≤ 1048576)
def OpenSpec.upto (s : _root_.Go.ChangeSpec) : _root_.Go.OpenSpec := { _root_.Go.OpenSpec.ofChange s with cond := some uptoSmall }

/-- 'baliselaw11.ChainGrows', WHERE WHAT IT READS IS OF BULK AT MOST 1048576: true; the input reads as it did. -/
def chainGrowsUptoRow : OpenClaim := { program := "ytpgbplgljfjhnaa", sum := "f7ead1c60cd0880a5a5c35c8141d62853392d07f83747828babf4512e2d168f3", func := "balise/baliselaw11.ChainGrows", spec := "chainGrows", inPlace := ["slices.overlaps[int]"], unfollowed := true, recurses := true, apart := false, narrowed := true }
def ChainGrowsUptoSaid : Prop := chainGrowsUptoRow.holds Try.pinned (OpenSpec.upto chainGrowsSpec)

/-- 'baliselaw11.ChainCovers', WHERE WHAT IT READS IS OF BULK AT MOST 1048576: true; the input reads as it did. -/
def chainCoversUptoRow : OpenClaim := { program := "ytpgbplgljfjhnaa", sum := "f7ead1c60cd0880a5a5c35c8141d62853392d07f83747828babf4512e2d168f3", func := "balise/baliselaw11.ChainCovers", spec := "chainCovers", inPlace := ["slices.overlaps[int]"], unfollowed := true, recurses := true, apart := false, narrowed := true }
def ChainCoversUptoSaid : Prop := chainCoversUptoRow.holds Try.pinned (OpenSpec.upto chainCoversSpec)

/-- 'baliselaw11.ChainPoints', WHERE WHAT IT READS IS OF BULK AT MOST 1048576: true; the input reads as it did. -/
def chainPointsUptoRow : OpenClaim := { program := "ytpgbplgljfjhnaa", sum := "f7ead1c60cd0880a5a5c35c8141d62853392d07f83747828babf4512e2d168f3", func := "balise/baliselaw11.ChainPoints", spec := "chainPoints", inPlace := ["slices.overlaps[int]"], unfollowed := true, recurses := true, apart := false, narrowed := true }
def ChainPointsUptoSaid : Prop := chainPointsUptoRow.holds Try.pinned (OpenSpec.upto chainPointsSpec)

/-- 'baliselaw11.ChainSpans', WHERE WHAT IT READS IS OF BULK AT MOST 1048576: true; the input reads as it did. -/
def chainSpansUptoRow : OpenClaim := { program := "ytpgbplgljfjhnaa", sum := "f7ead1c60cd0880a5a5c35c8141d62853392d07f83747828babf4512e2d168f3", func := "balise/baliselaw11.ChainSpans", spec := "chainSpans", inPlace := ["slices.overlaps[int]"], unfollowed := true, recurses := true, apart := false, narrowed := true }
def ChainSpansUptoSaid : Prop := chainSpansUptoRow.holds Try.pinned (OpenSpec.upto chainSpansSpec)

/-- 'baliselaw11.ChainHeard', WHERE WHAT IT READS IS OF BULK AT MOST 1048576: true; the input reads as it did. -/
def chainHeardUptoRow : OpenClaim := { program := "ytpgbplgljfjhnaa", sum := "f7ead1c60cd0880a5a5c35c8141d62853392d07f83747828babf4512e2d168f3", func := "balise/baliselaw11.ChainHeard", spec := "chainHeard", inPlace := ["slices.overlaps[int]"], unfollowed := true, recurses := true, apart := false, narrowed := true }
def ChainHeardUptoSaid : Prop := chainHeardUptoRow.holds Try.pinned (OpenSpec.upto chainHeardSpec)

/-- 'baliselaw11.ChainMeets', WHERE WHAT IT READS IS OF BULK AT MOST 1048576: true; the input reads as it did. -/
def chainMeetsUptoRow : OpenClaim := { program := "ytpgbplgljfjhnaa", sum := "f7ead1c60cd0880a5a5c35c8141d62853392d07f83747828babf4512e2d168f3", func := "balise/baliselaw11.ChainMeets", spec := "chainMeets", inPlace := ["slices.overlaps[int]"], unfollowed := true, recurses := true, apart := false, narrowed := true }
def ChainMeetsUptoSaid : Prop := chainMeetsUptoRow.holds Try.pinned (OpenSpec.upto chainMeetsSpec)

end Rows
end Go.Proofs.Ytpgbplgljfjhnaa
