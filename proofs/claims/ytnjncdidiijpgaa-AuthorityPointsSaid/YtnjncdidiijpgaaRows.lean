/-
  No cell of these rows narrows 'for every input' (looked for: loops, veiled, ifaces, maps, wideKeys, modest, calm, conditions, laid).
  DERIVED. THE GIVEN ROWS OF THIS SEAT. 7 by the template 'for every input the law returns true; each argument reads behind the call as it read before'; 0 by the template 'total and deterministic' (their statements: YtnjncdidiijpgaaTotals.lean).
  GIVEN WITH THE SEED: the statements are not yours to turn. If you find one false, say at which input.
  Laid BY PROGRAM, IN A SANDBOX (cutbox-rows.mjs): the forced cells as the released guide's own fill.sh prints them over the translation 8411760d9ee49f45… (all of the seat's roots in one cut). By AI agents, Wed Nov 11 2026. No macro, syntax, notation, axiom, sorry.
-/
import Derived.Test.YtnjncdidiijpgaaChecked
import GoSem.Claim
import GoSem.ClaimJoined
import GoSem.ClaimMapViews
import Derived.JoinedTies
import Derived.KernelRfl
namespace Go.Proofs.Ytnjncdidiijpgaa
/- THE CELL 'sum', in the pinned program and in every row, IS THE sha256 OF THE DUMP (.gsa) THAT YtnjncdidiijpgaaProg.lean LOADS. Nothing in Lean hashes anything: it is a label: what it is worth is what the hold of that sum in a sandbox is worth. -/
noncomputable def Try.pinned : Pinned := { name := "ytnjncdidiijpgaa", sum := "8411760d9ee49f456aca48008ef804c74af0f7424cc1435696eb70a5c4294a3d", checked := Try.checked }
namespace Rows
def none {H : Type} : Left H := { results := [], args := [] }

/-- 'baliselaw16.AuthorityOf': WHATEVER THE INPUT: true; the input reads as it did. -/
def authorityOfSpec : ChangeSpec := { name := "authorityOf", fn := fun _ => fun
  | [d1, d2, d3] => { results := [.lit (.bool true)], args := [d1, d2, d3] }
  | _ => none }
def authorityOfRow : OpenClaim := { program := "ytnjncdidiijpgaa", sum := "8411760d9ee49f456aca48008ef804c74af0f7424cc1435696eb70a5c4294a3d", func := "balise/baliselaw16.AuthorityOf", spec := "authorityOf", unfollowed := true, recurses := true, apart := false }
def AuthorityOfSaid : Prop := authorityOfRow.holds Try.pinned (OpenSpec.ofChange authorityOfSpec)

/-- ITS FALSE NEIGHBOUR: 'it returns false'. Refute it at one input. -/
def authorityOfWrong : ChangeSpec := { name := "authorityOf", fn := fun _ => fun
  | [d1, d2, d3] => { results := [.lit (.bool false)], args := [d1, d2, d3] }
  | _ => none }
def AuthorityOfWrongFalsely : Prop := authorityOfRow.holds Try.pinned (OpenSpec.ofChange authorityOfWrong)

/-- 'baliselaw16.AuthorityApart': WHATEVER THE INPUT: true; the input reads as it did. -/
def authorityApartSpec : ChangeSpec := { name := "authorityApart", fn := fun _ => fun
  | [d1, d2, d3] => { results := [.lit (.bool true)], args := [d1, d2, d3] }
  | _ => none }
def authorityApartRow : OpenClaim := { program := "ytnjncdidiijpgaa", sum := "8411760d9ee49f456aca48008ef804c74af0f7424cc1435696eb70a5c4294a3d", func := "balise/baliselaw16.AuthorityApart", spec := "authorityApart", unfollowed := true, recurses := true, apart := false }
def AuthorityApartSaid : Prop := authorityApartRow.holds Try.pinned (OpenSpec.ofChange authorityApartSpec)

/-- ITS FALSE NEIGHBOUR: 'it returns false'. Refute it at one input. -/
def authorityApartWrong : ChangeSpec := { name := "authorityApart", fn := fun _ => fun
  | [d1, d2, d3] => { results := [.lit (.bool false)], args := [d1, d2, d3] }
  | _ => none }
def AuthorityApartWrongFalsely : Prop := authorityApartRow.holds Try.pinned (OpenSpec.ofChange authorityApartWrong)

/-- 'baliselaw16.AuthorityStops': WHATEVER THE INPUT: true; the input reads as it did. -/
def authorityStopsSpec : ChangeSpec := { name := "authorityStops", fn := fun _ => fun
  | [d1, d2, d3, d4, d5] => { results := [.lit (.bool true)], args := [d1, d2, d3, d4, d5] }
  | _ => none }
def authorityStopsRow : OpenClaim := { program := "ytnjncdidiijpgaa", sum := "8411760d9ee49f456aca48008ef804c74af0f7424cc1435696eb70a5c4294a3d", func := "balise/baliselaw16.AuthorityStops", spec := "authorityStops", unfollowed := true, recurses := true, apart := false }
def AuthorityStopsSaid : Prop := authorityStopsRow.holds Try.pinned (OpenSpec.ofChange authorityStopsSpec)

/-- ITS FALSE NEIGHBOUR: 'it returns false'. Refute it at one input. -/
def authorityStopsWrong : ChangeSpec := { name := "authorityStops", fn := fun _ => fun
  | [d1, d2, d3, d4, d5] => { results := [.lit (.bool false)], args := [d1, d2, d3, d4, d5] }
  | _ => none }
def AuthorityStopsWrongFalsely : Prop := authorityStopsRow.holds Try.pinned (OpenSpec.ofChange authorityStopsWrong)

/-- 'baliselaw16.AuthoritySure': WHATEVER THE INPUT: true; the input reads as it did. -/
def authoritySureSpec : ChangeSpec := { name := "authoritySure", fn := fun _ => fun
  | [d1, d2, d3] => { results := [.lit (.bool true)], args := [d1, d2, d3] }
  | _ => none }
def authoritySureRow : OpenClaim := { program := "ytnjncdidiijpgaa", sum := "8411760d9ee49f456aca48008ef804c74af0f7424cc1435696eb70a5c4294a3d", func := "balise/baliselaw16.AuthoritySure", spec := "authoritySure", unfollowed := true, recurses := true, apart := false }
def AuthoritySureSaid : Prop := authoritySureRow.holds Try.pinned (OpenSpec.ofChange authoritySureSpec)

/-- ITS FALSE NEIGHBOUR: 'it returns false'. Refute it at one input. -/
def authoritySureWrong : ChangeSpec := { name := "authoritySure", fn := fun _ => fun
  | [d1, d2, d3] => { results := [.lit (.bool false)], args := [d1, d2, d3] }
  | _ => none }
def AuthoritySureWrongFalsely : Prop := authoritySureRow.holds Try.pinned (OpenSpec.ofChange authoritySureWrong)

/-- 'baliselaw16.AuthorityRow': WHATEVER THE INPUT: true; the input reads as it did. -/
def authorityRowSpec : ChangeSpec := { name := "authorityRow", fn := fun _ => fun
  | [d1, d2] => { results := [.lit (.bool true)], args := [d1, d2] }
  | _ => none }
def authorityRowRow : OpenClaim := { program := "ytnjncdidiijpgaa", sum := "8411760d9ee49f456aca48008ef804c74af0f7424cc1435696eb70a5c4294a3d", func := "balise/baliselaw16.AuthorityRow", spec := "authorityRow", unfollowed := true, recurses := true, apart := false }
def AuthorityRowSaid : Prop := authorityRowRow.holds Try.pinned (OpenSpec.ofChange authorityRowSpec)

/-- ITS FALSE NEIGHBOUR: 'it returns false'. Refute it at one input. -/
def authorityRowWrong : ChangeSpec := { name := "authorityRow", fn := fun _ => fun
  | [d1, d2] => { results := [.lit (.bool false)], args := [d1, d2] }
  | _ => none }
def AuthorityRowWrongFalsely : Prop := authorityRowRow.holds Try.pinned (OpenSpec.ofChange authorityRowWrong)

/-- 'baliselaw16.AuthorityPoints': WHATEVER THE INPUT: true; the input reads as it did. -/
def authorityPointsSpec : ChangeSpec := { name := "authorityPoints", fn := fun _ => fun
  | [d1, d2, d3] => { results := [.lit (.bool true)], args := [d1, d2, d3] }
  | _ => none }
def authorityPointsRow : OpenClaim := { program := "ytnjncdidiijpgaa", sum := "8411760d9ee49f456aca48008ef804c74af0f7424cc1435696eb70a5c4294a3d", func := "balise/baliselaw16.AuthorityPoints", spec := "authorityPoints", unfollowed := true, recurses := true, apart := false }
def AuthorityPointsSaid : Prop := authorityPointsRow.holds Try.pinned (OpenSpec.ofChange authorityPointsSpec)

/-- ITS FALSE NEIGHBOUR: 'it returns false'. Refute it at one input. -/
def authorityPointsWrong : ChangeSpec := { name := "authorityPoints", fn := fun _ => fun
  | [d1, d2, d3] => { results := [.lit (.bool false)], args := [d1, d2, d3] }
  | _ => none }
def AuthorityPointsWrongFalsely : Prop := authorityPointsRow.holds Try.pinned (OpenSpec.ofChange authorityPointsWrong)

/-- 'baliselaw16.AuthorityEnds': WHATEVER THE INPUT: true; the input reads as it did. -/
def authorityEndsSpec : ChangeSpec := { name := "authorityEnds", fn := fun _ => fun
  | [d1, d2, d3, d4] => { results := [.lit (.bool true)], args := [d1, d2, d3, d4] }
  | _ => none }
def authorityEndsRow : OpenClaim := { program := "ytnjncdidiijpgaa", sum := "8411760d9ee49f456aca48008ef804c74af0f7424cc1435696eb70a5c4294a3d", func := "balise/baliselaw16.AuthorityEnds", spec := "authorityEnds", unfollowed := true, recurses := true, apart := false }
def AuthorityEndsSaid : Prop := authorityEndsRow.holds Try.pinned (OpenSpec.ofChange authorityEndsSpec)

/-- ITS FALSE NEIGHBOUR: 'it returns false'. Refute it at one input. -/
def authorityEndsWrong : ChangeSpec := { name := "authorityEnds", fn := fun _ => fun
  | [d1, d2, d3, d4] => { results := [.lit (.bool false)], args := [d1, d2, d3, d4] }
  | _ => none }
def AuthorityEndsWrongFalsely : Prop := authorityEndsRow.holds Try.pinned (OpenSpec.ofChange authorityEndsWrong)

/- THE SECOND FORM. 'bulk': how many values and letters a reading holds, each counted each time it is reached (what is shared counts as often as it is met; a slice's spare places count too). A statement '..UptoSaid' is the law's where the arguments, and the package variables that the reading takes, are together of bulk at most 1048576: NARROWER than '..Said'. Prove '..Said' where nothing that the law and all that it calls make is longer than what came in: it says more and counts as full. Else prove '..UptoSaid'. A law counts once. -/
mutual
def uptoBulk {H : Type} : DataW H → Nat
  | .lit (.string bytes) => bytes.length + 1
  | .lit _ => 1
  | .nil => 1
  | .ptr d => uptoBulk d + 1
  | .slice elems spare => uptoBulkAll elems + uptoBulkAll spare + 1
  | .agg parts => uptoBulkAll parts + 1
  | .iface _ d => uptoBulk d + 1
  | .map entries => uptoBulkEntries entries + 1
  | .held _ => 1
def uptoBulkAll {H : Type} : List (DataW H) → Nat
  | [] => 0
  | d :: r => uptoBulk d + uptoBulkAll r
def uptoBulkEntries {H : Type} : List (Lit × DataW H) → Nat
  | [] => 0
  | x :: r => uptoBulkEntry x + uptoBulkEntries r
def uptoBulkEntry {H : Type} : Lit × DataW H → Nat
  | (.string bytes, d) => bytes.length + uptoBulk d + 1
  | (_, d) => uptoBulk d + 1
 end
def uptoSmall : (H : Type) → List (DataW H) → Bool := fun _ ds => decide (uptoBulkAll ds ≤ 1048576)
def OpenSpec.upto (s : _root_.Go.ChangeSpec) : _root_.Go.OpenSpec := { _root_.Go.OpenSpec.ofChange s with cond := some uptoSmall }

/-- 'baliselaw16.AuthorityOf', WHERE WHAT IT READS IS OF BULK AT MOST 1048576: true; the input reads as it did. -/
def authorityOfUptoRow : OpenClaim := { program := "ytnjncdidiijpgaa", sum := "8411760d9ee49f456aca48008ef804c74af0f7424cc1435696eb70a5c4294a3d", func := "balise/baliselaw16.AuthorityOf", spec := "authorityOf", unfollowed := true, recurses := true, apart := false, narrowed := true }
def AuthorityOfUptoSaid : Prop := authorityOfUptoRow.holds Try.pinned (OpenSpec.upto authorityOfSpec)

/-- 'baliselaw16.AuthorityApart', WHERE WHAT IT READS IS OF BULK AT MOST 1048576: true; the input reads as it did. -/
def authorityApartUptoRow : OpenClaim := { program := "ytnjncdidiijpgaa", sum := "8411760d9ee49f456aca48008ef804c74af0f7424cc1435696eb70a5c4294a3d", func := "balise/baliselaw16.AuthorityApart", spec := "authorityApart", unfollowed := true, recurses := true, apart := false, narrowed := true }
def AuthorityApartUptoSaid : Prop := authorityApartUptoRow.holds Try.pinned (OpenSpec.upto authorityApartSpec)

/-- 'baliselaw16.AuthorityStops', WHERE WHAT IT READS IS OF BULK AT MOST 1048576: true; the input reads as it did. -/
def authorityStopsUptoRow : OpenClaim := { program := "ytnjncdidiijpgaa", sum := "8411760d9ee49f456aca48008ef804c74af0f7424cc1435696eb70a5c4294a3d", func := "balise/baliselaw16.AuthorityStops", spec := "authorityStops", unfollowed := true, recurses := true, apart := false, narrowed := true }
def AuthorityStopsUptoSaid : Prop := authorityStopsUptoRow.holds Try.pinned (OpenSpec.upto authorityStopsSpec)

/-- 'baliselaw16.AuthoritySure', WHERE WHAT IT READS IS OF BULK AT MOST 1048576: true; the input reads as it did. -/
def authoritySureUptoRow : OpenClaim := { program := "ytnjncdidiijpgaa", sum := "8411760d9ee49f456aca48008ef804c74af0f7424cc1435696eb70a5c4294a3d", func := "balise/baliselaw16.AuthoritySure", spec := "authoritySure", unfollowed := true, recurses := true, apart := false, narrowed := true }
def AuthoritySureUptoSaid : Prop := authoritySureUptoRow.holds Try.pinned (OpenSpec.upto authoritySureSpec)

/-- 'baliselaw16.AuthorityRow', WHERE WHAT IT READS IS OF BULK AT MOST 1048576: true; the input reads as it did. -/
def authorityRowUptoRow : OpenClaim := { program := "ytnjncdidiijpgaa", sum := "8411760d9ee49f456aca48008ef804c74af0f7424cc1435696eb70a5c4294a3d", func := "balise/baliselaw16.AuthorityRow", spec := "authorityRow", unfollowed := true, recurses := true, apart := false, narrowed := true }
def AuthorityRowUptoSaid : Prop := authorityRowUptoRow.holds Try.pinned (OpenSpec.upto authorityRowSpec)

/-- 'baliselaw16.AuthorityPoints', WHERE WHAT IT READS IS OF BULK AT MOST 1048576: true; the input reads as it did. -/
def authorityPointsUptoRow : OpenClaim := { program := "ytnjncdidiijpgaa", sum := "8411760d9ee49f456aca48008ef804c74af0f7424cc1435696eb70a5c4294a3d", func := "balise/baliselaw16.AuthorityPoints", spec := "authorityPoints", unfollowed := true, recurses := true, apart := false, narrowed := true }
def AuthorityPointsUptoSaid : Prop := authorityPointsUptoRow.holds Try.pinned (OpenSpec.upto authorityPointsSpec)

/-- 'baliselaw16.AuthorityEnds', WHERE WHAT IT READS IS OF BULK AT MOST 1048576: true; the input reads as it did. -/
def authorityEndsUptoRow : OpenClaim := { program := "ytnjncdidiijpgaa", sum := "8411760d9ee49f456aca48008ef804c74af0f7424cc1435696eb70a5c4294a3d", func := "balise/baliselaw16.AuthorityEnds", spec := "authorityEnds", unfollowed := true, recurses := true, apart := false, narrowed := true }
def AuthorityEndsUptoSaid : Prop := authorityEndsUptoRow.holds Try.pinned (OpenSpec.upto authorityEndsSpec)

end Rows
end Go.Proofs.Ytnjncdidiijpgaa
