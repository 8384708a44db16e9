/-
  No cell of these rows narrows 'for every input' (looked for: loops, veiled, ifaces, maps, wideKeys, modest, calm, conditions, laid).
  DERIVED. THE GIVEN ROWS OF THIS SEAT. 3 by the template 'for every input the law returns true; each argument reads behind the call as it read before'; 0 by the template 'total and deterministic' (their statements: YtdeajfldegcdaaaTotals.lean).
  GIVEN WITH THE SEED: the statements are not yours to turn. If you find one false, say at which input.
  Laid BY PROGRAM, IN A SANDBOX (cutbox-rows.mjs): the forced cells as the released guide's own fill.sh prints them over the translation 03e99fc6b0459004… (all of the seat's roots in one cut). By AI agents, Wed Nov 11 2026. No macro, syntax, notation, axiom, sorry.
-/
import Derived.Test.YtdeajfldegcdaaaChecked
import GoSem.Claim
import GoSem.ClaimJoined
import GoSem.ClaimMapViews
import Derived.JoinedTies
import Derived.KernelRfl
namespace Go.Proofs.Ytdeajfldegcdaaa
/- THE CELL 'sum', in the pinned program and in every row, IS THE sha256 OF THE DUMP (.gsa) THAT YtdeajfldegcdaaaProg.lean LOADS. Nothing in Lean hashes anything: it is a label: what it is worth is what the hold of that sum in a sandbox is worth. -/
noncomputable def Try.pinned : Pinned := { name := "ytdeajfldegcdaaa", sum := "03e99fc6b04590043f002b6a658548c974ae58f56bea5abd1adad4000c278fb4", checked := Try.checked }
namespace Rows
def none {H : Type} : Left H := { results := [], args := [] }

/-- 'baliselaw15.RouteOrder': WHATEVER THE INPUT: true; the input reads as it did. -/
def routeOrderSpec : ChangeSpec := { name := "routeOrder", fn := fun _ => fun
  | [d1, d2, d3] => { results := [.lit (.bool true)], args := [d1, d2, d3] }
  | _ => none }
def routeOrderRow : OpenClaim := { program := "ytdeajfldegcdaaa", sum := "03e99fc6b04590043f002b6a658548c974ae58f56bea5abd1adad4000c278fb4", func := "balise/baliselaw15.RouteOrder", spec := "routeOrder", unfollowed := true, recurses := true, apart := false }
def RouteOrderSaid : Prop := routeOrderRow.holds Try.pinned (OpenSpec.ofChange routeOrderSpec)

/-- ITS FALSE NEIGHBOUR: 'it returns false'. Refute it at one input. -/
def routeOrderWrong : ChangeSpec := { name := "routeOrder", fn := fun _ => fun
  | [d1, d2, d3] => { results := [.lit (.bool false)], args := [d1, d2, d3] }
  | _ => none }
def RouteOrderWrongFalsely : Prop := routeOrderRow.holds Try.pinned (OpenSpec.ofChange routeOrderWrong)

/-- 'baliselaw15.RouteLoose': WHATEVER THE INPUT: true; the input reads as it did. -/
def routeLooseSpec : ChangeSpec := { name := "routeLoose", fn := fun _ => fun
  | [d1, d2, d3] => { results := [.lit (.bool true)], args := [d1, d2, d3] }
  | _ => none }
def routeLooseRow : OpenClaim := { program := "ytdeajfldegcdaaa", sum := "03e99fc6b04590043f002b6a658548c974ae58f56bea5abd1adad4000c278fb4", func := "balise/baliselaw15.RouteLoose", spec := "routeLoose", unfollowed := true, recurses := true, apart := false }
def RouteLooseSaid : Prop := routeLooseRow.holds Try.pinned (OpenSpec.ofChange routeLooseSpec)

/-- ITS FALSE NEIGHBOUR: 'it returns false'. Refute it at one input. -/
def routeLooseWrong : ChangeSpec := { name := "routeLoose", fn := fun _ => fun
  | [d1, d2, d3] => { results := [.lit (.bool false)], args := [d1, d2, d3] }
  | _ => none }
def RouteLooseWrongFalsely : Prop := routeLooseRow.holds Try.pinned (OpenSpec.ofChange routeLooseWrong)

/-- 'baliselaw15.RouteErrs': WHATEVER THE INPUT: true; the input reads as it did. -/
def routeErrsSpec : ChangeSpec := { name := "routeErrs", fn := fun _ => fun
  | [d1, d2, d3] => { results := [.lit (.bool true)], args := [d1, d2, d3] }
  | _ => none }
def routeErrsRow : OpenClaim := { program := "ytdeajfldegcdaaa", sum := "03e99fc6b04590043f002b6a658548c974ae58f56bea5abd1adad4000c278fb4", func := "balise/baliselaw15.RouteErrs", spec := "routeErrs", unfollowed := true, recurses := true, apart := false }
def RouteErrsSaid : Prop := routeErrsRow.holds Try.pinned (OpenSpec.ofChange routeErrsSpec)

/-- ITS FALSE NEIGHBOUR: 'it returns false'. Refute it at one input. -/
def routeErrsWrong : ChangeSpec := { name := "routeErrs", fn := fun _ => fun
  | [d1, d2, d3] => { results := [.lit (.bool false)], args := [d1, d2, d3] }
  | _ => none }
def RouteErrsWrongFalsely : Prop := routeErrsRow.holds Try.pinned (OpenSpec.ofChange routeErrsWrong)

/- THE SECOND FORM. 'bulk': how many values and letters a reading holds, each counted each time it is reached (what is shared counts as often as it is met; a slice's spare places count too). A statement '..UptoSaid' is the law's where the arguments, and the package variables that the reading takes, are together of bulk at most 1048576: NARROWER than '..Said'. Prove '..Said' where nothing that the law and all that it calls make is longer than what came in: it says more and counts as full. Else prove '..UptoSaid'. A law counts once. -/
mutual
def uptoBulk {H : Type} : DataW H → Nat
  | .lit (.string bytes) => bytes.length + 1
  | .lit _ => 1
  | .nil => 1
  | .ptr d => uptoBulk d + 1
  | .slice elems spare => uptoBulkAll elems + uptoBulkAll spare + 1
  | .agg parts => uptoBulkAll parts + 1
  | .iface _ d => uptoBulk d + 1
  | .map entries => uptoBulkEntries entries + 1
  | .held _ => 1
def uptoBulkAll {H : Type} : List (DataW H) → Nat
  | [] => 0
  | d :: r => uptoBulk d + uptoBulkAll r
def uptoBulkEntries {H : Type} : List (Lit × DataW H) → Nat
  | [] => 0
  | x :: r => uptoBulkEntry x + uptoBulkEntries r
def uptoBulkEntry {H : Type} : Lit × DataW H → Nat
  | (.string bytes, d) => bytes.length + uptoBulk d + 1
  | (_, d) => uptoBulk d + 1
 end
def uptoSmall : (H : Type) → List (DataW H) → Bool := fun _ ds => decide (uptoBulkAll ds ≤ 1048576)
def OpenSpec.upto (s : _root_.Go.ChangeSpec) : _root_.Go.OpenSpec := { _root_.Go.OpenSpec.ofChange s with cond := some uptoSmall }

/-- 'baliselaw15.RouteOrder', WHERE WHAT IT READS IS OF BULK AT MOST 1048576: true; the input reads as it did. -/
def routeOrderUptoRow : OpenClaim := { program := "ytdeajfldegcdaaa", sum := "03e99fc6b04590043f002b6a658548c974ae58f56bea5abd1adad4000c278fb4", func := "balise/baliselaw15.RouteOrder", spec := "routeOrder", unfollowed := true, recurses := true, apart := false, narrowed := true }
def RouteOrderUptoSaid : Prop := routeOrderUptoRow.holds Try.pinned (OpenSpec.upto routeOrderSpec)

/-- 'baliselaw15.RouteLoose', WHERE WHAT IT READS IS OF BULK AT MOST 1048576: true; the input reads as it did. -/
def routeLooseUptoRow : OpenClaim := { program := "ytdeajfldegcdaaa", sum := "03e99fc6b04590043f002b6a658548c974ae58f56bea5abd1adad4000c278fb4", func := "balise/baliselaw15.RouteLoose", spec := "routeLoose", unfollowed := true, recurses := true, apart := false, narrowed := true }
def RouteLooseUptoSaid : Prop := routeLooseUptoRow.holds Try.pinned (OpenSpec.upto routeLooseSpec)

/-- 'baliselaw15.RouteErrs', WHERE WHAT IT READS IS OF BULK AT MOST 1048576: true; the input reads as it did. -/
def routeErrsUptoRow : OpenClaim := { program := "ytdeajfldegcdaaa", sum := "03e99fc6b04590043f002b6a658548c974ae58f56bea5abd1adad4000c278fb4", func := "balise/baliselaw15.RouteErrs", spec := "routeErrs", unfollowed := true, recurses := true, apart := false, narrowed := true }
def RouteErrsUptoSaid : Prop := routeErrsUptoRow.holds Try.pinned (OpenSpec.upto routeErrsSpec)

end Rows
end Go.Proofs.Ytdeajfldegcdaaa
