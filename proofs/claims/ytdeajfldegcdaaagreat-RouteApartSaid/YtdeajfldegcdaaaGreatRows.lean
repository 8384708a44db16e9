/-
  No cell of these rows narrows 'for every input' (looked for: loops, veiled, ifaces, maps, wideKeys, modest, calm, conditions, laid).
  DERIVED. THE GIVEN ROWS OF THIS SEAT. 3 by the template 'for every input the law returns true; each argument reads behind the call as it read before'; 0 by the template 'total and deterministic' (their statements: YtdeajfldegcdaaaGreatTotals.lean).
  GIVEN WITH THE SEED: the statements are not yours to turn. If you find one false, say at which input.
  Laid BY PROGRAM, IN A SANDBOX (cutbox-rows.mjs): the forced cells as the released guide's own fill.sh prints them over the translation 81e87f4dd9e9409d… (all of the seat's roots in one cut). By AI agents, Wed Nov 11 2026. No macro, syntax, notation, axiom, sorry.
-/
import Derived.Test.YtdeajfldegcdaaaGreatChecked
import GoSem.Claim
import GoSem.ClaimJoined
import GoSem.ClaimMapViews
import Derived.JoinedTies
import Derived.KernelRfl
namespace Go.Proofs.YtdeajfldegcdaaaGreat
/- THE CELL 'sum', in the pinned program and in every row, IS THE sha256 OF THE DUMP (.gsa) THAT YtdeajfldegcdaaaGreatProg.lean LOADS. Nothing in Lean hashes anything: it is a label: what it is worth is what the hold of that sum in a sandbox is worth. -/
noncomputable def Tryz.pinned : Pinned := { name := "ytdeajfldegcdaaagreat", sum := "81e87f4dd9e9409d1678fa63d80ff0be2808bdc1a50bf780ad3bad93230a69fe", checked := Tryz.checked }
namespace Rows
def none {H : Type} : Left H := { results := [], args := [] }

/-- 'baliselaw15.RoutePlays': WHATEVER THE INPUT: true; the input reads as it did. -/
def routePlaysSpec : ChangeSpec := { name := "routePlays", fn := fun _ => fun
  | [d1, d2] => { results := [.lit (.bool true)], args := [d1, d2] }
  | _ => none }
def routePlaysRow : OpenClaim := { program := "ytdeajfldegcdaaagreat", sum := "81e87f4dd9e9409d1678fa63d80ff0be2808bdc1a50bf780ad3bad93230a69fe", func := "balise/baliselaw15.RoutePlays", spec := "routePlays", unfollowed := true, recurses := true, apart := false }
def RoutePlaysSaid : Prop := routePlaysRow.holds Tryz.pinned (OpenSpec.ofChange routePlaysSpec)

/-- ITS FALSE NEIGHBOUR: 'it returns false'. Refute it at one input. -/
def routePlaysWrong : ChangeSpec := { name := "routePlays", fn := fun _ => fun
  | [d1, d2] => { results := [.lit (.bool false)], args := [d1, d2] }
  | _ => none }
def RoutePlaysWrongFalsely : Prop := routePlaysRow.holds Tryz.pinned (OpenSpec.ofChange routePlaysWrong)

/-- 'baliselaw15.RouteApart': WHATEVER THE INPUT: true; the input reads as it did. -/
def routeApartSpec : ChangeSpec := { name := "routeApart", fn := fun _ => fun
  | [d1, d2] => { results := [.lit (.bool true)], args := [d1, d2] }
  | _ => none }
def routeApartRow : OpenClaim := { program := "ytdeajfldegcdaaagreat", sum := "81e87f4dd9e9409d1678fa63d80ff0be2808bdc1a50bf780ad3bad93230a69fe", func := "balise/baliselaw15.RouteApart", spec := "routeApart", unfollowed := true, recurses := true, apart := false }
def RouteApartSaid : Prop := routeApartRow.holds Tryz.pinned (OpenSpec.ofChange routeApartSpec)

/-- ITS FALSE NEIGHBOUR: 'it returns false'. Refute it at one input. -/
def routeApartWrong : ChangeSpec := { name := "routeApart", fn := fun _ => fun
  | [d1, d2] => { results := [.lit (.bool false)], args := [d1, d2] }
  | _ => none }
def RouteApartWrongFalsely : Prop := routeApartRow.holds Tryz.pinned (OpenSpec.ofChange routeApartWrong)

/-- 'baliselaw15.RouteLoads': WHATEVER THE INPUT: true; the input reads as it did. -/
def routeLoadsSpec : ChangeSpec := { name := "routeLoads", fn := fun _ => fun
  | [d1, d2, d3, d4, d5] => { results := [.lit (.bool true)], args := [d1, d2, d3, d4, d5] }
  | _ => none }
def routeLoadsRow : OpenClaim := { program := "ytdeajfldegcdaaagreat", sum := "81e87f4dd9e9409d1678fa63d80ff0be2808bdc1a50bf780ad3bad93230a69fe", func := "balise/baliselaw15.RouteLoads", spec := "routeLoads", unfollowed := true, recurses := true, apart := false }
def RouteLoadsSaid : Prop := routeLoadsRow.holds Tryz.pinned (OpenSpec.ofChange routeLoadsSpec)

/-- ITS FALSE NEIGHBOUR: 'it returns false'. Refute it at one input. -/
def routeLoadsWrong : ChangeSpec := { name := "routeLoads", fn := fun _ => fun
  | [d1, d2, d3, d4, d5] => { results := [.lit (.bool false)], args := [d1, d2, d3, d4, d5] }
  | _ => none }
def RouteLoadsWrongFalsely : Prop := routeLoadsRow.holds Tryz.pinned (OpenSpec.ofChange routeLoadsWrong)

/- THE SECOND FORM. 'bulk': how many values and letters a reading holds, each counted each time it is reached (what is shared counts as often as it is met; a slice's spare places count too). A statement '..UptoSaid' is the law's where the arguments, and the package variables that the reading takes, are together of bulk at most 1048576: NARROWER than '..Said'. Prove '..Said' where nothing that the law and all that it calls make is longer than what came in: it says more and counts as full. Else prove '..UptoSaid'. A law counts once. -/
mutual
def uptoBulk {H : Type} : DataW H → Nat
  | .lit (.string bytes) => bytes.length + 1
  | .lit _ => 1
  | .nil => 1
  | .ptr d => uptoBulk d + 1
  | .slice elems spare => uptoBulkAll elems + uptoBulkAll spare + 1
  | .agg parts => uptoBulkAll parts + 1
  | .iface _ d => uptoBulk d + 1
  | .map entries => uptoBulkEntries entries + 1
  | .held _ => 1
def uptoBulkAll {H : Type} : List (DataW H) → Nat
  | [] => 0
  | d :: r => uptoBulk d + uptoBulkAll r
def uptoBulkEntries {H : Type} : List (Lit × DataW H) → Nat
  | [] => 0
  | x :: r => uptoBulkEntry x + uptoBulkEntries r
def uptoBulkEntry {H : Type} : Lit × DataW H → Nat
  | (.string bytes, d) => bytes.length + uptoBulk d + 1
  | (_, d) => uptoBulk d + 1
 end
def uptoSmall : (H : Type) → List (DataW H) → Bool := fun _ ds => decide (uptoBulkAll ds ≤ 1048576)
def OpenSpec.upto (s : _root_.Go.ChangeSpec) : _root_.Go.OpenSpec := { _root_.Go.OpenSpec.ofChange s with cond := some uptoSmall }

/-- 'baliselaw15.RoutePlays', WHERE WHAT IT READS IS OF BULK AT MOST 1048576: true; the input reads as it did. -/
def routePlaysUptoRow : OpenClaim := { program := "ytdeajfldegcdaaagreat", sum := "81e87f4dd9e9409d1678fa63d80ff0be2808bdc1a50bf780ad3bad93230a69fe", func := "balise/baliselaw15.RoutePlays", spec := "routePlays", unfollowed := true, recurses := true, apart := false, narrowed := true }
def RoutePlaysUptoSaid : Prop := routePlaysUptoRow.holds Tryz.pinned (OpenSpec.upto routePlaysSpec)

/-- 'baliselaw15.RouteApart', WHERE WHAT IT READS IS OF BULK AT MOST 1048576: true; the input reads as it did. -/
def routeApartUptoRow : OpenClaim := { program := "ytdeajfldegcdaaagreat", sum := "81e87f4dd9e9409d1678fa63d80ff0be2808bdc1a50bf780ad3bad93230a69fe", func := "balise/baliselaw15.RouteApart", spec := "routeApart", unfollowed := true, recurses := true, apart := false, narrowed := true }
def RouteApartUptoSaid : Prop := routeApartUptoRow.holds Tryz.pinned (OpenSpec.upto routeApartSpec)

/-- 'baliselaw15.RouteLoads', WHERE WHAT IT READS IS OF BULK AT MOST 1048576: true; the input reads as it did. -/
def routeLoadsUptoRow : OpenClaim := { program := "ytdeajfldegcdaaagreat", sum := "81e87f4dd9e9409d1678fa63d80ff0be2808bdc1a50bf780ad3bad93230a69fe", func := "balise/baliselaw15.RouteLoads", spec := "routeLoads", unfollowed := true, recurses := true, apart := false, narrowed := true }
def RouteLoadsUptoSaid : Prop := routeLoadsUptoRow.holds Tryz.pinned (OpenSpec.upto routeLoadsSpec)

end Rows
end Go.Proofs.YtdeajfldegcdaaaGreat
