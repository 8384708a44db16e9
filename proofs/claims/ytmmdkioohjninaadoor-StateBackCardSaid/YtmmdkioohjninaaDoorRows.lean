/-
  NARROWER THAN 'FOR EVERY INPUT', by the rows' own cells (each row's printed sentence says how): StateOf: laid · StateFree: laid · StateKinds: laid · StateViews: laid · StateStarts: laid · StateChanges: laid · StateBack: laid.
  DERIVED. THE GIVEN ROWS OF THIS SEAT. 7 by the template 'for every input the law returns true; each argument reads behind the call as it read before'; 0 by the template 'total and deterministic' (their statements: YtmmdkioohjninaaDoorTotals.lean).
  GIVEN WITH THE SEED: the statements are not yours to turn. If you find one false, say at which input.
  Laid BY PROGRAM, IN A SANDBOX (cutbox-rows.mjs): the forced cells as the released guide's own fill.sh prints them over the translation 232e8801129d6f1d… (all of the seat's roots in one cut). By AI agents, Wed Nov 11 2026. No macro, syntax, notation, axiom, sorry.
-/
import Derived.Test.YtmmdkioohjninaaDoorChecked
import GoSem.Claim
import GoSem.ClaimJoined
import GoSem.ClaimMapViews
import Derived.JoinedTies
import Derived.KernelRfl
namespace Go.Proofs.YtmmdkioohjninaaDoor
/- THE CELL 'sum', in the pinned program and in every row, IS THE sha256 OF THE DUMP (.gsa) THAT YtmmdkioohjninaaDoorProg.lean LOADS. Nothing in Lean hashes anything: it is a label: what it is worth is what the hold of that sum in a sandbox is worth. -/
noncomputable def Tryd.pinned : Pinned := { name := "ytmmdkioohjninaadoor", sum := "232e8801129d6f1d9c93f0aeaf44ca838c7a612faf134f06f174ccb997df16ad", checked := Tryd.checked }
namespace Rows
def none {H : Type} : Left H := { results := [], args := [] }

/- WHAT THE LISTED PACKAGE-LEVEL VARIABLES READ AS WHEN THE CALL BEGINS. Each datum BY PROGRAM (the guide's laid-datum.mjs) off the statement by which the dump's own 'gosem.cut.vars' lays the variable. In a bare row this is a premise. The card (YtmmdkioohjninaaDoorCards.lean) ties it to the program's text. -/
def laid_balise_state_kinds {H : Type} : DataW H := .agg [.agg [.lit (.int .u8 0), .lit (.int .u8 2), .lit (.int .u8 3), .lit (.int .u8 1)], .agg [.lit (.int .u8 6), .lit (.int .u8 0), .lit (.int .u8 8), .lit (.int .u8 7)], .agg [.lit (.int .u8 9), .lit (.int .u8 11), .lit (.int .u8 0), .lit (.int .u8 10)], .agg [.lit (.int .u8 4), .lit (.int .u8 12), .lit (.int .u8 5), .lit (.int .u8 0)]]

/-- 'baliselaw13.StateOf': WHATEVER THE INPUT: true; the input reads as it did. -/
def stateOfSpec : ChangeSpec := { name := "stateOf", fn := fun _ => fun
  | [d1, d2] => { results := [.lit (.bool true)], args := [d1, d2] }
  | _ => none }
def stateOfRow : OpenClaim := { program := "ytmmdkioohjninaadoor", sum := "232e8801129d6f1d9c93f0aeaf44ca838c7a612faf134f06f174ccb997df16ad", func := "balise/baliselaw13.StateOf", spec := "stateOf", unfollowed := true, recurses := true, named := ["balise/state.kinds"], apart := false, laid := [("balise/state.kinds", laid_balise_state_kinds)] }
def StateOfSaid : Prop := stateOfRow.holds Tryd.pinned (OpenSpec.ofChange stateOfSpec)

/-- ITS FALSE NEIGHBOUR: 'it returns false'. Refute it at one input. -/
def stateOfWrong : ChangeSpec := { name := "stateOf", fn := fun _ => fun
  | [d1, d2] => { results := [.lit (.bool false)], args := [d1, d2] }
  | _ => none }
def StateOfWrongFalsely : Prop := stateOfRow.holds Tryd.pinned (OpenSpec.ofChange stateOfWrong)

/-- 'baliselaw13.StateFree': WHATEVER THE INPUT: true; the input reads as it did. -/
def stateFreeSpec : ChangeSpec := { name := "stateFree", fn := fun _ => fun
  | [d1, d2] => { results := [.lit (.bool true)], args := [d1, d2] }
  | _ => none }
def stateFreeRow : OpenClaim := { program := "ytmmdkioohjninaadoor", sum := "232e8801129d6f1d9c93f0aeaf44ca838c7a612faf134f06f174ccb997df16ad", func := "balise/baliselaw13.StateFree", spec := "stateFree", unfollowed := true, recurses := true, named := ["balise/state.kinds"], apart := false, laid := [("balise/state.kinds", laid_balise_state_kinds)] }
def StateFreeSaid : Prop := stateFreeRow.holds Tryd.pinned (OpenSpec.ofChange stateFreeSpec)

/-- ITS FALSE NEIGHBOUR: 'it returns false'. Refute it at one input. -/
def stateFreeWrong : ChangeSpec := { name := "stateFree", fn := fun _ => fun
  | [d1, d2] => { results := [.lit (.bool false)], args := [d1, d2] }
  | _ => none }
def StateFreeWrongFalsely : Prop := stateFreeRow.holds Tryd.pinned (OpenSpec.ofChange stateFreeWrong)

/-- 'baliselaw13.StateKinds': WHATEVER THE INPUT: true; the input reads as it did. -/
def stateKindsSpec : ChangeSpec := { name := "stateKinds", fn := fun _ => fun
  | [d1, d2] => { results := [.lit (.bool true)], args := [d1, d2] }
  | _ => none }
def stateKindsRow : OpenClaim := { program := "ytmmdkioohjninaadoor", sum := "232e8801129d6f1d9c93f0aeaf44ca838c7a612faf134f06f174ccb997df16ad", func := "balise/baliselaw13.StateKinds", spec := "stateKinds", unfollowed := true, recurses := true, named := ["balise/state.kinds"], apart := false, laid := [("balise/state.kinds", laid_balise_state_kinds)] }
def StateKindsSaid : Prop := stateKindsRow.holds Tryd.pinned (OpenSpec.ofChange stateKindsSpec)

/-- ITS FALSE NEIGHBOUR: 'it returns false'. Refute it at one input. -/
def stateKindsWrong : ChangeSpec := { name := "stateKinds", fn := fun _ => fun
  | [d1, d2] => { results := [.lit (.bool false)], args := [d1, d2] }
  | _ => none }
def StateKindsWrongFalsely : Prop := stateKindsRow.holds Tryd.pinned (OpenSpec.ofChange stateKindsWrong)

/-- 'baliselaw13.StateViews': WHATEVER THE INPUT: true; the input reads as it did. -/
def stateViewsSpec : ChangeSpec := { name := "stateViews", fn := fun _ => fun
  | [d1, d2, d3] => { results := [.lit (.bool true)], args := [d1, d2, d3] }
  | _ => none }
def stateViewsRow : OpenClaim := { program := "ytmmdkioohjninaadoor", sum := "232e8801129d6f1d9c93f0aeaf44ca838c7a612faf134f06f174ccb997df16ad", func := "balise/baliselaw13.StateViews", spec := "stateViews", unfollowed := true, recurses := true, named := ["balise/state.kinds"], apart := false, laid := [("balise/state.kinds", laid_balise_state_kinds)] }
def StateViewsSaid : Prop := stateViewsRow.holds Tryd.pinned (OpenSpec.ofChange stateViewsSpec)

/-- ITS FALSE NEIGHBOUR: 'it returns false'. Refute it at one input. -/
def stateViewsWrong : ChangeSpec := { name := "stateViews", fn := fun _ => fun
  | [d1, d2, d3] => { results := [.lit (.bool false)], args := [d1, d2, d3] }
  | _ => none }
def StateViewsWrongFalsely : Prop := stateViewsRow.holds Tryd.pinned (OpenSpec.ofChange stateViewsWrong)

/-- 'baliselaw13.StateStarts': WHATEVER THE INPUT: true; the input reads as it did. -/
def stateStartsSpec : ChangeSpec := { name := "stateStarts", fn := fun _ => fun
  | [d1, d2] => { results := [.lit (.bool true)], args := [d1, d2] }
  | _ => none }
def stateStartsRow : OpenClaim := { program := "ytmmdkioohjninaadoor", sum := "232e8801129d6f1d9c93f0aeaf44ca838c7a612faf134f06f174ccb997df16ad", func := "balise/baliselaw13.StateStarts", spec := "stateStarts", unfollowed := true, recurses := true, named := ["balise/state.kinds"], apart := false, laid := [("balise/state.kinds", laid_balise_state_kinds)] }
def StateStartsSaid : Prop := stateStartsRow.holds Tryd.pinned (OpenSpec.ofChange stateStartsSpec)

/-- ITS FALSE NEIGHBOUR: 'it returns false'. Refute it at one input. -/
def stateStartsWrong : ChangeSpec := { name := "stateStarts", fn := fun _ => fun
  | [d1, d2] => { results := [.lit (.bool false)], args := [d1, d2] }
  | _ => none }
def StateStartsWrongFalsely : Prop := stateStartsRow.holds Tryd.pinned (OpenSpec.ofChange stateStartsWrong)

/-- 'baliselaw13.StateChanges': WHATEVER THE INPUT: true; the input reads as it did. -/
def stateChangesSpec : ChangeSpec := { name := "stateChanges", fn := fun _ => fun
  | [d1, d2, d3] => { results := [.lit (.bool true)], args := [d1, d2, d3] }
  | _ => none }
def stateChangesRow : OpenClaim := { program := "ytmmdkioohjninaadoor", sum := "232e8801129d6f1d9c93f0aeaf44ca838c7a612faf134f06f174ccb997df16ad", func := "balise/baliselaw13.StateChanges", spec := "stateChanges", unfollowed := true, recurses := true, named := ["balise/state.kinds"], apart := false, laid := [("balise/state.kinds", laid_balise_state_kinds)] }
def StateChangesSaid : Prop := stateChangesRow.holds Tryd.pinned (OpenSpec.ofChange stateChangesSpec)

/-- ITS FALSE NEIGHBOUR: 'it returns false'. Refute it at one input. -/
def stateChangesWrong : ChangeSpec := { name := "stateChanges", fn := fun _ => fun
  | [d1, d2, d3] => { results := [.lit (.bool false)], args := [d1, d2, d3] }
  | _ => none }
def StateChangesWrongFalsely : Prop := stateChangesRow.holds Tryd.pinned (OpenSpec.ofChange stateChangesWrong)

/-- 'baliselaw13.StateBack': WHATEVER THE INPUT: true; the input reads as it did. -/
def stateBackSpec : ChangeSpec := { name := "stateBack", fn := fun _ => fun
  | [d1, d2, d3] => { results := [.lit (.bool true)], args := [d1, d2, d3] }
  | _ => none }
def stateBackRow : OpenClaim := { program := "ytmmdkioohjninaadoor", sum := "232e8801129d6f1d9c93f0aeaf44ca838c7a612faf134f06f174ccb997df16ad", func := "balise/baliselaw13.StateBack", spec := "stateBack", unfollowed := true, recurses := true, named := ["balise/state.kinds"], apart := false, laid := [("balise/state.kinds", laid_balise_state_kinds)] }
def StateBackSaid : Prop := stateBackRow.holds Tryd.pinned (OpenSpec.ofChange stateBackSpec)

/-- ITS FALSE NEIGHBOUR: 'it returns false'. Refute it at one input. -/
def stateBackWrong : ChangeSpec := { name := "stateBack", fn := fun _ => fun
  | [d1, d2, d3] => { results := [.lit (.bool false)], args := [d1, d2, d3] }
  | _ => none }
def StateBackWrongFalsely : Prop := stateBackRow.holds Tryd.pinned (OpenSpec.ofChange stateBackWrong)

/- THE SECOND FORM. 'bulk': how many values and letters a reading holds, each counted each time it is reached (what is shared counts as often as it is met; a slice's spare places count too). A statement '..UptoSaid' is the law's where the arguments, and the package variables that the reading takes, are together of bulk at most 1048576: NARROWER than '..Said'. Prove '..Said' where nothing that the law and all that it calls make is longer than what came in: it says more and counts as full. Else prove '..UptoSaid'. A law counts once. -/
mutual
def uptoBulk {H : Type} : DataW H → Nat
  | .lit (.string bytes) => bytes.length + 1
  | .lit _ => 1
  | .nil => 1
  | .ptr d => uptoBulk d + 1
  | .slice elems spare => uptoBulkAll elems + uptoBulkAll spare + 1
  | .agg parts => uptoBulkAll parts + 1
  | .iface _ d => uptoBulk d + 1
  | .map entries => uptoBulkEntries entries + 1
  | .held _ => 1
def uptoBulkAll {H : Type} : List (DataW H) → Nat
  | [] => 0
  | d :: r => uptoBulk d + uptoBulkAll r
def uptoBulkEntries {H : Type} : List (Lit × DataW H) → Nat
  | [] => 0
  | x :: r => uptoBulkEntry x + uptoBulkEntries r
def uptoBulkEntry {H : Type} : Lit × DataW H → Nat
  | (.string bytes, d) => bytes.length + uptoBulk d + 1
  | (_, d) => uptoBulk d + 1
 end
def uptoSmall : (H : Type) → List (DataW H) → Bool := fun _ ds => decide (uptoBulkAll ds ≤ 1048576)
def OpenSpec.upto (s : _root_.Go.ChangeSpec) : _root_.Go.OpenSpec := { _root_.Go.OpenSpec.ofChange s with cond := some uptoSmall }

/-- 'baliselaw13.StateOf', WHERE WHAT IT READS IS OF BULK AT MOST 1048576: true; the input reads as it did. -/
def stateOfUptoRow : OpenClaim := { program := "ytmmdkioohjninaadoor", sum := "232e8801129d6f1d9c93f0aeaf44ca838c7a612faf134f06f174ccb997df16ad", func := "balise/baliselaw13.StateOf", spec := "stateOf", unfollowed := true, recurses := true, named := ["balise/state.kinds"], apart := false, laid := [("balise/state.kinds", laid_balise_state_kinds)], narrowed := true }
def StateOfUptoSaid : Prop := stateOfUptoRow.holds Tryd.pinned (OpenSpec.upto stateOfSpec)

/-- 'baliselaw13.StateFree', WHERE WHAT IT READS IS OF BULK AT MOST 1048576: true; the input reads as it did. -/
def stateFreeUptoRow : OpenClaim := { program := "ytmmdkioohjninaadoor", sum := "232e8801129d6f1d9c93f0aeaf44ca838c7a612faf134f06f174ccb997df16ad", func := "balise/baliselaw13.StateFree", spec := "stateFree", unfollowed := true, recurses := true, named := ["balise/state.kinds"], apart := false, laid := [("balise/state.kinds", laid_balise_state_kinds)], narrowed := true }
def StateFreeUptoSaid : Prop := stateFreeUptoRow.holds Tryd.pinned (OpenSpec.upto stateFreeSpec)

/-- 'baliselaw13.StateKinds', WHERE WHAT IT READS IS OF BULK AT MOST 1048576: true; the input reads as it did. -/
def stateKindsUptoRow : OpenClaim := { program := "ytmmdkioohjninaadoor", sum := "232e8801129d6f1d9c93f0aeaf44ca838c7a612faf134f06f174ccb997df16ad", func := "balise/baliselaw13.StateKinds", spec := "stateKinds", unfollowed := true, recurses := true, named := ["balise/state.kinds"], apart := false, laid := [("balise/state.kinds", laid_balise_state_kinds)], narrowed := true }
def StateKindsUptoSaid : Prop := stateKindsUptoRow.holds Tryd.pinned (OpenSpec.upto stateKindsSpec)

/-- 'baliselaw13.StateViews', WHERE WHAT IT READS IS OF BULK AT MOST 1048576: true; the input reads as it did. -/
def stateViewsUptoRow : OpenClaim := { program := "ytmmdkioohjninaadoor", sum := "232e8801129d6f1d9c93f0aeaf44ca838c7a612faf134f06f174ccb997df16ad", func := "balise/baliselaw13.StateViews", spec := "stateViews", unfollowed := true, recurses := true, named := ["balise/state.kinds"], apart := false, laid := [("balise/state.kinds", laid_balise_state_kinds)], narrowed := true }
def StateViewsUptoSaid : Prop := stateViewsUptoRow.holds Tryd.pinned (OpenSpec.upto stateViewsSpec)

/-- 'baliselaw13.StateStarts', WHERE WHAT IT READS IS OF BULK AT MOST 1048576: true; the input reads as it did. -/
def stateStartsUptoRow : OpenClaim := { program := "ytmmdkioohjninaadoor", sum := "232e8801129d6f1d9c93f0aeaf44ca838c7a612faf134f06f174ccb997df16ad", func := "balise/baliselaw13.StateStarts", spec := "stateStarts", unfollowed := true, recurses := true, named := ["balise/state.kinds"], apart := false, laid := [("balise/state.kinds", laid_balise_state_kinds)], narrowed := true }
def StateStartsUptoSaid : Prop := stateStartsUptoRow.holds Tryd.pinned (OpenSpec.upto stateStartsSpec)

/-- 'baliselaw13.StateChanges', WHERE WHAT IT READS IS OF BULK AT MOST 1048576: true; the input reads as it did. -/
def stateChangesUptoRow : OpenClaim := { program := "ytmmdkioohjninaadoor", sum := "232e8801129d6f1d9c93f0aeaf44ca838c7a612faf134f06f174ccb997df16ad", func := "balise/baliselaw13.StateChanges", spec := "stateChanges", unfollowed := true, recurses := true, named := ["balise/state.kinds"], apart := false, laid := [("balise/state.kinds", laid_balise_state_kinds)], narrowed := true }
def StateChangesUptoSaid : Prop := stateChangesUptoRow.holds Tryd.pinned (OpenSpec.upto stateChangesSpec)

/-- 'baliselaw13.StateBack', WHERE WHAT IT READS IS OF BULK AT MOST 1048576: true; the input reads as it did. -/
def stateBackUptoRow : OpenClaim := { program := "ytmmdkioohjninaadoor", sum := "232e8801129d6f1d9c93f0aeaf44ca838c7a612faf134f06f174ccb997df16ad", func := "balise/baliselaw13.StateBack", spec := "stateBack", unfollowed := true, recurses := true, named := ["balise/state.kinds"], apart := false, laid := [("balise/state.kinds", laid_balise_state_kinds)], narrowed := true }
def StateBackUptoSaid : Prop := stateBackUptoRow.holds Tryd.pinned (OpenSpec.upto stateBackSpec)

end Rows
end Go.Proofs.YtmmdkioohjninaaDoor
