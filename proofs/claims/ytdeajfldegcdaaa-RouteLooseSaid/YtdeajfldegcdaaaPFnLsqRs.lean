/- Part of the logic of values: what the law reaches. -/
import Derived.Test.YtdeajfldegcdaaaPFnLsqAu
set_option linter.unusedVariables false
set_option linter.unusedSimpArgs false
namespace Go.Lo
def twF (A B : Sec) (z : Pnt) : Bool := ((A.a == z.node) || (A.b == z.node)) && ((B.a == z.node) || (B.b == z.node))
def kJ (A B : Sec) (pts : List Pnt) (j : Nat) : Int := if (pts.take j).any (twF A B) then 1 else 0
def kV (secs : List Sec) (pts : List Pnt) (path : List Int) (k : Nat) : Int := kJ (secs.getD (path.getD k 0).toNat dS) (secs.getD (path.getD (k + 1) 0).toNat dS) pts pts.length
def stN (secs : List Sec) (pts : List Pnt) (path : List Int) (step : Nat) : Nat → Int
 | 0 => 0
 | k + 1 => if k < step then stN secs pts path step k + kV secs pts path k else stN secs pts path step k
def stM (secs : List Sec) (pts : List Pnt) (path : List Int) (step : Nat) : Nat → Int
 | 0 => 0
 | k + 1 => if k = step then kV secs pts path k else stM secs pts path step k
def stD (secs : List Sec) (pts : List Pnt) (path : List Int) (step : Nat) : List Need :=
 if stN secs pts path step (path.length - 1) + stM secs pts path step (path.length - 1) > ((paL secs pts path).length : Int) then []
 else ((paL secs pts path).take (stN secs pts path step (path.length - 1) + stM secs pts path step (path.length - 1)).toNat).drop (stN secs pts path step (path.length - 1)).toNat
end Go.Lo
