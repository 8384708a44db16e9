/- Part of the logic of values: what the law reaches. -/
import Derived.Test.YtdeajfldegcdaaaPFnLsqRs
set_option linter.unusedVariables false
set_option linter.unusedSimpArgs false
namespace Go.Lo
def hN (needs : List Need) (out : List Bool) : Nat → List Bool
 | 0 => out
 | j + 1 => (hN needs out j).set (needs.getD j dN).point.toNat true
def skB (ps : List Int) (k : Nat) : Bool := (ps.getD k 0 == 0) && (((k : Int) == 0) || (ps.getD ((k : Int) - 1).toNat 0 == 0))
def hK (secs : List Sec) (pts : List Pnt) (path ps : List Int) (out : List Bool) : Nat → List Bool
 | 0 => out
 | k + 1 => if skB ps k then hK secs pts path ps out k else hN (stD secs pts path k) (hK secs pts path ps out k) (stD secs pts path k).length
def hI (secs : List Sec) (pts : List Pnt) (routes : List (List Int)) (ls : List Lk) : Nat → List Bool
 | 0 => List.replicate pts.length false
 | i + 1 => hK secs pts (routes.getD (ls.getD i dLk).route.toNat []) (ls.getD i dLk).pieces (hI secs pts routes ls i) (ls.getD i dLk).pieces.length
structure Tu where
 routes : List (List Int)
 parts : List (List Int)
 now : Int
 st : List Int
 ow : List Int
end Go.Lo
