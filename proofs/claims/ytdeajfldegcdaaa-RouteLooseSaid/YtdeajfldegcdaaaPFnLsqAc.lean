/- Part of the logic of values: what the law reaches. -/
import Derived.Test.YtdeajfldegcdaaaPFnLsqAu
set_option linter.unusedVariables false
set_option linter.unusedSimpArgs false
namespace Go.Lo
structure Act where
 dw : Int
 n : Int
 tr : Int
 sts : List Int
 ow : List Int
 rt : List Bool
 sp : List Int
 tk : Int
def dAc : Act := ⟨0, 0, 0, [], [], [], [], 0⟩
def eAc (x : Act) : List AV := [.v (.int .u8 x.dw), .v (.int .u8 x.n), .v (.int .u8 x.tr), .ro x.sts.length (enc eU8 x.sts), .ro x.ow.length (enc eU8 x.ow), .ro x.rt.length (enc eB x.rt), .ro x.sp.length (enc eU8 x.sp), .v (.int .u8 x.tk)]
instance (x : Act) : NoIL (eAc x) := by unfold eAc; infer_instance
structure ActOk (x : Act) : Prop where
 dw : 0 ≤ x.dw ∧ x.dw ≤ 255
 n : 0 ≤ x.n ∧ x.n ≤ 255
 tr : 0 ≤ x.tr ∧ x.tr ≤ 255
 sts : ∀ y, y ∈ x.sts → 0 ≤ y ∧ y ≤ 255
 ow : ∀ y, y ∈ x.ow → 0 ≤ y ∧ y ≤ 255
 sp : ∀ y, y ∈ x.sp → 0 ≤ y ∧ y ≤ 255
 tk : 0 ≤ x.tk ∧ x.tk ≤ 255
 l1 : x.sts.length ≤ maxLen
 l2 : x.ow.length ≤ maxLen
 l3 : x.rt.length ≤ maxLen
 l4 : x.sp.length ≤ maxLen
def stA (x : Act) (i : Nat) : Int := if i < x.sts.length ∧ x.sts.getD i 0 ≥ 128 then x.sts.getD i 0 % 4 else 0
def stL (x : Act) (k : Nat) : List Int := (List.range k).map (stA x)
def owA (x : Act) (i : Nat) : Int := if i < x.ow.length then x.ow.getD i 0 % 5 - 2 else -2
def owL (x : Act) (k : Nat) : List Int := (List.range k).map (owA x)
def bigA (x : Act) : Bool := decide ((x.sts.length : Int) > 20) || decide ((x.ow.length : Int) > 20) || decide ((x.rt.length : Int) > 8) || decide ((x.sp.length : Int) > 6)
def smL (l : List Act) : Bool := !(l.any bigA) && decide ((l.length : Int) ≤ 50)
section
variable {x : Act} {k : Nat}
theorem stL_len : (stL x k).length = k := by simp [stL]
theorem owL_len : (owL x k).length = k := by simp [owL]
theorem stL_step : stL x (k + 1) = stL x k ++ [stA x k] := by simp [stL, List.range_succ]
theorem owL_step : owL x (k + 1) = owL x k ++ [owA x k] := by simp [owL, List.range_succ]
theorem stA_t (h : k < x.sts.length ∧ x.sts.getD k 0 ≥ 128) : x.sts.getD k 0 % 4 = stA x k := by unfold stA; rw [if_pos h]
theorem stA_f (h : ¬ (k < x.sts.length ∧ x.sts.getD k 0 ≥ 128)) : (0 : Int) = stA x k := by unfold stA; rw [if_neg h]
theorem owA_t (h : k < x.ow.length) : x.ow.getD k 0 % 5 - 2 = owA x k := by unfold owA; rw [if_pos h]
theorem owA_f (h : ¬ k < x.ow.length) : (-2 : Int) = owA x k := by unfold owA; rw [if_neg h]
end
end Go.Lo
