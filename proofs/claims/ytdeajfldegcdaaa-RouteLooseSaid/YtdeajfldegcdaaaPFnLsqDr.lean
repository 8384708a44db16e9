/- Part of the logic of values: what the law reaches. -/
import Derived.Test.YtdeajfldegcdaaaPFnLsqLay
import Derived.Test.YtdeajfldegcdaaaPFnLsqRd
set_option linter.unusedVariables false
set_option linter.unusedSimpArgs false
namespace Go.Lo
structure Draft where
 form : Int
 len : Int
 speed : Int
 mute : Int
 wait : Int
 cancel : Int
 stay : Int
 jn : Int
 rs : List (List Int)
def eD (d : Draft) : List AV := [.v (.int .u8 d.form), .v (.int .u8 d.len), .v (.int .u8 d.speed), .v (.int .u16 d.mute), .v (.int .u16 d.wait), .v (.int .u8 d.cancel), .v (.int .u8 d.stay), .v (.int .u8 d.jn), .ro d.rs.length (enc eUL d.rs)]
structure DraftOk (d : Draft) : Prop where
 form : 0 ≤ d.form ∧ d.form ≤ 255
 len : 0 ≤ d.len ∧ d.len ≤ 255
 speed : 0 ≤ d.speed ∧ d.speed ≤ 255
 mute : 0 ≤ d.mute ∧ d.mute ≤ 65535
 wait : 0 ≤ d.wait ∧ d.wait ≤ 65535
 cancel : 0 ≤ d.cancel ∧ d.cancel ≤ 255
 stay : 0 ≤ d.stay ∧ d.stay ≤ 255
 jn : 0 ≤ d.jn ∧ d.jn ≤ 255
 n : d.rs.length ≤ maxLen
 rs : ∀ x, x ∈ d.rs → ∀ y, y ∈ x → 0 ≤ y ∧ y ≤ 255
structure View where
 id : Int
 sure : Bool
 span : List Int
def dV : View := ⟨0, false, []⟩
def eV (v : View) : List AV := [.v (.int .i64 v.id), .v (.bool v.sure), .ro v.span.length (enc eI v.span)]
instance (x : View) : NoIL (eV x) := by unfold eV; infer_instance
def hasV (s : Int) (v : View) : Bool := decide (s ∈ v.span)
theorem small_rs {rs : List (List Int)} (h : smallB rs = true) (h2 : ∀ x, x ∈ rs → ∀ y, y ∈ x → 0 ≤ y ∧ y ≤ 255) : rs.length ≤ 65536 ∧ ∀ x, x ∈ rs → x.length ≤ 65536 ∧ ∀ y, y ∈ x → 0 ≤ y ∧ y ≤ 255 := by
 obtain ⟨h3, h4⟩ := smallB_iff h
 exact ⟨by omega, fun x hx => ⟨by have := h4 x hx; omega, h2 x hx⟩⟩
def mayB (pts : List Pnt) (states : List Int) (views : List View) (locked held : List Bool) (p : Int) : Bool :=
 if (decide (p < 0) || decide (p ≥ (pts.length : Int)) || hasB held p) = true then false
 else if views.any (hasV (pts.getD p.toNat dP).stem) = true then false
 else decide ((pts.getD p.toNat dP).stem ≥ 0) && decide ((pts.getD p.toNat dP).stem < (states.length : Int)) && (states.getD (pts.getD p.toNat dP).stem.toNat 0 == 0) && !hasB locked (pts.getD p.toNat dP).stem
theorem may_no {pts : List Pnt} {states : List Int} {views : List View} {locked held : List Bool} {p : Int} (h : (decide (p < 0) || decide (p ≥ (pts.length : Int)) || hasB held p) = true) : mayB pts states views locked held p = false := by unfold mayB; rw [if_pos h]
theorem may_in {pts : List Pnt} {states : List Int} {views : List View} {locked held : List Bool} {p : Int} (h : (decide (p < 0) || decide (p ≥ (pts.length : Int)) || hasB held p) = false) (h2 : views.any (hasV (pts.getD p.toNat dP).stem) = true) : mayB pts states views locked held p = false := by
 unfold mayB; rw [if_neg (by rw [h]; simp), if_pos h2]
theorem may_end {pts : List Pnt} {states : List Int} {views : List View} {locked held : List Bool} {p : Int} (h : (decide (p < 0) || decide (p ≥ (pts.length : Int)) || hasB held p) = false) (h2 : views.any (hasV (pts.getD p.toNat dP).stem) = false) :
  mayB pts states views locked held p = (decide ((pts.getD p.toNat dP).stem ≥ 0) && decide ((pts.getD p.toNat dP).stem < (states.length : Int)) && (states.getD (pts.getD p.toNat dP).stem.toNat 0 == 0) && !hasB locked (pts.getD p.toNat dP).stem) := by
 unfold mayB; rw [if_neg (by rw [h]; simp), if_neg (by rw [h2]; simp)]
end Go.Lo
