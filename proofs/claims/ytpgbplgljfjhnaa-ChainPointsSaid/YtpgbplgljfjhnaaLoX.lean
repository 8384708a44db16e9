/- Guards in regions that draw their order, said shortly. -/
import Derived.Test.YtpgbplgljfjhnaaLoW
set_option linter.unusedVariables false
namespace Go.Lo
section
variable {P : Program} {E : Env0} {ops : Array Oper} {env : Nat → AV} {ob : Nat → OSt} {o : Oper} {j t d : Nat} {b : Bool}
theorem gN1 (hb : b = false) (hg : o.guard = some (j, true)) (ht : (ops[j]?).bind (·.dst) = some t) (hl : t < E.N) (he : env t = .v (.bool b)) (hd : o.dst = some d) (hdl : d < E.N) (hx : env d = .v undef) : Still P E ops env ob o := by
  unfold Still; rw [hg]
  exact ⟨t, .bool b, ht, hl, he, fun h => (by rw [hb] at h; cases h), fun _ => ⟨d, hd, hdl, .inr hx⟩⟩
theorem gN0 (hb : b = true) (hg : o.guard = some (j, false)) (ht : (ops[j]?).bind (·.dst) = some t) (hl : t < E.N) (he : env t = .v (.bool b)) (hd : o.dst = some d) (hdl : d < E.N) (hx : env d = .v undef) : Still P E ops env ob o := by
  unfold Still; rw [hg]
  exact ⟨t, .bool b, ht, hl, he, fun h => (by rw [hb] at h; cases h), fun _ => ⟨d, hd, hdl, .inr hx⟩⟩
theorem gY1 (hb : b = true) (hg : o.guard = some (j, true)) (ht : (ops[j]?).bind (·.dst) = some t) (hl : t < E.N) (he : env t = .v (.bool b)) (hs : StillOp P E ops env ob o) : Still P E ops env ob o := by
  unfold Still; rw [hg]
  exact ⟨t, .bool b, ht, hl, he, fun _ => hs, fun h => absurd (by rw [hb]; rfl) h⟩
theorem gY0 (hb : b = false) (hg : o.guard = some (j, false)) (ht : (ops[j]?).bind (·.dst) = some t) (hl : t < E.N) (he : env t = .v (.bool b)) (hs : StillOp P E ops env ob o) : Still P E ops env ob o := by
  unfold Still; rw [hg]
  exact ⟨t, .bool b, ht, hl, he, fun _ => hs, fun h => absurd (by rw [hb]; rfl) h⟩
end
end Go.Lo
