/- "balise/baliselaw13.StateKinds" returns true whatever its arguments, and they read behind the call as ahead of it. No condition. -/
import Derived.Test.YtmmdkioohjninaaDoorRows
import Derived.Test.YtmmdkioohjninaaDoorLd
import Derived.Test.YtmmdkioohjninaaDoorCards
import Derived.Test.YtmmdkioohjninaaDoorTie
import Derived.LaidMore
import Derived.Stop.Joined
import Derived.SevenTiedAt
import Derived.ProofKit
import Derived.Test.YtmmdkioohjninaaDoorRd
import Derived.Test.YtmmdkioohjninaaDoorFnK
set_option linter.unusedVariables false
namespace Go.Proofs.YtmmdkioohjninaaDoor.stateKinds
open Go.Lo Go.ChangeShapes Go.WideShapes Go.ChangeAt Go.RowKit
theorem own : ownKnob Tryd.prog.godebug = none := by kernel_rfl
theorem laidOut : laidOutB Tryd.prog = true := by kernel_rfl
theorem au5 : Tryd.prog.underlying 5 = some (.int .u8) := by kernel_rfl
theorem rt : Tryd.prog.underlying 4 = some .bool := by kernel_rfl
def laid1 : List (String × DataW Unit) := [("balise/state.kinds", Rows.laid_balise_state_kinds)]
theorem gV : Tryd.prog.globalNamed "balise/state.kinds" = some 0 := by kernel_rfl
theorem tV : (Tryd.prog.globals[0]?).map (·.type) = some 79 := by kernel_rfl
theorem u0 : Tryd.prog.underlying 79 = some (.array 4 78) := by kernel_rfl
theorem u1 : Tryd.prog.underlying 78 = some (.array 4 5) := by kernel_rfl
theorem u2 : Tryd.prog.underlying 5 = some (.int .u8) := by kernel_rfl
theorem k0 : Tryd.prog.cellsOf 79 = 16 := by kernel_rfl
theorem k1 : Tryd.prog.cellsOf 78 = 4 := by kernel_rfl
theorem k2 : Tryd.prog.cellsOf 5 = 1 := by kernel_rfl
theorem door_met (os : Os) (args : Array Value) : laidMetH Tryd.prog laid1 ((World.doorLaid Tryd.prog 18 os).forCall (fun _ _ => 0) ⟨#[], args, []⟩).memory :=
  laidMetH_of_parts3 (fuel := 8) (laidMet_of_run' 8 (by kernel_rfl) (by kernel_rfl)) (by kernel_rfl) (by kernel_rfl)
theorem laid_ok {W : World} (h : laidMetH Tryd.prog laid1 W) : Laid W (fun _ => False) := by
  rw [MakeChecks.laidMetH_plain _ _ _ (by kernel_rfl)] at h
  obtain ⟨ps, ⟨g0, t0, cs0, f0, p0, q0, hg0, ht0, hv0, hd0, _, _⟩, _, _⟩ := h
  obtain rfl := Option.some.inj (gV.symm.trans hg0)
  obtain rfl := Option.some.inj (tV.symm.trans ht0)
  have hcs := arr44 u0 u1 u2 k2 k1 k0 hd0
  have hc : ∀ (j : Nat) (v : Value), laidT[0].2[j]? = some v → W.cell? ⟨0, j, none⟩ = some v := fun j v hj => by
    have h1 := World.var?_cell gV hv0 j
    rw [h1, ← Array.getElem?_toList, hcs]
    exact hj
  intro q hq
  obtain rfl : q = laidT[0] := by simpa [laidT] using hq
  refine ⟨?_, fun h => h, fun j v hj => ⟨hc j v hj, ?_⟩⟩
  · exact block_lt (hc 0 _ rfl)
  · have hall : laidT[0].2.all (·.oneCell') = true := by decide
    exact List.all_eq_true.1 hall v (List.mem_of_getElem? hj)
set_option maxRecDepth 100000 in
theorem lifted (os : Os) (started : os.Started) (H : Type) (en : TypeId × Value → H) :
    ReturnsInHanded {} Tryd.checked os 5 .any (fun w args => (Rows.stateKindsSpec.pre en Tryd.prog Tryd.f5 [] false w args ∧ laidMetH Tryd.prog laid1 w) ∧ sizedMet en Tryd.prog Tryd.f5 (OpenSpec.ofChange Rows.stateKindsSpec) false w args) (Rows.stateKindsSpec.post en Tryd.prog Tryd.f5 false true false false) := by
  refine returnsInHanded_of_change_and (C := Tryd.checked) (X := fun w _ => laidMetH Tryd.prog laid1 w) (fun _ _ _ hh h => h.of_heap hh) own started (by kernel_rfl) Tryd.func5
    (ChangeSpec.witness_shaped (enc := en) (C := Tryd.checked) (os := os) (X := fun w _ => laidMetH Tryd.prog laid1 w) false (World.doorLaid Tryd.prog 18 os) #[.int .u8 0, .int .u8 0] 8 rfl (World.shaped_of_RefB (by kernel_rfl) (by kernel_rfl)) (by kernel_rfl) (by kernel_rfl) (by kernel_rfl) (door_met os _)) ?_
  intro W base args ds gs before hval0 hW _ _ hLaid _
  have hval : ∀ (j : Nat) t v, Tryd.f5.params[j]? = some t → args[j]? = some v → Value.okWide Tryd.prog W .any base t v := hval0
  have hW' := hW
  obtain ⟨p, q, hA0, hV, rfl, hfz, hnd⟩ := hW
  have hA : DataW.TrodAll en Tryd.prog W 0 (fun _ => true) true Tryd.f5.params.toList args.toList ds p := hA0
  rw [show Tryd.f5.params = #[5, 5] from rfl] at hA hval
  obtain ⟨v0, vs0, d0, ds0, p0, q0, hargs, rfl, rfl, k0, z0⟩ := trodAll_cons hA
  obtain ⟨v1, vs1, d1, ds1, p1, q1, rfl, rfl, rfl, k1, z1⟩ := trodAll_cons z0
  obtain ⟨rfl, rfl, rfl⟩ := trodAll_nil z1
  obtain rfl : args = #[v0, v1] := by cases args; simp_all
  obtain ⟨rfl, rfl⟩ := trodVars_none hV
  have lt0 : ∀ x ∈ p0, x.block < W.heap.size := by obtain ⟨m, hm⟩ := k0; exact DataW.trod_lt m _ _ _ hm
  have lt1 : ∀ x ∈ p1, x.block < W.heap.size := by obtain ⟨m, hm⟩ := k1; exact DataW.trod_lt m _ _ _ hm
  obtain ⟨x0, w0, r0⟩ := arg_int au5 (hval 0 5 v0 rfl rfl) k0
  obtain ⟨x1, w1, r1⟩ := arg_int au5 (hval 1 5 v1 rfl rfl) k1
  clear hA0 hval0
  refine (fn_true (l13_StateKinds x0 x1 (bounds_u8 w0) (bounds_u8 w1)) W (laid_ok hLaid) #[v0, v1] rfl (argsR (avs := [.v (.int .u8 x0), .v (.int .u8 x1)]) (us := [v0, v1]) ⟨r0, r1, trivial⟩)).mono fun e W2 ⟨he, bel⟩ => ?_
  subst he
  exact ⟨_, rfl, _, _, _, [], _, [], hW', trodAll_mk1 (shut_bool rt _), (trodAll_cons_mk (Below.trod laidOut (by kernel_rfl) (of_decide_eq_true (by kernel_rfl)) k0 bel lt0) (trodAll_cons_mk (Below.trod laidOut (by kernel_rfl) (of_decide_eq_true (by kernel_rfl)) k1 bel lt1) trodAll_mk0)), rfl, bel.frame _, fun h => by cases h⟩

theorem over : Rows.stateKindsRow.holds Tryd.pinned (OpenSpec.ofChange Rows.stateKindsSpec) :=
  OpenClaim.holds_of_wide 5 Tryd.f5 rfl rfl rfl rfl rfl rfl rfl ⟨rfl, rfl, rfl, rfl, rfl⟩ rfl rfl rfl rfl rfl (by kernel_rfl) Tryd.func5 (by kernel_rfl)
    (of_decide_eq_true (by kernel_rfl)) (by unfold Func.isWrapper; first | (rw [if_pos (by decide +kernel)]; kernel_rfl) | (rw [if_neg (by decide +kernel)]; exact ⟨rfl, rfl⟩))
    (fun os started H en _ => lifted os started H en)

theorem card : Rows.StateKindsCardSaid :=
  Claim7.holds_tied_plain_at .later [] [.data] true (true, "25d46f7cb0e4a3e05f734d2a0872203df878913d5d2400ef83e975f5b2b7cacf") false
    over (fun _ h => by cases h) (by kernel_rfl) (fun _ h => by cases h) stateKinds_row_tie rfl ⟨rfl, rfl⟩ (by kernel_rfl) rfl
    (fun f fn hf hfn => by
      obtain rfl : f = 5 := Option.some.inj ((show Tryd.prog.funcNamed "balise/baliselaw13.StateKinds" = some 5 by kernel_rfl).symm.trans hf) |>.symm
      obtain rfl : fn = Tryd.f5 := (Option.some.inj (Tryd.func5.symm.trans hfn)).symm
      exact ⟨by kernel_rfl, fun j t ht => by
        rw [show Tryd.f5.params = #[5, 5] from rfl] at ht
        have hm : t ∈ ([5, 5] : List Nat) := by simpa using Array.mem_of_getElem? ht
        have hall : (([5, 5] : List Nat).all fun u => !Tryd.prog.wantsStandIn u) = true := by kernel_rfl
        exact (show Tryd.prog.wantsStandIn t = false by simpa using List.all_eq_true.1 hall t hm)⟩)
    (by kernel_rfl)
/-- THE STATEMENT. -/
theorem proved : Rows.StateKindsCardSaid := card
#print axioms proved
end Go.Proofs.YtmmdkioohjninaaDoor.stateKinds
