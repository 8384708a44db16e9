/- "balise/baliselaw13.StateBack" returns true whatever its arguments, and they read behind the call as ahead of it. No condition. -/
import Derived.Test.YtmmdkioohjninaaDoorRows
import Derived.Test.YtmmdkioohjninaaDoorLd
import Derived.Test.YtmmdkioohjninaaDoorCards
import Derived.Test.YtmmdkioohjninaaDoorTie
import Derived.LaidMore
import Derived.Stop.Joined
import Derived.SevenTiedAt
import Derived.ProofKit
import Derived.Test.YtmmdkioohjninaaDoorRd
import Derived.Test.YtmmdkioohjninaaDoorFnB
set_option linter.unusedVariables false
namespace Go.Proofs.YtmmdkioohjninaaDoor.stateBack
open Go.Lo Go.ChangeShapes Go.WideShapes Go.ChangeAt Go.RowKit
theorem own : ownKnob Tryd.prog.godebug = none := by kernel_rfl
theorem laidOut : laidOutB Tryd.prog = true := by kernel_rfl
theorem au22 : Tryd.prog.underlying 22 = some (.int .u16) := by kernel_rfl
theorem au23 : Tryd.prog.underlying 23 = some (.slice 26) := by kernel_rfl
theorem au26 : Tryd.prog.underlying 26 = some (.slice 5) := by kernel_rfl
theorem au27 : Tryd.prog.underlying 27 = some (.slice 4) := by kernel_rfl
theorem au28 : Tryd.prog.underlying 28 = some (.slice 71) := by kernel_rfl
theorem au4 : Tryd.prog.underlying 4 = some (.bool) := by kernel_rfl
theorem au5 : Tryd.prog.underlying 5 = some (.int .u8) := by kernel_rfl
theorem cl22 : Tryd.prog.cellsOf 22 = 1 := by kernel_rfl
theorem cl23 : Tryd.prog.cellsOf 23 = 1 := by kernel_rfl
theorem cl25 : Tryd.prog.cellsOf 25 = 9 := by kernel_rfl
theorem cl26 : Tryd.prog.cellsOf 26 = 1 := by kernel_rfl
theorem cl27 : Tryd.prog.cellsOf 27 = 1 := by kernel_rfl
theorem cl28 : Tryd.prog.cellsOf 28 = 1 := by kernel_rfl
theorem cl30 : Tryd.prog.cellsOf 30 = 3 := by kernel_rfl
theorem cl4 : Tryd.prog.cellsOf 4 = 1 := by kernel_rfl
theorem cl5 : Tryd.prog.cellsOf 5 = 1 := by kernel_rfl
theorem cl71 : Tryd.prog.cellsOf 71 = 3 := by kernel_rfl
theorem st25 : structT Tryd.prog 25 = some [(5, 0), (5, 1), (5, 2), (22, 3), (22, 4), (5, 5), (5, 6), (5, 7), (23, 8)] := by kernel_rfl
theorem st30 : structT Tryd.prog 30 = some [(26, 0), (27, 1), (28, 2)] := by kernel_rfl
theorem st71 : structT Tryd.prog 71 = some [(5, 0), (4, 1), (26, 2)] := by kernel_rfl
theorem dec25 : Dec Tryd.prog 25 eD 9 (DraftOk) := dec_map (fun x => (⟨x.1, x.2.1, x.2.2.1, x.2.2.2.1, x.2.2.2.2.1, x.2.2.2.2.2.1, x.2.2.2.2.2.2.1, x.2.2.2.2.2.2.2.1, x.2.2.2.2.2.2.2.2.1⟩ : Draft)) (dec_struct st25 (decS_cons (dec_int au5) rfl cl5 (decS_cons (dec_int au5) rfl cl5 (decS_cons (dec_int au5) rfl cl5 (decS_cons (dec_int au22) rfl cl22 (decS_cons (dec_int au22) rfl cl22 (decS_cons (dec_int au5) rfl cl5 (decS_cons (dec_int au5) rfl cl5 (decS_cons (dec_int au5) rfl cl5 (decS_cons (dec_slice (f := (fun l_ => [.ro l_.length (enc eU8 l_)])) au23 cl26 (dec_slice (f := eU8) au26 cl5 (dec_int au5))) rfl cl23 decS_nil))))))))) cl25) (fun _ => rfl) (fun _ h => ⟨bounds_u8 h.1, bounds_u8 h.2.1, bounds_u8 h.2.2.1, bounds_u16 h.2.2.2.1, bounds_u16 h.2.2.2.2.1, bounds_u8 h.2.2.2.2.2.1, bounds_u8 h.2.2.2.2.2.2.1, bounds_u8 h.2.2.2.2.2.2.2.1, h.2.2.2.2.2.2.2.2.1.2, fun x hx y hy => bounds_u8 ((h.2.2.2.2.2.2.2.2.1.1 x hx).1 y hy)⟩)
theorem dec71 : Dec Tryd.prog 71 eLk 3 (fun x => (0 ≤ x.id ∧ x.id ≤ 255) ∧ ∀ y, y ∈ x.span → 0 ≤ y ∧ y ≤ 255) := dec_map (fun x => (⟨x.1, x.2.1, x.2.2.1⟩ : Look)) (dec_struct st71 (decS_cons (dec_int au5) rfl cl5 (decS_cons (dec_bool au4) rfl cl4 (decS_cons (dec_slice (f := eU8) au26 cl5 (dec_int au5)) rfl cl26 decS_nil))) cl71) (fun _ => rfl) (fun _ h => ⟨bounds_u8 h.1, fun y hy => bounds_u8 (h.2.2.1.1 y hy)⟩)
theorem dec30 : Dec Tryd.prog 30 eF 3 (FieldOk) := dec_map (fun x => (⟨x.1, x.2.1, x.2.2.1⟩ : Go.Lo.Field)) (dec_struct st30 (decS_cons (dec_slice (f := eU8) au26 cl5 (dec_int au5)) rfl cl26 (decS_cons (dec_slice (f := eB) au27 cl4 (dec_bool au4)) rfl cl27 (decS_cons (dec_slice (f := eLk) au28 cl71 dec71) rfl cl28 decS_nil))) cl30) (fun _ => rfl) (fun _ h => ⟨fun y hy => bounds_u8 (h.1.1 y hy), fun x hx => h.2.2.1.1 x hx, h.2.2.1.2, h.1.2⟩)
theorem rt : Tryd.prog.underlying 4 = some .bool := by kernel_rfl
def laid1 : List (String × DataW Unit) := [("balise/state.kinds", Rows.laid_balise_state_kinds)]
theorem gV : Tryd.prog.globalNamed "balise/state.kinds" = some 0 := by kernel_rfl
theorem tV : (Tryd.prog.globals[0]?).map (·.type) = some 79 := by kernel_rfl
theorem u0 : Tryd.prog.underlying 79 = some (.array 4 78) := by kernel_rfl
theorem u1 : Tryd.prog.underlying 78 = some (.array 4 5) := by kernel_rfl
theorem u2 : Tryd.prog.underlying 5 = some (.int .u8) := by kernel_rfl
theorem k0 : Tryd.prog.cellsOf 79 = 16 := by kernel_rfl
theorem k1 : Tryd.prog.cellsOf 78 = 4 := by kernel_rfl
theorem k2 : Tryd.prog.cellsOf 5 = 1 := by kernel_rfl
theorem door_met (os : Os) (args : Array Value) : laidMetH Tryd.prog laid1 ((World.doorLaid Tryd.prog 18 os).forCall (fun _ _ => 0) ⟨#[], args, []⟩).memory :=
  laidMetH_of_parts3 (fuel := 8) (laidMet_of_run' 8 (by kernel_rfl) (by kernel_rfl)) (by kernel_rfl) (by kernel_rfl)
theorem laid_ok {W : World} (h : laidMetH Tryd.prog laid1 W) : Laid W (fun _ => False) := by
  rw [MakeChecks.laidMetH_plain _ _ _ (by kernel_rfl)] at h
  obtain ⟨ps, ⟨g0, t0, cs0, f0, p0, q0, hg0, ht0, hv0, hd0, _, _⟩, _, _⟩ := h
  obtain rfl := Option.some.inj (gV.symm.trans hg0)
  obtain rfl := Option.some.inj (tV.symm.trans ht0)
  have hcs := arr44 u0 u1 u2 k2 k1 k0 hd0
  have hc : ∀ (j : Nat) (v : Value), laidT[0].2[j]? = some v → W.cell? ⟨0, j, none⟩ = some v := fun j v hj => by
    have h1 := World.var?_cell gV hv0 j
    rw [h1, ← Array.getElem?_toList, hcs]
    exact hj
  intro q hq
  obtain rfl : q = laidT[0] := by simpa [laidT] using hq
  refine ⟨?_, fun h => h, fun j v hj => ⟨hc j v hj, ?_⟩⟩
  · exact block_lt (hc 0 _ rfl)
  · have hall : laidT[0].2.all (·.oneCell') = true := by decide
    exact List.all_eq_true.1 hall v (List.mem_of_getElem? hj)
set_option maxRecDepth 100000 in
theorem lifted (os : Os) (started : os.Started) (H : Type) (en : TypeId × Value → H) :
    ReturnsInHanded {} Tryd.checked os 9 .any (fun w args => (Rows.stateBackSpec.pre en Tryd.prog Tryd.f9 [] false w args ∧ laidMetH Tryd.prog laid1 w) ∧ sizedMet en Tryd.prog Tryd.f9 (OpenSpec.ofChange Rows.stateBackSpec) false w args) (Rows.stateBackSpec.post en Tryd.prog Tryd.f9 false true false false) := by
  refine returnsInHanded_of_change_and (C := Tryd.checked) (X := fun w _ => laidMetH Tryd.prog laid1 w) (fun _ _ _ hh h => h.of_heap hh) own started (by kernel_rfl) Tryd.func9
    (ChangeSpec.witness_shaped (enc := en) (C := Tryd.checked) (os := os) (X := fun w _ => laidMetH Tryd.prog laid1 w) false (World.doorLaid Tryd.prog 18 os) #[.agg #[(.int .u8 0), (.int .u8 0), (.int .u8 0), (.int .u16 0), (.int .u16 0), (.int .u8 0), (.int .u8 0), (.int .u8 0), (.slice none 0 0)], .agg #[(.slice none 0 0), (.slice none 0 0), (.slice none 0 0)], .agg #[(.slice none 0 0), (.slice none 0 0), (.slice none 0 0)]] 8 rfl (World.shaped_of_RefB (by kernel_rfl) (by kernel_rfl)) (by kernel_rfl) (by kernel_rfl) (by kernel_rfl) (door_met os _)) ?_
  intro W base args ds gs before hval0 hW _ _ hLaid _
  have hval : ∀ (j : Nat) t v, Tryd.f9.params[j]? = some t → args[j]? = some v → Value.okWide Tryd.prog W .any base t v := hval0
  have hW' := hW
  obtain ⟨p, q, hA0, hV, rfl, hfz, hnd⟩ := hW
  have hA : DataW.TrodAll en Tryd.prog W 0 (fun _ => true) true Tryd.f9.params.toList args.toList ds p := hA0
  rw [show Tryd.f9.params = #[25, 30, 30] from rfl] at hA hval
  obtain ⟨v0, vs0, d0, ds0, p0, q0, hargs, rfl, rfl, k0, z0⟩ := trodAll_cons hA
  obtain ⟨v1, vs1, d1, ds1, p1, q1, rfl, rfl, rfl, k1, z1⟩ := trodAll_cons z0
  obtain ⟨v2, vs2, d2, ds2, p2, q2, rfl, rfl, rfl, k2, z2⟩ := trodAll_cons z1
  obtain ⟨rfl, rfl, rfl⟩ := trodAll_nil z2
  obtain rfl : args = #[v0, v1, v2] := by cases args; simp_all
  obtain ⟨rfl, rfl⟩ := trodVars_none hV
  have lt0 : ∀ x ∈ p0, x.block < W.heap.size := by obtain ⟨m, hm⟩ := k0; exact DataW.trod_lt m _ _ _ hm
  have lt1 : ∀ x ∈ p1, x.block < W.heap.size := by obtain ⟨m, hm⟩ := k1; exact DataW.trod_lt m _ _ _ hm
  have lt2 : ∀ x ∈ p2, x.block < W.heap.size := by obtain ⟨m, hm⟩ := k2; exact DataW.trod_lt m _ _ _ hm
  obtain ⟨x0, w0, r0⟩ := arg_struct st25 dec25 (hval 0 25 v0 rfl rfl) k0
  obtain ⟨x1, w1, r1⟩ := arg_struct st30 dec30 (hval 1 30 v1 rfl rfl) k1
  obtain ⟨x2, w2, r2⟩ := arg_struct st30 dec30 (hval 2 30 v2 rfl rfl) k2
  clear hA0 hval0
  refine (fn_true (l13_StateBack x0 x1 x2 w0 w1 w2) W (laid_ok hLaid) #[v0, v1, v2] rfl (argsR (avs := [.agg (eD x0), .agg (eF x1), .agg (eF x2)]) (us := [v0, v1, v2]) ⟨r0, r1, r2, trivial⟩)).mono fun e W2 ⟨he, bel⟩ => ?_
  subst he
  exact ⟨_, rfl, _, _, _, [], _, [], hW', trodAll_mk1 (shut_bool rt _), (trodAll_cons_mk (Below.trod laidOut (by kernel_rfl) (of_decide_eq_true (by kernel_rfl)) k0 bel lt0) (trodAll_cons_mk (Below.trod laidOut (by kernel_rfl) (of_decide_eq_true (by kernel_rfl)) k1 bel lt1) (trodAll_cons_mk (Below.trod laidOut (by kernel_rfl) (of_decide_eq_true (by kernel_rfl)) k2 bel lt2) trodAll_mk0))), rfl, bel.frame _, fun h => by cases h⟩

theorem over : Rows.stateBackRow.holds Tryd.pinned (OpenSpec.ofChange Rows.stateBackSpec) :=
  OpenClaim.holds_of_wide 9 Tryd.f9 rfl rfl rfl rfl rfl rfl rfl ⟨rfl, rfl, rfl, rfl, rfl⟩ rfl rfl rfl rfl rfl (by kernel_rfl) Tryd.func9 (by kernel_rfl)
    (of_decide_eq_true (by kernel_rfl)) (by unfold Func.isWrapper; first | (rw [if_pos (by decide +kernel)]; kernel_rfl) | (rw [if_neg (by decide +kernel)]; exact ⟨rfl, rfl⟩))
    (fun os started H en _ => lifted os started H en)

theorem card : Rows.StateBackCardSaid :=
  Claim7.holds_tied_plain_at .later [] [.data] true (true, "25d46f7cb0e4a3e05f734d2a0872203df878913d5d2400ef83e975f5b2b7cacf") false
    over (fun _ h => by cases h) (by kernel_rfl) (fun _ h => by cases h) stateBack_row_tie rfl ⟨rfl, rfl⟩ (by kernel_rfl) rfl
    (fun f fn hf hfn => by
      obtain rfl : f = 9 := Option.some.inj ((show Tryd.prog.funcNamed "balise/baliselaw13.StateBack" = some 9 by kernel_rfl).symm.trans hf) |>.symm
      obtain rfl : fn = Tryd.f9 := (Option.some.inj (Tryd.func9.symm.trans hfn)).symm
      exact ⟨by kernel_rfl, fun j t ht => by
        rw [show Tryd.f9.params = #[25, 30, 30] from rfl] at ht
        have hm : t ∈ ([25, 30, 30] : List Nat) := by simpa using Array.mem_of_getElem? ht
        have hall : (([25, 30, 30] : List Nat).all fun u => !Tryd.prog.wantsStandIn u) = true := by kernel_rfl
        exact (show Tryd.prog.wantsStandIn t = false by simpa using List.all_eq_true.1 hall t hm)⟩)
    (by kernel_rfl)
/-- THE STATEMENT. -/
theorem proved : Rows.StateBackCardSaid := card
#print axioms proved
end Go.Proofs.YtmmdkioohjninaaDoor.stateBack
