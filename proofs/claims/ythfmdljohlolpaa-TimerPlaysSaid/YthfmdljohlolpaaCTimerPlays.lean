/- "balise/baliselaw08.TimerPlays" returns true whatever its arguments, and they read behind the call as ahead of it. No condition. -/
import Derived.Test.YthfmdljohlolpaaRows
import Derived.Test.YthfmdljohlolpaaRd
import Derived.Test.YthfmdljohlolpaaFnP
set_option linter.unusedVariables false
namespace Go.Proofs.Ythfmdljohlolpaa.timerPlays
open Go.Lo Go.ChangeShapes Go.WideShapes Go.ChangeAt Go.RowKit
theorem own : ownKnob Try.prog.godebug = none := by kernel_rfl
theorem laidOut : laidOutB Try.prog = true := by kernel_rfl
theorem au2 : Try.prog.underlying 2 = some (.int .i64) := by kernel_rfl
theorem au3 : Try.prog.underlying 3 = some (.int .i64) := by kernel_rfl
theorem au35 : Try.prog.underlying 35 = some (.slice 39) := by kernel_rfl
theorem au4 : Try.prog.underlying 4 = some (.bool) := by kernel_rfl
theorem au5 : Try.prog.underlying 5 = some (.int .u8) := by kernel_rfl
theorem cl2 : Try.prog.cellsOf 2 = 1 := by kernel_rfl
theorem cl3 : Try.prog.cellsOf 3 = 1 := by kernel_rfl
theorem cl39 : Try.prog.cellsOf 39 = 3 := by kernel_rfl
theorem cl5 : Try.prog.cellsOf 5 = 1 := by kernel_rfl
theorem st39 : structT Try.prog 39 = some [(5, 0), (3, 1), (2, 2)] := by kernel_rfl
theorem dec39 : Dec Try.prog 39 eTa 3 (TaOk) := dec_map (fun x => (⟨x.1, x.2.1, x.2.2.1⟩ : Ta)) (dec_struct st39 (decS_cons (dec_int au5) rfl cl5 (decS_cons (dec_int au3) rfl cl3 (decS_cons (dec_int au2) rfl cl2 decS_nil))) cl39) (fun _ => rfl) (fun _ h => ⟨bounds_u8 h.1, bounds_i64 h.2.2.1⟩)
theorem rt : Try.prog.underlying 4 = some .bool := by kernel_rfl
set_option maxRecDepth 100000 in
theorem lifted (os : Os) (started : os.Started) (H : Type) (en : TypeId × Value → H) :
    ReturnsInHanded {} Try.checked os 5 .any (Rows.timerPlaysSpec.pre6 en Try.prog Try.f5 Rows.timerPlaysRow.domain false) (Rows.timerPlaysSpec.post en Try.prog Try.f5 false true false false) := by
  refine returnsInHanded_of_change (C := Try.checked) own started (by kernel_rfl) Try.func5
    (ChangeSpec.witness6 (enc := en) (C := Try.checked) false ⟨#[], #[.slice none 0 0, .bool false], []⟩ 8 (by kernel_rfl) (by kernel_rfl) (by kernel_rfl) (by kernel_rfl)) ?_
  intro W base args ds gs before hval0 hW hcnd _
  have hval : ∀ (j : Nat) t v, Try.f5.params[j]? = some t → args[j]? = some v → Value.okWide Try.prog W .any base t v := hval0
  have hW' := hW
  obtain ⟨p, q, hA0, hV, rfl, hfz, hnd⟩ := hW
  have hA : DataW.TrodAll en Try.prog W 0 (fun _ => true) true Try.f5.params.toList args.toList ds p := hA0
  rw [show Try.f5.params = #[35, 4] from rfl] at hA hval
  obtain ⟨v0, vs0, d0, ds0, p0, q0, hargs, rfl, rfl, k0, z0⟩ := trodAll_cons hA
  obtain ⟨v1, vs1, d1, ds1, p1, q1, rfl, rfl, rfl, k1, z1⟩ := trodAll_cons z0
  obtain ⟨rfl, rfl, rfl⟩ := trodAll_nil z1
  obtain rfl : args = #[v0, v1] := by cases args; simp_all
  obtain ⟨rfl, rfl⟩ := trodVars_none hV
  have lt0 : ∀ x ∈ p0, x.block < W.heap.size := by obtain ⟨m, hm⟩ := k0; exact DataW.trod_lt m _ _ _ hm
  have lt1 : ∀ x ∈ p1, x.block < W.heap.size := by obtain ⟨m, hm⟩ := k1; exact DataW.trod_lt m _ _ _ hm
  obtain ⟨x0, w0, r0⟩ := arg_slice (f := eTa) au35 cl39 dec39 (hval 0 35 v0 rfl rfl) k0
  obtain ⟨x1, r1⟩ := arg_bool au4 (hval 1 4 v1 rfl rfl) k1
  clear hA0 hval0
  refine (fn_true (l8_TimerPlays x0 x1 w0.1) W (laid_none rfl) #[v0, v1] rfl (argsR (avs := [.ro x0.length (enc eTa x0), .v (.bool x1)]) (us := [v0, v1]) ⟨r0, r1, trivial⟩)).mono fun e W2 ⟨he, bel⟩ => ?_
  subst he
  exact ⟨_, rfl, _, _, _, [], _, [], hW', trodAll_mk1 (shut_bool rt _), (trodAll_cons_mk (Below.trod laidOut (by kernel_rfl) (of_decide_eq_true (by kernel_rfl)) k0 bel lt0) (trodAll_cons_mk (Below.trod laidOut (by kernel_rfl) (of_decide_eq_true (by kernel_rfl)) k1 bel lt1) trodAll_mk0)), rfl, bel.frame _, fun h => by cases h⟩

theorem over : Rows.timerPlaysRow.holds Try.pinned (OpenSpec.ofChange Rows.timerPlaysSpec) :=
  OpenClaim.holds_of_wide 5 Try.f5 rfl rfl rfl rfl rfl rfl rfl ⟨rfl, rfl, rfl, rfl, rfl⟩ rfl rfl rfl rfl rfl (by kernel_rfl) Try.func5 (by kernel_rfl)
    (of_decide_eq_true (by kernel_rfl)) (by unfold Func.isWrapper; first | (rw [if_pos (by decide +kernel)]; kernel_rfl) | (rw [if_neg (by decide +kernel)]; exact ⟨rfl, rfl⟩))
    (fun os started H en _ => lifted os started H en)

/-- THE STATEMENT. -/
theorem proved : Rows.TimerPlaysSaid := over
#print axioms proved
end Go.Proofs.Ythfmdljohlolpaa.timerPlays
