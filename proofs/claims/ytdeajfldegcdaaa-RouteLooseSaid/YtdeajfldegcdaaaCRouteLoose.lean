/- "balise/baliselaw15.RouteLoose" returns true whatever its arguments, and they read behind the call as ahead of it. No condition. -/
import Derived.Test.YtdeajfldegcdaaaRows
import Derived.Test.YtdeajfldegcdaaaPFnLsqRd
import Derived.Test.YtdeajfldegcdaaaPFnLs5
set_option linter.unusedVariables false
namespace Go.Proofs.Ytdeajfldegcdaaa.routeLoose
open Go.Lo Go.ChangeShapes Go.WideShapes Go.ChangeAt Go.RowKit
theorem own : ownKnob Try.prog.godebug = none := by kernel_rfl
theorem laidOut : laidOutB Try.prog = true := by kernel_rfl
theorem au22 : Try.prog.underlying 22 = some (.int .u16) := by kernel_rfl
theorem au23 : Try.prog.underlying 23 = some (.slice 37) := by kernel_rfl
theorem au37 : Try.prog.underlying 37 = some (.slice 5) := by kernel_rfl
theorem au38 : Try.prog.underlying 38 = some (.slice 4) := by kernel_rfl
theorem au4 : Try.prog.underlying 4 = some (.bool) := by kernel_rfl
theorem au5 : Try.prog.underlying 5 = some (.int .u8) := by kernel_rfl
theorem au50 : Try.prog.underlying 50 = some (.slice 53) := by kernel_rfl
theorem cl22 : Try.prog.cellsOf 22 = 1 := by kernel_rfl
theorem cl23 : Try.prog.cellsOf 23 = 1 := by kernel_rfl
theorem cl25 : Try.prog.cellsOf 25 = 9 := by kernel_rfl
theorem cl37 : Try.prog.cellsOf 37 = 1 := by kernel_rfl
theorem cl38 : Try.prog.cellsOf 38 = 1 := by kernel_rfl
theorem cl4 : Try.prog.cellsOf 4 = 1 := by kernel_rfl
theorem cl5 : Try.prog.cellsOf 5 = 1 := by kernel_rfl
theorem cl53 : Try.prog.cellsOf 53 = 8 := by kernel_rfl
theorem st25 : structT Try.prog 25 = some [(5, 0), (5, 1), (5, 2), (22, 3), (22, 4), (5, 5), (5, 6), (5, 7), (23, 8)] := by kernel_rfl
theorem st53 : structT Try.prog 53 = some [(5, 0), (5, 1), (5, 2), (37, 3), (37, 4), (38, 5), (37, 6), (5, 7)] := by kernel_rfl
theorem dec25 : Dec Try.prog 25 eD 9 (DraftOk) := dec_map (fun x => (⟨x.1, x.2.1, x.2.2.1, x.2.2.2.1, x.2.2.2.2.1, x.2.2.2.2.2.1, x.2.2.2.2.2.2.1, x.2.2.2.2.2.2.2.1, x.2.2.2.2.2.2.2.2.1⟩ : Draft)) (dec_struct st25 (decS_cons (dec_int au5) rfl cl5 (decS_cons (dec_int au5) rfl cl5 (decS_cons (dec_int au5) rfl cl5 (decS_cons (dec_int au22) rfl cl22 (decS_cons (dec_int au22) rfl cl22 (decS_cons (dec_int au5) rfl cl5 (decS_cons (dec_int au5) rfl cl5 (decS_cons (dec_int au5) rfl cl5 (decS_cons (dec_slice (f := (fun l_ => [.ro l_.length (enc eU8 l_)])) au23 cl37 (dec_slice (f := eU8) au37 cl5 (dec_int au5))) rfl cl23 decS_nil))))))))) cl25) (fun _ => rfl) (fun _ h => ⟨bounds_u8 h.1, bounds_u8 h.2.1, bounds_u8 h.2.2.1, bounds_u16 h.2.2.2.1, bounds_u16 h.2.2.2.2.1, bounds_u8 h.2.2.2.2.2.1, bounds_u8 h.2.2.2.2.2.2.1, bounds_u8 h.2.2.2.2.2.2.2.1, h.2.2.2.2.2.2.2.2.1.2, fun x hx y hy => bounds_u8 ((h.2.2.2.2.2.2.2.2.1.1 x hx).1 y hy)⟩)
theorem dec53 : Dec Try.prog 53 eAc 8 (ActOk) := dec_map (fun x => (⟨x.1, x.2.1, x.2.2.1, x.2.2.2.1, x.2.2.2.2.1, x.2.2.2.2.2.1, x.2.2.2.2.2.2.1, x.2.2.2.2.2.2.2.1⟩ : Go.Lo.Act)) (dec_struct st53 (decS_cons (dec_int au5) rfl cl5 (decS_cons (dec_int au5) rfl cl5 (decS_cons (dec_int au5) rfl cl5 (decS_cons (dec_slice (f := eU8) au37 cl5 (dec_int au5)) rfl cl37 (decS_cons (dec_slice (f := eU8) au37 cl5 (dec_int au5)) rfl cl37 (decS_cons (dec_slice (f := eB) au38 cl4 (dec_bool au4)) rfl cl38 (decS_cons (dec_slice (f := eU8) au37 cl5 (dec_int au5)) rfl cl37 (decS_cons (dec_int au5) rfl cl5 decS_nil)))))))) cl53) (fun _ => rfl) (fun _ h => ⟨bounds_u8 h.1, bounds_u8 h.2.1, bounds_u8 h.2.2.1, fun y hy => bounds_u8 (h.2.2.2.1.1 y hy), fun y hy => bounds_u8 (h.2.2.2.2.1.1 y hy), fun y hy => bounds_u8 (h.2.2.2.2.2.2.1.1 y hy), bounds_u8 h.2.2.2.2.2.2.2.1, h.2.2.2.1.2, h.2.2.2.2.1.2, h.2.2.2.2.2.1.2, h.2.2.2.2.2.2.1.2⟩)
theorem rt : Try.prog.underlying 4 = some .bool := by kernel_rfl
set_option maxRecDepth 100000 in
theorem lifted (os : Os) (started : os.Started) (H : Type) (en : TypeId × Value → H) :
    ReturnsInHanded {} Try.checked os 4 .any (Rows.routeLooseSpec.pre6 en Try.prog Try.f4 Rows.routeLooseRow.domain false) (Rows.routeLooseSpec.post en Try.prog Try.f4 false true false false) := by
  refine returnsInHanded_of_change (C := Try.checked) own started (by kernel_rfl) Try.func4
    (ChangeSpec.witness6 (enc := en) (C := Try.checked) false ⟨#[], #[.agg #[(.int .u8 0), (.int .u8 0), (.int .u8 0), (.int .u16 0), (.int .u16 0), (.int .u8 0), (.int .u8 0), (.int .u8 0), (.slice none 0 0)], .int .u8 0, .slice none 0 0], []⟩ 8 (by kernel_rfl) (by kernel_rfl) (by kernel_rfl) (by kernel_rfl)) ?_
  intro W base args ds gs before hval0 hW hcnd _
  have hval : ∀ (j : Nat) t v, Try.f4.params[j]? = some t → args[j]? = some v → Value.okWide Try.prog W .any base t v := hval0
  have hW' := hW
  obtain ⟨p, q, hA0, hV, rfl, hfz, hnd⟩ := hW
  have hA : DataW.TrodAll en Try.prog W 0 (fun _ => true) true Try.f4.params.toList args.toList ds p := hA0
  rw [show Try.f4.params = #[25, 5, 50] from rfl] at hA hval
  obtain ⟨v0, vs0, d0, ds0, p0, q0, hargs, rfl, rfl, k0, z0⟩ := trodAll_cons hA
  obtain ⟨v1, vs1, d1, ds1, p1, q1, rfl, rfl, rfl, k1, z1⟩ := trodAll_cons z0
  obtain ⟨v2, vs2, d2, ds2, p2, q2, rfl, rfl, rfl, k2, z2⟩ := trodAll_cons z1
  obtain ⟨rfl, rfl, rfl⟩ := trodAll_nil z2
  obtain rfl : args = #[v0, v1, v2] := by cases args; simp_all
  obtain ⟨rfl, rfl⟩ := trodVars_none hV
  have lt0 : ∀ x ∈ p0, x.block < W.heap.size := by obtain ⟨m, hm⟩ := k0; exact DataW.trod_lt m _ _ _ hm
  have lt1 : ∀ x ∈ p1, x.block < W.heap.size := by obtain ⟨m, hm⟩ := k1; exact DataW.trod_lt m _ _ _ hm
  have lt2 : ∀ x ∈ p2, x.block < W.heap.size := by obtain ⟨m, hm⟩ := k2; exact DataW.trod_lt m _ _ _ hm
  obtain ⟨x0, w0, r0⟩ := arg_struct st25 dec25 (hval 0 25 v0 rfl rfl) k0
  obtain ⟨x1, w1, r1⟩ := arg_int au5 (hval 1 5 v1 rfl rfl) k1
  obtain ⟨x2, w2, r2⟩ := arg_slice (f := eAc) au50 cl53 dec53 (hval 2 50 v2 rfl rfl) k2
  clear hA0 hval0
  refine (fn_true (l15_RouteLoose x0 x1 x2 w0 (bounds_u8 w1) w2.2 w2.1) W (laid_none rfl) #[v0, v1, v2] rfl (argsR (avs := [.agg (eD x0), .v (.int .u8 x1), .ro x2.length (enc eAc x2)]) (us := [v0, v1, v2]) ⟨r0, r1, r2, trivial⟩)).mono fun e W2 ⟨he, bel⟩ => ?_
  subst he
  exact ⟨_, rfl, _, _, _, [], _, [], hW', trodAll_mk1 (shut_bool rt _), (trodAll_cons_mk (Below.trod laidOut (by kernel_rfl) (of_decide_eq_true (by kernel_rfl)) k0 bel lt0) (trodAll_cons_mk (Below.trod laidOut (by kernel_rfl) (of_decide_eq_true (by kernel_rfl)) k1 bel lt1) (trodAll_cons_mk (Below.trod laidOut (by kernel_rfl) (of_decide_eq_true (by kernel_rfl)) k2 bel lt2) trodAll_mk0))), rfl, bel.frame _, fun h => by cases h⟩

theorem over : Rows.routeLooseRow.holds Try.pinned (OpenSpec.ofChange Rows.routeLooseSpec) :=
  OpenClaim.holds_of_wide 4 Try.f4 rfl rfl rfl rfl rfl rfl rfl ⟨rfl, rfl, rfl, rfl, rfl⟩ rfl rfl rfl rfl rfl (by kernel_rfl) Try.func4 (by kernel_rfl)
    (of_decide_eq_true (by kernel_rfl)) (by unfold Func.isWrapper; first | (rw [if_pos (by decide +kernel)]; kernel_rfl) | (rw [if_neg (by decide +kernel)]; exact ⟨rfl, rfl⟩))
    (fun os started H en _ => lifted os started H en)

/-- THE STATEMENT. -/
theorem proved : Rows.RouteLooseSaid := over
#print axioms proved
end Go.Proofs.Ytdeajfldegcdaaa.routeLoose
