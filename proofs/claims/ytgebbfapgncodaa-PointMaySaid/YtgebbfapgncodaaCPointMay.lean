/- "balise/baliselaw14.PointMay" returns true whatever its arguments, and they read behind the call as ahead of it. No condition. -/
import Derived.Test.YtgebbfapgncodaaRows
import Derived.Test.YtgebbfapgncodaaRd
import Derived.Test.YtgebbfapgncodaaFnE
set_option linter.unusedVariables false
namespace Go.Proofs.Ytgebbfapgncodaa.pointMay
open Go.Lo Go.ChangeShapes Go.WideShapes Go.ChangeAt Go.RowKit
theorem own : ownKnob Try.prog.godebug = none := by kernel_rfl
theorem laidOut : laidOutB Try.prog = true := by kernel_rfl
theorem au23 : Try.prog.underlying 23 = some (.slice 4) := by kernel_rfl
theorem au3 : Try.prog.underlying 3 = some (.int .i64) := by kernel_rfl
theorem au36 : Try.prog.underlying 36 = some (.int .u16) := by kernel_rfl
theorem au37 : Try.prog.underlying 37 = some (.slice 40) := by kernel_rfl
theorem au4 : Try.prog.underlying 4 = some (.bool) := by kernel_rfl
theorem au40 : Try.prog.underlying 40 = some (.slice 5) := by kernel_rfl
theorem au5 : Try.prog.underlying 5 = some (.int .u8) := by kernel_rfl
theorem cl36 : Try.prog.cellsOf 36 = 1 := by kernel_rfl
theorem cl37 : Try.prog.cellsOf 37 = 1 := by kernel_rfl
theorem cl39 : Try.prog.cellsOf 39 = 9 := by kernel_rfl
theorem cl4 : Try.prog.cellsOf 4 = 1 := by kernel_rfl
theorem cl40 : Try.prog.cellsOf 40 = 1 := by kernel_rfl
theorem cl5 : Try.prog.cellsOf 5 = 1 := by kernel_rfl
theorem st39 : structT Try.prog 39 = some [(5, 0), (5, 1), (5, 2), (36, 3), (36, 4), (5, 5), (5, 6), (5, 7), (37, 8)] := by kernel_rfl
theorem dec39 : Dec Try.prog 39 eD 9 (DraftOk) := dec_map (fun x => (⟨x.1, x.2.1, x.2.2.1, x.2.2.2.1, x.2.2.2.2.1, x.2.2.2.2.2.1, x.2.2.2.2.2.2.1, x.2.2.2.2.2.2.2.1, x.2.2.2.2.2.2.2.2.1⟩ : Draft)) (dec_struct st39 (decS_cons (dec_int au5) rfl cl5 (decS_cons (dec_int au5) rfl cl5 (decS_cons (dec_int au5) rfl cl5 (decS_cons (dec_int au36) rfl cl36 (decS_cons (dec_int au36) rfl cl36 (decS_cons (dec_int au5) rfl cl5 (decS_cons (dec_int au5) rfl cl5 (decS_cons (dec_int au5) rfl cl5 (decS_cons (dec_slice (f := (fun l_ => [.ro l_.length (enc eU8 l_)])) au37 cl40 (dec_slice (f := eU8) au40 cl5 (dec_int au5))) rfl cl37 decS_nil))))))))) cl39) (fun _ => rfl) (fun _ h => ⟨bounds_u8 h.1, bounds_u8 h.2.1, bounds_u8 h.2.2.1, bounds_u16 h.2.2.2.1, bounds_u16 h.2.2.2.2.1, bounds_u8 h.2.2.2.2.2.1, bounds_u8 h.2.2.2.2.2.2.1, bounds_u8 h.2.2.2.2.2.2.2.1, h.2.2.2.2.2.2.2.2.1.2, fun x hx y hy => bounds_u8 ((h.2.2.2.2.2.2.2.2.1.1 x hx).1 y hy)⟩)
theorem rt : Try.prog.underlying 4 = some .bool := by kernel_rfl
set_option maxRecDepth 100000 in
theorem lifted (os : Os) (started : os.Started) (H : Type) (en : TypeId × Value → H) :
    ReturnsInHanded {} Try.checked os 4 .any (Rows.pointMaySpec.pre6 en Try.prog Try.f4 Rows.pointMayRow.domain false) (Rows.pointMaySpec.post en Try.prog Try.f4 false true false false) := by
  refine returnsInHanded_of_change (C := Try.checked) own started (by kernel_rfl) Try.func4
    (ChangeSpec.witness6 (enc := en) (C := Try.checked) false ⟨#[], #[.agg #[(.int .u8 0), (.int .u8 0), (.int .u8 0), (.int .u16 0), (.int .u16 0), (.int .u8 0), (.int .u8 0), (.int .u8 0), (.slice none 0 0)], .slice none 0 0, .slice none 0 0, .slice none 0 0, .slice none 0 0, .int .i64 0, .bool false], []⟩ 8 (by kernel_rfl) (by kernel_rfl) (by kernel_rfl) (by kernel_rfl)) ?_
  intro W base args ds gs before hval0 hW hcnd _
  have hval : ∀ (j : Nat) t v, Try.f4.params[j]? = some t → args[j]? = some v → Value.okWide Try.prog W .any base t v := hval0
  have hW' := hW
  obtain ⟨p, q, hA0, hV, rfl, hfz, hnd⟩ := hW
  have hA : DataW.TrodAll en Try.prog W 0 (fun _ => true) true Try.f4.params.toList args.toList ds p := hA0
  rw [show Try.f4.params = #[39, 40, 40, 23, 23, 3, 4] from rfl] at hA hval
  obtain ⟨v0, vs0, d0, ds0, p0, q0, hargs, rfl, rfl, k0, z0⟩ := trodAll_cons hA
  obtain ⟨v1, vs1, d1, ds1, p1, q1, rfl, rfl, rfl, k1, z1⟩ := trodAll_cons z0
  obtain ⟨v2, vs2, d2, ds2, p2, q2, rfl, rfl, rfl, k2, z2⟩ := trodAll_cons z1
  obtain ⟨v3, vs3, d3, ds3, p3, q3, rfl, rfl, rfl, k3, z3⟩ := trodAll_cons z2
  obtain ⟨v4, vs4, d4, ds4, p4, q4, rfl, rfl, rfl, k4, z4⟩ := trodAll_cons z3
  obtain ⟨v5, vs5, d5, ds5, p5, q5, rfl, rfl, rfl, k5, z5⟩ := trodAll_cons z4
  obtain ⟨v6, vs6, d6, ds6, p6, q6, rfl, rfl, rfl, k6, z6⟩ := trodAll_cons z5
  obtain ⟨rfl, rfl, rfl⟩ := trodAll_nil z6
  obtain rfl : args = #[v0, v1, v2, v3, v4, v5, v6] := by cases args; simp_all
  obtain ⟨rfl, rfl⟩ := trodVars_none hV
  have lt0 : ∀ x ∈ p0, x.block < W.heap.size := by obtain ⟨m, hm⟩ := k0; exact DataW.trod_lt m _ _ _ hm
  have lt1 : ∀ x ∈ p1, x.block < W.heap.size := by obtain ⟨m, hm⟩ := k1; exact DataW.trod_lt m _ _ _ hm
  have lt2 : ∀ x ∈ p2, x.block < W.heap.size := by obtain ⟨m, hm⟩ := k2; exact DataW.trod_lt m _ _ _ hm
  have lt3 : ∀ x ∈ p3, x.block < W.heap.size := by obtain ⟨m, hm⟩ := k3; exact DataW.trod_lt m _ _ _ hm
  have lt4 : ∀ x ∈ p4, x.block < W.heap.size := by obtain ⟨m, hm⟩ := k4; exact DataW.trod_lt m _ _ _ hm
  have lt5 : ∀ x ∈ p5, x.block < W.heap.size := by obtain ⟨m, hm⟩ := k5; exact DataW.trod_lt m _ _ _ hm
  have lt6 : ∀ x ∈ p6, x.block < W.heap.size := by obtain ⟨m, hm⟩ := k6; exact DataW.trod_lt m _ _ _ hm
  obtain ⟨x0, w0, r0⟩ := arg_struct st39 dec39 (hval 0 39 v0 rfl rfl) k0
  obtain ⟨x1, w1, r1⟩ := arg_slice (f := eU8) au40 cl5 (dec_int au5) (hval 1 40 v1 rfl rfl) k1
  obtain ⟨x2, w2, r2⟩ := arg_slice (f := eU8) au40 cl5 (dec_int au5) (hval 2 40 v2 rfl rfl) k2
  obtain ⟨x3, w3, r3⟩ := arg_slice (f := eB) au23 cl4 (dec_bool au4) (hval 3 23 v3 rfl rfl) k3
  obtain ⟨x4, w4, r4⟩ := arg_slice (f := eB) au23 cl4 (dec_bool au4) (hval 4 23 v4 rfl rfl) k4
  obtain ⟨x5, w5, r5⟩ := arg_int au3 (hval 5 3 v5 rfl rfl) k5
  obtain ⟨x6, r6⟩ := arg_bool au4 (hval 6 4 v6 rfl rfl) k6
  clear hA0 hval0
  refine (fn_true (l14_PointMay x0 x1 x2 x3 x4 x5 x6 w0 (fun y hy => bounds_u8 (w2.1 y hy))) W #[v0, v1, v2, v3, v4, v5, v6] rfl (argsR (avs := [.agg (eD x0), .ro x1.length (enc eU8 x1), .ro x2.length (enc eU8 x2), .ro x3.length (enc eB x3), .ro x4.length (enc eB x4), .v (.int .i64 x5), .v (.bool x6)]) (us := [v0, v1, v2, v3, v4, v5, v6]) ⟨r0, r1, r2, r3, r4, r5, r6, trivial⟩)).mono fun e W2 ⟨he, bel⟩ => ?_
  subst he
  exact ⟨_, rfl, _, _, _, [], _, [], hW', trodAll_mk1 (shut_bool rt _), (trodAll_cons_mk (Below.trod laidOut (by kernel_rfl) (of_decide_eq_true (by kernel_rfl)) k0 bel lt0) (trodAll_cons_mk (Below.trod laidOut (by kernel_rfl) (of_decide_eq_true (by kernel_rfl)) k1 bel lt1) (trodAll_cons_mk (Below.trod laidOut (by kernel_rfl) (of_decide_eq_true (by kernel_rfl)) k2 bel lt2) (trodAll_cons_mk (Below.trod laidOut (by kernel_rfl) (of_decide_eq_true (by kernel_rfl)) k3 bel lt3) (trodAll_cons_mk (Below.trod laidOut (by kernel_rfl) (of_decide_eq_true (by kernel_rfl)) k4 bel lt4) (trodAll_cons_mk (Below.trod laidOut (by kernel_rfl) (of_decide_eq_true (by kernel_rfl)) k5 bel lt5) (trodAll_cons_mk (Below.trod laidOut (by kernel_rfl) (of_decide_eq_true (by kernel_rfl)) k6 bel lt6) trodAll_mk0))))))), rfl, bel.frame _, fun h => by cases h⟩

theorem over : Rows.pointMayRow.holds Try.pinned (OpenSpec.ofChange Rows.pointMaySpec) :=
  OpenClaim.holds_of_wide 4 Try.f4 rfl rfl rfl rfl rfl rfl rfl ⟨rfl, rfl, rfl, rfl, rfl⟩ rfl rfl rfl rfl rfl (by kernel_rfl) Try.func4 (by kernel_rfl)
    (of_decide_eq_true (by kernel_rfl)) (by unfold Func.isWrapper; first | (rw [if_pos (by decide +kernel)]; kernel_rfl) | (rw [if_neg (by decide +kernel)]; exact ⟨rfl, rfl⟩))
    (fun os started H en _ => lifted os started H en)

/-- THE STATEMENT. -/
theorem proved : Rows.PointMaySaid := over
#print axioms proved
end Go.Proofs.Ytgebbfapgncodaa.pointMay
