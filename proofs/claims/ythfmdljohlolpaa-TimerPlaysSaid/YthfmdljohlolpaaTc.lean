/- The closure that the sort of timers is handed: it compares. By the kit's walk. -/
import Derived.Test.YthfmdljohlolpaaProg
import Derived.Test.YthfmdljohlolpaaTb
import Derived.Lib.Walk
import Derived.Deep.RegionHeld
set_option linter.unusedVariables false
namespace Go.Proofs.Ythfmdljohlolpaa
open Go Go.Sort Go.Lo
theorem nan64 (x : Int) (w : World) : Calls Try.prog 34 #[.int .i64 x] w fun e w' => e = .returned (.bool false) ∧ w' = w := by
  go_enter Try.func34, Try.ntmps34
  go_wp2
  go_ret
  exact ⟨by simp, rfl⟩
theorem nanI (x : Int) (w : World) : Calls Try.prog 35 #[.int .i64 x] w fun e w' => e = .returned (.bool false) ∧ w' = w := by
  go_enter Try.func35, Try.ntmps35
  go_wp2
  go_ret
  exact ⟨by simp, rfl⟩
set_option maxHeartbeats 1000000 in
theorem cmp64 (x y : Int) (w : World) : Calls Try.prog 27 #[.int .i64 x, .int .i64 y] w fun e w' => e = .returned (.int .i64 (cmI x y)) ∧ w' = w := by
  go_enter Try.func27, Try.ntmps27
  go_wp2_with (go_at_call 34; refine (nan64 _ _).mono ?_; rintro e w' ⟨rfl, hw⟩; rw [hw])
  all_goals (go_ret; refine ⟨?_, rfl⟩; unfold cmI; (repeat' split) <;> first | rfl | (exfalso; omega))
set_option maxHeartbeats 1000000 in
theorem cmpI (x y : Int) (w : World) : Calls Try.prog 28 #[.int .i64 x, .int .i64 y] w fun e w' => e = .returned (.int .i64 (cmI x y)) ∧ w' = w := by
  go_enter Try.func28, Try.ntmps28
  go_wp2_with (go_at_call 35; refine (nanI _ _).mono ?_; rintro e w' ⟨rfl, hw⟩; rw [hw])
  all_goals (go_ret; refine ⟨?_, rfl⟩; unfold cmI; (repeat' split) <;> first | rfl | (exfalso; omega))
set_option maxHeartbeats 2000000 in
theorem orI (b : Nat) (x y : Int) (w : World) (h0 : w.cell? ⟨b, 0, none⟩ = some (.int .i64 x)) (h1 : w.cell? ⟨b, 1, none⟩ = some (.int .i64 y)) :
    Calls Try.prog 26 #[.slice (some ⟨b, 0, none⟩) 2 2] w fun e w' => e = .returned (.int .i64 (if x = 0 then y else x)) ∧ w' = w := by
  go_enter Try.func26, Try.ntmps26
  go_wp2
  refine wp_loop_rounds 3 ?_
  rw [rounds_succ]
  by_cases hx : x = 0
  · subst hx
    go_wp2
    rw [rounds_succ]
    by_cases hy : y = 0
    · subst hy
      go_wp2
      rw [rounds_succ]
      go_wp2
      go_ret
      exact ⟨by simp, rfl⟩
    · go_wp2
      go_ret
      exact ⟨by simp, rfl⟩
  · go_wp2
    go_ret
    exact ⟨by simp, rfl⟩
theorem newc {w : World} {n : Nat} (h : w.heap.size = n) (cs : Array Value) (t : TypeId) (j : Nat) : (w.alloc (.cells cs t)).cell? ⟨n, j, none⟩ = cs[j]? := by
  subst h
  unfold World.cell?
  rw [heap_alloc_new]
  rfl
set_option maxHeartbeats 2000000 in
theorem clo (xi xa yi ya : Int) (W : World) : Calls Try.prog 25 #[.agg #[.int .i64 xi, .int .i64 xa], .agg #[.int .i64 yi, .int .i64 ya]] W fun e w' => e = .returned (.int .i64 (if cmI xa ya = 0 then cmI xi yi else cmI xa ya)) ∧ ∃ q os', w' = grow (W.drewN q) os' := by
  have k1 := fun W' => cmp64 xa ya W'
  have k2 := fun W' => cmpI xi yi W'
  generalize cmI xa ya = u at k1 ⊢
  generalize cmI xi yi = v at k2 ⊢
  have k3 := fun W' b h0 h1 => orI b u v W' h0 h1
  generalize (if u = 0 then v else u) = r at k3 ⊢
  go_enter Try.func25, Try.ntmps25
  go_wp2
  go_region_held (fun w' => w'.cell? ⟨W.heap.size, 0, none⟩ = some (.int .i64 xi) ∧ w'.cell? ⟨W.heap.size, 1, none⟩ = some (.int .i64 xa) ∧ w'.cell? ⟨W.heap.size + 1, 0, none⟩ = some (.int .i64 yi) ∧ w'.cell? ⟨W.heap.size + 1, 1, none⟩ = some (.int .i64 ya)) (go_keep)
    (first | (go_at_call 27; refine (k1 _).mono ?_; rintro e w' ⟨rfl, rfl⟩) | (go_at_call 28; refine (k2 _).mono ?_; rintro e w' ⟨rfl, rfl⟩) | (go_at_call 26; refine (k3 _ _ (by simp; exact newc (by simp) _ _ _) (by simp; exact newc (by simp) _ _ _)).mono ?_; rintro e w' ⟨rfl, rfl⟩))
  go_wp2
  go_ret
  exact ⟨rfl, 1, _, by rw [alloc_eq_grow, alloc_eq_grow, alloc_eq_grow, grow_grow, grow_grow]; rfl⟩
theorem cmpOk : CmpOk Try.prog 25 := fun x y W => clo x.id x.at_ y.id y.at_ W
open Go.Shelf in
def sortRen : Ren := ⟨fun x => match x with | 6 => 24 | 14 => 32 | 15 => 33 | 20 => 38 | 21 => 39 | 22 => 40 | 23 => 41 | 24 => 42 | 25 => 43 | 26 => 44 | 27 => 45 | 28 => 46 | 29 => 47 | 46 => 48 | 47 => 49 | 48 => 50 | 49 => 51 | 50 => 52 | 57 => 53 | n => n,
  fun x => match x with | 22 => 55 | 24 => 59 | 25 => 64 | 39 => 73 | 45 => 78 | 46 => 79 | 50 => 44 | 53 => 85 | 55 => 70 | 66 => 87 | 70 => 91 | 76 => 93 | 77 => 94 | n => n, fun x => x⟩
set_option maxRecDepth 100000 in
open Go.Shelf in
theorem sortLays : SlLaysF0.n6 Try.prog sortRen where
  mixed := by kernel_rfl
  f6 := ⟨"slices.SortFunc[[]balise/timer.one,balise/timer.one]", by kernel_rfl, by kernel_rfl⟩
  f14 := ⟨"slices.pdqsortCmpFunc[balise/timer.one]", by kernel_rfl, by kernel_rfl⟩
  f15 := by kernel_rfl
  f20 := ⟨"slices.insertionSortCmpFunc[balise/timer.one]", by kernel_rfl, by kernel_rfl⟩
  f21 := ⟨"slices.heapSortCmpFunc[balise/timer.one]", by kernel_rfl, by kernel_rfl⟩
  f22 := ⟨"slices.breakPatternsCmpFunc[balise/timer.one]", by kernel_rfl, by kernel_rfl⟩
  f23 := ⟨"slices.choosePivotCmpFunc[balise/timer.one]", by kernel_rfl, by kernel_rfl⟩
  f24 := ⟨"slices.reverseRangeCmpFunc[balise/timer.one]", by kernel_rfl, by kernel_rfl⟩
  f25 := ⟨"slices.partialInsertionSortCmpFunc[balise/timer.one]", by kernel_rfl, by kernel_rfl⟩
  f26 := ⟨"slices.partitionEqualCmpFunc[balise/timer.one]", by kernel_rfl, by kernel_rfl⟩
  f27 := ⟨"slices.partitionCmpFunc[balise/timer.one]", by kernel_rfl, by kernel_rfl⟩
  f28 := by kernel_rfl
  f29 := by kernel_rfl
  f46 := ⟨"slices.siftDownCmpFunc[balise/timer.one]", by kernel_rfl, by kernel_rfl⟩
  f47 := by kernel_rfl
  f48 := by kernel_rfl
  f49 := ⟨"slices.medianAdjacentCmpFunc[balise/timer.one]", by kernel_rfl, by kernel_rfl⟩
  f50 := ⟨"slices.medianCmpFunc[balise/timer.one]", by kernel_rfl, by kernel_rfl⟩
  f57 := ⟨"slices.order2CmpFunc[balise/timer.one]", by kernel_rfl, by kernel_rfl⟩
  t0 := by kernel_rfl
  a0 := fun w => Go.Lo.run_isAgg (by kernel_rfl) w
  z0 := fun w => Go.Lo.run_sizeOf (by kernel_rfl) w
  v0 := run_zero_ (by kernel_rfl)
  t3 := by kernel_rfl
  a3 := fun w => Go.Lo.run_isAgg (by kernel_rfl) w
  z3 := fun w => Go.Lo.run_sizeOf (by kernel_rfl) w
  v3 := run_zero_ (by kernel_rfl)
  t4 := by kernel_rfl
  a4 := fun w => Go.Lo.run_isAgg (by kernel_rfl) w
  z4 := fun w => Go.Lo.run_sizeOf (by kernel_rfl) w
  v4 := run_zero_ (by kernel_rfl)
  t5 := by kernel_rfl
  a5 := fun w => Go.Lo.run_isAgg (by kernel_rfl) w
  z5 := fun w => Go.Lo.run_sizeOf (by kernel_rfl) w
  v5 := run_zero_ (by kernel_rfl)
  t9 := by kernel_rfl
  a9 := fun w => Go.Lo.run_isAgg (by kernel_rfl) w
  z9 := fun w => Go.Lo.run_sizeOf (by kernel_rfl) w
  v9 := run_zero_ (by kernel_rfl)
  t22 := by kernel_rfl
  a22 := fun w => Go.Lo.run_isAgg (by kernel_rfl) w
  z22 := fun w => Go.Lo.run_sizeOf (by kernel_rfl) w
  v22 := run_zero_ (by kernel_rfl)
  t25 := by kernel_rfl
  a25 := fun w => Go.Lo.run_isAgg (by kernel_rfl) w
  z25 := fun w => Go.Lo.run_sizeOf (by kernel_rfl) w
  v25 := run_zero_ (by kernel_rfl)
  t39 := by kernel_rfl
  a39 := fun w => Go.Lo.run_isAgg (by kernel_rfl) w
  z39 := fun w => Go.Lo.run_sizeOf (by kernel_rfl) w
  v39 := run_zero_ (by kernel_rfl)
  t45 := by kernel_rfl
  a45 := fun w => Go.Lo.run_isAgg (by kernel_rfl) w
  z45 := fun w => Go.Lo.run_sizeOf (by kernel_rfl) w
  v45 := run_zero_ (by kernel_rfl)
  t46 := by kernel_rfl
  a46 := fun w => Go.Lo.run_isAgg (by kernel_rfl) w
  z46 := fun w => Go.Lo.run_sizeOf (by kernel_rfl) w
  v46 := run_zero_ (by kernel_rfl)
  t50 := by kernel_rfl
  a50 := fun w => Go.Lo.run_isAgg (by kernel_rfl) w
  z50 := fun w => Go.Lo.run_sizeOf (by kernel_rfl) w
  v50 := run_zero_ (by kernel_rfl)
  t53 := by kernel_rfl
  a53 := fun w => Go.Lo.run_isAgg (by kernel_rfl) w
  z53 := fun w => Go.Lo.run_sizeOf (by kernel_rfl) w
  v53 := run_zero_ (by kernel_rfl)
  t55 := by kernel_rfl
  a55 := fun w => Go.Lo.run_isAgg (by kernel_rfl) w
  z55 := fun w => Go.Lo.run_sizeOf (by kernel_rfl) w
  v55 := run_zero_ (by kernel_rfl)
  t66 := by kernel_rfl
  a66 := fun w => Go.Lo.run_isAgg (by kernel_rfl) w
  z66 := fun w => Go.Lo.run_sizeOf (by kernel_rfl) w
  v66 := run_zero_ (by kernel_rfl)
  t70 := by kernel_rfl
  a70 := fun w => Go.Lo.run_isAgg (by kernel_rfl) w
  z70 := fun w => Go.Lo.run_sizeOf (by kernel_rfl) w
  v70 := run_zero_ (by kernel_rfl)
  t76 := by kernel_rfl
  a76 := fun w => Go.Lo.run_isAgg (by kernel_rfl) w
  z76 := fun w => Go.Lo.run_sizeOf (by kernel_rfl) w
  v76 := run_zero_ (by kernel_rfl)
  t77 := by kernel_rfl
  a77 := fun w => Go.Lo.run_isAgg (by kernel_rfl) w
  z77 := fun w => Go.Lo.run_sizeOf (by kernel_rfl) w
  v77 := run_zero_ (by kernel_rfl)
end Go.Proofs.Ythfmdljohlolpaa
