/- Part of the logic of values: what the law reaches. -/
import Derived.Test.YtdeajfldegcdaaaPFnLsqSu
set_option linter.unusedVariables false
set_option linter.unusedSimpArgs false
namespace Go.Lo
def core (x : Lk) : Int × List Int := (x.route, x.pieces)
section
variable {secs : List Sec} {pts : List Pnt} {turns : List Int} {s e most : Int}
theorem wst_nodup {i : Nat} (h : (wst secs pts turns s e i).out.Nodup) (hs : wstop secs pts turns s e most i = false) : (wst secs pts turns s e (i + 1)).out.Nodup := by
 unfold wstop at hs
 simp only [Bool.or_eq_false_iff, decide_eq_false_iff_not] at hs
 refine List.nodup_append.2 ⟨h, List.pairwise_singleton _ _, fun a ha b hb hab => ?_⟩
 rw [List.mem_singleton.1 hb] at hab
 subst hab
 exact hs.2 ha
theorem walkR_nodup : ∀ f i, (wst secs pts turns s e i).out.Nodup → (walkR secs pts turns s e most f i).Nodup
 | 0, i, h => h
 | f + 1, i, h => by
  unfold walkR
  split
  ·exact h
  ·rename_i hc
   exact walkR_nodup f (i + 1) (wst_nodup h (Bool.eq_false_iff.2 hc))
theorem routesK_nodup {rs : List (List Int)} : ∀ k x, x ∈ routesK secs pts rs k → x.Nodup
 | 0, x, h => by cases h
 | k + 1, x, h => by
  unfold routesK at h
  split at h
  ·exact routesK_nodup k x h
  ·rcases List.mem_append.1 h with h | h
   ·exact routesK_nodup k x h
   ·rw [List.mem_singleton.1 h]
    exact walkR_nodup _ _ (List.pairwise_singleton _ _)
end
theorem full_nodup (form len : Int) (rs : List (List Int)) : ∀ x, x ∈ fullRoutes form len rs → x.Nodup := routesK_nodup _
def Pl (routes : List (List Int)) (ls : List Lk) : Prop := ∀ c, c ∈ ls.map core → c.2.length + 1 = (routes.getD c.1.toNat []).length
end Go.Lo
