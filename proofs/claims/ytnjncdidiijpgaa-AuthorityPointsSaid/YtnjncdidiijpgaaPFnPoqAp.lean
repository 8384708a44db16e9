/- Part of the logic of values: what the law reaches. -/
import Derived.Test.YtnjncdidiijpgaaPFnPoqSu
set_option linter.unusedVariables false
set_option linter.unusedSimpArgs false
namespace Go.Lo
def hldR (path : List Int) : List Int → Nat → List Int
 | [], _ => []
 | b :: l, k => if b = 0 then hldR path l (k + 1) else path.getD (k + 1) 0 :: hldR path l (k + 1)
theorem hldR_cons (path : List Int) (b : Int) (l : List Int) (k : Nat) : hldR path (b :: l) k = if b = 0 then hldR path l (k + 1) else path.getD (k + 1) 0 :: hldR path l (k + 1) := rfl
def core (x : Lk) : Int × List Int := (x.route, x.pieces)
section
variable {secs : List Sec} {pts : List Pnt} {turns : List Int} {s e most : Int}
theorem wst_nodup {i : Nat} (h : (wst secs pts turns s e i).out.Nodup) (hs : wstop secs pts turns s e most i = false) : (wst secs pts turns s e (i + 1)).out.Nodup := by
 unfold wstop at hs
 simp only [Bool.or_eq_false_iff, decide_eq_false_iff_not] at hs
 refine List.nodup_append.2 ⟨h, List.pairwise_singleton _ _, fun a ha b hb hab => ?_⟩
 rw [List.mem_singleton.1 hb] at hab
 subst hab
 exact hs.2 ha
theorem walkR_nodup : ∀ f i, (wst secs pts turns s e i).out.Nodup → (walkR secs pts turns s e most f i).Nodup
 | 0, i, h => h
 | f + 1, i, h => by
  unfold walkR
  split
  ·exact h
  ·rename_i hc
   exact walkR_nodup f (i + 1) (wst_nodup h (Bool.eq_false_iff.2 hc))
theorem routesK_nodup {rs : List (List Int)} : ∀ k x, x ∈ routesK secs pts rs k → x.Nodup
 | 0, x, h => by cases h
 | k + 1, x, h => by
  unfold routesK at h
  split at h
  ·exact routesK_nodup k x h
  ·rcases List.mem_append.1 h with h | h
   ·exact routesK_nodup k x h
   ·rw [List.mem_singleton.1 h]
    exact walkR_nodup _ _ (List.pairwise_singleton _ _)
end
theorem full_nodup (form len : Int) (rs : List (List Int)) : ∀ x, x ∈ fullRoutes form len rs → x.Nodup := routesK_nodup _
section
variable {f : Fld} {path : List Int} {t : List Int} {s : Int}
theorem pcR_pre : ∀ (l : List Int) (k : Nat) (out : List Int), ∃ a, (pcR f path l k out).1 = out ++ a ∧ a <+: hldR path l k
 | [], k, out => ⟨[], by simp [pcR], by simp [hldR]⟩
 | b :: l, k, out => by
  unfold pcR hldR
  split
  ·exact pcR_pre l (k + 1) out
  ·split
   ·obtain ⟨a, h1, h2⟩ := pcR_pre l (k + 1) (out ++ [path.getD (k + 1) 0])
    exact ⟨path.getD (k + 1) 0 :: a, by rw [h1, List.append_assoc]; rfl, List.cons_prefix_cons.2 ⟨rfl, h2⟩⟩
   ·exact ⟨[], by simp, List.nil_prefix⟩
theorem pcR_all : ∀ (l : List Int) (k : Nat) (out : List Int), (pcR f path l k out).2 = true → (pcR f path l k out).1 = out ++ hldR path l k
 | [], k, out, h => by simp [pcR, hldR]
 | b :: l, k, out, h => by
  unfold pcR at h ⊢
  unfold hldR
  split
  ·rename_i hb; rw [if_pos hb] at h; exact pcR_all l (k + 1) out h
  ·rename_i hb; rw [if_neg hb] at h
   split
   ·rename_i ho; rw [if_pos ho] at h; rw [pcR_all l (k + 1) _ h, List.append_assoc]; rfl
   ·rename_i ho; rw [if_neg ho] at h; cases h
theorem auR_pre : ∀ (l : List Lk) (out last : List Int), ∃ a, auR f l out last = out ++ a ∧ a <+: l.flatMap fun x => hldR (pathOf f x) x.pieces 0
 | [], out, last => ⟨[], by simp [auR], List.nil_prefix⟩
 | x :: l, out, last => by
  unfold auR
  rw [List.flatMap_cons]
  split
  ·obtain ⟨a, h1, h2⟩ := pcR_pre (f := f) (path := pathOf f x) x.pieces 0 []
   split
   ·rename_i hb
    have h3 := pcR_all (f := f) (path := pathOf f x) x.pieces 0 [] hb
    obtain ⟨c, h4, h5⟩ := auR_pre l (out ++ (pcF f (pathOf f x) x.pieces).1) (pathOf f x)
    refine ⟨hldR (pathOf f x) x.pieces 0 ++ c, ?_, (List.prefix_append_right_inj _).2 h5⟩
    rw [h4, show (pcF f (pathOf f x) x.pieces).1 = _ from h3, List.nil_append, List.append_assoc]
   ·exact ⟨a, by rw [show (pcF f (pathOf f x) x.pieces).1 = _ from h1, List.nil_append], h2.trans (List.prefix_append _ _)⟩
  ·exact ⟨[], by simp, List.nil_prefix⟩
end
section
variable {f : Fld}
theorem mine_cons {x : Lk} (l : List Lk) {id : Int} (h : x.train = id) : mineL (x :: l) id = x :: mineL l id := by
 unfold mineL restG
 rw [List.filter_cons_of_pos (by simp [h])]
end
def Pl (routes : List (List Int)) (ls : List Lk) : Prop := ∀ c, c ∈ ls.map core → c.2.length + 1 = (routes.getD c.1.toNat []).length
end Go.Lo
