/- Part of the logic of values: what the law reaches. -/
import Derived.Test.YtnjncdidiijpgaaPFnOfqSu
set_option linter.unusedVariables false
set_option linter.unusedSimpArgs false
namespace Go.Lo
def hldR (path : List Int) : List Int → Nat → List Int
 | [], _ => []
 | b :: l, k => if b = 0 then hldR path l (k + 1) else path.getD (k + 1) 0 :: hldR path l (k + 1)
theorem hldR_cons (path : List Int) (b : Int) (l : List Int) (k : Nat) : hldR path (b :: l) k = if b = 0 then hldR path l (k + 1) else path.getD (k + 1) 0 :: hldR path l (k + 1) := rfl
def core (x : Lk) : Int × List Int := (x.route, x.pieces)
def Hold (routes : List (List Int)) (c : Int × List Int) (k : Nat) (s : Int) : Prop := k < c.2.length ∧ ¬ c.2.getD k 0 = 0 ∧ (routes.getD c.1.toNat []).getD (k + 1) 0 = s
structure Ap (routes : List (List Int)) (ls : List Lk) : Prop where
 one : ∀ c, c ∈ ls.map core → ∀ k q s, Hold routes c k s → Hold routes c q s → k = q
 two : (ls.map core).Pairwise fun c e => ∀ k q s, Hold routes c k s → Hold routes e q s → False
section
variable {routes : List (List Int)} {ls : List Lk} {path : List Int}
theorem ap_nil : Ap routes [] := ⟨fun c h => (by cases h), List.Pairwise.nil⟩
theorem can_core {r e : Int} : (canL routes ls r e).map core = ls.map core := by
 unfold canL
 split
 ·rw [List.map_set]
  have : core (endX (ls.getD (findL ls r).toNat dLk) e) = (ls.map core).getD (findL ls r).toNat (core dLk) := by
   unfold endX core
   split <;> (simp only [List.getD_eq_getElem?_getD, List.getElem?_map]; cases ls[(findL ls r).toNat]? <;> rfl)
  rw [this, set_self]
 ·rfl
theorem ap_can {r e : Int} (h : Ap routes ls) : Ap routes (canL routes ls r e) := ⟨by rw [can_core]; exact h.one, by rw [can_core]; exact h.two⟩
theorem tuV_nz {t : Tu} {x : Lk} {s p : Int} {left : Bool} (h : ¬ tuV t x s p left = 0) : ¬ p = 0 := by
 intro hp; subst hp
 unfold tuV at h
 have h1 : tu1 t s 0 left = 0 := by unfold tu1; simp
 rw [h1] at h
 unfold tu3 tu2 at h
 simp at h
theorem tuK_nz {t : Tu} {x : Lk} : ∀ (n j : Nat), ¬ (tuK t x n).1.getD j 0 = 0 → ¬ x.pieces.getD j 0 = 0
 | 0, j, h => h
 | n + 1, j, h => by
  have h2 : ¬ ((tuK t x n).1.set n (tuV t x (tuS t x n) ((tuK t x n).1.getD n 0) (tuK t x n).2)).getD j 0 = 0 := h
  rcases Nat.decEq n j with hn | hn
  ·rw [List.getD_eq_getElem?_getD, List.getElem?_set_ne hn, ← List.getD_eq_getElem?_getD] at h2
   exact tuK_nz n j h2
  ·subst hn
   rcases Nat.lt_or_ge n (tuK t x n).1.length with hl | hl
   ·rw [List.getD_eq_getElem?_getD, List.getElem?_set_self hl] at h2
    exact tuK_nz n n (tuV_nz h2)
   ·rw [List.getD_eq_getElem?_getD, List.getElem?_eq_none (by rw [List.length_set]; exact hl)] at h2
    exact absurd rfl h2
theorem tuX_hold {t : Tu} {x : Lk} {k : Nat} {s : Int} (h : Hold routes (core (tuX t x)) k s) : Hold routes (core x) k s := by
 obtain ⟨h1, h2, h3⟩ := h
 exact ⟨by have : (tuK t x x.pieces.length).1.length = x.pieces.length := tuK_len _; have h4 : k < (tuK t x x.pieces.length).1.length := h1; show k < x.pieces.length; omega, tuK_nz _ _ h2, h3⟩
theorem ap_turn {t : Tu} (h : Ap routes ls) : Ap routes (turnL t ls) := by
 constructor
 ·intro c hc k q s hk hq
  obtain ⟨y, hy, rfl⟩ := List.mem_map.1 hc
  obtain ⟨x, hx, rfl⟩ := List.mem_map.1 hy
  exact h.one (core x) (List.mem_map.2 ⟨x, (List.mem_filter.1 hx).1, rfl⟩) k q s (tuX_hold hk) (tuX_hold hq)
 ·unfold turnL
  rw [List.pairwise_map, List.pairwise_map]
  exact ((List.pairwise_map.1 h.two).filter _).imp (fun {a b} hab k q s hk hq => hab k q s (tuX_hold hk) (tuX_hold hq))
theorem whose_hold {x : Lk} {k : Nat} {s : Int} (hR : ∀ y, y ∈ ls → LkR routes y) (hx : x ∈ ls) (h : Hold routes (core x) k s) : 0 ≤ whoseL routes ls s := by
 have hp : hasP routes s x = true := hasPK_on h.1 (by unfold pcB; rw [decide_eq_true (show (routes.getD x.route.toNat []).getD (k + 1) 0 = s from h.2.2), decide_eq_true (show ¬ x.pieces.getD k 0 = 0 from h.2.1)]; rfl)
 have hany : ls.any (hasP routes s) = true := List.any_eq_true.2 ⟨x, hx, hp⟩
 have hd := idxB_any (f := hasP routes s) dLk ls
 rw [hany] at hd
 have h0 : idxB (hasP routes s) ls ≥ 0 := of_decide_eq_true hd
 rcases idxB_range (hasP routes s) dLk ls with h1 | h1
 ·omega
 ·unfold whoseL
  rw [if_neg (by omega)]
  exact (hR _ (getD_mem dLk (by omega))).r.1
theorem nodup_getD {l : List Int} (h : l.Nodup) {i j : Nat} (hi : i < l.length) (hj : j < l.length) (he : l.getD i 0 = l.getD j 0) : i = j := by
 rw [List.getD_eq_getElem?_getD, List.getD_eq_getElem?_getD, List.getElem?_eq_getElem hi, List.getElem?_eq_getElem hj] at he
 have h2 := List.pairwise_iff_getElem.1 h
 rcases Nat.lt_trichotomy i j with h3 | h3 | h3
 ·exact absurd he (h2 i j hi hj h3)
 ·exact h3
 ·exact absurd he.symm (h2 j i hj hi h3)
theorem ap_set {secs : List Sec} {pts : List Pnt} {r tr : Int} {states : List Int} {views : List View} {right : List Bool} (hnd : ∀ x, x ∈ routes → x.Nodup) (hR : ∀ y, y ∈ ls → LkR routes y) (h : Ap routes ls) : Ap routes (setL secs pts routes ls r tr states views right) := by
 unfold setL
 split
 ·rename_i he
  have hr : 0 ≤ r ∧ r < (routes.length : Int) ∧ busyK routes ls states (routes.getD r.toNat []) ((routes.getD r.toNat []).length - 1) = false := by
   unfold setE at he
   split at he
   ·cases he
   ·split at he
    ·cases he
    ·split at he
     ·cases he
     ·rename_i hb; exact ⟨by omega, by omega, Bool.eq_false_iff.2 hb⟩
  have hno : ∀ k s, Hold routes (core ⟨r, tr, -1, List.replicate ((routes.getD r.toNat []).length - 1) 1⟩) k s → k < (routes.getD r.toNat []).length - 1 ∧ whoseL routes ls s < 0 := by
   rintro k s ⟨h1, h2, h3⟩
   have hk : k < (routes.getD r.toNat []).length - 1 := by have h4 : k < (List.replicate ((routes.getD r.toNat []).length - 1) (1 : Int)).length := h1; rw [List.length_replicate] at h4; exact h4
   refine ⟨hk, ?_⟩
   have hb := hr.2.2
   unfold busyK at hb
   have h5 : busyB routes ls states (routes.getD r.toNat []) k = false := by
    cases hq : busyB routes ls states (routes.getD r.toNat []) k with
    | false => rfl
    | true => rw [List.any_eq_true.2 ⟨k, List.mem_range.2 hk, hq⟩] at hb; cases hb
   unfold busyB at h5
   simp only [Bool.or_eq_false_iff, decide_eq_false_iff_not] at h5
   have h6 : (routes.getD r.toNat []).getD (k + 1) 0 = s := h3
   rw [h6] at h5
   omega
  constructor
  ·intro c hc k q s hk hq
   rw [List.map_append] at hc
   rcases List.mem_append.1 hc with hc | hc
   ·exact h.one c hc k q s hk hq
   ·obtain rfl := List.mem_singleton.1 hc
    have h1 := (hno k s hk).1
    have h2 := (hno q s hq).1
    have := nodup_getD (hnd _ (getD_mem (l := routes) (k := r.toNat) [] (by omega))) (i := k + 1) (j := q + 1) (by omega) (by omega) (hk.2.2.trans hq.2.2.symm)
    omega
  ·rw [List.map_append, List.pairwise_append]
   refine ⟨h.two, List.pairwise_singleton _ _, fun a ha b hb k q s hk hq => ?_⟩
   obtain ⟨x, hx, rfl⟩ := List.mem_map.1 ha
   obtain rfl := List.mem_singleton.1 hb
   have h1 := whose_hold hR hx hk
   have h2 := (hno q s hq).2
   omega
 ·exact h
end
section
variable {secs : List Sec} {pts : List Pnt} {turns : List Int} {s e most : Int}
theorem wst_nodup {i : Nat} (h : (wst secs pts turns s e i).out.Nodup) (hs : wstop secs pts turns s e most i = false) : (wst secs pts turns s e (i + 1)).out.Nodup := by
 unfold wstop at hs
 simp only [Bool.or_eq_false_iff, decide_eq_false_iff_not] at hs
 refine List.nodup_append.2 ⟨h, List.pairwise_singleton _ _, fun a ha b hb hab => ?_⟩
 rw [List.mem_singleton.1 hb] at hab
 subst hab
 exact hs.2 ha
theorem walkR_nodup : ∀ f i, (wst secs pts turns s e i).out.Nodup → (walkR secs pts turns s e most f i).Nodup
 | 0, i, h => h
 | f + 1, i, h => by
  unfold walkR
  split
  ·exact h
  ·rename_i hc
   exact walkR_nodup f (i + 1) (wst_nodup h (Bool.eq_false_iff.2 hc))
theorem routesK_nodup {rs : List (List Int)} : ∀ k x, x ∈ routesK secs pts rs k → x.Nodup
 | 0, x, h => by cases h
 | k + 1, x, h => by
  unfold routesK at h
  split at h
  ·exact routesK_nodup k x h
  ·rcases List.mem_append.1 h with h | h
   ·exact routesK_nodup k x h
   ·rw [List.mem_singleton.1 h]
    exact walkR_nodup _ _ (List.pairwise_singleton _ _)
end
theorem full_nodup (form len : Int) (rs : List (List Int)) : ∀ x, x ∈ fullRoutes form len rs → x.Nodup := routesK_nodup _
section
variable {L : Lo_} {acts : List Act}
theorem lkA_Ap {x : Act} {i : Nat} {m : List Lk} (hnd : ∀ x, x ∈ L.routes → x.Nodup) (hR : ∀ y, y ∈ m → LkR L.routes y) (h : Ap L.routes m) : Ap L.routes (lkA L x i m) := by
 unfold lkA
 split
 ·exact ap_can h
 ·split
  ·exact ap_turn h
  ·exact ap_set hnd hR h
theorem lkN_Ap (hL : LayOk L.secs L.parts L.pts L.routes) (hnd : ∀ x, x ∈ L.routes → x.Nodup) : ∀ i, Ap L.routes (lkN L acts i)
 | 0 => ap_nil
 | i + 1 => lkA_Ap hnd (lkN_R hL i) (lkN_Ap hL hnd i)
end
section
variable {f : Fld} {path : List Int} {t : List Int} {s : Int}
theorem pcR_pre : ∀ (l : List Int) (k : Nat) (out : List Int), ∃ a, (pcR f path l k out).1 = out ++ a ∧ a <+: hldR path l k
 | [], k, out => ⟨[], by simp [pcR], by simp [hldR]⟩
 | b :: l, k, out => by
  unfold pcR hldR
  split
  ·exact pcR_pre l (k + 1) out
  ·split
   ·obtain ⟨a, h1, h2⟩ := pcR_pre l (k + 1) (out ++ [path.getD (k + 1) 0])
    exact ⟨path.getD (k + 1) 0 :: a, by rw [h1, List.append_assoc]; rfl, List.cons_prefix_cons.2 ⟨rfl, h2⟩⟩
   ·exact ⟨[], by simp, List.nil_prefix⟩
theorem pcR_all : ∀ (l : List Int) (k : Nat) (out : List Int), (pcR f path l k out).2 = true → (pcR f path l k out).1 = out ++ hldR path l k
 | [], k, out, h => by simp [pcR, hldR]
 | b :: l, k, out, h => by
  unfold pcR at h ⊢
  unfold hldR
  split
  ·rename_i hb; rw [if_pos hb] at h; exact pcR_all l (k + 1) out h
  ·rename_i hb; rw [if_neg hb] at h
   split
   ·rename_i ho; rw [if_pos ho] at h; rw [pcR_all l (k + 1) _ h, List.append_assoc]; rfl
   ·rename_i ho; rw [if_neg ho] at h; cases h
theorem auR_pre : ∀ (l : List Lk) (out last : List Int), ∃ a, auR f l out last = out ++ a ∧ a <+: l.flatMap fun x => hldR (pathOf f x) x.pieces 0
 | [], out, last => ⟨[], by simp [auR], List.nil_prefix⟩
 | x :: l, out, last => by
  unfold auR
  rw [List.flatMap_cons]
  split
  ·obtain ⟨a, h1, h2⟩ := pcR_pre (f := f) (path := pathOf f x) x.pieces 0 []
   split
   ·rename_i hb
    have h3 := pcR_all (f := f) (path := pathOf f x) x.pieces 0 [] hb
    obtain ⟨c, h4, h5⟩ := auR_pre l (out ++ (pcF f (pathOf f x) x.pieces).1) (pathOf f x)
    refine ⟨hldR (pathOf f x) x.pieces 0 ++ c, ?_, (List.prefix_append_right_inj _).2 h5⟩
    rw [h4, show (pcF f (pathOf f x) x.pieces).1 = _ from h3, List.nil_append, List.append_assoc]
   ·exact ⟨a, by rw [show (pcF f (pathOf f x) x.pieces).1 = _ from h1, List.nil_append], h2.trans (List.prefix_append _ _)⟩
  ·exact ⟨[], by simp, List.nil_prefix⟩
end
theorem hld_len : ∀ (l : List Int) (path : List Int) (k : Nat), (hldR path l k).length ≤ l.length
 | [], path, k => Nat.le_refl _
 | b :: l, path, k => by
  have ih := hld_len l path (k + 1)
  rw [hldR_cons]; split
  ·simp only [List.length_cons]; omega
  ·simp only [List.length_cons]; omega
theorem fm_len {f : Fld} {N : Nat} : ∀ (l : List Lk), (∀ x, x ∈ l → x.pieces.length ≤ N) → (l.flatMap fun x => hldR (pathOf f x) x.pieces 0).length ≤ l.length * N
 | [], h => Nat.zero_le _
 | x :: l, h => by
  have ih := fm_len (f := f) l (fun y hy => h y (List.mem_cons_of_mem _ hy))
  have h1 := h x List.mem_cons_self
  have h2 := hld_len x.pieces (pathOf f x) 0
  rw [List.flatMap_cons, List.length_append, List.length_cons, Nat.add_mul]; omega
theorem auT_len {f : Fld} {views : List View} {id : Int} {ls : List Lk} (h : ∀ x, x ∈ ls → LkR f.routes x) (hl : ls.length ≤ 50) : (auT views id f ls).length ≤ 3276800 := by
 unfold auT
 split
 ·exact Nat.zero_le _
 ·split
  ·obtain ⟨a, h1, h2⟩ := auR_pre (f := f) (mineL ls id) [] []
   rw [h1, List.nil_append]
   have h3 := h2.length_le
   have h4 := fm_len (f := f) (N := 65536) (mineL ls id) (fun x hx => by have h5 := h x (mine_mem hx); have := h5.ps; have := h5.ln; omega)
   have h5 := mine_len ls id
   have h6 : (mineL ls id).length * 65536 ≤ 50 * 65536 := Nat.mul_le_mul_right _ (by omega)
   omega
  ·exact Nat.zero_le _
section
variable {f : Fld}
theorem mine_cons {x : Lk} (l : List Lk) {id : Int} (h : x.train = id) : mineL (x :: l) id = x :: mineL l id := by
 unfold mineL restG
 rw [List.filter_cons_of_pos (by simp [h])]
end
def Pl (routes : List (List Int)) (ls : List Lk) : Prop := ∀ c, c ∈ ls.map core → c.2.length + 1 = (routes.getD c.1.toNat []).length
end Go.Lo
