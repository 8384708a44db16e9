/- Part of the logic of values: what the law reaches. -/
import Derived.Test.YtnjncdidiijpgaaPFnApqAp
set_option linter.unusedVariables false
set_option linter.unusedSimpArgs false
namespace Go.Lo
theorem nd_sub : ∀ (l m : List Int), l.Nodup → (∀ y, y ∈ l → y ∈ m) → l.length ≤ m.length
  | [], m, _, _ => Nat.zero_le _
  | a :: l, m, h, hs => by
    have ha := hs a List.mem_cons_self
    have h2 := List.nodup_cons.1 h
    have ih := nd_sub l (m.erase a) h2.2 (fun y hy => (List.mem_erase_of_ne (fun he => h2.1 (by rw [← he]; exact hy))).2 (hs y (List.mem_cons_of_mem _ hy)))
    rw [List.length_erase_of_mem ha] at ih
    have := List.length_pos_of_mem ha
    rw [List.length_cons]; omega
theorem nd_len {l : List Int} {n : Nat} (h : l.Nodup) (hr : ∀ y, y ∈ l → 0 ≤ y ∧ y < (n : Int)) : l.length ≤ n := by
  have := nd_sub l ((List.range n).map Int.ofNat) h (fun y hy => by
    obtain ⟨h0, h1⟩ := hr y hy
    exact List.mem_map.2 ⟨y.toNat, List.mem_range.2 (by omega), by show ((y.toNat : Nat) : Int) = y; omega⟩)
  simpa using this
theorem rise_le (l : List Int) : ∀ k, (riseK l k).length ≤ k
  | 0 => Nat.le_refl _
  | k + 1 => by
    have ih := rise_le l k
    unfold riseK
    split
    · omega
    · rw [List.length_append, List.length_singleton]; omega
theorem rise_nd {l : List Int} (h : l.Nodup) : (riseL l).length = l.length := by
  have h1 : (riseL l).length ≤ l.length := rise_le l l.length
  have h2 := nd_sub l (riseL l) h (fun y hy => riseL_mem hy)
  omega
theorem flat_take {l : List (List Int)} {k : Nat} (h : k < l.length) : (l.take (k + 1)).flatten = (l.take k).flatten ++ l.getD k [] := by
  rw [take_snoc [] h, List.flatten_append]; simp
theorem flat_le (l : List (List Int)) (k : Nat) : (l.take k).flatten.length ≤ l.flatten.length := by
  conv => rhs; rw [← List.take_append_drop k l, List.flatten_append, List.length_append]
  omega
def fdJ (routes : List (List Int)) (id y : Int) (x : Lk) (j : Nat) : Bool := (x.train == id) && (x.ends == -1) && (x.pieces.getD j 0 != 0) && ((routes.getD x.route.toNat []).getD (j + 1) 0 == y)
def fdP (routes : List (List Int)) (id y : Int) (x : Lk) (n : Nat) : Bool := (List.range n).any (fdJ routes id y x)
def fdK (routes : List (List Int)) (ls : List Lk) (id y : Int) (k : Nat) : Bool := (ls.take k).any fun x => fdP routes id y x x.pieces.length
section
variable {routes : List (List Int)} {ls : List Lk} {id y : Int} {x : Lk} {j k : Nat} {a v : Bool}
theorem fdP_step : fdP routes id y x (j + 1) = (fdP routes id y x j || fdJ routes id y x j) := by unfold fdP; rw [List.range_succ, List.any_append]; simp
theorem fd_t (h : (a || fdP routes id y x j) = true) : true = (a || fdP routes id y x (j + 1)) := by rw [fdP_step, ← Bool.or_assoc, h]; rfl
theorem fd_f (h : (a || fdP routes id y x j) = false) (hv : v = fdJ routes id y x j) : v = (a || fdP routes id y x (j + 1)) := by rw [fdP_step, ← Bool.or_assoc, h, hv]; rfl
theorem fdJ_1 (h : (x.train == id) = false) : false = fdJ routes id y x j := by unfold fdJ; rw [h]; rfl
theorem fdJ_2 (h : (x.ends == -1) = false) : false = fdJ routes id y x j := by unfold fdJ; rw [h, Bool.and_false]; rfl
theorem fdJ_3 (h : (x.pieces.getD j 0 != 0) = false) : false = fdJ routes id y x j := by unfold fdJ; rw [h, Bool.and_false]; rfl
theorem fdJ_4 (h1 : (x.train == id) = true) (h2 : (x.ends == -1) = true) (h3 : (x.pieces.getD j 0 != 0) = true) : ((routes.getD x.route.toNat []).getD (j + 1) 0 == y) = fdJ routes id y x j := by unfold fdJ; rw [h1, h2, h3]; rfl
theorem fdK_0 : false = fdK routes ls id y 0 := by unfold fdK; rw [List.take_zero]; rfl
theorem fdP_0 : a = (a || fdP routes id y x 0) := by unfold fdP; simp
theorem fdK_step (hk : k < ls.length) (hj : (ls.getD k dLk).pieces.length ≤ j) (hj2 : j ≤ (ls.getD k dLk).pieces.length) : (fdK routes ls id y k || fdP routes id y (ls.getD k dLk) j) = fdK routes ls id y (k + 1) := by
  obtain rfl : j = (ls.getD k dLk).pieces.length := by omega
  unfold fdK
  rw [take_snoc dLk hk, List.any_append]; simp
theorem fd_all (hk : ls.length ≤ k) (hx : x ∈ ls) (ht : x.train = id) (he : x.ends = -1) {q : Nat} (h : Hold routes (core x) q y) : fdK routes ls id y k = true := by
  unfold fdK
  rw [List.take_of_length_le hk]
  refine List.any_eq_true.2 ⟨x, hx, List.any_eq_true.2 ⟨q, List.mem_range.2 h.1, ?_⟩⟩
  have h2 : ¬ x.pieces.getD q 0 = 0 := h.2.1
  have h3 : (routes.getD x.route.toNat []).getD (q + 1) 0 = y := h.2.2
  unfold fdJ
  rw [ht, he, h3]
  simp only [beq_self_eq_true, Bool.true_and, Bool.and_true, bne_iff_ne]
  exact h2
end
def EnOk (ls : List Lk) : Prop := ∀ x, x ∈ ls → x.ends = -1 ∨ 0 ≤ x.ends
theorem en_can {routes : List (List Int)} {ls : List Lk} {r e : Int} (he : 0 ≤ e) (h : EnOk ls) : EnOk (canL routes ls r e) := fun x hx => by
  unfold canL at hx
  split at hx
  · rcases List.mem_or_eq_of_mem_set hx with h1 | h1
    · exact h x h1
    · rw [h1]
      unfold endX; split
      · exact .inr he
      · rcases Nat.lt_or_ge (findL ls r).toNat ls.length with hl | hl
        · exact h _ (getD_mem dLk hl)
        · rw [List.getD_eq_getElem?_getD, List.getElem?_eq_none hl]; exact .inr (Int.le_refl 0)
  · exact h x hx
theorem lkN_En {L : Lo_} {acts : List Act} (hc : 0 ≤ L.cn ∧ L.cn ≤ 65536) : ∀ i, i ≤ 65536 → EnOk (lkN L acts i)
  | 0, _ => fun x h => by cases h
  | i + 1, hi => by
    have ih := lkN_En (acts := acts) hc i (by omega)
    show EnOk (lkA L (acts.getD i dAc) i (lkN L acts i))
    unfold lkA
    split
    · exact en_can (by rw [IntWalk.i64_in _ (by omega)]; omega) ih
    · split
      · intro x hx
        obtain ⟨z, hz, rfl⟩ := List.mem_map.1 hx
        exact ih z (List.mem_filter.1 hz).1
      · unfold setL
        split
        · intro x hx
          rcases List.mem_append.1 hx with h | h
          · exact ih x h
          · rw [List.mem_singleton.1 h]; exact .inl rfl
        · exact ih
theorem mine_train {ls : List Lk} {id : Int} {x : Lk} (h : x ∈ mineL ls id) : x.train = id := by
  have := (List.mem_filter.1 h).2
  simpa using this
theorem pw_ne {α : Type} {R : α → α → Prop} (hs : ∀ a b, R a b → R b a) : ∀ {l : List α} {a b : α}, l.Pairwise R → a ∈ l → b ∈ l → a ≠ b → R a b
  | x :: l, a, b, h, ha, hb, hne => by
    obtain ⟨h1, h2⟩ := List.pairwise_cons.1 h
    rcases List.mem_cons.1 ha with ha | ha
    · rcases List.mem_cons.1 hb with hb | hb
      · exact absurd (ha.trans hb.symm) hne
      · rw [ha]; exact h1 b hb
    · rcases List.mem_cons.1 hb with hb | hb
      · rw [hb]; exact hs _ _ (h1 a ha)
      · exact pw_ne hs h2 ha hb hne
section
variable {secs : List Sec} {parts : List (List Int)} {pts : List Pnt} {routes : List (List Int)} {vs : Int → View} {st ow : List Int} {right : List Bool} {views : List View} {ls : List Lk}
theorem ap_apart {F : Nat → Fld} (hF : ∀ i, (F i).routes = routes) (hap : Ap routes ls) (n : Nat) : ((List.range n).map fun i : Nat => auT views (i : Int) (F i) ls).flatten.Nodup := by
  refine List.pairwise_flatten.2 ⟨fun l hl => ?_, List.pairwise_map.2 ?_⟩
  · obtain ⟨i, _, rfl⟩ := List.mem_map.1 hl
    exact auT_nodup (by rw [hF]; exact hap)
  · refine (List.nodup_range (n := n)).imp (fun {a b} hab y hy z hz he => ?_)
    subst he
    obtain ⟨x, hx, _, _, k, hk⟩ := auT_mem hy
    obtain ⟨x', hx', _, _, q, hq⟩ := auT_mem hz
    rw [hF] at hk hq
    refine pw_ne (R := fun u w : Lk => ∀ k q s, Hold routes (core u) k s → Hold routes (core w) q s → False) (fun u w h k q s h1 h2 => h q k s h2 h1) (List.pairwise_map.1 hap.two) (mine_mem hx) (mine_mem hx') (fun he => ?_) k q y hk hq
    have h1 := mine_train hx
    have h2 := mine_train hx'
    rw [he, h2] at h1
    exact hab (Int.ofNat.inj h1).symm
theorem ap_len (hL : LayOk secs parts pts routes) (hlr : ∀ y, y ∈ ls → LkR routes y) (hap : Ap routes ls) {v : View} {id : Int} : (auT views id (fldOf v secs parts pts routes st ow right) ls).length ≤ 8 := by
  have h1 := nd_len (n := secs.length) (auT_nodup (f := fldOf v secs parts pts routes st ow right) (views := views) (id := id) hap) (fun y hy => by
    obtain ⟨x, h1, _, _, q, h2⟩ := auT_mem hy
    exact hold_rng hL (hlr x (mine_mem h1)) h2)
  have := hL.hs
  omega
theorem ap_sec (hL : LayOk secs parts pts routes) (hlr : ∀ y, y ∈ ls → LkR routes y) (hen : EnOk ls) {v : View} {id : Int} {k n : Nat} (hn : ls.length ≤ n) (hk : k < (auT views id (fldOf v secs parts pts routes st ow right) ls).length) :
    fdK routes ls id ((auT views id (fldOf v secs parts pts routes st ow right) ls).getD k 0) n = true ∧ (st.getD ((auT views id (fldOf v secs parts pts routes st ow right) ls).getD k 0).toNat 0 = 0 ∨ st.getD ((auT views id (fldOf v secs parts pts routes st ow right) ls).getD k 0).toNat 0 = 1) := by
  obtain ⟨x, h1, h2, h3, q, h4⟩ := auT_mem (getD_mem 0 hk)
  refine ⟨fd_all hn (mine_mem h1) (mine_train h1) ((hen x (mine_mem h1)).resolve_right (by omega)) h4, ?_⟩
  unfold openB at h3
  simp only [Bool.or_eq_true, Bool.and_eq_true, decide_eq_true_eq] at h3
  rcases h3 with h3 | h3
  · exact .inl h3
  · exact .inr h3.1
end
end Go.Lo
