/- Part of the logic of values: what the law reaches. -/
import Derived.Test.YtdeajfldegcdaaaPFnLsqAp
import Derived.KernelRfl
set_option linter.unusedVariables false
set_option linter.unusedSimpArgs false
namespace Go.Lo
def topX (secs : List Sec) (pts : List Pnt) (s e : Int) (x : En) : Bool :=
 ((aroundL secs pts s (1 - e)).all fun y => !decide (y.sec = x.sec)) && ((aroundL secs pts s e).all fun y => !decide (y.sec = x.sec) || decide (y.en = x.en)) &&
  decide ((if pointI pts (nodeA secs s e) < 0 then (0 : Int) else 1) = kJ (secs.getD s.toNat dS) (secs.getD x.sec.toNat dS) pts pts.length)
def topB (secs : List Sec) (pts : List Pnt) : Bool := (List.range secs.length).all fun s => (aroundL secs pts (s : Int) 0).all (topX secs pts (s : Int) 0) && (aroundL secs pts (s : Int) 1).all (topX secs pts (s : Int) 1)
def secsE (E : List Pr) (u : Int) : Nat → List Sec
 | 0 => []
 | k + 1 => secsE E u k ++ [⟨u + (k : Int) % 3, (E.getD k dR).a, (E.getD k dR).b⟩]
theorem mk_secsE (form len : Int) : ∀ k, mkSecsK form len k = secsE (mkEnds form) (2 * unitI len) k
 | 0 => rfl
 | k + 1 => by unfold mkSecsK secsE; rw [mk_secsE form len k]
theorem top_3 (u : Int) : topB (secsE (rowE 3) u 3) [] = true := by kernel_rfl
theorem top_4 (u : Int) : topB (secsE (rowE 4) u 4) [] = true := by kernel_rfl
theorem top_5 (u : Int) : topB (secsE (rowE 5) u 5) [] = true := by kernel_rfl
theorem top_6 (u : Int) : topB (secsE (rowE 6) u 6) [] = true := by kernel_rfl
theorem top_7 (u : Int) : topB (secsE (rowE 7) u 7) [] = true := by kernel_rfl
theorem top_8 (u : Int) : topB (secsE (rowE 8) u 8) [] = true := by kernel_rfl
theorem top_y (u : Int) : topB (secsE [⟨0, 1⟩, ⟨1, 2⟩, ⟨3, 1⟩] u 3) [⟨1, 0, 1, 2⟩] = true := by kernel_rfl
theorem top_l (u : Int) : topB (secsE [⟨0, 1⟩, ⟨1, 2⟩, ⟨2, 3⟩, ⟨2, 4⟩, ⟨5, 3⟩, ⟨4, 5⟩, ⟨5, 6⟩, ⟨6, 7⟩] u 8) [⟨2, 1, 2, 3⟩, ⟨5, 6, 4, 5⟩] = true := by kernel_rfl
theorem top_d (u : Int) : topB (secsE [⟨0, 1⟩, ⟨2, 1⟩, ⟨2, 3⟩, ⟨2, 4⟩, ⟨3, 5⟩, ⟨4, 6⟩] u 6) [⟨2, 1, 3, 2⟩] = true := by kernel_rfl
theorem top_full (form len : Int) : topB (mkSecs form len) (mkPts form) = true := by
 unfold mkSecs
 rw [mk_secsE]
 unfold mkEnds mkPts
 split
 ·have h : rowN form = 3 ∨ rowN form = 4 ∨ rowN form = 5 ∨ rowN form = 6 ∨ rowN form = 7 ∨ rowN form = 8 := by unfold rowN; omega
  rw [rowE_len]
  rcases h with h | h | h | h | h | h <;> rw [h]
  ·exact top_3 _
  ·exact top_4 _
  ·exact top_5 _
  ·exact top_6 _
  ·exact top_7 _
  ·exact top_8 _
 ·split
  ·exact top_y _
  ·split
   ·exact top_l _
   ·exact top_d _
def wyY (secs : List Sec) (pts : List Pnt) (s e p : Int) : Int := 1 - (wyX secs pts p ⟨s, e, []⟩).en
def Wk (secs : List Sec) (pts : List Pnt) : Int → Int → List Int → Prop
 | _, _, [] => True
 | s, e, p :: l => (∃ x, x ∈ aroundL secs pts s e ∧ x.sec = p) ∧ Wk secs pts p (wyY secs pts s e p) l
def wkE (secs : List Sec) (pts : List Pnt) : Int → Int → List Int → Int × Int
 | s, e, [] => (s, e)
 | s, e, p :: l => wkE secs pts p (wyY secs pts s e p) l
def ndL (secs : List Sec) (pts : List Pnt) : Int → Int → List Int → List Need
 | _, _, [] => []
 | s, e, p :: l => needL secs pts s e p ++ ndL secs pts p (wyY secs pts s e p) l
section
variable {secs : List Sec} {pts : List Pnt}
theorem wk_snoc {x : En} : ∀ (l : List Int) (s e : Int), Wk secs pts s e l → x ∈ aroundL secs pts (wkE secs pts s e l).1 (wkE secs pts s e l).2 → Wk secs pts s e (l ++ [x.sec])
 | [], s, e, _, hx => ⟨⟨x, hx, rfl⟩, trivial⟩
 | p :: l, s, e, h, hx => ⟨h.1, wk_snoc l _ _ h.2 hx⟩
theorem wkE_snoc {p : Int} : ∀ (l : List Int) (s e : Int), wkE secs pts s e (l ++ [p]) = (p, wyY secs pts (wkE secs pts s e l).1 (wkE secs pts s e l).2 p)
 | [], s, e => rfl
 | q :: l, s, e => wkE_snoc l _ _
theorem wyI_in {s e p : Int} (h : ∃ x, x ∈ aroundL secs pts s e ∧ x.sec = p) : ¬ wyI secs pts s e p < 0 := by
 obtain ⟨x, hx, hp⟩ := h
 have hany : (aroundL secs pts s e).any (fun x : En => decide (x.sec = p)) = true := List.any_eq_true.2 ⟨x, hx, by simpa using hp⟩
 have hd := idxB_any (f := fun x : En => decide (x.sec = p)) dE (aroundL secs pts s e)
 rw [hany] at hd
 have : idxB (fun x : En => decide (x.sec = p)) (aroundL secs pts s e) ≥ 0 := of_decide_eq_true hd
 unfold wyI; omega
theorem wyF_wk : ∀ (l : List Int) (s e : Int) (ns : List Need), Wk secs pts s e l → wyF secs pts l ⟨s, e, ns⟩ = some (ns ++ ndL secs pts s e l)
 | [], s, e, ns, _ => by rw [show ndL secs pts s e [] = [] from rfl, List.append_nil]; rfl
 | p :: l, s, e, ns, h => by
  have hi := wyI_in h.1
  have hx : (wyX secs pts p ⟨s, e, ns⟩).sec = p := (wyX_ok (w := ⟨s, e, ns⟩) hi).2.1
  unfold wyF
  rw [if_neg hi]
  show wyF secs pts l ⟨p, 1 - (wyX secs pts p ⟨s, e, ns⟩).en, ns ++ needL secs pts s e (wyX secs pts p ⟨s, e, ns⟩).sec⟩ = _
  rw [hx]
  exact (wyF_wk l p (wyY secs pts s e p) (ns ++ needL secs pts s e p) h.2).trans (by rw [List.append_assoc]; rfl)
section
variable (hT : topB secs pts = true)
include hT
theorem top_at {s e : Int} {x : En} (hx : x ∈ aroundL secs pts s e) : (e = 0 ∨ e = 1) ∧ (0 ≤ s ∧ s < (secs.length : Int)) ∧ topX secs pts s e x = true := by
 have hn : noNode secs s e = false := by
  cases h : noNode secs s e with
  | false => rfl
  | true => unfold aroundL at hx; rw [h, if_pos rfl] at hx; cases hx
 obtain ⟨h0, h1, h2, h3⟩ := noNode_false hn
 unfold topB at hT
 have h4 := List.all_eq_true.1 hT s.toNat (List.mem_range.2 (by omega))
 rw [Bool.and_eq_true, show ((s.toNat : Nat) : Int) = s by omega] at h4
 have he : e = 0 ∨ e = 1 := by omega
 refine ⟨he, ⟨h0, h1⟩, ?_⟩
 rcases he with rfl | rfl
 ·exact List.all_eq_true.1 h4.1 x hx
 ·exact List.all_eq_true.1 h4.2 x hx
theorem top_wrong {s e p : Int} (h : ∃ x, x ∈ aroundL secs pts s e ∧ x.sec = p) : wyI secs pts s (1 - e) p < 0 := by
 obtain ⟨x, hx, hp⟩ := h
 have ht := (top_at hT hx).2.2
 unfold topX at ht
 simp only [Bool.and_eq_true] at ht
 have h1 := ht.1.1
 have hany : (aroundL secs pts s (1 - e)).any (fun x : En => decide (x.sec = p)) = false := by
  cases hq : (aroundL secs pts s (1 - e)).any (fun x : En => decide (x.sec = p)) with
  | false => rfl
  | true =>
   obtain ⟨y, hy, hy2⟩ := List.any_eq_true.1 hq
   have := List.all_eq_true.1 h1 y hy
   rw [hp] at this
   simp only [Bool.not_eq_true', decide_eq_false_iff_not] at this
   exact absurd (by simpa using hy2) this
 have hd := idxB_any (f := fun x : En => decide (x.sec = p)) dE (aroundL secs pts s (1 - e))
 rw [hany] at hd
 have : ¬ idxB (fun x : En => decide (x.sec = p)) (aroundL secs pts s (1 - e)) ≥ 0 := of_decide_eq_false hd
 unfold wyI; omega
theorem top_en {s e : Int} {x : En} (hx : x ∈ aroundL secs pts s e) : wyY secs pts s e x.sec = 1 - x.en := by
 have ht := (top_at hT hx).2.2
 unfold topX at ht
 simp only [Bool.and_eq_true] at ht
 have hw := wyX_ok (secs := secs) (pts := pts) (p := x.sec) (w := ⟨s, e, []⟩) (wyI_in ⟨x, hx, rfl⟩)
 have hm : wyX secs pts x.sec ⟨s, e, []⟩ ∈ aroundL secs pts s e := getD_mem dE hw.2.2
 have := List.all_eq_true.1 ht.1.2 _ hm
 simp only [Bool.or_eq_true, Bool.not_eq_true', decide_eq_false_iff_not, decide_eq_true_eq] at this
 unfold wyY
 rcases this with h | h
 ·exact absurd hw.2.1 h
 ·rw [h]
theorem pa_wk {s e p : Int} {l : List Int} (hnd : (s :: p :: l).Nodup) (h : Wk secs pts s e (p :: l)) : paL secs pts (s :: p :: l) = ndL secs pts s e (p :: l) := by
 obtain ⟨x, hx, hp⟩ := h.1
 have he := (top_at hT hx).1
 have hw : wyO secs pts s e (p :: l) = some (ndL secs pts s e (p :: l)) := by
  have := wyF_wk (p :: l) s e [] h
  rw [List.nil_append] at this
  exact this
 have hno : wyO secs pts s (1 - e) (p :: l) = none := by
  unfold wyO wyF
  rw [if_pos (top_wrong hT h.1)]
 have hp2 : paO secs pts (s :: p :: l) = some (ndL secs pts s e (p :: l)) := by
  unfold paO
  rw [if_neg (by simp), if_neg (fun h2 => h2 hnd)]
  show (if wyB secs pts s 0 (p :: l) = true then wyO secs pts s 0 (p :: l) else wyO secs pts s 1 (p :: l)) = _
  rcases he with rfl | rfl
  ·rw [if_pos (by unfold wyB; rw [hw]; rfl), hw]
  ·rw [if_neg (by unfold wyB; rw [show wyO secs pts s 0 (p :: l) = none from hno]; exact Bool.false_ne_true), hw]
 unfold paL
 rw [hp2]; rfl
end
section
variable {turns : List Int} {s e most : Int}
theorem wst_wk (hT : topB secs pts = true) : ∀ i, (∀ j, j < i → wstop secs pts turns s e most j = false) → ∃ l, (wst secs pts turns s e i).out = s :: l ∧ Wk secs pts s e l ∧ wkE secs pts s e l = ((wst secs pts turns s e i).s, (wst secs pts turns s e i).e)
 | 0, _ => ⟨[], rfl, trivial, rfl⟩
 | i + 1, hj => by
  obtain ⟨l, h1, h2, h3⟩ := wst_wk hT i (fun j h => hj j (by omega))
  have hs := hj i (by omega)
  unfold wstop at hs
  simp only [Bool.or_eq_false_iff, decide_eq_false_iff_not] at hs
  have hx : wnext secs pts turns i (wst secs pts turns s e i) ∈ aroundL secs pts (wst secs pts turns s e i).s (wst secs pts turns s e i).e := getD_mem dE (legK_lt (by omega))
  refine ⟨l ++ [(wnext secs pts turns i (wst secs pts turns s e i)).sec], ?_, ?_, ?_⟩
  ·show (wst secs pts turns s e i).out ++ _ = _
   rw [h1]; rfl
  ·exact wk_snoc l s e h2 (by rw [h3]; exact hx)
  ·rw [wkE_snoc, h3, top_en hT hx]; rfl
theorem walkR_wk (hT : topB secs pts = true) : ∀ f i, (∀ j, j < i → wstop secs pts turns s e most j = false) → ∃ l, walkR secs pts turns s e most f i = s :: l ∧ Wk secs pts s e l
 | 0, i, h => by
  obtain ⟨l, h1, h2, _⟩ := wst_wk hT i h
  exact ⟨l, h1, h2⟩
 | f + 1, i, h => by
  unfold walkR
  split
  ·obtain ⟨l, h1, h2, _⟩ := wst_wk hT i h
   exact ⟨l, h1, h2⟩
  ·rename_i hc
   exact walkR_wk hT f (i + 1) (fun j hj => by
    rcases Nat.lt_or_ge j i with h3 | h3
    ·exact h j h3
    ·rw [show j = i by omega]; exact Bool.eq_false_iff.2 hc)
theorem routesK_wk (hT : topB secs pts = true) {rs : List (List Int)} : ∀ k x, x ∈ routesK secs pts rs k → ∃ s e l, x = s :: l ∧ Wk secs pts s e l
 | 0, x, h => by cases h
 | k + 1, x, h => by
  unfold routesK at h
  split at h
  ·exact routesK_wk hT k x h
  ·rcases List.mem_append.1 h with h | h
   ·exact routesK_wk hT k x h
   ·obtain ⟨l, h1, h2⟩ := walkR_wk (turns := (rs.getD k []).drop 2) (s := (rs.getD k []).getD 0 0 % (secs.length : Int)) (e := (rs.getD k []).getD 0 0 / 128) (most := 2 + (rs.getD k []).getD 1 0 % 5) hT (2 + (rs.getD k []).getD 1 0 % 5).toNat 0 (fun j hj => by omega)
    exact ⟨_, _, l, (List.mem_singleton.1 h).trans h1, h2⟩
end
end
def AllWk (secs : List Sec) (pts : List Pnt) (routes : List (List Int)) : Prop := ∀ x, x ∈ routes → ∃ s e l, x = s :: l ∧ Wk secs pts s e l
theorem full_wk (form len : Int) (rs : List (List Int)) : AllWk (mkSecs form len) (mkPts form) (fullRoutes form len rs) := fun x hx => routesK_wk (top_full form len) _ x hx
end Go.Lo
