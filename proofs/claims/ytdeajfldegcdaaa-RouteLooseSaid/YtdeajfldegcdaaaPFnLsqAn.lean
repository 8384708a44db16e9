/- Part of the logic of values: what the law reaches. -/
import Derived.Test.YtdeajfldegcdaaaPFnLsqTo
import Derived.Test.YtdeajfldegcdaaaPFnLsqAq
import Derived.Test.YtdeajfldegcdaaaPFnLsqDr
set_option linter.unusedVariables false
set_option linter.unusedSimpArgs false
namespace Go.Lo
def goodP (n : Nat) (pts : List Pnt) (ns : List Need) : Bool :=
 (ns.all fun z => !wrB (moveL [] (movesL ns [])) z) && ns.all fun z => mayB pts (List.replicate n 0) [] (List.replicate n false) (List.replicate pts.length false) z.point
def chkP (secs : List Sec) (pts : List Pnt) : Nat → Int → Int → List Need → Bool
 | 0, _, _, ns => goodP secs.length pts ns
 | k + 1, s, e, ns => goodP secs.length pts ns && (aroundL secs pts s e).all fun x => chkP secs pts k x.sec (1 - x.en) (ns ++ needL secs pts s e x.sec)
def chkA (secs : List Sec) (pts : List Pnt) : Bool := (List.range secs.length).all fun s => chkP secs pts 8 (s : Int) 0 [] && chkP secs pts 8 (s : Int) 1 []
theorem chk_3 (u : Int) : chkA (secsE (rowE 3) u 3) [] = true := by kernel_rfl
theorem chk_4 (u : Int) : chkA (secsE (rowE 4) u 4) [] = true := by kernel_rfl
theorem chk_5 (u : Int) : chkA (secsE (rowE 5) u 5) [] = true := by kernel_rfl
theorem chk_6 (u : Int) : chkA (secsE (rowE 6) u 6) [] = true := by kernel_rfl
theorem chk_7 (u : Int) : chkA (secsE (rowE 7) u 7) [] = true := by kernel_rfl
theorem chk_8 (u : Int) : chkA (secsE (rowE 8) u 8) [] = true := by kernel_rfl
theorem chk_y (u : Int) : chkA (secsE [⟨0, 1⟩, ⟨1, 2⟩, ⟨3, 1⟩] u 3) [⟨1, 0, 1, 2⟩] = true := by kernel_rfl
theorem chk_l (u : Int) : chkA (secsE [⟨0, 1⟩, ⟨1, 2⟩, ⟨2, 3⟩, ⟨2, 4⟩, ⟨5, 3⟩, ⟨4, 5⟩, ⟨5, 6⟩, ⟨6, 7⟩] u 8) [⟨2, 1, 2, 3⟩, ⟨5, 6, 4, 5⟩] = true := by kernel_rfl
theorem chk_d (u : Int) : chkA (secsE [⟨0, 1⟩, ⟨2, 1⟩, ⟨2, 3⟩, ⟨2, 4⟩, ⟨3, 5⟩, ⟨4, 6⟩] u 6) [⟨2, 1, 3, 2⟩] = true := by kernel_rfl
theorem chk_full (form len : Int) : chkA (mkSecs form len) (mkPts form) = true := by
 unfold mkSecs
 rw [mk_secsE]
 unfold mkEnds mkPts
 split
 ·have h : rowN form = 3 ∨ rowN form = 4 ∨ rowN form = 5 ∨ rowN form = 6 ∨ rowN form = 7 ∨ rowN form = 8 := by unfold rowN; omega
  rw [rowE_len]
  rcases h with h | h | h | h | h | h <;> rw [h]
  ·exact chk_3 _
  ·exact chk_4 _
  ·exact chk_5 _
  ·exact chk_6 _
  ·exact chk_7 _
  ·exact chk_8 _
 ·split
  ·exact chk_y _
  ·split
   ·exact chk_l _
   ·exact chk_d _
section
variable {secs : List Sec} {pts : List Pnt} {routes : List (List Int)} {parts : List (List Int)}
theorem chk_wk (hT : topB secs pts = true) : ∀ (n : Nat) (l : List Int) (s e : Int) (ns : List Need), chkP secs pts n s e ns = true → Wk secs pts s e l → l.length ≤ n → goodP secs.length pts (ns ++ ndL secs pts s e l) = true
 | 0, [], s, e, ns, h, _, _ => by rw [show ndL secs pts s e [] = [] from rfl, List.append_nil]; exact h
 | n + 1, [], s, e, ns, h, _, _ => by
  unfold chkP at h
  rw [Bool.and_eq_true] at h
  rw [show ndL secs pts s e [] = [] from rfl, List.append_nil]; exact h.1
 | n + 1, p :: l, s, e, ns, h, hw, hl => by
  unfold chkP at h
  rw [Bool.and_eq_true] at h
  obtain ⟨x, hx, hp⟩ := hw.1
  subst hp
  have h2 := List.all_eq_true.1 h.2 x hx
  have h3 := hw.2
  rw [top_en hT hx] at h3
  have h4 := chk_wk hT n l x.sec (1 - x.en) (ns ++ needL secs pts s e x.sec) h2 h3 (by simpa using hl)
  rw [List.append_assoc] at h4
  show goodP secs.length pts (ns ++ (needL secs pts s e x.sec ++ ndL secs pts x.sec (wyY secs pts s e x.sec) l)) = true
  rw [top_en hT hx]; exact h4
theorem route_good (hT : topB secs pts = true) (hc : chkA secs pts = true) (hw : AllWk secs pts routes) (hnd : ∀ x, x ∈ routes → x.Nodup) (hL : LayOk secs parts pts routes) {path : List Int} (hp : path ∈ routes) : goodP secs.length pts (paL secs pts path) = true := by
 obtain ⟨s, e, l, rfl, hl⟩ := hw path hp
 have hn := hnd _ hp
 have h8 : (s :: l).length ≤ secs.length := nd_len hn (fun y hy => hL.hrs _ hp y hy)
 have hs := hL.hs
 have h2 := (hL.hrl _ hp).1
 cases l with
 | nil => simp at h2
 | cons p l =>
  rw [pa_wk hT hn hl]
  obtain ⟨x, hx, _⟩ := hl.1
  obtain ⟨he, hsr, _⟩ := top_at hT hx
  have h3 := List.all_eq_true.1 hc s.toNat (List.mem_range.2 (by omega))
  rw [Bool.and_eq_true, show ((s.toNat : Nat) : Int) = s by omega] at h3
  have h4 : chkP secs pts 8 s e [] = true := by
   rcases he with rfl | rfl
   ·exact h3.1
   ·exact h3.2
  have := chk_wk hT 8 (p :: l) s e [] h4 hl (by simp only [List.length_cons] at h8 ⊢; omega)
  rwa [List.nil_append] at this
theorem rep_getD (n k : Nat) : (List.replicate n (0 : Int)).getD k 0 = 0 := by
 rw [List.getD_eq_getElem?_getD, List.getElem?_replicate]
 split <;> rfl
end
end Go.Lo
