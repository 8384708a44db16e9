/- Layouts, and what goes where in them: plain definitions and plain laws. -/
import Derived.Test.YthfmdljohlolpaaLoR
import Derived.Test.YthfmdljohlolpaaDef
set_option linter.unusedVariables false
set_option linter.unusedSimpArgs false
namespace Go.Lo
structure Sec where
  len : Int
  a : Int
  b : Int
structure Pnt where
  node : Int
  stem : Int
  left : Int
  right : Int
structure En where
  sec : Int
  en : Int
structure Pr where
  a : Int
  b : Int
def dS : Sec := ⟨0, 0, 0⟩
def dP : Pnt := ⟨0, 0, 0, 0⟩
def dE : En := ⟨0, 0⟩
def dR : Pr := ⟨0, 0⟩
def eSec (x : Sec) : List AV := [.v (.int .i64 x.len), .v (.int .i64 x.a), .v (.int .i64 x.b)]
def ePnt (x : Pnt) : List AV := [.v (.int .i64 x.node), .v (.int .i64 x.stem), .v (.int .i64 x.left), .v (.int .i64 x.right)]
def eEn (x : En) : List AV := [.v (.int .i64 x.sec), .v (.int .i64 x.en)]
def ePr (x : Pr) : List AV := [.v (.int .i64 x.a), .v (.int .i64 x.b)]
def eIL (x : List Int) : List AV := [.ro x.length (enc eI x)]
def eUL (x : List Int) : List AV := [.ro x.length (enc eU8 x)]
def eC (_ : Unit) : List AV := [.one]
instance (x : Sec) : NoIL (eSec x) := by unfold eSec; infer_instance
instance (x : Pnt) : NoIL (ePnt x) := by unfold ePnt; infer_instance
instance (x : En) : NoIL (eEn x) := by unfold eEn; infer_instance
instance (x : Pr) : NoIL (ePr x) := by unfold ePr; infer_instance
instance (x : List Int) : NoIL (eIL x) := by unfold eIL; infer_instance
instance (x : List Int) : NoIL (eUL x) := by unfold eUL; infer_instance
instance (x : Unit) : NoIL (eC x) := by unfold eC; infer_instance
instance (x : Sec) : FlatL (eSec x) := by unfold eSec; infer_instance
instance (x : Pnt) : FlatL (ePnt x) := by unfold ePnt; infer_instance
instance (x : En) : FlatL (eEn x) := by unfold eEn; infer_instance
instance (x : Pr) : FlatL (ePr x) := by unfold ePr; infer_instance

theorem sliceE {α : Type} {f : α → List AV} {s : Nat} (hf : ∀ x, (f x).length = s) (xs : List α) (l h : Nat) : ((enc f xs).drop (l * s)).take ((h - l) * s) = enc f ((xs.take h).drop l) := by
  rw [enc_drop' hf, enc_take hf, List.drop_take]
theorem sliceE1 {α : Type} {f : α → List AV} {s : Nat} (hf : ∀ x, (f x).length = s) (xs : List α) (l n : Nat) (hn : n = xs.length) : ((enc f xs).drop (l * s)).take ((n - l) * s) = enc f (xs.drop l) := by
  rw [enc_drop' hf, enc_take hf, List.take_of_length_le (by simp; omega)]
def units : List Int := [10, 20, 30, 40, 50, 60, 70, 80, 90, 100, 110, 120, 130, 140, 150, 160, 170, 180, 190, 200]
theorem unit_in (len : Int) : 10 * (1 + len % 20) ∈ units := by
  have h1 : 0 ≤ len % 20 := Int.emod_nonneg _ (by decide)
  have h2 : len % 20 < 20 := Int.emod_lt_of_pos _ (by decide)
  generalize len % 20 = x at h1 h2
  obtain ⟨n, rfl⟩ := Int.eq_ofNat_of_zero_le h1
  have hn : n < 20 := by omega
  have : ∀ n : Nat, n < 20 → 10 * (1 + (n : Int)) ∈ units := by decide
  exact this n hn

/-! ### ends, points, what comes next -/
theorem En.ext2 {x y : En} (h1 : x.sec = y.sec) (h2 : x.en = y.en) : x = y := by
  cases x; cases y; simp_all
instance : DecidableEq En := fun x y => if h : x.sec = y.sec ∧ x.en = y.en then isTrue (En.ext2 h.1 h.2) else isFalse fun e => h (by rw [e]; exact ⟨rfl, rfl⟩)
def noNode (secs : List Sec) (s e : Int) : Bool := decide (s < 0) || decide (s ≥ (secs.length : Int)) || decide (e < 0) || decide (e > 1)
def nodeA (secs : List Sec) (s e : Int) : Int := if noNode secs s e then 0 else if e = 0 then (secs.getD s.toNat dS).a else (secs.getD s.toNat dS).b
theorem noNode_false {secs : List Sec} {s e : Int} (h : noNode secs s e = false) : 0 ≤ s ∧ s < (secs.length : Int) ∧ 0 ≤ e ∧ e ≤ 1 := by
  simp only [noNode, Bool.or_eq_false_iff, decide_eq_false_iff_not] at h
  omega
theorem nodeA_no {secs : List Sec} {s e : Int} (h : noNode secs s e = true) : nodeA secs s e = 0 := by simp [nodeA, h]
theorem nodeA_a {secs : List Sec} {s e : Int} (h : noNode secs s e = false) (he : e = 0) : nodeA secs s e = (secs.getD s.toNat dS).a := by unfold nodeA; rw [h, if_neg (by simp), if_pos he]
theorem nodeA_b {secs : List Sec} {s e : Int} (h : noNode secs s e = false) (he : ¬ e = 0) : nodeA secs s e = (secs.getD s.toNat dS).b := by unfold nodeA; rw [h, if_neg (by simp), if_neg he]
def endsK (secs : List Sec) (at_ : Int) : Nat → List En
  | 0 => []
  | k + 1 => endsK secs at_ k ++ (if (secs.getD k dS).a = at_ then [⟨(k : Int), 0⟩] else []) ++ (if (secs.getD k dS).b = at_ then [⟨(k : Int), 1⟩] else [])
theorem endsK_succ (secs : List Sec) (n : Int) (k : Nat) : endsK secs n (k + 1) = endsK secs n k ++ (if (secs.getD k dS).a = n then [⟨(k : Int), 0⟩] else []) ++ (if (secs.getD k dS).b = n then [⟨(k : Int), 1⟩] else []) := rfl
theorem endsK_ff {secs : List Sec} {n : Int} {k : Nat} (h1 : ¬ (secs.getD k dS).a = n) (h2 : ¬ (secs.getD k dS).b = n) : endsK secs n (k + 1) = endsK secs n k := by
  rw [endsK_succ, if_neg h1, if_neg h2, List.append_nil, List.append_nil]
theorem endsK_tf {secs : List Sec} {n : Int} {k : Nat} (h1 : (secs.getD k dS).a = n) (h2 : ¬ (secs.getD k dS).b = n) : endsK secs n (k + 1) = endsK secs n k ++ [⟨(k : Int), 0⟩] := by
  rw [endsK_succ, if_pos h1, if_neg h2, List.append_nil]
theorem endsK_ft {secs : List Sec} {n : Int} {k : Nat} (h1 : ¬ (secs.getD k dS).a = n) (h2 : (secs.getD k dS).b = n) : endsK secs n (k + 1) = endsK secs n k ++ [⟨(k : Int), 1⟩] := by
  rw [endsK_succ, if_neg h1, if_pos h2, List.append_nil]
theorem endsK_tt {secs : List Sec} {n : Int} {k : Nat} (h1 : (secs.getD k dS).a = n) (h2 : (secs.getD k dS).b = n) : endsK secs n (k + 1) = endsK secs n k ++ [⟨(k : Int), 0⟩] ++ [⟨(k : Int), 1⟩] := by
  rw [endsK_succ, if_pos h1, if_pos h2]
def endsL (secs : List Sec) (at_ : Int) : List En := endsK secs at_ secs.length
theorem endsK_len (secs : List Sec) (at_ : Int) (k : Nat) : (endsK secs at_ k).length ≤ 2 * k := by
  induction k with
  | zero => simp [endsK]
  | succ k ih => simp only [endsK, List.length_append]; split <;> split <;> simp <;> omega
theorem endsL_len (secs : List Sec) (at_ : Int) : (endsL secs at_).length ≤ 2 * secs.length := endsK_len _ _ _
def pointI (pts : List Pnt) (at_ : Int) : Int := idxB (fun p => decide (p.node = at_)) pts
theorem idxB_range {α : Type} (f : α → Bool) (d : α) (l : List α) : idxB f l = -1 ∨ (0 ≤ idxB f l ∧ idxB f l < (l.length : Int)) := by
  by_cases h : idxB f l = -1
  · exact .inl h
  · obtain ⟨k, h1, h2, _⟩ := idxB_found d h
    rw [h1]; omega
theorem pointI_range (pts : List Pnt) (at_ : Int) : pointI pts at_ = -1 ∨ (0 ≤ pointI pts at_ ∧ pointI pts at_ < (pts.length : Int)) := idxB_range _ dP _
def firstE (s : Int) (l : List En) : List En := match l.find? (fun e => decide (e.sec = s)) with | some e => [e] | none => []
theorem firstE_len (s : Int) (l : List En) : (firstE s l).length ≤ 1 := by unfold firstE; split <;> simp
theorem firstE_stop {s : Int} {l : List En} {k : Nat} (hk : k < l.length) (h1 : (l.take k).any (fun e => decide (e.sec = s)) = false) (h2 : (l.getD k dE).sec = s) : firstE s l = [l.getD k dE] := by
  have hg : l = l.take k ++ l.getD k dE :: l.drop (k + 1) := by
    rw [List.getD_eq_getElem?_getD, List.getElem?_eq_getElem hk]; simp
  have hn : (l.take k).find? (fun e => decide (e.sec = s)) = none := by
    rw [List.find?_eq_none]
    intro x hx hc
    have : (l.take k).any (fun e => decide (e.sec = s)) = true := List.any_eq_true.2 ⟨x, hx, hc⟩
    rw [h1] at this; cases this
  have : l.find? (fun e => decide (e.sec = s)) = some (l.getD k dE) := by
    conv => lhs; rw [hg]
    rw [List.find?_append, hn, List.find?_cons_of_pos (by simpa using h2)]; rfl
  unfold firstE
  rw [this]
theorem firstE_none {s : Int} {l : List En} {k : Nat} (hk : l.length ≤ k) (h1 : (l.take k).any (fun e => decide (e.sec = s)) = false) : firstE s l = [] := by
  rw [List.take_of_length_le hk] at h1
  have : l.find? (fun e => decide (e.sec = s)) = none := by
    rw [List.find?_eq_none]
    intro x hx hc
    have : l.any (fun e => decide (e.sec = s)) = true := List.any_eq_true.2 ⟨x, hx, hc⟩
    rw [h1] at this; cases this
  unfold firstE
  rw [this]
theorem take1_drop {l : List En} {k : Nat} (hk : k < l.length) : (l.drop k).take 1 = [l.getD k dE] := by
  rw [List.drop_eq_getElem_cons hk, List.getD_eq_getElem?_getD, List.getElem?_eq_getElem hk]; rfl
def oneE (secs : List Sec) (s at_ : Int) : List En := firstE s (endsL secs at_)
theorem oneE_len (secs : List Sec) (s at_ : Int) : (oneE secs s at_).length ≤ 1 := firstE_len _ _
def otherK (secs : List Sec) (at_ s e : Int) (k : Nat) : List En := ((endsL secs at_).take k).filter (fun x => !decide (x.sec = s ∧ x.en = e))
theorem otherK_len (secs : List Sec) (at_ s e : Int) (k : Nat) : (otherK secs at_ s e k).length ≤ k := Nat.le_trans (List.length_filter_le _ _) (by simp; omega)
theorem filter_on {α : Type} {f : α → Bool} (d : α) {l : List α} {k : Nat} (hk : k < l.length) (h : f (l.getD k d) = true) : (l.take (k + 1)).filter f = (l.take k).filter f ++ [l.getD k d] := by
  rw [List.take_add_one, List.filter_append, List.getElem?_eq_getElem hk]
  rw [List.getD_eq_getElem?_getD, List.getElem?_eq_getElem hk] at h
  simp only [Option.toList_some, Option.getD_some] at *
  rw [List.filter_cons_of_pos h, List.filter_nil, List.getD_eq_getElem?_getD, List.getElem?_eq_getElem hk]
  rfl
theorem filter_off {α : Type} {f : α → Bool} (d : α) {l : List α} {k : Nat} (hk : k < l.length) (h : f (l.getD k d) = false) : (l.take (k + 1)).filter f = (l.take k).filter f := by
  rw [List.take_add_one, List.filter_append, List.getElem?_eq_getElem hk]
  rw [List.getD_eq_getElem?_getD, List.getElem?_eq_getElem hk] at h
  simp only [Option.toList_some, Option.getD_some] at *
  rw [List.filter_cons_of_neg (by simp [h]), List.filter_nil, List.append_nil]
def otherE (secs : List Sec) (at_ s e : Int) : List En := (endsL secs at_).filter (fun x => !decide (x.sec = s ∧ x.en = e))
theorem otherK_all {secs : List Sec} {at_ s e : Int} {k : Nat} (h : (endsL secs at_).length ≤ k) : otherK secs at_ s e k = otherE secs at_ s e := by
  unfold otherK otherE; rw [List.take_of_length_le h]
def aroundL (secs : List Sec) (pts : List Pnt) (s e : Int) : List En :=
  if noNode secs s e then [] else
  if 0 ≤ pointI pts (nodeA secs s e) then
    if s = (pts.getD (pointI pts (nodeA secs s e)).toNat dP).stem then oneE secs (pts.getD (pointI pts (nodeA secs s e)).toNat dP).left (nodeA secs s e) ++ oneE secs (pts.getD (pointI pts (nodeA secs s e)).toNat dP).right (nodeA secs s e)
    else if s = (pts.getD (pointI pts (nodeA secs s e)).toNat dP).left ∨ s = (pts.getD (pointI pts (nodeA secs s e)).toNat dP).right then oneE secs (pts.getD (pointI pts (nodeA secs s e)).toNat dP).stem (nodeA secs s e)
    else []
  else if (otherE secs (nodeA secs s e) s e).length = 1 then otherE secs (nodeA secs s e) s e else []
theorem aroundL_len (secs : List Sec) (pts : List Pnt) (s e : Int) : (aroundL secs pts s e).length ≤ 2 := by
  unfold aroundL
  have h1 := oneE_len secs (pts.getD (pointI pts (nodeA secs s e)).toNat dP).left (nodeA secs s e)
  have h2 := oneE_len secs (pts.getD (pointI pts (nodeA secs s e)).toNat dP).right (nodeA secs s e)
  have h3 := oneE_len secs (pts.getD (pointI pts (nodeA secs s e)).toNat dP).stem (nodeA secs s e)
  repeat' split
  all_goals (try simp only [List.length_append, List.length_nil]); omega

theorem around_no {secs : List Sec} {pts : List Pnt} {s e : Int} (hn : noNode secs s e = true) : aroundL secs pts s e = [] := by unfold aroundL; rw [if_pos hn]
theorem around_stem {secs : List Sec} {pts : List Pnt} {s e : Int} (hn : noNode secs s e = false) (hi : 0 ≤ pointI pts (nodeA secs s e)) (hs : s = (pts.getD (pointI pts (nodeA secs s e)).toNat dP).stem) :
    aroundL secs pts s e = oneE secs (pts.getD (pointI pts (nodeA secs s e)).toNat dP).left (nodeA secs s e) ++ oneE secs (pts.getD (pointI pts (nodeA secs s e)).toNat dP).right (nodeA secs s e) := by
  unfold aroundL; rw [if_neg (by simp [hn]), if_pos hi, if_pos hs]
theorem around_leg {secs : List Sec} {pts : List Pnt} {s e : Int} (hn : noNode secs s e = false) (hi : 0 ≤ pointI pts (nodeA secs s e)) (hs : ¬ s = (pts.getD (pointI pts (nodeA secs s e)).toNat dP).stem) (hl : s = (pts.getD (pointI pts (nodeA secs s e)).toNat dP).left ∨ s = (pts.getD (pointI pts (nodeA secs s e)).toNat dP).right) :
    aroundL secs pts s e = oneE secs (pts.getD (pointI pts (nodeA secs s e)).toNat dP).stem (nodeA secs s e) := by
  unfold aroundL; rw [if_neg (by simp [hn]), if_pos hi, if_neg hs, if_pos hl]
theorem around_off {secs : List Sec} {pts : List Pnt} {s e : Int} (hn : noNode secs s e = false) (hi : 0 ≤ pointI pts (nodeA secs s e)) (hs : ¬ s = (pts.getD (pointI pts (nodeA secs s e)).toNat dP).stem) (hl : ¬ (s = (pts.getD (pointI pts (nodeA secs s e)).toNat dP).left ∨ s = (pts.getD (pointI pts (nodeA secs s e)).toNat dP).right)) :
    aroundL secs pts s e = [] := by
  unfold aroundL; rw [if_neg (by simp [hn]), if_pos hi, if_neg hs, if_neg hl]
theorem around_one {secs : List Sec} {pts : List Pnt} {s e : Int} (hn : noNode secs s e = false) (hi : ¬ 0 ≤ pointI pts (nodeA secs s e)) (h : (otherE secs (nodeA secs s e) s e).length = 1) : aroundL secs pts s e = otherE secs (nodeA secs s e) s e := by
  unfold aroundL; rw [if_neg (by simp [hn]), if_neg hi, if_pos h]
theorem around_many {secs : List Sec} {pts : List Pnt} {s e : Int} (hn : noNode secs s e = false) (hi : ¬ 0 ≤ pointI pts (nodeA secs s e)) (h : ¬ (otherE secs (nodeA secs s e) s e).length = 1) : aroundL secs pts s e = [] := by
  unfold aroundL; rw [if_neg (by simp [hn]), if_neg hi, if_neg h]
theorem endsK_en {secs : List Sec} {n : Int} {x : En} : ∀ k, x ∈ endsK secs n k → x.en = 0 ∨ x.en = 1
  | 0, h => by cases h
  | k + 1, h => by
    rw [endsK_succ] at h
    rcases List.mem_append.1 h with h | h
    · rcases List.mem_append.1 h with h | h
      · exact endsK_en k h
      · split at h
        · simp at h; subst h; exact .inl rfl
        · cases h
    · split at h
      · simp at h; subst h; exact .inr rfl
      · cases h
theorem firstE_mem {s : Int} {l : List En} {x : En} (h : x ∈ firstE s l) : x ∈ l := by
  unfold firstE at h
  split at h
  · rename_i e he
    simp at h
    subst h
    exact List.mem_of_find?_eq_some he
  · cases h
theorem around_en {secs : List Sec} {pts : List Pnt} {s e : Int} {x : En} (h : x ∈ aroundL secs pts s e) : x.en = 0 ∨ x.en = 1 := by
  have h1 : ∀ {a b : Int}, x ∈ oneE secs a b → x.en = 0 ∨ x.en = 1 := fun hx => endsK_en _ (firstE_mem hx)
  unfold aroundL at h
  repeat' split at h
  · cases h
  · rcases List.mem_append.1 h with h | h
    · exact h1 h
    · exact h1 h
  · exact h1 h
  · cases h
  · exact endsK_en _ (List.mem_filter.1 h).1
  · cases h
theorem getD_mem {α : Type} {l : List α} {k : Nat} (d : α) (h : k < l.length) : l.getD k d ∈ l := by
  rw [List.getD_eq_getElem?_getD, List.getElem?_eq_getElem h]; exact List.getElem_mem h

/-! ### a walk -/
def legK (turns : List Int) (n i : Nat) : Nat := if i < turns.length then (turns.getD i 0).toNat % n else 0
theorem legK_lt {turns : List Int} {n i : Nat} (h : 0 < n) : legK turns n i < n := by
  unfold legK
  split
  · exact Nat.mod_lt _ h
  · exact h
theorem legK_on {turns : List Int} {n i : Nat} (h : i < turns.length) (hu : 0 ≤ turns.getD i 0) : turns.getD i 0 % (n : Int) = ((legK turns n i : Nat) : Int) := by
  unfold legK
  rw [if_pos h]
  obtain ⟨m, hm⟩ := Int.eq_ofNat_of_zero_le hu
  rw [hm]; rfl
theorem legK_off {turns : List Int} {n i : Nat} (h : ¬ i < turns.length) : (0 : Int) = ((legK turns n i : Nat) : Int) := by
  unfold legK; rw [if_neg h]; rfl
structure WSt where
  out : List Int
  s : Int
  e : Int
def wnext (secs : List Sec) (pts : List Pnt) (turns : List Int) (i : Nat) (q : WSt) : En := (aroundL secs pts q.s q.e).getD (legK turns (aroundL secs pts q.s q.e).length i) dE
def wst (secs : List Sec) (pts : List Pnt) (turns : List Int) (s e : Int) : Nat → WSt
  | 0 => ⟨[s], s, e⟩
  | i + 1 => ⟨(wst secs pts turns s e i).out ++ [(wnext secs pts turns i (wst secs pts turns s e i)).sec], (wnext secs pts turns i (wst secs pts turns s e i)).sec, 1 - (wnext secs pts turns i (wst secs pts turns s e i)).en⟩
theorem wst_len (secs : List Sec) (pts : List Pnt) (turns : List Int) (s e : Int) (i : Nat) : (wst secs pts turns s e i).out.length = i + 1 := by
  induction i with
  | zero => rfl
  | succ i ih => simp [wst, ih]
def wstop (secs : List Sec) (pts : List Pnt) (turns : List Int) (s e : Int) (most : Int) (i : Nat) : Bool :=
  decide (most ≤ ((i : Int) + 1)) || decide ((aroundL secs pts (wst secs pts turns s e i).s (wst secs pts turns s e i).e).length = 0) || decide ((wnext secs pts turns i (wst secs pts turns s e i)).sec ∈ (wst secs pts turns s e i).out)
def walkR (secs : List Sec) (pts : List Pnt) (turns : List Int) (s e most : Int) : Nat → Nat → List Int
  | 0, i => (wst secs pts turns s e i).out
  | f + 1, i => if wstop secs pts turns s e most i then (wst secs pts turns s e i).out else walkR secs pts turns s e most f (i + 1)
def walkL (secs : List Sec) (pts : List Pnt) (s e : Int) (turns : List Int) (most : Int) : List Int := walkR secs pts turns s e most most.toNat 0
theorem walkR_stop {secs : List Sec} {pts : List Pnt} {turns : List Int} {s e most : Int} {f i : Nat} (h : wstop secs pts turns s e most i = true) : walkR secs pts turns s e most f i = (wst secs pts turns s e i).out := by
  cases f with
  | zero => rfl
  | succ f => simp [walkR, h]
theorem walkR_go {secs : List Sec} {pts : List Pnt} {turns : List Int} {s e most : Int} {i : Nat} {l : List Int} (h : wstop secs pts turns s e most i = false) (hi : i < most.toNat) (inv : walkR secs pts turns s e most (most.toNat - i) i = l) : walkR secs pts turns s e most (most.toNat - (i + 1)) (i + 1) = l := by
  rw [show most.toNat - i = (most.toNat - (i + 1)) + 1 by omega] at inv
  rw [← inv]
  simp [walkR, h]
theorem walkR_len (secs : List Sec) (pts : List Pnt) (turns : List Int) (s e most : Int) : ∀ (f i : Nat), (walkR secs pts turns s e most f i).length ≤ f + i + 1
  | 0, i => by simp [walkR, wst_len]
  | f + 1, i => by
    unfold walkR
    split
    · rw [wst_len]; omega
    · have := walkR_len secs pts turns s e most f (i + 1); omega
theorem walkL_len (secs : List Sec) (pts : List Pnt) (s e : Int) (turns : List Int) (most : Int) : (walkL secs pts s e turns most).length ≤ most.toNat + 1 := walkR_len _ _ _ _ _ _ _ _

theorem wstop_len {secs : List Sec} {pts : List Pnt} {turns : List Int} {s e most : Int} {i : Nat} (h : most ≤ (i : Int) + 1) : wstop secs pts turns s e most i = true := by simp [wstop, h]
theorem wstop_none {secs : List Sec} {pts : List Pnt} {turns : List Int} {s e most : Int} {i : Nat} (h : (aroundL secs pts (wst secs pts turns s e i).s (wst secs pts turns s e i).e).length = 0) : wstop secs pts turns s e most i = true := by simp [wstop, List.eq_nil_of_length_eq_zero h]
theorem wstop_seen {secs : List Sec} {pts : List Pnt} {turns : List Int} {s e most : Int} {i : Nat} (h : (wnext secs pts turns i (wst secs pts turns s e i)).sec ∈ (wst secs pts turns s e i).out) : wstop secs pts turns s e most i = true := by simp [wstop, h]
theorem wstop_go {secs : List Sec} {pts : List Pnt} {turns : List Int} {s e most : Int} {i : Nat} (h1 : ¬ most ≤ (i : Int) + 1) (h2 : ¬ (aroundL secs pts (wst secs pts turns s e i).s (wst secs pts turns s e i).e).length = 0) (h3 : ¬ (wnext secs pts turns i (wst secs pts turns s e i)).sec ∈ (wst secs pts turns s e i).out) : wstop secs pts turns s e most i = false := by
  simp only [wstop, h1, h2, h3, decide_false, Bool.or_false]
theorem quoU8 {a b : Int} (h : 0 ≤ a ∧ a ≤ 255 ∧ 0 < b) : binI .u8 .quo a b = .int .u8 (a / b) := by
  have h1 : a.tdiv b = a / b := Int.tdiv_eq_ediv_of_nonneg h.1
  have h2 : 0 ≤ a / b := Int.ediv_nonneg h.1 (by omega)
  have h3 : a / b ≤ a := Int.ediv_le_self b h.1
  show Value.int .u8 (IntKind.u8.wrap (a.tdiv b)) = _
  rw [h1, IntWalk.u8_in _ (by omega)]
theorem addU8 {a b : Int} (h : 0 ≤ a + b ∧ a + b ≤ 255) : binI .u8 .add a b = .int .u8 (a + b) := by
  show Value.int .u8 (IntKind.u8.wrap (a + b)) = _
  rw [IntWalk.u8_in _ (by omega)]

/-! ### the layouts of drafts -/
def unitI (len : Int) : Int := 10 * (1 + len % 20)
def rowN (form : Int) : Nat := (3 + form / 4 % 6).toNat
def rowE : Nat → List Pr
  | 0 => []
  | k + 1 => rowE k ++ [⟨(k : Int), (k : Int) + 1⟩]
theorem rowE_len (k : Nat) : (rowE k).length = k := by
  induction k with
  | zero => rfl
  | succ k ih => simp [rowE, ih]
def mkEnds (form : Int) : List Pr :=
  if form % 4 = 0 then rowE (rowN form)
  else if form % 4 = 1 then [⟨0, 1⟩, ⟨1, 2⟩, ⟨3, 1⟩]
  else if form % 4 = 2 then [⟨0, 1⟩, ⟨1, 2⟩, ⟨2, 3⟩, ⟨2, 4⟩, ⟨5, 3⟩, ⟨4, 5⟩, ⟨5, 6⟩, ⟨6, 7⟩]
  else [⟨0, 1⟩, ⟨2, 1⟩, ⟨2, 3⟩, ⟨2, 4⟩, ⟨3, 5⟩, ⟨4, 6⟩]
def mkPts (form : Int) : List Pnt :=
  if form % 4 = 0 then []
  else if form % 4 = 1 then [⟨1, 0, 1, 2⟩]
  else if form % 4 = 2 then [⟨2, 1, 2, 3⟩, ⟨5, 6, 4, 5⟩]
  else [⟨2, 1, 3, 2⟩]
theorem mkEnds_len (form : Int) : 3 ≤ (mkEnds form).length ∧ (mkEnds form).length ≤ 8 := by
  unfold mkEnds
  repeat' split
  · rw [rowE_len]; unfold rowN; omega
  all_goals simp
theorem mkPts_len (form : Int) : (mkPts form).length ≤ 2 := by
  unfold mkPts
  repeat' split
  all_goals simp
def mkSecsK (form len : Int) : Nat → List Sec
  | 0 => []
  | k + 1 => mkSecsK form len k ++ [⟨2 * unitI len + (k : Int) % 3, ((mkEnds form).getD k dR).a, ((mkEnds form).getD k dR).b⟩]
theorem mkSecsK_len (form len : Int) (k : Nat) : (mkSecsK form len k).length = k := by
  induction k with
  | zero => rfl
  | succ k ih => simp [mkSecsK, ih]
def mkSecs (form len : Int) : List Sec := mkSecsK form len (mkEnds form).length
theorem mkSecs_len (form len : Int) : (mkSecs form len).length = (mkEnds form).length := mkSecsK_len _ _ _
/-- Does a section go to the part of the one ahead of it? -/
def joinB (j : Int) (k : Nat) : Bool := decide (k > 0) && (((j.fdiv (2 ^ (k % 8))) % 2) == 1)
/-- The parts that are finished when k sections were looked at, and the last one. -/
def partD (j : Int) : Nat → List (List Int)
  | 0 => []
  | k + 1 => if joinB j k then partD j k else if k = 0 then [] else partD j k ++ [partT j k]
where partT (j : Int) : Nat → List Int
  | 0 => []
  | k + 1 => if joinB j k then partT j k ++ [(k : Int)] else [(k : Int)]
def partsK (j : Int) (k : Nat) : List (List Int) := if k = 0 then [] else partD j k ++ [partD.partT j k]
def mkParts (form j : Int) : List (List Int) := partsK j (mkEnds form).length
theorem partD_len (j : Int) (k : Nat) : (partD j k).length ≤ k := by
  induction k with
  | zero => simp [partD]
  | succ k ih =>
    unfold partD
    repeat' split
    all_goals first | omega | (simp; done) | (simp; omega)
theorem partT_len (j : Int) (k : Nat) : (partD.partT j k).length ≤ k := by
  induction k with
  | zero => simp [partD.partT]
  | succ k ih =>
    unfold partD.partT
    split
    all_goals first | omega | (simp; done) | (simp; omega)
theorem partD_lt (j : Int) (m : Nat) : (partD j (m + 1)).length ≤ m := by
  induction m with
  | zero => unfold partD; split <;> simp [partD]
  | succ m ih =>
    unfold partD
    repeat' split
    all_goals first | omega | (simp; done) | (simp; omega)
theorem partsK_len (j : Int) (k : Nat) : (partsK j k).length ≤ k := by
  unfold partsK
  split
  · simp
  · cases k with
    | zero => simp at *
    | succ k =>
      have := partD_lt j k
      simp only [List.length_append, List.length_cons, List.length_nil]
      omega
theorem parts_join {j : Int} {k : Nat} (h : joinB j k = true) : partD j (k + 1) = partD j k ∧ partD.partT j (k + 1) = partD.partT j k ++ [(k : Int)] := by simp [partD, partD.partT, h]
theorem parts_new {j : Int} {k : Nat} (h : joinB j k = false) : partD j (k + 1) = partsK j k ∧ partD.partT j (k + 1) = [(k : Int)] := by
  constructor
  · unfold partD partsK; simp [h]
  · simp [partD.partT, h]
def partN (j : Int) (k : Nat) : Nat := (partD j (k + 1)).length + 1
def partM (j : Int) (k : Nat) : Nat := (partD j (k + 1)).length
theorem partN_M (j : Int) (k : Nat) : partN j k = partM j k + 1 := rfl
theorem partN_le (j : Int) (k : Nat) : partN j k ≤ k + 1 := by have := partD_lt j k; unfold partN; omega
theorem joinB_zero (j : Int) : joinB j 0 = false := by simp [joinB]
theorem partN_join {j : Int} {k : Nat} (h : joinB j (k + 1) = true) : partN j (k + 1) = partN j k := by unfold partN; rw [(parts_join h).1]
theorem partD_new {j : Int} {k : Nat} (h : joinB j (k + 1) = false) : partD j (k + 1 + 1) = partD j (k + 1) ++ [partD.partT j (k + 1)] := by
  rw [(parts_new h).1]; simp [partsK]
theorem partN_new {j : Int} {k : Nat} (h : joinB j (k + 1) = false) : partN j (k + 1) = partN j k + 1 := by unfold partN; rw [partD_new h]; simp
theorem parts_enc {form j : Int} {k : Nat} (h : k + 1 = (mkEnds form).length) : enc eIL (mkParts form j) = enc eIL (partD j (k + 1)) ++ [.ro (partD.partT j (k + 1)).length (enc eI (partD.partT j (k + 1)))] := by
  unfold mkParts
  rw [← h]
  show enc eIL (if k + 1 = 0 then [] else _) = _
  rw [if_neg (by omega), enc_snoc]; rfl
theorem parts_len {form j : Int} {k : Nat} (h : k + 1 = (mkEnds form).length) : (mkParts form j).length = partN j k := by
  unfold mkParts
  rw [← h]
  unfold partsK
  rw [if_neg (by omega)]
  simp [partN]
theorem partD_one (j : Int) : partD j (0 + 1) = [] := by simp [partD, joinB_zero]
theorem partT_one (j : Int) : partD.partT j (0 + 1) = [0] := by simp [partD.partT, joinB_zero]
theorem partN_zero (j : Int) : partN j 0 = 1 := by simp [partN, partD_one]
theorem joinB_int (j : Int) (k : Nat) : joinB j k = (decide (((k : Nat) : Int) > 0) && (j.fdiv (2 ^ (k % 8)) % 2 == 1)) := by simp [joinB]
theorem remFdiv {j : Int} (h : 0 ≤ j ∧ j ≤ 255) (n : Nat) : binI .u8 .rem (j.fdiv (2 ^ n)) 2 = .int .u8 (j.fdiv (2 ^ n) % 2) := by
  show Value.int .u8 ((j.fdiv (2 ^ n)).tmod 2) = _
  have h0 : 0 ≤ j.fdiv (2 ^ n) := by
    rw [Int.fdiv_eq_ediv_of_nonneg _ (Int.le_of_lt (Int.pow_pos (by decide)))]
    exact Int.ediv_nonneg h.1 (Int.le_of_lt (Int.pow_pos (by decide)))
  rw [Int.tmod_eq_emod_of_nonneg h0]
theorem ends0 {form : Int} (h : form % 4 = 0) : mkEnds form = rowE (rowN form) ∧ mkPts form = [] := by simp [mkEnds, mkPts, h]
theorem ends1 {form : Int} (h : form % 4 = 1) : mkEnds form = [⟨0, 1⟩, ⟨1, 2⟩, ⟨3, 1⟩] ∧ mkPts form = [⟨1, 0, 1, 2⟩] := by simp [mkEnds, mkPts, h]
theorem ends2 {form : Int} (h : form % 4 = 2) : mkEnds form = [⟨0, 1⟩, ⟨1, 2⟩, ⟨2, 3⟩, ⟨2, 4⟩, ⟨5, 3⟩, ⟨4, 5⟩, ⟨5, 6⟩, ⟨6, 7⟩] ∧ mkPts form = [⟨2, 1, 2, 3⟩, ⟨5, 6, 4, 5⟩] := by simp [mkEnds, mkPts, h]
theorem ends3 {form : Int} (h0 : ¬ form % 4 = 0) (h1 : ¬ form % 4 = 1) (h2 : ¬ form % 4 = 2) : mkEnds form = [⟨0, 1⟩, ⟨2, 1⟩, ⟨2, 3⟩, ⟨2, 4⟩, ⟨3, 5⟩, ⟨4, 6⟩] ∧ mkPts form = [⟨2, 1, 3, 2⟩] := by simp [mkEnds, mkPts, h0, h1, h2]
theorem mulB {a b : Int} (ha : 0 ≤ a ∧ a ≤ 100000) (hb : 0 ≤ b ∧ b ≤ 100000) : -9223372036854775808 ≤ a * b ∧ a * b ≤ 9223372036854775807 := by
  have h1 : 0 ≤ a * b := Int.mul_nonneg ha.1 hb.1
  have h2 : a * b ≤ 100000 * 100000 := Int.mul_le_mul ha.2 hb.2 hb.1 (by decide)
  omega
theorem modB {a b : Int} (h : 0 < b) : 0 ≤ a % b ∧ a % b < b := ⟨Int.emod_nonneg _ (by omega), Int.emod_lt_of_pos _ h⟩
theorem mkSecs_end {form len : Int} {k : Nat} (h : k = (mkEnds form).length) : mkSecs form len = mkSecsK form len k := by unfold mkSecs; rw [h]
theorem rowN_int {form : Int} (h : 0 ≤ form ∧ form ≤ 255) : ((rowN form : Nat) : Int) = 3 + form / 4 % 6 := by unfold rowN; omega
/-- The routes of a draft, of its first k lists of numbers. -/
def routeOf (secs : List Sec) (pts : List Pnt) (x : List Int) : List Int := walkL secs pts (x.getD 0 0 % (secs.length : Int)) (x.getD 0 0 / 128) (x.drop 2) (2 + x.getD 1 0 % 5)
def routesK (secs : List Sec) (pts : List Pnt) (rs : List (List Int)) : Nat → List (List Int)
  | 0 => []
  | k + 1 => if (routesK secs pts rs k).length ≥ 16 ∨ (rs.getD k []).length < 2 ∨ (routeOf secs pts (rs.getD k [])).length < 2 then routesK secs pts rs k else routesK secs pts rs k ++ [routeOf secs pts (rs.getD k [])]
theorem routesK_len (secs : List Sec) (pts : List Pnt) (rs : List (List Int)) (k : Nat) : (routesK secs pts rs k).length ≤ k ∧ (routesK secs pts rs k).length ≤ 16 := by
  induction k with
  | zero => simp [routesK]
  | succ k ih =>
    unfold routesK
    split
    · omega
    · rename_i h
      simp only [not_or] at h
      simp; omega
theorem routesK_stop {secs : List Sec} {pts : List Pnt} {rs : List (List Int)} {k : Nat} (h : (routesK secs pts rs k).length ≥ 16) (j : Nat) : routesK secs pts rs (k + j) = routesK secs pts rs k := by
  induction j with
  | zero => rfl
  | succ j ih =>
    rw [← Nat.add_assoc]
    conv => lhs; unfold routesK
    rw [ih]
    simp [h]
section
variable {P : Program} {E : Env0} {st : St} {K : St → Prop}
theorem aop_sliceRoN {o : Oper} {t e sz d n l hgh : Nat} {x : Operand} {lo hi : Option Operand} {cells cells' : List AV} (n' : Nat) (ho : o.op = .slice t x lo hi none) (hd : o.dst = some d) (hN : (okOp E.N x && okO E.N lo && okO E.N hi && Nat.blt d E.N) = true)
    (ht : P.underlying t = some (.slice e)) (hsz : (P.info? e).map (·.size) = some sz) (hx : evA st.env x = .ro n cells) (hlo : bndA st.env lo 0 l) (hhi : bndA st.env hi n hgh) (h1 : l ≤ hgh) (h2 : hgh ≤ n) (hc' : (cells.drop (l * sz)).take ((hgh - l) * sz) = cells') (hn : hgh - l = n')
    (h : K ⟨upd st.env d (.ro n' cells'), st.ob⟩) : AOp P E o st K := by
  subst hn
  exact aop_sliceRo ho hd hN ht hsz hx hlo hhi h1 h2 hc' h
end
def smallB (rs : List (List Int)) : Bool := !(rs.any fun x => decide (x.length > 10)) && decide (rs.length ≤ 20)
theorem smallB_big {rs : List (List Int)} {k : Nat} (hk : k < rs.length) (h : (rs.getD k []).length > 10) : smallB rs = false := by
  have : rs.any (fun x => decide (x.length > 10)) = true := List.any_eq_true.2 ⟨_, getD_mem [] hk, by simpa using h⟩
  simp [smallB, this]
theorem smallB_end {rs : List (List Int)} {k : Nat} (hk : rs.length ≤ k) (h : (rs.take k).any (fun x => decide (x.length > 10)) = false) : smallB rs = decide (rs.length ≤ 20) := by
  rw [List.take_of_length_le hk] at h
  unfold smallB; rw [h]; rfl
theorem smallB_iff {rs : List (List Int)} (h : smallB rs = true) : rs.length ≤ 20 ∧ ∀ x, x ∈ rs → x.length ≤ 10 := by
  simp only [smallB, Bool.and_eq_true, Bool.not_eq_true', decide_eq_true_eq] at h
  refine ⟨h.2, fun x hx => ?_⟩
  rcases Nat.lt_or_ge 10 x.length with hc | hc
  · have : rs.any (fun x => decide (x.length > 10)) = true := List.any_eq_true.2 ⟨x, hx, by simpa using hc⟩
    rw [h.1] at this; cases this
  · exact hc
theorem routesK_skip {secs : List Sec} {pts : List Pnt} {rs : List (List Int)} {k : Nat} (h : (rs.getD k []).length < 2 ∨ (routeOf secs pts (rs.getD k [])).length < 2) : routesK secs pts rs (k + 1) = routesK secs pts rs k := by
  conv => lhs; unfold routesK
  rw [if_pos (.inr h)]
theorem routesK_add {secs : List Sec} {pts : List Pnt} {rs : List (List Int)} {k : Nat} (h0 : (routesK secs pts rs k).length < 16) (h1 : ¬ (rs.getD k []).length < 2) (h2 : ¬ (routeOf secs pts (rs.getD k [])).length < 2) : routesK secs pts rs (k + 1) = routesK secs pts rs k ++ [routeOf secs pts (rs.getD k [])] := by
  conv => lhs; unfold routesK
  rw [if_neg (by omega)]
def fullRoutes (form len : Int) (rs : List (List Int)) : List (List Int) := routesK (mkSecs form len) (mkPts form) rs rs.length
theorem fullRoutes_end {form len : Int} {rs : List (List Int)} {k : Nat} (hk : k ≤ rs.length) (h : (routesK (mkSecs form len) (mkPts form) rs k).length ≥ 16 ∨ rs.length ≤ k) : routesK (mkSecs form len) (mkPts form) rs k = fullRoutes form len rs := by
  unfold fullRoutes
  rcases h with h | h
  · rw [← routesK_stop h (rs.length - k)]; congr 1; omega
  · rw [show k = rs.length by omega]
end Go.Lo
