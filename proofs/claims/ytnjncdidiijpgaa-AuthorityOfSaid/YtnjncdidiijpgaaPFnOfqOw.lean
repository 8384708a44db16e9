/- Part of the logic of values: what the law reaches. -/
import Derived.Test.YtnjncdidiijpgaaPFnOfqRt
import Derived.Test.YtnjncdidiijpgaaPFnOfqLoZ
set_option linter.unusedVariables false
set_option linter.unusedSimpArgs false
namespace Go.Lo
def eOw (q : Lk × Nat) : List AV := [.i q.1.route, .i q.1.train, .i q.1.ends, .sl q.2 0 q.1.pieces.length]
def ow (b : Nat) (l : List Lk) : List (Lk × Nat) := l.zipIdx b
def dOw : Lk × Nat := (dLk, 0)
def pcO_ (e : Nat) (x : Lk) : LObj := ⟨enc eU8 x.pieces, e, 1⟩
def rowC (e : Nat) (ls : List Lk) (k j : Nat) : OSt := if j < k then .live (pcO_ e (ls.getD j dLk)) else .free
def rowT (e : Nat) (ls : List Lk) (i j : Nat) : OSt := if j < ls.length then (if j < i then .dead else .live (pcO_ e (ls.getD j dLk))) else .free
section
variable {b e k j : Nat} {l ls : List Lk}
theorem ow_len : (ow b l).length = l.length := by simp [ow]
theorem ow_snoc (x : Lk) : ow b (l ++ [x]) = ow b l ++ [(x, b + l.length)] := by simp [ow, List.zipIdx_append, Nat.add_comm]
theorem ow_get (h : j < l.length) : (ow b l).getD j dOw = (l.getD j dLk, b + j) := by
 have h2 : j < (ow b l).length := by rw [ow_len]; exact h
 rw [List.getD_eq_getElem?_getD, List.getElem?_eq_getElem h2, List.getD_eq_getElem?_getD, List.getElem?_eq_getElem h]
 simp [ow]
theorem ow_mem {q : Lk × Nat} (h : q ∈ ow b l) : b ≤ q.2 ∧ q.2 < b + l.length := by
 obtain ⟨x, i⟩ := q
 have := List.mem_zipIdx h
 exact ⟨this.1, this.2.1⟩
theorem ow_ok {p : Nat → Prop} (h : ∀ i, b ≤ i → i < b + l.length → p i) : ∀ c, c ∈ enc eOw (ow b l) → Ok p True c := fun c hc => by
 obtain ⟨q, hq, hc⟩ := List.mem_flatMap.1 (show c ∈ (ow b l).flatMap eOw by simpa [enc] using hc)
 obtain ⟨h1, h2⟩ := ow_mem hq
 simp only [eOw, List.mem_cons, List.not_mem_nil, or_false] at hc
 rcases hc with rfl | rfl | rfl | rfl
 ·exact .v _
 ·exact .v _
 ·exact .v _
 ·exact .sl _ _ _ (h _ h1 h2)
theorem mapL_append {σ : Nat → Nat} {x y : List AV} : AV.mapL σ (x ++ y) = AV.mapL σ x ++ AV.mapL σ y := by simp [mapL_eq]
theorem ow_map {σ : Nat → Nat} : ∀ (l : List Lk) (b c : Nat), (∀ i, i < l.length → σ (b + i) = c + i) → AV.mapL σ (enc eOw (ow b l)) = enc eOw (ow c l)
 | [], b, c, _ => rfl
 | x :: l, b, c, h => by
  have ih := ow_map (σ := σ) l (b + 1) (c + 1) (fun i hi => by have := h (i + 1) (by simpa using hi); rw [show b + 1 + i = b + (i + 1) by omega, this]; omega)
  show AV.mapL σ (eOw (x, b) ++ enc eOw (ow (b + 1) l)) = eOw (x, c) ++ enc eOw (ow (c + 1) l)
  rw [mapL_append, ih]
  congr 1
  show [AV.map σ _, AV.map σ _, AV.map σ _, AV.sl (σ b) 0 _] = _
  have := h 0 (by simp)
  rw [Nat.add_zero, Nat.add_zero] at this
  rw [this]; rfl
theorem rowC_free : rowC e ls k k = .free := by unfold rowC; rw [if_neg (by omega)]
theorem rowC_0 : rowC e ls 0 j = .free := by unfold rowC; rw [if_neg (by omega)]
theorem fam_0 {id : Nat} : famO (rowC e ls 0) id = .free := by
 unfold famO
 cases Nat.ble 8 id with
 | true => exact rowC_0
 | false => rfl
theorem ru_none {p : Nat → Prop} {σ : Nat → Nat} {e : Nat → AV} : ∀ t, none_ t = .any ∨ (Ok p True (e t) ∧ (e t).map σ = none_ t) := fun t => .inl rfl
theorem ru_upd {p : Nat → Prop} {σ : Nat → Nat} {e e' : Nat → AV} {d : Nat} {av : AV} (hok : Ok p True (e d)) (hd : (e d).map σ = av) (h : ∀ t, e' t = .any ∨ (Ok p True (e t) ∧ (e t).map σ = e' t)) : ∀ t, upd e' d av t = .any ∨ (Ok p True (e t) ∧ (e t).map σ = upd e' d av t) := fun t => by
 by_cases ht : t = d
 ·subst ht; rw [upd_same]; exact .inr ⟨hok, hd⟩
 ·rw [upd_ne _ _ ht]; exact h t
theorem ru_no {p : Nat → Prop} {σ : Nat → Nat} {e e' : Nat → AV} {d : Nat} {av : AV} (hd : e d = av) (h : ∀ t, e' t = .any ∨ (Ok p True (e t) ∧ (e t).map σ = e' t)) [hn : NoI av] : ∀ t, upd e' d av t = .any ∨ (Ok p True (e t) ∧ (e t).map σ = upd e' d av t) :=
 ru_upd (by rw [hd]; exact hn.out.mono (fun _ h => h.elim) id) (by rw [hd]; exact map_noId hn.out) h
end
def cpOb (e5 eL : Nat) (ls : List Lk) (k : Nat) : Nat → OSt := updO (famO (rowC e5 ls k)) 1 (.live ⟨enc eOw (ow 8 (ls.take k)), eL, 4⟩)
theorem cpOb_free {e5 eL : Nat} {ls : List Lk} {k : Nat} {A B : OSt} : updO (updO (cpOb e5 eL ls k) 2 A) 2 B (k + 8) = .free := by
 unfold cpOb
 rw [updO_lo (by decide), updO_lo (by decide), updO_lo (by decide), fam_hi]
 exact rowC_free
theorem rowC_live {e : Nat} {ls : List Lk} {k j : Nat} (h : j < k) : rowC e ls k j = .live (pcO_ e (ls.getD j dLk)) := by unfold rowC; rw [if_pos h]
theorem pcO_map {σ : Nat → Nat} {e : Nat} {x : Lk} : LObj.map σ (pcO_ e x) = pcO_ e x := by
 show LObj.mk (AV.mapL σ (enc eU8 x.pieces)) e 1 = LObj.mk _ _ _
 rw [mapL_noId ((inferInstance : NoIL (enc eU8 x.pieces)).out)]
theorem pcO_ok {p : Nat → Prop} {e : Nat} {x : Lk} : ∀ c, c ∈ (pcO_ e x).cells → Ok p True c := fun c hc => (((inferInstance : NoIL (enc eU8 x.pieces)).out) c hc).mono (fun _ h => h.elim) id
theorem cpOb_hi {e5 eL : Nat} {ls : List Lk} {k j : Nat} : cpOb e5 eL ls k (j + 8) = rowC e5 ls k j := by
 unfold cpOb
 rw [updO_lo (by decide), fam_hi]
theorem cpOb_live {e5 eL : Nat} {ls : List Lk} {k i : Nat} {o : LObj} (h : cpOb e5 eL ls k i = .live o) : (i = 1 ∧ o = ⟨enc eOw (ow 8 (ls.take k)), eL, 4⟩) ∨ ∃ j, i = j + 8 ∧ j < k ∧ o = pcO_ e5 (ls.getD j dLk) := by
 unfold cpOb at h
 by_cases hi : i = 1
 ·subst hi; rw [updO_same] at h; cases h; exact .inl ⟨rfl, rfl⟩
 ·rw [updO_ne _ _ hi] at h
  rcases Nat.lt_or_ge i 8 with h8 | h8
  ·rw [fam_lo h8] at h; cases h
  ·obtain ⟨j, rfl⟩ : ∃ j, i = j + 8 := ⟨i - 8, by omega⟩
   rw [fam_hi] at h
   unfold rowC at h
   split at h
   ·cases h; exact .inr ⟨j, rfl, by assumption, rfl⟩
   ·cases h
theorem cp_next {e5 eL : Nat} {ls : List Lk} {k : Nat} {A B B2 X : OSt} (j : Nat) : updO (updO (updO (updO (updO (updO (cpOb e5 eL ls k) 2 A) 2 B) (k + 8) (.live (pcO_ e5 (ls.getD k dLk)))) 2 B2) 1 .dead) 3 X (j + 8) = rowC e5 ls (k + 1) j := by
 rw [updO_lo (by decide), updO_lo (by decide), updO_lo (by decide)]
 by_cases h : j = k
 ·subst h; rw [updO_same]; exact (rowC_live (Nat.lt_succ_self j)).symm
 ·rw [updO_ne _ _ (by omega : j + 8 ≠ k + 8)]
  rw [updO_lo (by decide), updO_lo (by decide), cpOb_hi]
  unfold rowC
  rcases Nat.lt_or_ge j k with h1 | h1
  ·rw [if_pos h1, if_pos (by omega)]
  ·rw [if_neg (by omega), if_neg (by omega)]
theorem map_same {σ : AV → AV} {l : List AV} (h : ∀ c, c ∈ l → σ c = c) : l.map σ = l := (List.map_congr_left (g := _root_.id) h).trans (List.map_id l)
theorem map_ok {p : Nat → Prop} {σ : Nat → Nat} {av : AV} (h : Ok p True av) (hs : ∀ i, p i → σ i = i) : av.map σ = av := by
 induction h with
 | any | one | v => simp [AV.map]
 | ro n cells _ _ ih => simp only [AV.map, mapL_eq]; rw [map_same ih]
 | rp cells _ _ ih => simp only [AV.map, mapL_eq]; rw [map_same ih]
 | sl id off n h => simp only [AV.map]; rw [hs _ h]
 | pt id off h => simp only [AV.map]; rw [hs _ h]
 | agg cells _ ih => simp only [AV.map, mapL_eq]; rw [map_same ih]
 | tup cells _ ih => simp only [AV.map, mapL_eq]; rw [map_same ih]
 | fn f cells _ ih => simp only [AV.map, mapL_eq]; rw [map_same ih]
theorem mapL_ok {p : Nat → Prop} {σ : Nat → Nat} {l : List AV} (h : ∀ c, c ∈ l → Ok p True c) (hs : ∀ i, p i → σ i = i) : AV.mapL σ l = l := by
 rw [mapL_eq, map_same fun c hc => map_ok (h c hc) hs]
def rowX (e : Nat) (ls : List Lk) (i : Nat) (r : LObj) (j : Nat) : OSt := if j < ls.length then (if j < i then .dead else if j = i then .live r else .live (pcO_ e (ls.getD j dLk))) else .free
def tuOb (rows : Nat → OSt) (b4 b7 out : LObj) : Nat → OSt := updO (updO (updO (famO rows) 4 (.live b4)) 7 (.live b7)) 1 (.live out)
theorem tuOb_hi {rows : Nat → OSt} {b4 b7 out : LObj} {j : Nat} : tuOb rows b4 b7 out (j + 8) = rows j := by
 unfold tuOb
 rw [updO_lo (by decide), updO_lo (by decide), updO_lo (by decide), fam_hi]
theorem tuOb_ne {rows : Nat → OSt} {b4 b7 out : LObj} {i : Nat} (h : i < 8) (h1 : i ≠ 1) (h4 : i ≠ 4) (h7 : i ≠ 7) : tuOb rows b4 b7 out i = .free := by
 unfold tuOb
 rw [updO_ne _ _ h1, updO_ne _ _ h7, updO_ne _ _ h4, fam_lo h]
theorem tuOb_live {rows : Nat → OSt} {b4 b7 out o : LObj} {i : Nat} (h : tuOb rows b4 b7 out i = .live o) : (i = 1 ∧ o = out) ∨ (i = 4 ∧ o = b4) ∨ (i = 7 ∧ o = b7) ∨ ∃ j, i = j + 8 ∧ rows j = .live o := by
 rcases Nat.lt_or_ge i 8 with h8 | h8
 ·by_cases h1 : i = 1
  ·subst h1; exact .inl ⟨rfl, (by cases h; rfl)⟩
  ·by_cases h4 : i = 4
   ·subst h4; exact .inr (.inl ⟨rfl, (by cases h; rfl)⟩)
   ·by_cases h7 : i = 7
    ·subst h7; exact .inr (.inr (.inl ⟨rfl, (by cases h; rfl)⟩))
    ·rw [tuOb_ne h8 h1 h4 h7] at h; cases h
 ·obtain ⟨j, rfl⟩ : ∃ j, i = j + 8 := ⟨i - 8, by omega⟩
  rw [tuOb_hi] at h
  exact .inr (.inr (.inr ⟨j, rfl, h⟩))
theorem tu_ren {E : Env0} {s : St} {e1 : Nat → AV} {rows : Nat → OSt} {b4 b7 out : LObj} (q : Nat) (hq : q = 1 ∨ q = 3) (hm : E.m = 0) (h4 : s.ob 4 = .live b4) (h7 : s.ob 7 = .live b7) (ho : s.ob q = .live out) (hr : ∀ j, s.ob (j + 8) = rows j)
  (k4 : NoIds b4.cells) (k7 : ∀ c, c ∈ b7.cells → Ok (8 ≤ ·) True c) (ko : ∀ c, c ∈ out.cells → Ok (8 ≤ ·) True c) (kr : ∀ j o, rows j = .live o → NoIds o.cells)
  (he : ∀ t, e1 t = .any ∨ (Ok (fun i => i = q ∨ i = 4 ∨ i = 7 ∨ 8 ≤ i) True (s.env t) ∧ (s.env t).map (fun i => cond (Nat.beq i q) 1 i) = e1 t)) : Imp E s ⟨e1, tuOb rows b4 b7 out⟩ := by
 have hσ : ∀ i, 8 ≤ i → (fun i => cond (Nat.beq i q) 1 i) i = i := fun i hi => by
  show cond (Nat.beq i q) 1 i = i
  cases hb : Nat.beq i q with
  | false => rfl
  | true => have := Nat.eq_of_beq_eq_true hb; omega
 have hD : ∀ {l : List AV}, (∀ c, c ∈ l → Ok (8 ≤ ·) True c) → ∀ c, c ∈ l → Ok (fun i => i = q ∨ i = 4 ∨ i = 7 ∨ 8 ≤ i) True c := fun h c hc => (h c hc).mono (fun i hi => .inr (.inr (.inr hi))) id
 have hN : ∀ {l : List AV}, NoIds l → ∀ c, c ∈ l → Ok (8 ≤ ·) True c := fun h c hc => (h c hc).mono (fun _ h => h.elim) id
 have hmap : ∀ {o : LObj}, (∀ c, c ∈ o.cells → Ok (8 ≤ ·) True c) → o = LObj.map (fun i => cond (Nat.beq i q) 1 i) o := fun {o} h => by
  show o = LObj.mk (AV.mapL _ o.cells) o.elem o.esz
  rw [mapL_ok h hσ]
 refine imp_ren (fun i => cond (Nat.beq i q) 1 i) (fun i => cond (Nat.beq i 1) q i) (fun i => i = q ∨ i = 4 ∨ i = 7 ∨ 8 ≤ i) hm (fun i hi => ?_) he (fun i o' hl => ?_) (fun i hi hf => ?_)
 ·rcases hq with rfl | rfl <;> rcases hi with rfl | rfl | rfl | hi
  ·rfl
  ·rfl
  ·rfl
  ·obtain ⟨j, rfl⟩ : ∃ j, i = j + 8 := ⟨i - 8, by omega⟩
   rfl
  ·rfl
  ·rfl
  ·rfl
  ·obtain ⟨j, rfl⟩ : ∃ j, i = j + 8 := ⟨i - 8, by omega⟩
   rfl
 ·rcases tuOb_live hl with ⟨rfl, rfl⟩ | ⟨rfl, rfl⟩ | ⟨rfl, rfl⟩ | ⟨j, rfl, hj⟩
  ·exact ⟨o', .inl rfl, by rcases hq with rfl | rfl <;> rfl, ho, hmap ko, hD ko⟩
  ·exact ⟨o', .inr (.inl rfl), by rcases hq with rfl | rfl <;> rfl, h4, hmap (hN k4), hD (hN k4)⟩
  ·exact ⟨o', .inr (.inr (.inl rfl)), by rcases hq with rfl | rfl <;> rfl, h7, hmap k7, hD k7⟩
  ·exact ⟨o', .inr (.inr (.inr (by show 8 ≤ j + 8; omega))), by rcases hq with rfl | rfl <;> rfl, (hr j).trans hj, hmap (hN (kr j o' hj)), hD (hN (kr j o' hj))⟩
 ·rcases hi with rfl | rfl | rfl | hi
  ·rcases hq with rfl | rfl
   ·intro h; cases h
   ·intro h; cases h
  ·rcases hq with rfl | rfl
   ·intro h; cases h
   ·intro h; cases h
  ·rcases hq with rfl | rfl
   ·intro h; cases h
   ·intro h; cases h
  ·obtain ⟨j, rfl⟩ : ∃ j, i = j + 8 := ⟨i - 8, by omega⟩
   rw [hr] at hf
   intro h
   have h2 : tuOb rows b4 b7 out (cond (Nat.beq (j + 8) q) 1 (j + 8)) = .free := h
   rw [show cond (Nat.beq (j + 8) q) 1 (j + 8) = j + 8 from hσ _ hi, tuOb_hi] at h2
   exact hf h2
theorem tu_frz {E : Env0} {e1 e2 : Nat → AV} {ls : List Lk} {i e : Nat} {r b4 b7 out out' : LObj} (hi : i < ls.length) (hm : E.m = 0) (hG : ∀ b, ¬ E.G b) (he : ∀ t, FrzC (updO noOb (i + 8) (.live r)) (e1 t) (e2 t))
  (ho : out'.elem = out.elem ∧ out'.esz = out.esz ∧ out'.cells.length = out.cells.length ∧ ∀ (j : Nat) (a b : AV), out.cells[j]? = some a → out'.cells[j]? = some b → FrzC (updO noOb (i + 8) (.live r)) a b) :
  Imp E ⟨e1, tuOb (rowX e ls i r) b4 b7 out⟩ ⟨e2, tuOb (rowT e ls (i + 1)) b4 b7 out'⟩ := by
 let keep : List Nat := [1, 4, 7] ++ ((List.range ls.length).filter fun j => decide (i < j)).map (· + 8)
 have hin : ∀ j, i < j → j < ls.length → j + 8 ∈ keep := fun j h1 h2 => List.mem_append.2 (.inr (List.mem_map.2 ⟨j, List.mem_filter.2 ⟨List.mem_range.2 h2, by simpa using h1⟩, rfl⟩))
 have hnot : ∀ j, j ≤ i → j + 8 ∉ keep := fun j h1 h2 => by
  rcases List.mem_append.1 h2 with h | h
  ·simp at h
  ·obtain ⟨j', h3, h4⟩ := List.mem_map.1 h
   have := (List.mem_filter.1 h3).2
   simp at this
   omega
 have hkill : killO keep (tuOb (rowX e ls i r) b4 b7 out) (i + 8) = .live r := by
  rw [killO_get, if_neg (hnot i (Nat.le_refl _)), tuOb_hi]
  unfold rowX
  rw [if_pos hi, if_neg (by omega), if_pos rfl]
 have hsub : ∀ id o, updO noOb (i + 8) (.live r) id = .live o → killO keep (tuOb (rowX e ls i r) b4 b7 out) id = .live o := fun id o h => by
  by_cases h1 : id = i + 8
  ·subst h1; rw [updO_same] at h; cases h; exact hkill
  ·rw [updO_ne _ _ h1] at h; cases h
 have hfz : ∀ {a b : AV}, FrzC (updO noOb (i + 8) (.live r)) a b → FrzC (killO keep (tuOb (rowX e ls i r) b4 b7 out)) a b := fun h => h.imp (fun h => h) (fun h => h.more hsub)
 refine imp_frz keep hm hG (fun t => hfz (he t)) (fun id o' hl => ?_) (fun id hf => ?_)
 ·rcases tuOb_live hl with ⟨rfl, rfl⟩ | ⟨rfl, rfl⟩ | ⟨rfl, rfl⟩ | ⟨j, rfl, hj⟩
  ·exact ⟨by simp [keep], out, rfl, ho.1, ho.2.1, ho.2.2.1, fun j a b h1 h2 => hfz (ho.2.2.2 j a b h1 h2)⟩
  ·exact ⟨by simp [keep], o', rfl, rfl, rfl, rfl, fun j a b h1 h2 => .inl (by rw [h1] at h2; cases h2; rfl)⟩
  ·exact ⟨by simp [keep], o', rfl, rfl, rfl, rfl, fun j a b h1 h2 => .inl (by rw [h1] at h2; cases h2; rfl)⟩
  ·have h3 : i < j ∧ j < ls.length ∧ o' = pcO_ e (ls.getD j dLk) := by
    unfold rowT at hj
    split at hj
    ·rename_i h5
     split at hj
     ·cases hj
     ·cases hj; exact ⟨by omega, h5, rfl⟩
    ·cases hj
   obtain ⟨h5, h6, rfl⟩ := h3
   refine ⟨hin j h5 h6, _, (tuOb_hi (rows := rowX e ls i r) (b4 := b4) (b7 := b7) (out := out)).trans ?_, rfl, rfl, rfl, fun j a b h1 h2 => .inl (by rw [h1] at h2; cases h2; rfl)⟩
   unfold rowX
   rw [if_pos h6, if_neg (by omega), if_neg (by omega)]
 ·have hf' : tuOb (rowT e ls (i + 1)) b4 b7 out' id = .free := hf
  rcases Nat.lt_or_ge id 8 with h8 | h8
  ·by_cases h1 : id = 1
   ·subst h1; cases hf'
   ·by_cases h4 : id = 4
    ·subst h4; cases hf'
    ·by_cases h7 : id = 7
     ·subst h7; cases hf'
     ·exact tuOb_ne h8 h1 h4 h7
  ·obtain ⟨j, rfl⟩ : ∃ j, id = j + 8 := ⟨id - 8, by omega⟩
   rw [tuOb_hi] at hf'
   refine (tuOb_hi (rows := rowX e ls i r) (b4 := b4) (b7 := b7) (out := out)).trans ?_
   unfold rowT at hf'
   split at hf'
   ·split at hf'
    ·cases hf'
    ·cases hf'
   ·rename_i h5
    unfold rowX
    rw [if_neg h5]
theorem tu_start {e5 eL z : Nat} {ls : List Lk} {T : Tu} {b4 : LObj} (id : Nat) : tuOb (rowT e5 ls 0) b4 ⟨enc eOw (ow 8 ls), eL, z⟩ ⟨enc eLk (turnL T (ls.take 0)), eL, z⟩ id = updO (addO (updO (fun _ => .free) 4 (.live b4)) 7 (⟨enc eOw (ow 8 ls), eL, z⟩ :: ls.map (pcO_ e5))) 1 (.live ⟨[], eL, z⟩) id := by
 by_cases h1 : id = 1
 ·subst h1; rfl
 ·rw [updO_ne _ _ h1, addO_get]
  rcases Nat.lt_or_ge id 8 with h8 | h8
  ·by_cases h7 : id = 7
   ·subst h7
    rw [if_pos (by simp only [List.length_cons]; omega)]
    rfl
   ·rw [if_neg (by omega)]
    by_cases h4 : id = 4
    ·subst h4; rfl
    ·rw [updO_ne _ _ h4, tuOb_ne h8 h1 h4 h7]
  ·obtain ⟨j, rfl⟩ : ∃ j, id = j + 8 := ⟨id - 8, by omega⟩
   rw [tuOb_hi, show j + 8 - 7 = j + 1 by omega, List.getElem?_cons_succ, List.getElem?_map, List.length_cons, List.length_map]
   unfold rowT
   split
   ·rename_i h
    rw [if_neg (by omega), if_pos (by omega), List.getElem?_eq_getElem h]
    simp [h]
   ·rename_i h
    rw [if_neg (by omega), updO_lo (by decide)]
theorem rowT_at {e : Nat} {ls : List Lk} {i : Nat} (h : i < ls.length) : rowT e ls i i = .live (pcO_ e (ls.getD i dLk)) := by unfold rowT; rw [if_pos h, if_neg (by omega)]
theorem tu_rows {e : Nat} {ls : List Lk} {i : Nat} {b4 b7 out r : LObj} (hi : i < ls.length) (j : Nat) : updO (tuOb (rowT e ls i) b4 b7 out) (i + 8) (.live r) (j + 8) = rowX e ls i r j := by
 by_cases h : j = i
 ·subst h; rw [updO_same]; unfold rowX; rw [if_pos hi, if_neg (by omega), if_pos rfl]
 ·rw [updO_ne _ _ (by omega : j + 8 ≠ i + 8), tuOb_hi]
  unfold rowT rowX
  rw [if_neg h]
theorem frzs_app {ob : Nat → OSt} {l a b : List AV} (h : ∀ (j : Nat) (x y : AV), a[j]? = some x → b[j]? = some y → FrzC ob x y) : ∀ (j : Nat) (x y : AV), (l ++ a)[j]? = some x → (l ++ b)[j]? = some y → FrzC ob x y := fun j x y h1 h2 => by
 rcases Nat.lt_or_ge j l.length with hj | hj
 ·rw [List.getElem?_append_left hj] at h1 h2
  rw [h1] at h2; cases h2; exact .inl rfl
 ·rw [List.getElem?_append_right hj] at h1 h2
  exact h _ x y h1 h2
theorem su_skip {p : Nat → Prop} {σ : Nat → Nat} {e e' : Nat → AV} {d : Nat} {av : AV} (h : ∀ t, e' t = .any ∨ (Ok p True (e t) ∧ (e t).map σ = e' t)) : ∀ t, t ≠ d → upd e' d av t = .any ∨ (Ok p True (e t) ∧ (e t).map σ = upd e' d av t) := fun t ht => by
 rw [upd_ne _ _ ht]; exact h t
theorem su_upd {p : Nat → Prop} {σ : Nat → Nat} {e e' : Nat → AV} {d s : Nat} {av : AV} (hok : Ok p True (e d)) (hd : (e d).map σ = av) (h : ∀ t, t ≠ s → e' t = .any ∨ (Ok p True (e t) ∧ (e t).map σ = e' t)) : ∀ t, t ≠ s → upd e' d av t = .any ∨ (Ok p True (e t) ∧ (e t).map σ = upd e' d av t) := fun t hs => by
 by_cases ht : t = d
 ·subst ht; rw [upd_same]; exact .inr ⟨hok, hd⟩
 ·rw [upd_ne _ _ ht]; exact h t hs
theorem su_no {p : Nat → Prop} {σ : Nat → Nat} {e e' : Nat → AV} {d s : Nat} {av : AV} (hd : e d = av) (h : ∀ t, t ≠ s → e' t = .any ∨ (Ok p True (e t) ∧ (e t).map σ = e' t)) [hn : NoI av] : ∀ t, t ≠ s → upd e' d av t = .any ∨ (Ok p True (e t) ∧ (e t).map σ = upd e' d av t) :=
 su_upd (by rw [hd]; exact hn.out.mono (fun _ h => h.elim) id) (by rw [hd]; exact map_noId hn.out) h
theorem rowX_no {e : Nat} {ls : List Lk} {i j : Nat} {r o : LObj} (hr : NoIds r.cells) (h : rowX e ls i r j = .live o) : NoIds o.cells := by
 unfold rowX at h
 split at h
 ·split at h
  ·cases h
  ·split at h
   ·cases h; exact hr
   ·cases h; exact (inferInstance : NoIL (enc eU8 (ls.getD j dLk).pieces)).out
 ·cases h
end Go.Lo
