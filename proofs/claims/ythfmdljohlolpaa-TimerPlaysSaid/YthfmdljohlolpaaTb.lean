/- Timers; the library's slices.SortFunc at a row of timers of one's own: by the kit's theorem of it. -/
import Derived.Test.YthfmdljohlolpaaTa
import Derived.Shelf.SlSortCmp.WholeK
set_option linter.unusedVariables false
set_option linter.unusedSimpArgs false
namespace Go.Lo
open Go.Shelf Go.Proofs Go.Sort
/-- A timer: a number, and when it ends. -/
structure Tm where
  id : Int
  at_ : Int
  deriving DecidableEq, Inhabited
def dT : Tm := ⟨0, 0⟩
def eT (x : Tm) : List AV := [.v (.int .i64 x.id), .v (.int .i64 x.at_)]
def vT (x : Tm) : List Value := [.int .i64 x.id, .int .i64 x.at_]
instance (x : Tm) : NoIL (eT x) := inferInstanceAs (NoIL [_, _])
def cmI (x y : Int) : Int := if x < y then -1 else if x > y then 1 else 0
/-- The order of two: by their ticks, then by their numbers. -/
def cmT (x y : Tm) : Int := if cmI x.at_ y.at_ = 0 then cmI x.id y.id else cmI x.at_ y.at_
def ltT (x y : Tm) : Bool := decide (x.at_ < y.at_ ∨ x.at_ = y.at_ ∧ x.id < y.id)
theorem ltOf_cm : ltOf cmT = ltT := by
  funext x y
  unfold ltOf ltT cmT cmI
  rw [decide_eq_decide]
  repeat' split
  all_goals omega
theorem swoT : SWO ltT := by
  refine ⟨fun x => ?_, fun x y z h1 h2 => ?_, fun x y z h1 h2 => ?_⟩ <;> simp only [ltT, decide_eq_true_eq, decide_eq_false_iff_not] at * <;> omega
theorem ltT_anti (x y : Tm) (h1 : ltT x y = false) (h2 : ltT y x = false) : x = y := by
  simp only [ltT, decide_eq_false_iff_not] at h1 h2
  cases x; cases y
  simp only [Tm.mk.injEq] at *
  omega
/-- Timers, in their order. -/
def sortT (l : List Tm) : List Tm := l.mergeSort fun x y => !ltT y x
theorem sortT_perm (l : List Tm) : (sortT l).Perm l := List.mergeSort_perm _ _
theorem sortT_len (l : List Tm) : (sortT l).length = l.length := (sortT_perm l).length_eq
theorem sortT_sorted (l : List Tm) : (sortT l).Pairwise fun x y => ltT y x = false := by
  have := List.pairwise_mergeSort (le := fun x y => !ltT y x) (fun a b c h1 h2 => by
    simp only [Bool.not_eq_true'] at h1 h2 ⊢
    exact swoT.ntrans c b a h2 h1) (fun a b => by
    cases h1 : ltT b a with
    | false => simp
    | true =>
      simp only [ltT, decide_eq_true_eq] at h1
      have : ltT a b = false := by simp only [ltT, decide_eq_false_iff_not]; omega
      simp [this]) l
  exact this.imp (by intro a b h; simpa using h)
theorem sortT_uniq {l m : List Tm} (hp : l.Perm m) (hs : l.Pairwise fun x y => ltT y x = false) : l = sortT m :=
  List.Perm.eq_of_pairwise (le := fun x y => ltT y x = false) (fun a b _ _ h1 h2 => ltT_anti a b h2 h1) hs (sortT_sorted m) (hp.trans (sortT_perm m).symm)
theorem eT_len (x : Tm) : (eT x).length = 2 := rfl
theorem eT_get (l : List Tm) : ∀ (t : Nat) (av : AV), (enc eT l)[t]? = some av → ∃ x, l[t / 2]? = some x ∧ av = .v ((vT x)[t % 2]!) := by
  induction l with
  | nil => intro t av h; simp [enc] at h
  | cons a l ih =>
    intro t av h
    rw [enc_cons] at h
    match t, h with
    | 0, h => simp [eT] at h; exact ⟨a, rfl, by rw [← h]; rfl⟩
    | 1, h => simp [eT] at h; exact ⟨a, rfl, by rw [← h]; rfl⟩
    | t + 2, h =>
      obtain ⟨x, h1, h2⟩ := ih t av (by simpa [eT] using h)
      refine ⟨x, ?_, ?_⟩
      · rw [show (t + 2) / 2 = t / 2 + 1 by omega, List.getElem?_cons_succ]; exact h1
      · rw [show (t + 2) % 2 = t % 2 by omega]; exact h2
theorem eT_at {l : List Tm} {t : Nat} {x : Tm} (h : l[t / 2]? = some x) : (enc eT l)[t]? = some (.v ((vT x)[t % 2]!)) := by
  have hlt : t / 2 < l.length := (List.getElem?_eq_some_iff.1 h).1
  have hl : t < (enc eT l).length := by rw [enc_length (f := eT) (s := 2) eT_len]; omega
  obtain ⟨y, h1, h2⟩ := eT_get l t _ (List.getElem?_eq_getElem hl)
  rw [h] at h1
  cases h1
  rw [List.getElem?_eq_getElem hl, h2]
theorem vT_one (x : Tm) (t : Nat) : ((vT x)[t % 2]!).oneCell' = true := by
  have : t % 2 = 0 ∨ t % 2 = 1 := by omega
  rcases this with h | h <;> rw [h] <;> rfl

/-- A function's contract, wanted by the sort: it compares, lays blocks perhaps. -/
def CmpOk (P : Program) (g : FuncId) : Prop := ∀ (x y : Tm) (W : World), Calls P g #[.agg #[.int .i64 x.id, .int .i64 x.at_], .agg #[.int .i64 y.id, .int .i64 y.at_]] W fun e w' => e = .returned (.int .i64 (cmT x y)) ∧ ∃ q os', w' = grow (W.drewN q) os'

theorem sort_G {P : Program} {ρ : Ren} (L : SlLaysF0.n6 P ρ) (aE : ∀ w, (isAgg (ρ.t 24)).run P w = .ok true w) (zE : ∀ w, (Go.sizeOf (ρ.t 24)).run P w = .ok 2 w) (g : FuncId) (eg : bodied P g = true) (hg : CmpOk P g) (p l : List Tm) (h0 : 0 < l.length) (hl : l.length ≤ 1000000) :
    FnGO P (ρ.f 6) [⟨enc eT (p ++ l), ρ.t 24, 2⟩] [.sl 0 (p.length * 2) l.length, .fn g []] (.tup []) [.live ⟨enc eT (p ++ sortT l), ρ.t 24, 2⟩] := by
  intro w C vs hsz hobj hL hrel
  have hl0 : obG 0 (List.map OSt.live [⟨enc eT (p ++ l), ρ.t 24, 2⟩]) noOb 0 = .live ⟨enc eT (p ++ l), ρ.t 24, 2⟩ := rfl
  obtain ⟨v0, v1, rfl⟩ : ∃ v0 v1, vs = #[v0, v1] := by
    match vs, hsz with
    | ⟨[a, b]⟩, _ => exact ⟨a, b, rfl⟩
  have r0 := hrel 0 _ rfl
  have r1 := hrel 1 _ rfl
  simp only [Array.getD_eq_getD_getElem?, List.getElem?_toArray, List.getElem?_cons_zero, List.getElem?_cons_succ, Option.getD_some] at r0 r1
  obtain ⟨us1, rfl, hus1, _⟩ := R_fn_inv r1
  have hus1 : us1 = #[] := Array.eq_empty_of_size_eq_zero hus1
  subst hus1
  obtain ⟨q0, hq0⟩ : ∃ q0, q0 = (C.sz 0).2 + p.length * 2 := ⟨_, rfl⟩
  obtain ⟨c, b, rfl, hd0, hb0, hnc, hcm, hss⟩ : ∃ c b, v0 = .slice (some ⟨b, q0, none⟩) l.length c ∧ C.dom 0 ∧ C.blk 0 = some b ∧ l.length ≤ c ∧ c ≤ maxLen ∧ q0 + c * C.esz 0 = (C.sz 0).1 := by
    subst hq0
    generalize hq : l.length = nn at r0 h0 ⊢
    generalize p.length * 2 = oo at r0 ⊢
    cases r0 with
    | sl _ _ _ c b h1 h2 h3 h4 h5 => exact ⟨c, b, rfl, h1, h2, h3, h4, h5⟩
    | slnil _ _ _ h1 h2 => omega
  obtain ⟨ho0, cur, hh, hcs, hle, hcell⟩ := hobj.live 0 _ b hl0 hb0
  have hbw : b < w.heap.size := hobj.bnd b ho0
  have hel : ∀ m : List Tm, (enc eT m).length = m.length * 2 := fun m => enc_length (f := eT) (s := 2) eT_len m
  have hle' : (C.sz 0).2 + (p.length + l.length) * 2 ≤ cur.size := by
    have := hle
    simp only [hel, List.length_append] at this
    exact this
  have hcv : ∀ t, t < l.length * 2 → cur[q0 + t]? = some ((vT (l.getD (t / 2) dT))[t % 2]!) := fun t ht => by
    have hx : (p ++ l)[(p.length * 2 + t) / 2]? = some (l.getD (t / 2) dT) := by
      rw [show (p.length * 2 + t) / 2 = p.length + t / 2 by omega, List.getElem?_append_right (by omega), show p.length + t / 2 - p.length = t / 2 by omega, List.getD_eq_getElem?_getD, List.getElem?_eq_getElem (by omega)]
      rfl
    obtain ⟨u, hu, _, hr⟩ := hcell _ _ (eT_at hx)
    rw [hq0, Nat.add_assoc, hu, hr.v_inv, show (p.length * 2 + t) % 2 = t % 2 by omega]
  have hH : HoldsK vT 2 w b q0 l.toArray := fun t ht => by
    have ht' : t < l.length * 2 := by simpa using ht
    refine ⟨?_, by simp [World.frozen?, hh]⟩
    simp only [World.cell?, hh]
    rw [get_flatK _ _ _ _ (by simpa using ht')]
    have := hcv t ht'
    have e : l.toArray[t / 2]! = l.getD (t / 2) dT := by
      rw [List.getD_eq_getElem?_getD, getElem!_pos l.toArray (t / 2) (by simp; omega), List.getElem?_eq_getElem (by omega)]
      simp
    rw [e]
    simpa using this
  have hcmp : CmpLays P g #[] vT 2 cmT b q0 l.toArray.size w := fun m os dk _ x y => hg x y _
  refine (AnyQ.slices_SortFunc L 2 aE zE vT (fun _ => rfl) (fun x v hv => by simp [vT] at hv; rcases hv with rfl | rfl <;> rfl) cmT (by rw [ltOf_cm]; exact swoT) g #[] b q0 c l.toArray w (run_callFunc eg) hcmp hH hbw (by simp; omega)).mono ?_
  rintro e w' ⟨rfl, d', n, os, hP, hS, rfl⟩
  have hd' : d'.toList = sortT l := by
    rw [ltOf_cm] at hS
    simpa [sortT] using sorted_unique_holds swoT ltT_anti l.toArray d' hP hS
  have hds : d'.size = l.length := by
    have := congrArg List.length hd'
    simpa [sortT_len] using this
  have hw' : ∀ i, i < w.heap.size → (sortWorldK vT 2 w b q0 n d' os).heap[i]? = if i = b then some (.cells (putCells id q0 (flatK vT 2 d') cur) (ρ.t 24) (0, 0)) else w.heap[i]? := fun i hi => by
    unfold sortWorldK putRowK putRow mapBlock grow
    simp only [Array.getElem?_append, Array.size_modify]
    rw [if_pos (by exact hi), Array.getElem?_modify]
    by_cases hib : b = i
    · subst hib
      simp only [if_true]
      show Option.map _ (w.heap[b]?) = _
      rw [hh]
      rfl
    · rw [if_neg hib, if_neg (fun e => hib e.symm)]
      rfl
  have hsz' : w.heap.size ≤ (sortWorldK vT 2 w b q0 n d' os).heap.size := by
    unfold sortWorldK
    rw [size_grow]
    unfold putRowK
    rw [Go.Sort.size_putRow]
    exact Nat.le_add_right _ _
  have hg0 : ∀ i o, obG 0 [.live ⟨enc eT (p ++ sortT l), ρ.t 24, 2⟩] noOb i = .live o → i = 0 ∧ o = ⟨enc eT (p ++ sortT l), ρ.t 24, 2⟩ := fun i o h => by
    have hh_ := obG_live h
    match i, hh_ with
    | 0, hh_ => simp at hh_; exact ⟨rfl, hh_.symm⟩
    | i + 1, hh_ => simp at hh_
  have hcur : ∀ t, t < (p.length + l.length) * 2 → (putCells id q0 (flatK vT 2 d') cur)[(C.sz 0).2 + t]? = some ((vT ((p ++ sortT l).getD (t / 2) dT))[t % 2]!) := fun t ht => by
    have hts : (C.sz 0).2 + t < cur.size := by omega
    simp only [putCells, Array.getElem?_mapIdx]
    rw [Array.getElem?_eq_getElem hts]
    simp only [Option.map_some, size_flatK, hds]
    by_cases hp : t < p.length * 2
    · rw [if_neg (by omega)]
      have hx : (p ++ l)[t / 2]? = some (p.getD (t / 2) dT) := by
        rw [List.getElem?_append_left (by omega), List.getD_eq_getElem?_getD, List.getElem?_eq_getElem (by omega)]
        rfl
      obtain ⟨u, hu, _, hr⟩ := hcell _ _ (eT_at hx)
      rw [Array.getElem?_eq_getElem hts] at hu
      rw [hu, hr.v_inv, List.getD_eq_getElem?_getD, List.getD_eq_getElem?_getD, List.getElem?_append_left (by omega)]
    · rw [if_pos (by omega)]
      have e : d'[((C.sz 0).2 + t - q0) / 2]! = (p ++ sortT l).getD (t / 2) dT := by
        rw [List.getD_eq_getElem?_getD, List.getElem?_append_right (by omega), show t / 2 - p.length = ((C.sz 0).2 + t - q0) / 2 by omega, ← hd', getElem!_pos d' _ (by omega), List.getElem?_eq_getElem (by simp; omega)]
        simp
      rw [get_flatK _ _ _ _ (by omega), e, show ((C.sz 0).2 + t - q0) % 2 = t % 2 by omega]
      rfl
  refine ⟨_, C, _, _, rfl, by simp, ⟨rfl, rfl⟩, ⟨rfl, rfl, rfl, hsz', fun i hi hG => ?_⟩, ?_, ⟨fun i o h => ?_, fun i o b' h hb => ?_, fun i i' o o' b' h1 h2 _ _ => ?_, fun i h => ?_, fun b' h => Nat.lt_of_lt_of_le (hobj.bnd b' h) hsz'⟩, fun i hi => ?_, fun i o b' h hb => ?_, fun b' h => h, fun b' _ ho => .inl ho⟩
  · rw [hw' i hi, if_neg (fun e => hG ⟨0, by simp, by rw [hb0, e]⟩)]
  · exact .tup [] #[] rfl (fun j av hj => by simp at hj)
  · obtain ⟨rfl, rfl⟩ := hg0 i o h
    obtain ⟨k1, k2, k3⟩ := hobj.nil 0 _ hl0
    exact ⟨k1, k2, fun hb => by rw [hb0] at hb; cases hb⟩
  · obtain ⟨rfl, rfl⟩ := hg0 i o h
    rw [hb0] at hb
    cases hb
    refine ⟨ho0, _, by rw [hw' b hbw, if_pos rfl], by simp [putCells, hcs], by simp [putCells, hel, sortT_len]; omega, fun j av hj => ?_⟩
    have hjl : j < (p.length + l.length) * 2 := by
      have := (List.getElem?_eq_some_iff.1 hj).1
      rw [hel] at this
      simpa [sortT_len] using this
    obtain ⟨x, h1, rfl⟩ := eT_get _ j av hj
    refine ⟨_, hcur j hjl, vT_one _ _, ?_⟩
    rw [List.getD_eq_getElem?_getD, h1]
    exact .v _
  · rw [(hg0 i o h1).1, (hg0 i' o' h2).1]
  · have := hobj.dom i h
    rw [obG_get] at this ⊢
    by_cases hi : i = 0
    · subst hi; simp
    · rw [if_neg (by simp; omega)] at this
      exact absurd rfl this
  · exact ⟨by have : i = 0 := by simpa using hi
              subst this; exact hd0, rfl, rfl, rfl⟩
  · obtain ⟨rfl, rfl⟩ := hg0 i o h
    exact .inr ⟨0, by simp, hb⟩
end Go.Lo
