/- The library's slices.Insert of one number ahead of all others, at a row of one's own: by the kit's theorems of it. -/
import Derived.Test.YtpgbplgljfjhnaaGr
import Derived.Shelf.Spec.SlicesInsertGrow
set_option linter.unusedVariables false
set_option linter.unusedSimpArgs false
namespace Go.Lo
open Go.Shelf Go.Proofs
theorem heap_setCell {w : World} {b o : Nat} {v : Value} {cur : Array Value} {e : TypeId} (h : w.heap[b]? = some (.cells cur e (0, 0))) : (w.setCell ⟨b, o, none⟩ v).heap[b]? = some (.cells (cur.setIfInBounds o v) e (0, 0)) := by
  simp [World.setCell, Array.getElem?_modify, h]
theorem heap_setCells (b : Nat) : ∀ (vs : List Value) (o : Nat) (w : World) (cur : Array Value) (e : TypeId), w.heap[b]? = some (.cells cur e (0, 0)) →
    ∃ cur', (w.setCells b o vs).heap[b]? = some (.cells cur' e (0, 0)) ∧ cur'.size = cur.size ∧ (∀ j, o ≤ j → j < o + vs.length → j < cur.size → cur'[j]? = vs[j - o]?) ∧ (∀ j, j < o ∨ o + vs.length ≤ j → cur'[j]? = cur[j]?)
  | [], o, w, cur, e, h => ⟨cur, h, rfl, fun j h1 h2 _ => by simp at h2; omega, fun j _ => rfl⟩
  | v :: r, o, w, cur, e, h => by
    obtain ⟨cur', h1, h2, h3, h4⟩ := heap_setCells b r (o + 1) _ _ e (heap_setCell (o := o) (v := v) h)
    refine ⟨cur', h1, by rw [h2]; simp, fun j k1 k2 k3 => ?_, fun j k1 => ?_⟩
    · rcases Nat.lt_or_ge o j with h5 | h5
      · rw [h3 j (by omega) (by simp at k2; omega) (by simpa using k3)]
        rw [show j - o = (j - (o + 1)) + 1 by omega, List.getElem?_cons_succ]
      · have : j = o := by omega
        subst this
        rw [h4 j (.inl (by omega)), Nat.sub_self]
        simp [k3]
    · rw [h4 j (by simp at k1; omega)]
      rw [Array.getElem?_setIfInBounds_ne (by simp at k1; omega)]
theorem setCells_rest (b : Nat) : ∀ (vs : List Value) (o : Nat) (w : World), (w.setCells b o vs).os = w.os ∧ (w.setCells b o vs).tape = w.tape ∧ (w.setCells b o vs).output = w.output ∧ (w.setCells b o vs).heap.size = w.heap.size ∧ ∀ i, i ≠ b → (w.setCells b o vs).heap[i]? = w.heap[i]?
  | [], o, w => ⟨rfl, rfl, rfl, rfl, fun _ _ => rfl⟩
  | v :: r, o, w => by
    obtain ⟨h1, h2, h3, h4, h5⟩ := setCells_rest b r (o + 1) (w.setCell ⟨b, o, none⟩ v)
    refine ⟨h1.trans rfl, h2.trans rfl, h3.trans rfl, h4.trans (by simp [World.setCell]), fun i hi => (h5 i hi).trans ?_⟩
    simp [World.setCell, Array.getElem?_modify, Ne.symm hi]

theorem enc_map (q : List Int) : enc eI q = q.map (fun n => AV.v (.int .i64 n)) := by
  induction q with
  | nil => rfl
  | cons a q ih => simp [enc, eI] at ih ⊢; exact ih
theorem R_sl_inv {w : World} {C : Ctx} {id off n : Nat} {u : Value} (h : R w C (.sl id off n) u) (hn : 0 < n) : ∃ c b, u = .slice (some ⟨b, off, none⟩) n c ∧ C.dom id ∧ C.blk id = some b ∧ n ≤ c ∧ c ≤ maxLen ∧ off + c * C.esz id = C.sz id := by
  cases h with
  | sl _ _ _ c b h1 h2 h3 h4 h5 => exact ⟨c, b, rfl, h1, h2, h3, h4, h5⟩
  | slnil _ h1 h2 => omega

/-- The post-condition, from where the new row lies. -/
theorem ins_post {w w' : World} {C : Ctx} {t : TypeId} {l : List Int} {x : Int} {b b2 c : Nat} {cur' : Array Value} (hL : Laid w C.own) (hd : ∀ i, i < 2 → C.dom i) (hdm : ∀ i, C.dom i → i < 2) (hob : ∀ b, C.own b → b < w.heap.size) (hb0 : C.blk 0 = some b)
    (hos : w'.os = w.os) (htp : w'.tape = w.tape) (hou : w'.output = w.output) (hsz : w.heap.size ≤ w'.heap.size) (hin : b2 < w'.heap.size) (hold : ∀ i, i < w.heap.size → i ≠ b → w'.heap[i]? = w.heap[i]?) (hb2 : b2 = b ∨ w.heap.size ≤ b2) (hown : C.own b)
    (hh : w'.heap[b2]? = some (.cells cur' t (0, 0))) (hcs : cur'.size = c) (hc : l.length + 1 ≤ c) (hcm : c ≤ maxLen) (hcell : ∀ j, j < l.length + 1 → cur'[j]? = ((x :: l)[j]?).map (fun n => Value.int .i64 n)) :
    FnPostG w (fun g => ∃ i, i < 2 ∧ C.blk i = some g) C.own 2 C (fun r o => r = .sl 2 0 (x :: l).length ∧ o = [.dead, .dead, .live ⟨enc eI (x :: l), t, 1⟩]) (.returned (.slice (some ⟨b2, 0, none⟩) (l.length + 1) c)) w' := by
  have hel : (enc eI (x :: l)).length = l.length + 1 := by rw [enc_length (f := eI) (s := 1) (fun _ => rfl)]; simp
  have hg : ∀ i o, obG 0 [.dead, .dead, .live ⟨enc eI (x :: l), t, 1⟩] noOb i = .live o → i = 2 ∧ o = ⟨enc eI (x :: l), t, 1⟩ := fun i o h => by
    have hh_ := obG_live h
    match i, hh_ with
    | 0, hh_ => simp at hh_
    | 1, hh_ => simp at hh_
    | 2, hh_ => simp at hh_; exact ⟨rfl, hh_.symm⟩
    | i + 3, hh_ => simp at hh_
  refine ⟨_, C.add 2 (some b2) c 1, _, _, rfl, by simp, ⟨rfl, rfl⟩, ⟨hos, htp, hou, hsz, fun i hi hG => hold i hi fun e => hG ⟨0, by omega, by rw [hb0, e]⟩⟩, ?_, ⟨fun i o h => ?_, fun i o b' h hb => ?_, fun i i' o o' b' h1 h2 _ _ => ?_, fun i h => ?_, fun b' h => ?_⟩, fun i hi => ?_, fun i o b' h hb => ?_, fun b' h => .inr h, fun b' hb' ho => ?_⟩
  · exact .sl 2 0 _ c b2 (.inl rfl) (by simp [Ctx.add]) hc hcm (by simp [Ctx.add])
  · obtain ⟨rfl, rfl⟩ := hg i o h
    exact ⟨.inl rfl, by simp [Ctx.add], fun h => by simp [Ctx.add] at h⟩
  · obtain ⟨rfl, rfl⟩ := hg i o h
    have : b' = b2 := by simp [Ctx.add] at hb; exact hb.symm
    subst this
    refine ⟨.inl rfl, cur', hh, by simp [Ctx.add, hcs], by rw [hel]; omega, fun j av hj => ?_⟩
    have hjl : j < l.length + 1 := by rw [← hel]; exact (List.getElem?_eq_some_iff.1 hj).1
    have hx : ∃ n, (x :: l)[j]? = some n ∧ av = .v (.int .i64 n) := by
      rw [enc_map, List.getElem?_map, Option.map_eq_some_iff] at hj
      obtain ⟨n, h1, h2⟩ := hj
      exact ⟨n, h1, h2.symm⟩
    obtain ⟨n, h1, rfl⟩ := hx
    exact ⟨.int .i64 n, by rw [hcell j hjl, h1]; rfl, rfl, .v _⟩
  · rw [(hg i o h1).1, (hg i' o' h2).1]
  · rcases h with h | h
    · subst h; rw [obG_get]; simp
    · have := hdm i h
      have : i = 0 ∨ i = 1 := by omega
      rcases this with rfl | rfl <;> (rw [obG_get]; simp)
  · rcases h with h | h
    · cases h; exact hin
    · exact Nat.lt_of_lt_of_le (hob b' h) hsz
  · have hne : i ≠ 2 := by omega
    exact ⟨.inr (hd i hi), by simp [Ctx.add, hne], by simp [Ctx.add, hne], by simp [Ctx.add, hne]⟩
  · obtain ⟨rfl, rfl⟩ := hg i o h
    have : b' = b2 := by simp [Ctx.add] at hb; exact hb.symm
    subst this
    rcases hb2 with h | h
    · exact .inr ⟨0, by omega, by rw [hb0, h]⟩
    · exact .inl h
  · rcases ho with ho | ho
    · cases ho
      rcases hb2 with h | h
      · exact .inl (by rw [h]; exact hown)
      · omega
    · exact .inl ho

theorem insert_G {P : Program} {ρ : Ren} (L : Lays2.n21 P ρ) (l : List Int) (x : Int) (h0 : 0 < l.length) (hl : l.length ≤ 1000000) :
    FnGO P (ρ.f 21) [⟨enc eI l, ρ.t 3, 1⟩, ⟨[.v (.int .i64 x)], ρ.t 3, 1⟩] [.sl 0 0 l.length, .v (.int .i64 0), .sl 1 0 1] (.sl 2 0 (x :: l).length) [.dead, .dead, .live ⟨enc eI (x :: l), ρ.t 3, 1⟩] := by
  intro w C vs hsz hobj hL hrel
  have hl0 : obG 0 (List.map OSt.live [⟨enc eI l, ρ.t 3, 1⟩, ⟨[.v (.int .i64 x)], ρ.t 3, 1⟩]) noOb 0 = .live ⟨enc eI l, ρ.t 3, 1⟩ := rfl
  have hl1 : obG 0 (List.map OSt.live [⟨enc eI l, ρ.t 3, 1⟩, ⟨[.v (.int .i64 x)], ρ.t 3, 1⟩]) noOb 1 = .live ⟨[.v (.int .i64 x)], ρ.t 3, 1⟩ := rfl
  obtain ⟨v0, v1, v2, rfl⟩ : ∃ v0 v1 v2, vs = #[v0, v1, v2] := by
    match vs, hsz with
    | ⟨[a, b, c]⟩, _ => exact ⟨a, b, c, rfl⟩
  have r0 := hrel 0 _ rfl
  have r1 := (hrel 1 _ rfl).v_inv
  have r2 := hrel 2 _ rfl
  simp only [Array.getD_eq_getD_getElem?, List.getElem?_toArray, List.getElem?_cons_zero, List.getElem?_cons_succ, Option.getD_some] at r0 r1 r2
  subst r1
  have hdm : ∀ i, C.dom i → i < 2 := fun i h => by
    have := hobj.dom i h
    rw [obG_get] at this
    rcases Nat.lt_or_ge i 2 with hi | hi
    · exact hi
    · rw [if_neg (by simp; omega)] at this; exact absurd rfl this
  obtain ⟨c, b, rfl, hd0, hb0, hnc, hcm, hss⟩ := R_sl_inv r0 h0
  obtain ⟨vc, vb, rfl, hd1, hb1, hn1, hcm1, hss1⟩ := R_sl_inv r2 (by omega)
  obtain ⟨he0, hz0, _⟩ := hobj.nil 0 _ hl0
  obtain ⟨he1, hz1, _⟩ := hobj.nil 1 _ hl1
  obtain ⟨ho0, cur, hh, hcs, hle, hcell⟩ := hobj.live 0 _ b hl0 hb0
  obtain ⟨ho1, cur1, hh1, hcs1, hle1, hcell1⟩ := hobj.live 1 _ vb hl1 hb1
  have hvb : vb ≠ b := fun e => by have := hobj.inj 1 0 _ _ b hl1 hl0 (by rw [hb1, e]) hb0; omega
  have hc0 : cur.size = c := by rw [hcs, ← hss, hz0]; simp
  have hc1 : 0 < cur1.size := by rw [hcs1, ← hss1, hz1]; simp; omega
  have hel : (enc eI l).length = l.length := by rw [enc_length (f := eI) (s := 1) (fun _ => rfl)]; simp
  have hcv : ∀ (j : Nat) (n : Int), l[j]? = some n → cur[j]? = some (Value.int .i64 n) := fun j n hj => by
    have he : (enc eI l)[j]? = some (AV.v (.int .i64 n)) := by rw [enc_map, List.getElem?_map, hj]; rfl
    obtain ⟨u, hu, _, hr⟩ := hcell j _ he
    rw [hu, hr.v_inv]
  have hcx : cur1[0]? = some (Value.int .i64 x) := by
    obtain ⟨u, hu, _, hr⟩ := hcell1 0 _ rfl
    rw [hu, hr.v_inv]
  have kcs : ∀ j v, (l.map (fun n => Value.int .i64 n))[j]? = some v → w.cell? ⟨b, 0 + j, none⟩ = some v := fun j v hj => by
    rw [List.getElem?_map, Option.map_eq_some_iff] at hj
    obtain ⟨n, h1, rfl⟩ := hj
    simp only [World.cell?, hh, Nat.zero_add]
    simpa using hcv j n h1
  have kvs : ∀ j v, [Value.int .i64 x][j]? = some v → w.cell? ⟨vb, 0 + j, none⟩ = some v := fun j v hj => by
    match j, hj with
    | 0, hj =>
      simp at hj; subst hj
      simp only [World.cell?, hh1]
      simpa using hcx
    | j + 1, hj => simp at hj
  have k1c : ∀ v ∈ l.map (fun n => Value.int .i64 n), v.oneCell' = true := fun v hv => by
    obtain ⟨n, _, rfl⟩ := List.mem_map.1 hv
    rfl
  have k1v : ∀ v ∈ [Value.int .i64 x], v.oneCell' = true := fun v hv => by rw [List.mem_singleton.1 hv]; rfl
  have hbw : b < w.heap.size := hobj.bnd b ho0
  have hdd : ∀ i, i < 2 → C.dom i := fun i hi => by
    have : i = 0 ∨ i = 1 := by omega
    rcases this with rfl | rfl
    · exact hd0
    · exact hd1
  rcases Nat.lt_or_ge c (l.length + 1) with hgr | hgr
  · refine (Any2.slices_Insert_int_grow L b 0 l.length c 0 vb 0 1 vc (l.map fun n => Value.int .i64 n) [.int .i64 x] w h0 (by omega) hnc hgr (by omega) (by simp) rfl kcs kvs k1c k1v).mono ?_
    rintro e w' ⟨rfl, rfl⟩
    have hG : l.length + 1 ≤ grownCap w (l.length + 1) c (ρ.t 3) := grownCap_ge w _ _ _
    have hG2 := grownCap_le_maxLen w (l.length + 1) c (ρ.t 3) (by unfold maxLen; omega)
    generalize grownCap w (l.length + 1) c (ρ.t 3) = G at hG hG2 ⊢
    generalize hrow : (((List.map (fun n => Value.int .i64 n) l).take 0).toArray ++ Builtin.zeroCells (Value.int .i64 0).cells (l.length + 1 - 0) ++ Builtin.zeroCells (Value.int .i64 0).cells (G - (l.length + 1))) = row
    have hrs : row.size = G := by rw [← hrow]; simp [Builtin.zeroCells, Value.cells]; omega
    have ha : (w.alloc (.cells row (ρ.t 3))).drew.heap[w.heap.size]? = some (.cells row (ρ.t 3) (0, 0)) := heap_alloc_new w _
    obtain ⟨cu1, g1, g2, g3, g4⟩ := heap_setCells w.heap.size [.int .i64 x] 0 _ _ _ ha
    obtain ⟨cu2, f1, f2, f3, f4⟩ := heap_setCells w.heap.size ((l.map fun n => Value.int .i64 n).drop 0) (0 + 1) (((w.alloc (.cells row (ρ.t 3))).drew.setCells w.heap.size 0 [.int .i64 x]).drew) _ _ g1
    obtain ⟨a1, a2, a3, a4, a5⟩ := setCells_rest w.heap.size [.int .i64 x] 0 (w.alloc (.cells row (ρ.t 3))).drew
    obtain ⟨b1, b2, b3, b4, b5⟩ := setCells_rest w.heap.size ((l.map fun n => Value.int .i64 n).drop 0) (0 + 1) (((w.alloc (.cells row (ρ.t 3))).drew.setCells w.heap.size 0 [.int .i64 x]).drew)
    have hsz2 : (w.alloc (.cells row (ρ.t 3))).drew.heap.size = w.heap.size + 1 := by simp [World.drew]
    refine ins_post (b := b) (b2 := w.heap.size) (c := G) (cur' := cu2) hL hdd hdm hobj.bnd hb0 (b1.trans a1) (b2.trans a2) (b3.trans a3) ?_ ?_ (fun i hi hne => ?_) (.inr (Nat.le_refl _)) ho0 f1 (by rw [f2, g2, hrs]) hG hG2 (fun j hj => ?_)
    · rw [b4]; show _ ≤ ((w.alloc (.cells row (ρ.t 3))).drew.setCells w.heap.size 0 [.int .i64 x]).heap.size; rw [a4, hsz2]; omega
    · rw [b4]; show _ < ((w.alloc (.cells row (ρ.t 3))).drew.setCells w.heap.size 0 [.int .i64 x]).heap.size; rw [a4, hsz2]; omega
    · rw [b5 i (by omega)]
      show ((w.alloc (.cells row (ρ.t 3))).drew.setCells w.heap.size 0 [.int .i64 x]).heap[i]? = _
      rw [a5 i (by omega)]
      exact heap_alloc_old w _ hi
    · cases j with
      | zero => rw [f4 0 (.inl (by omega)), g3 0 (by omega) (by simp) (by omega)]; rfl
      | succ j => rw [f3 (j + 1) (by omega) (by simp; omega) (by omega)]; simp
  · refine (Any2.slices_Insert_int_shift L b 0 l.length c 0 vb 0 1 vc (l.map fun n => Value.int .i64 n) [.int .i64 x] w h0 (by omega) hgr hcm hvb (by simp) rfl kcs (fun j hj => ?_) (fun j hj => ?_) kvs k1c k1v (ρ.t 3) (ρ.t 3) cur1.size cur.size ?_ ?_ (by omega) ?_ ?_).mono ?_
    · simp only [World.cell?, hh, Nat.zero_add]
      simp [show j < cur.size by omega]
    · simp [World.frozen?, hh]
    · simp [World.shape?, hh1]
    · simp [World.shape?, hh]
    · simp [World.frozen?, hh1]
    · simp [World.frozen?, hh1]
    rintro e w' ⟨rfl, rfl⟩
    have ha : w.drew.heap[b]? = some (.cells cur (ρ.t 3) (0, 0)) := hh
    obtain ⟨cu1, g1, g2, g3, g4⟩ := heap_setCells b ((l.map fun n => Value.int .i64 n).drop 0) (0 + (0 + 1)) _ _ _ ha
    obtain ⟨cu2, f1, f2, f3, f4⟩ := heap_setCells b [.int .i64 x] (0 + 0) _ _ _ g1
    obtain ⟨a1, a2, a3, a4, a5⟩ := setCells_rest b ((l.map fun n => Value.int .i64 n).drop 0) (0 + (0 + 1)) w.drew
    obtain ⟨b1, b2, b3, b4, b5⟩ := setCells_rest b [.int .i64 x] (0 + 0) (w.drew.setCells b (0 + (0 + 1)) ((l.map fun n => Value.int .i64 n).drop 0))
    refine ins_post (b := b) (b2 := b) (c := c) (cur' := cu2) hL hdd hdm hobj.bnd hb0 (b1.trans a1) (b2.trans a2) (b3.trans a3) (by rw [b4, a4]; exact Nat.le_refl _) (by rw [b4, a4]; exact hbw) (fun i hi hne => by rw [b5 i hne, a5 i hne]; rfl) (.inl rfl) ho0 f1 (by rw [f2, g2, hc0]) hgr hcm (fun j hj => ?_)
    cases j with
    | zero => rw [f3 0 (by omega) (by simp) (by omega)]; rfl
    | succ j => rw [f4 (j + 1) (.inr (by simp)), g3 (j + 1) (by omega) (by simp; omega) (by omega)]; simp
end Go.Lo
