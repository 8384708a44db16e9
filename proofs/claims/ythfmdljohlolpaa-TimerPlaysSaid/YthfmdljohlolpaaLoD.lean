/- Calls and functions, in the logic of values. -/
import Derived.Test.YthfmdljohlolpaaLoC
set_option linter.unusedVariables false
set_option linter.unusedSimpArgs false
namespace Go.Lo

/-! ### what a value names -/
inductive Ok (p : Nat → Prop) (ro : Prop) : AV → Prop
  | any : Ok p ro .any
  | one : Ok p ro .one
  | v (x : Value) : Ok p ro (.v x)
  | ro (n : Nat) (cells : List AV) (hr : ro) (h : ∀ c, c ∈ cells → Ok p ro c) : Ok p ro (.ro n cells)
  | rp (cells : List AV) (hr : ro) (h : ∀ c, c ∈ cells → Ok p ro c) : Ok p ro (.rp cells)
  | sl (id off n : Nat) (h : p id) : Ok p ro (.sl id off n)
  | pt (id off : Nat) (h : p id) : Ok p ro (.pt id off)
  | agg (cells : List AV) (h : ∀ c, c ∈ cells → Ok p ro c) : Ok p ro (.agg cells)
  | tup (cells : List AV) (h : ∀ c, c ∈ cells → Ok p ro c) : Ok p ro (.tup cells)
  | fn (f : FuncId) (cells : List AV) (h : ∀ c, c ∈ cells → Ok p ro c) : Ok p ro (.fn f cells)
/-- Nothing of anybody's own. -/
abbrev NoId : AV → Prop := Ok (fun _ => False) True
abbrev NoIds (l : List AV) : Prop := ∀ c, c ∈ l → NoId c
theorem oks_nil {p : Nat → Prop} {ro : Prop} : ∀ c, c ∈ ([] : List AV) → Ok p ro c := fun c h => by cases h
theorem oks_cons {p : Nat → Prop} {ro : Prop} {a : AV} {l : List AV} (h1 : Ok p ro a) (h : ∀ c, c ∈ l → Ok p ro c) : ∀ c, c ∈ a :: l → Ok p ro c := fun c hc => by
  rcases List.mem_cons.1 hc with rfl | hc
  · exact h1
  · exact h c hc
theorem oks_append {p : Nat → Prop} {ro : Prop} {a l : List AV} (h1 : ∀ c, c ∈ a → Ok p ro c) (h : ∀ c, c ∈ l → Ok p ro c) : ∀ c, c ∈ a ++ l → Ok p ro c := fun c hc => by
  rcases List.mem_append.1 hc with hc | hc
  · exact h1 c hc
  · exact h c hc
theorem Ok.mono {p p' : Nat → Prop} {ro ro' : Prop} (hp : ∀ i, p i → p' i) (hr : ro → ro') {av : AV} (h : Ok p ro av) : Ok p' ro' av := by
  induction h with
  | any => exact .any
  | one => exact .one
  | v x => exact .v x
  | ro n cells h _ ih => exact .ro n cells (hr h) ih
  | rp cells h _ ih => exact .rp cells (hr h) ih
  | sl id off n h => exact .sl id off n (hp _ h)
  | pt id off h => exact .pt id off (hp _ h)
  | agg cells _ ih => exact .agg cells ih
  | tup cells _ ih => exact .tup cells ih
  | fn f cells _ ih => exact .fn f cells ih

mutual
def AV.map (σ : Nat → Nat) : AV → AV
  | .any => .any
  | .one => .one
  | .v x => .v x
  | .ro n cells => .ro n (AV.mapL σ cells)
  | .rp cells => .rp (AV.mapL σ cells)
  | .sl id off n => .sl (σ id) off n
  | .pt id off => .pt (σ id) off
  | .agg cells => .agg (AV.mapL σ cells)
  | .tup cells => .tup (AV.mapL σ cells)
  | .fn f cells => .fn f (AV.mapL σ cells)
def AV.mapL (σ : Nat → Nat) : List AV → List AV
  | [] => []
  | a :: l => AV.map σ a :: AV.mapL σ l
end
theorem mapL_eq (σ : Nat → Nat) (l : List AV) : AV.mapL σ l = l.map (AV.map σ) := by
  induction l with
  | nil => rfl
  | cons a l ih => simp [AV.mapL, ih]
theorem map_noId {σ : Nat → Nat} {av : AV} (h : NoId av) : av.map σ = av := by
  induction h with
  | any | one | v => simp [AV.map]
  | ro n cells _ _ ih => simp only [AV.map, mapL_eq]; rw [List.map_id'' ?_]; exact ih
  | rp cells _ _ ih => simp only [AV.map, mapL_eq]; rw [List.map_id'' ?_]; exact ih
  | sl id off n h => exact h.elim
  | pt id off h => exact h.elim
  | agg cells _ ih => simp only [AV.map, mapL_eq]; rw [List.map_id'' ?_]; exact ih
  | tup cells _ ih => simp only [AV.map, mapL_eq]; rw [List.map_id'' ?_]; exact ih
  | fn f cells _ ih => simp only [AV.map, mapL_eq]; rw [List.map_id'' ?_]; exact ih
where
  List.map_id'' {l : List AV} {σ : Nat → Nat} (h : ∀ c, c ∈ l → AV.map σ c = c) : l.map (AV.map σ) = l := by
    induction l with
    | nil => rfl
    | cons a l ih => rw [List.map_cons, h a List.mem_cons_self, ih (fun c hc => h c (List.mem_cons_of_mem _ hc))]
theorem mapL_noId {σ : Nat → Nat} {l : List AV} (h : NoIds l) : AV.mapL σ l = l := by
  induction l with
  | nil => rfl
  | cons a l ih => simp only [AV.mapL]; rw [map_noId (h a List.mem_cons_self), ih (fun c hc => h c (List.mem_cons_of_mem _ hc))]

/-- Other names, another reader. -/
theorem R.map {w : World} {C C2 : Ctx} {σ : Nat → Nat} {p : Nat → Prop} {ro : Prop} (hid : ∀ id, p id → C.dom id → C2.dom (σ id) ∧ C2.blk (σ id) = C.blk id ∧ C2.sz (σ id) = C.sz id ∧ C2.esz (σ id) = C.esz id)
    (hown : ro → ∀ b, ¬ C.own b → ¬ C2.own b) {av : AV} {u : Value} (h : R w C av u) (hok : Ok p ro av) : R w C2 (av.map σ) u := by
  have rel : ∀ (cells : List AV) (g : Nat → Value), (∀ c, c ∈ cells → Ok p ro c) → (∀ j av, cells[j]? = some av → Ok p ro av → R w C2 (av.map σ) (g j)) → ∀ j av, (AV.mapL σ cells)[j]? = some av → R w C2 av (g j) := by
    intro cells g hc ih j av hj
    rw [mapL_eq, List.getElem?_map, Option.map_eq_some_iff] at hj
    obtain ⟨c, hj, rfl⟩ := hj
    exact ih j c hj (hc c (List.mem_of_getElem? hj))
  have len : ∀ cells, (AV.mapL σ cells).length = cells.length := fun cells => by rw [mapL_eq]; simp
  induction h with
  | any u => exact .any u
  | one u h => exact .one u h
  | v x => exact .v x
  | ro n c A cells us hc hm h0 hcell _ ih =>
    cases hok with
    | ro _ _ hr hcs =>
      refine .ro n c A _ us hc hm h0 (fun j hj => ?_) (rel cells us hcs (fun j av h1 h2 => ih j av h1 h2))
      obtain ⟨ad, h1, h2, h3⟩ := hcell j (by rw [len] at hj; exact hj)
      exact ⟨ad, h1, hown hr _ h2, h3⟩
  | rp ad cells us hcell _ ih =>
    cases hok with
    | rp _ hr hcs =>
      refine .rp ad _ us (fun j hj => ?_) (rel cells us hcs (fun j av h1 h2 => ih j av h1 h2))
      obtain ⟨h2, h3⟩ := hcell j (by rw [len] at hj; exact hj)
      exact ⟨hown hr _ h2, h3⟩
  | sl id off n c b hd hb hn hm hs =>
    cases hok with
    | sl _ _ _ hp =>
      obtain ⟨h1, h2, h3, h4⟩ := hid id hp hd
      exact .slB h1 (by rw [h2]; exact hb) hn hm (by rw [h3, h4]; exact hs) (by rw [h3])
  | slnil id A hA hd hb =>
    cases hok with
    | sl _ _ _ hp =>
      obtain ⟨h1, h2, _, _⟩ := hid id hp hd
      exact .slnil _ A hA h1 (by rw [h2]; exact hb)
  | pt id off b hd hb =>
    cases hok with
    | pt _ _ hp =>
      obtain ⟨h1, h2, h3, _⟩ := hid id hp hd
      exact .ptB h1 (by rw [h2]; exact hb) (by rw [h3])
  | agg cells us hs _ ih =>
    cases hok with
    | agg _ hcs => exact .agg _ us (by rw [len]; exact hs) (rel cells _ hcs (fun j av h1 h2 => ih j av h1 h2))
  | tup cells us hs _ ih =>
    cases hok with
    | tup _ hcs => exact .tup _ us (by rw [len]; exact hs) (rel cells _ hcs (fun j av h1 h2 => ih j av h1 h2))
  | fn f cells us hs _ ih =>
    cases hok with
    | fn _ _ hcs => exact .fn f _ us (by rw [len]; exact hs) (rel cells _ hcs (fun j av h1 h2 => ih j av h1 h2))

/-! ### what is lent to a call -/
inductive Lend (ob : Nat → OSt) : AV → AV → Prop
  | any (av : AV) : Lend ob av .any
  | one (av : AV) (h : isOne av = true) : Lend ob av .one
  | same (av : AV) (h : NoId av) : Lend ob av av
  | nil : Lend ob (.v (.slice none 0 0)) (.ro 0 [])
  | sl (id off n : Nat) (o : LObj) (cs : List AV) (hl : ob id = .live o) (hlen : cs.length = n * o.esz) (hle : off + n * o.esz ≤ o.cells.length) (h : ∀ (j : Nat) (a b : AV), o.cells[off + j]? = some a → cs[j]? = some b → Lend ob a b) : Lend ob (.sl id off n) (.ro n cs)
  | pt (id off : Nat) (o : LObj) (cs : List AV) (hl : ob id = .live o) (hle : off + cs.length ≤ o.cells.length) (h : ∀ (j : Nat) (a b : AV), o.cells[off + j]? = some a → cs[j]? = some b → Lend ob a b) : Lend ob (.pt id off) (.rp cs)
  | agg (as cs : List AV) (hlen : cs.length = as.length) (h : ∀ (j : Nat) (a b : AV), as[j]? = some a → cs[j]? = some b → Lend ob a b) : Lend ob (.agg as) (.agg cs)
  | tup (as cs : List AV) (hlen : cs.length = as.length) (h : ∀ (j : Nat) (a b : AV), as[j]? = some a → cs[j]? = some b → Lend ob a b) : Lend ob (.tup as) (.tup cs)
  | fn (f : FuncId) (as cs : List AV) (hlen : cs.length = as.length) (h : ∀ (j : Nat) (a b : AV), as[j]? = some a → cs[j]? = some b → Lend ob a b) : Lend ob (.fn f as) (.fn f cs)
  | rpw (as cs : List AV) (hlen : cs.length = as.length) (h : ∀ (j : Nat) (a b : AV), as[j]? = some a → cs[j]? = some b → Lend ob a b) : Lend ob (.rp as) (.rp cs)
  | row (n : Nat) (as cs : List AV) (hlen : cs.length = as.length) (h : ∀ (j : Nat) (a b : AV), as[j]? = some a → cs[j]? = some b → Lend ob a b) : Lend ob (.ro n as) (.ro n cs)
def Lends (ob : Nat → OSt) (as cs : List AV) : Prop := cs.length = as.length ∧ ∀ (j : Nat) (a b : AV), as[j]? = some a → cs[j]? = some b → Lend ob a b
theorem lends_nil {ob : Nat → OSt} : Lends ob [] [] := ⟨rfl, fun j a b h => by simp at h⟩
theorem lends_cons {ob : Nat → OSt} {a c : AV} {as cs : List AV} (h1 : Lend ob a c) (h : Lends ob as cs) : Lends ob (a :: as) (c :: cs) := by
  refine ⟨by simp [h.1], fun j x y hx hy => ?_⟩
  cases j with
  | zero => simp at hx hy; subst hx; subst hy; exact h1
  | succ j => exact h.2 j x y (by simpa using hx) (by simpa using hy)
theorem lends_same {ob : Nat → OSt} {as : List AV} (h : NoIds as) : Lends ob as as := ⟨rfl, fun j a b hx hy => by
  rw [hx] at hy; cases hy; exact .same a (h a (List.mem_of_getElem? hx))⟩
theorem lend_sl {ob : Nat → OSt} {id n : Nat} {o : LObj} (hl : ob id = .live o) (hlen : o.cells.length = n * o.esz) (h : NoIds o.cells) : Lend ob (.sl id 0 n) (.ro n o.cells) :=
  .sl id 0 n o o.cells hl hlen (by omega) (fun j a b hx hy => by rw [Nat.zero_add] at hx; rw [hx] at hy; cases hy; exact .same a (h a (List.mem_of_getElem? hx)))
theorem lend_pt {ob : Nat → OSt} {id : Nat} {o : LObj} {cs : List AV} (hl : ob id = .live o) (h : Lends ob o.cells cs) : Lend ob (.pt id 0) (.rp cs) :=
  .pt id 0 o cs hl (by rw [h.1]; omega) (fun j a b hx hy => h.2 j a b (by rw [Nat.zero_add] at hx; exact hx) hy)
theorem lend_rpw {ob : Nat → OSt} {as cs : List AV} (h : Lends ob as cs) : Lend ob (.rp as) (.rp cs) := .rpw as cs h.1 h.2
theorem lend_agg {ob : Nat → OSt} {as cs : List AV} (h : Lends ob as cs) : Lend ob (.agg as) (.agg cs) := .agg as cs h.1 h.2
theorem lend_fn {ob : Nat → OSt} {f : FuncId} {as cs : List AV} (h : Lends ob as cs) : Lend ob (.fn f as) (.fn f cs) := .fn f as cs h.1 h.2
theorem lends_append {ob : Nat → OSt} {as cs as' cs' : List AV} (h1 : Lends ob as cs) (h : Lends ob as' cs') : Lends ob (as ++ as') (cs ++ cs') := by
  induction as generalizing cs with
  | nil =>
    have : cs = [] := List.eq_nil_of_length_eq_zero (by simpa using h1.1)
    subst this
    exact h
  | cons a as ih =>
    cases cs with
    | nil => have := h1.1; simp at this
    | cons c cs =>
      refine lends_cons (h1.2 0 a c rfl rfl) (ih ⟨by have := h1.1; simpa using this, fun j x y hx hy => h1.2 (j + 1) x y (by simpa using hx) (by simpa using hy)⟩)

theorem Lend.more {ob ob' : Nat → OSt} (h : ∀ id o, ob id = .live o → ob' id = .live o) {a b : AV} (hl : Lend ob a b) : Lend ob' a b := by
  induction hl with
  | any av => exact .any av
  | one av h => exact .one av h
  | same av h => exact .same av h
  | nil => exact .nil
  | sl id off n o cs hl h1 h2 _ ih => exact .sl id off n o cs (h _ _ hl) h1 h2 ih
  | pt id off o cs hl h1 _ ih => exact .pt id off o cs (h _ _ hl) h1 ih
  | agg as cs h1 _ ih => exact .agg as cs h1 ih
  | tup as cs h1 _ ih => exact .tup as cs h1 ih
  | fn f as cs h1 _ ih => exact .fn f as cs h1 ih
  | rpw as cs h1 _ ih => exact .rpw as cs h1 ih
  | row n as cs h1 _ ih => exact .row n as cs h1 ih
theorem Lends.more {ob ob' : Nat → OSt} {as bs : List AV} (hl : Lends ob as bs) (h : ∀ id o, ob id = .live o → ob' id = .live o) : Lends ob' as bs := ⟨hl.1, fun j a b h1 h2 => (hl.2 j a b h1 h2).more h⟩
theorem Lend.noId {ob : Nat → OSt} {a b : AV} (hl : Lend ob a b) : NoId b := by
  have get : ∀ {as cs : List AV} {k : Nat}, k + cs.length ≤ as.length → (∀ (j : Nat) (a b : AV), as[k + j]? = some a → cs[j]? = some b → NoId b) → NoIds cs := fun {as cs k} hlen ih c hc => by
    obtain ⟨j, hj⟩ := List.getElem?_of_mem hc
    have hl := (List.getElem?_eq_some_iff.1 hj).1
    exact ih j _ c (List.getElem?_eq_getElem (by omega)) hj
  induction hl with
  | any av => exact .any
  | one av h => exact .one
  | same av h => exact h
  | nil => exact .ro _ _ trivial (fun c h => by cases h)
  | sl id off n o cs hl h1 h2 _ ih => exact .ro _ _ trivial (get (by omega) ih)
  | pt id off o cs hl h1 _ ih => exact .rp _ trivial (get h1 ih)
  | agg as cs h1 _ ih => exact .agg _ (get (as := as) (cs := cs) (k := 0) (by omega) (by simpa using ih))
  | tup as cs h1 _ ih => exact .tup _ (get (as := as) (cs := cs) (k := 0) (by omega) (by simpa using ih))
  | fn f as cs h1 _ ih => exact .fn _ _ (get (as := as) (cs := cs) (k := 0) (by omega) (by simpa using ih))
  | rpw as cs h1 _ ih => exact .rp _ trivial (get (as := as) (cs := cs) (k := 0) (by omega) (by simpa using ih))
  | row n as cs h1 _ ih => exact .ro _ _ trivial (get (as := as) (cs := cs) (k := 0) (by omega) (by simpa using ih))

def C0 (X : Nat → Prop) : Ctx := ⟨fun _ => none, fun _ => (0, 0), fun _ => 0, fun _ => False, X⟩

section
variable {P : Program} {E : Env0} {st : St} {K : St → Prop}

theorem SR.lendG {C : Ctx} {a : Act} {w : World} (hs : SR E C st a w) {ob : Nat → OSt} (hob : ∀ id o, ob id = .live o → st.ob id = .live o) (X : Nat → Prop) (hX : ∀ b, X b → C.own b ∧ ∀ id o, ob id = .live o → C.blk id ≠ some b) {av av' : AV} {u : Value} (hl : Lend ob av av') (h : R w C av u) : R w (C0 X) av' u := by
  induction hl generalizing u with
  | any => exact .any u
  | one av h1 => exact .one u (R_one h h1)
  | same av hno =>
    have := R.map (C2 := C0 X) (σ := id) (fun _ h _ => h.elim) (fun _ b hb hx => hb (hX b hx).1) h hno
    rwa [map_noId hno] at this
  | nil =>
    cases h
    exact .ro 0 0 none [] (fun _ => undef) (Nat.le_refl _) (Nat.zero_le _) (fun _ => ⟨rfl, rfl⟩) (fun j hj => by simp at hj) (fun j av hj => by simp at hj)
  | sl id off n o cs hlv hlen hle hcs ih =>
    cases h with
    | sl _ _ _ c b hd hb hn hm hss =>
      obtain ⟨hown, cur, hh, _, hcl, hcell⟩ := hs.obj.live id o b (hob _ _ hlv) hb
      have hnX : ¬ X b := fun hx => (hX b hx).2 id o hlv hb
      have hcur : ∀ j, j < cs.length → ∃ x, o.cells[off + j]? = some x ∧ cur[(C.sz id).2 + (off + j)]? = some ((cur[(C.sz id).2 + (off + j)]?).getD undef) ∧ ((cur[(C.sz id).2 + (off + j)]?).getD undef).oneCell' = true ∧ R w C x ((cur[(C.sz id).2 + (off + j)]?).getD undef) := fun j hj => by
        have hj2 : off + j < o.cells.length := by omega
        obtain ⟨u, hu, h1, hr⟩ := hcell (off + j) o.cells[off + j] (List.getElem?_eq_getElem hj2)
        exact ⟨_, List.getElem?_eq_getElem hj2, by rw [hu]; rfl, by rw [hu]; exact h1, by rw [hu]; exact hr⟩
      refine .ro n c _ cs (fun j => (cur[(C.sz id).2 + (off + j)]?).getD undef) hn hm (fun e => by cases e) (fun j hj => ?_) (fun j av hj => ?_)
      · obtain ⟨x, _, h1, h2, _⟩ := hcur j hj
        refine ⟨_, rfl, hnX, ?_, h2⟩
        rw [add_plain, Nat.add_assoc]
        simp only [World.cell?, hh]
        simpa using h1
      · obtain ⟨x, hx, _, _, h3⟩ := hcur j (List.getElem?_eq_some_iff.1 hj).1
        exact ih j x av hx hj h3
    | slnil _ A hA hd hb =>
      have hc := (hs.obj.nil id o (hob _ _ hlv)).2.2 hb
      have h0 : cs = [] := List.eq_nil_of_length_eq_zero (by rw [hc] at hle; simp at hle; omega)
      subst h0
      exact .ro 0 0 A [] (fun _ => undef) (Nat.le_refl _) (Nat.zero_le _) (fun _ => ⟨rfl, rfl⟩) (fun j hj => by simp at hj) (fun j av hj => by simp at hj)
  | pt id off o cs hlv hle hcs ih =>
    cases h with
    | pt _ _ b hd hb =>
      obtain ⟨hown, cur, hh, _, hcl, hcell⟩ := hs.obj.live id o b (hob _ _ hlv) hb
      have hnX : ¬ X b := fun hx => (hX b hx).2 id o hlv hb
      have hcur : ∀ j, j < cs.length → ∃ x, o.cells[off + j]? = some x ∧ cur[(C.sz id).2 + (off + j)]? = some ((cur[(C.sz id).2 + (off + j)]?).getD undef) ∧ ((cur[(C.sz id).2 + (off + j)]?).getD undef).oneCell' = true ∧ R w C x ((cur[(C.sz id).2 + (off + j)]?).getD undef) := fun j hj => by
        have hj2 : off + j < o.cells.length := by omega
        obtain ⟨u, hu, h1, hr⟩ := hcell (off + j) o.cells[off + j] (List.getElem?_eq_getElem hj2)
        exact ⟨_, List.getElem?_eq_getElem hj2, by rw [hu]; rfl, by rw [hu]; exact h1, by rw [hu]; exact hr⟩
      refine .rp _ cs (fun j => (cur[(C.sz id).2 + (off + j)]?).getD undef) (fun j hj => ?_) (fun j av hj => ?_)
      · obtain ⟨x, _, h1, h2, _⟩ := hcur j hj
        refine ⟨hnX, ?_, h2⟩
        rw [add_plain, Nat.add_assoc]
        simp only [World.cell?, hh]
        simpa using h1
      · obtain ⟨x, hx, _, _, h3⟩ := hcur j (List.getElem?_eq_some_iff.1 hj).1
        exact ih j x av hx hj h3
  | agg as cs hlen _ ih =>
    cases h with
    | agg _ us hsz hrel => exact .agg cs us (by rw [hlen]; exact hsz) (fun j av hj => ih j _ av (List.getElem?_eq_getElem (by have := (List.getElem?_eq_some_iff.1 hj).1; omega)) hj (hrel j _ (List.getElem?_eq_getElem (by have := (List.getElem?_eq_some_iff.1 hj).1; omega))))
  | tup as cs hlen _ ih =>
    cases h with
    | tup _ us hsz hrel => exact .tup cs us (by rw [hlen]; exact hsz) (fun j av hj => ih j _ av (List.getElem?_eq_getElem (by have := (List.getElem?_eq_some_iff.1 hj).1; omega)) hj (hrel j _ (List.getElem?_eq_getElem (by have := (List.getElem?_eq_some_iff.1 hj).1; omega))))
  | fn f as cs hlen _ ih =>
    cases h with
    | fn _ _ us hsz hrel => exact .fn f cs us (by rw [hlen]; exact hsz) (fun j av hj => ih j _ av (List.getElem?_eq_getElem (by have := (List.getElem?_eq_some_iff.1 hj).1; omega)) hj (hrel j _ (List.getElem?_eq_getElem (by have := (List.getElem?_eq_some_iff.1 hj).1; omega))))
  | rpw as cs hlen _ ih =>
    cases h with
    | rp ad _ us hcell hrel => exact .rp ad cs us (fun j hj => by obtain ⟨h1, h2⟩ := hcell j (by omega); exact ⟨fun hx => h1 (hX _ hx).1, h2⟩) (fun j av hj => ih j _ av (List.getElem?_eq_getElem (by have := (List.getElem?_eq_some_iff.1 hj).1; omega)) hj (hrel j _ (List.getElem?_eq_getElem (by have := (List.getElem?_eq_some_iff.1 hj).1; omega))))
  | row n as cs hlen _ ih =>
    cases h with
    | ro _ c A _ us hc hm h0 hcell hrel => exact .ro n c A cs us hc hm h0 (fun j hj => by obtain ⟨ad, h1, h2, h3⟩ := hcell j (by omega); exact ⟨ad, h1, fun hx => h2 (hX _ hx).1, h3⟩) (fun j av hj => ih j _ av (List.getElem?_eq_getElem (by have := (List.getElem?_eq_some_iff.1 hj).1; omega)) hj (hrel j _ (List.getElem?_eq_getElem (by have := (List.getElem?_eq_some_iff.1 hj).1; omega))))
theorem SR.lend {C : Ctx} {a : Act} {w : World} (hs : SR E C st a w) (X : Nat → Prop) (hX : ∀ b, X b → C.own b ∧ ∀ id o, st.ob id = .live o → C.blk id ≠ some b) {av av' : AV} {u : Value} (hl : Lend st.ob av av') (h : R w C av u) : R w (C0 X) av' u := hs.lendG (fun _ _ h => h) X hX hl h
end

/-! ### what a function does: 'args' are only read; its results, and the objects that it makes and hands over (named from 0 on) -/
def obOf (news : List LObj) : Nat → OSt := fun id => match news[id]? with | some o => .live o | none => .free
def FnPost (w : World) (X : Nat → Prop) (post : AV → List LObj → Prop) (e : Ending) (w' : World) : Prop :=
  ∃ v C' res news, e = .returned v ∧ post res news ∧ Fr (fun _ => False) w w' ∧ R w' C' res v ∧ ObjR w' C' (obOf news) ∧
      (∀ id b, id < news.length → C'.blk id = some b → w.heap.size ≤ b) ∧ (∀ b, X b → C'.own b) ∧ (∀ b, b < w.heap.size → C'.own b → X b)
def FnE (P : Program) (f : FuncId) (args : List AV) (post : AV → List LObj → Prop) : Prop :=
  ∀ (w : World) (X : Nat → Prop) (vs : Array Value), vs.size = args.length → (∀ b, X b → b < w.heap.size) → Laid w X → (∀ j av, args[j]? = some av → R w (C0 X) av (vs.getD j undef)) → Calls P f vs w (FnPost w X post)
/-- One result, no object. -/
def Fn (P : Program) (f : FuncId) (args : List AV) (res : AV) : Prop := FnE P f args (fun r n => r = res ∧ n = [])
/-- One result, objects. -/
def FnO (P : Program) (f : FuncId) (args : List AV) (res : AV) (news : List LObj) : Prop := FnE P f args (fun r n => r = res ∧ n = news)
theorem FnE.mono {P : Program} {f : FuncId} {args : List AV} {post post' : AV → List LObj → Prop} (h : FnE P f args post) (hp : ∀ r n, post r n → post' r n) : FnE P f args post' :=
  fun w X vs h1 h2 hL h3 => (h w X vs h1 h2 hL h3).mono fun e w' ⟨v, C', res, news, h4, h5, h6⟩ => ⟨v, C', res, news, h4, hp _ _ h5, h6⟩

/-! ### a call -/
def addO (ob : Nat → OSt) (s : Nat) : List LObj → (Nat → OSt)
  | [] => ob
  | o :: r => addO (updO ob s (.live o)) (s + 1) r
def LObj.map (σ : Nat → Nat) (o : LObj) : LObj := ⟨AV.mapL σ o.cells, o.elem, o.esz⟩
theorem addO_get (news : List LObj) : ∀ (ob : Nat → OSt) (s id : Nat), addO ob s news id = if s ≤ id ∧ id < s + news.length then (match news[id - s]? with | some o => .live o | none => ob id) else ob id := by
  induction news with
  | nil => intro ob s id; simp [addO]
  | cons o r ih =>
    intro ob s id
    simp only [addO, ih, List.length_cons]
    by_cases h : id = s
    · subst h
      rw [if_neg (by omega), updO_same, if_pos (by omega)]
      simp
    · rw [updO_ne _ _ h]
      by_cases h1 : s + 1 ≤ id ∧ id < s + 1 + r.length
      · rw [if_pos h1, if_pos (by omega)]
        rw [show id - s = (id - (s + 1)) + 1 by omega, List.getElem?_cons_succ]
      · rw [if_neg h1, if_neg (by omega)]

def bodied (P : Program) (f : FuncId) : Bool :=
  match P.funcs[f]? with
  | some fn => !(fn.name == "runtime.NumGoroutine") && fn.body.isSome
  | none => false
theorem run_callFunc {P : Program} {f : FuncId} (h : bodied P f = true) (args : Array Value) (w : World) : (callFunc f args).run P w = .ok (.enter f args) w := by
  unfold bodied at h
  split at h
  · rename_i fn hfn
    simp only [Bool.and_eq_true, Bool.not_eq_true'] at h
    obtain ⟨h1, h2⟩ := h
    have h3 : ¬ fn.body = none := by
      intro hb; rw [hb] at h2; cases h2
    have h4 : ¬ fn.name = "runtime.NumGoroutine" := by simpa using h1
    simp [callFunc, hfn, h3, h4]
  · cases h

def Cimp (C C' : Ctx) (s k : Nat) : Ctx where
  blk := fun i => if s ≤ i ∧ i < s + k then C'.blk (i - s) else C.blk i
  sz := fun i => if s ≤ i ∧ i < s + k then C'.sz (i - s) else C.sz i
  esz := fun i => if s ≤ i ∧ i < s + k then C'.esz (i - s) else C.esz i
  dom := fun i => C.dom i ∨ (s ≤ i ∧ i < s + k)
  own := fun b => C.own b ∨ C'.own b

section
variable {P : Program} {E : Env0} {st : St} {K : St → Prop}

theorem R_fn_inv {w : World} {C : Ctx} {f : FuncId} {caps : List AV} {u : Value} (h : R w C (.fn f caps) u) : ∃ us : Array Value, u = .func (.func f) #[] us ∧ us.size = caps.length ∧ ∀ j av, caps[j]? = some av → R w C av (us.getD j undef) := by
  cases h with
  | fn _ _ us hs hr => exact ⟨us, rfl, hs, hr⟩

/-- What comes back from a call, taken in under names from s on. -/
theorem SR.back {C C' : Ctx} {a : Act} {w w' : World} (hs : SR E C st a w) {X : Nat → Prop} {res : AV} {news : List LObj} {v : Value} (s : Nat) (hX : ∀ b, X b → C.own b)
    (hfr : Fr (fun _ => False) w w') (hR : R w' C' res v) (hobj : ObjR w' C' (obOf news)) (hnew : ∀ id b, id < news.length → C'.blk id = some b → w.heap.size ≤ b) (hkeep : ∀ b, X b → C'.own b)
    (hold : ∀ b, b < w.heap.size → C'.own b → X b) (hfree : ∀ i, i < news.length → st.ob (s + i) = .free)
    (hro : (∀ b, C.own b → X b) ∨ (Ok (fun _ => True) False res ∧ ∀ o, o ∈ news → ∀ c, c ∈ o.cells → Ok (fun _ => True) False c)) (hok : ∀ {ro : Prop}, ro → Ok (fun _ => True) ro res ∧ ∀ o, o ∈ news → ∀ c, c ∈ o.cells → Ok (fun _ => True) ro c)
    (dst : Option Nat) (hd : ∀ d, dst = some d → d < E.N) :
    SR E (Cimp C C' s news.length) (St.put ⟨st.env, addO st.ob s (news.map (LObj.map (· + s)))⟩ dst (res.map (· + s))) (a.put dst v) w' := by
  have hlen : (news.map (LObj.map (· + s))).length = news.length := by simp
  have hdomC' : ∀ id, C'.dom id → id < news.length := fun id hid => by
    rcases Nat.lt_or_ge id news.length with h | h
    · exact h
    · exact absurd (by simp [obOf, List.getElem?_eq_none h]) (hobj.dom id hid)
  have hnotin : ∀ id, C.dom id → ¬ (s ≤ id ∧ id < s + news.length) := fun id hid hin => by
    have := hfree (id - s) (by omega)
    rw [show s + (id - s) = id by omega] at this
    exact hs.obj.dom id hid this
  have hext : Ext w C w' (Cimp C C' s news.length) := by
    refine ⟨fun id hid => ?_, fun b hb ho h => ?_, fun b hb _ => hfr.block b hb (fun h => h)⟩
    · have := hnotin id hid
      simp [Cimp, this, hid]
    · rcases h with h | h
      · exact ho h
      · exact ho (hX b (hold b hb h))
  obtain ⟨ro, hroI, hown⟩ : ∃ ro : Prop, (Ok (fun _ => True) ro res ∧ ∀ o, o ∈ news → ∀ c, c ∈ o.cells → Ok (fun _ => True) ro c) ∧ (ro → ∀ b, ¬ C'.own b → ¬ (Cimp C C' s news.length).own b) := by
    rcases hro with h | h
    · refine ⟨True, hok trivial, fun _ b hb h2 => ?_⟩
      rcases h2 with h2 | h2
      · exact hb (hkeep b (h b h2))
      · exact hb h2
    · exact ⟨False, h, fun h => h.elim⟩
  have hid : ∀ id, True → C'.dom id → (Cimp C C' s news.length).dom (id + s) ∧ (Cimp C C' s news.length).blk (id + s) = C'.blk id ∧ (Cimp C C' s news.length).sz (id + s) = C'.sz id ∧ (Cimp C C' s news.length).esz (id + s) = C'.esz id := fun id _ hd => by
    have h1 := hdomC' id hd
    have h2 : s ≤ id + s ∧ id + s < s + news.length := by omega
    simp [Cimp, h2, show id + s - s = id by omega]
  have hlive : ∀ i o, addO st.ob s (news.map (LObj.map (· + s))) i = .live o → (∃ o0, s ≤ i ∧ i < s + news.length ∧ news[i - s]? = some o0 ∧ o = LObj.map (· + s) o0) ∨ (¬ (s ≤ i ∧ i < s + news.length) ∧ st.ob i = .live o) := fun i o h => by
    rw [addO_get, hlen] at h
    by_cases hin : s ≤ i ∧ i < s + news.length
    · rw [if_pos hin, List.getElem?_map, List.getElem?_eq_getElem (by omega)] at h
      simp only [Option.map_some] at h
      cases h
      exact .inl ⟨_, hin.1, hin.2, List.getElem?_eq_getElem (by omega), rfl⟩
    · rw [if_neg hin] at h
      exact .inr ⟨hin, h⟩
  have hob : ∀ i o0, news[i]? = some o0 → obOf news i = .live o0 := fun i o0 h => by simp [obOf, h]
  refine hs.put hext _ ⟨fun i o h => ?_, fun i o b h hb => ?_, fun i i' o1 o2 b h1 h2 h3 h4 => ?_, fun i hi => ?_, fun b hb => ?_⟩
    ⟨hfr.os.trans hs.fr.os, hfr.tape.trans hs.fr.tape, hfr.output.trans hs.fr.output, Nat.le_trans hs.fr.size hfr.size, fun b hb hg => ?_⟩ (fun i o b h hb => ?_) (fun b hb => .inl (hs.keep b hb)) (fun b hb ho => ?_) dst hd _ v (fun _ => R.map hid hown hR hroI.1)
  · rcases hlive i o h with ⟨o0, h1, h2, h3, rfl⟩ | ⟨hin, h'⟩
    · obtain ⟨k1, k2, k3⟩ := hobj.nil (i - s) o0 (hob _ _ h3)
      refine ⟨.inr ⟨h1, h2⟩, by simp [Cimp, h1, h2, LObj.map, k2], fun hb => ?_⟩
      simp only [Cimp, h1, h2, and_self, if_true] at hb
      simp [LObj.map, k3 hb, AV.mapL]
    · obtain ⟨k1, k2, k3⟩ := hs.obj.nil i o h'
      refine ⟨.inl k1, by simp [Cimp, hin, k2], fun hb => k3 ?_⟩
      simpa [Cimp, hin] using hb
  · rcases hlive i o h with ⟨o0, h1, h2, h3, rfl⟩ | ⟨hin, h'⟩
    · simp only [Cimp, h1, h2, and_self, if_true] at hb
      obtain ⟨k1, cur, k2, k3, k4, k5⟩ := hobj.live (i - s) o0 b (hob _ _ h3) hb
      refine ⟨.inr k1, cur, k2, by simp [Cimp, h1, h2, k3], by simpa [Cimp, h1, h2, LObj.map, mapL_eq] using k4, fun j av hj => ?_⟩
      simp only [LObj.map, mapL_eq, List.getElem?_map, Option.map_eq_some_iff] at hj
      obtain ⟨c, hj, rfl⟩ := hj
      obtain ⟨u, hu, k6, k7⟩ := k5 j c hj
      exact ⟨u, by simpa [Cimp, h1, h2] using hu, k6, R.map hid hown k7 (hroI.2 o0 (List.mem_of_getElem? h3) c (List.mem_of_getElem? hj))⟩
    · simp only [Cimp, hin, if_false] at hb
      obtain ⟨k1, cur, k2, k3, k4, k5⟩ := hs.obj.live i o b h' hb
      refine ⟨.inl k1, cur, (hfr.block b (hs.obj.bnd b k1) (fun h => h)).trans k2, by simp [Cimp, hin, k3], by simp only [Cimp, hin, if_false]; exact k4, fun j av hj => ?_⟩
      obtain ⟨u, hu, k6, k7⟩ := k5 j av hj
      exact ⟨u, by simp only [Cimp, hin, if_false]; exact hu, k6, k7.ext hext⟩
  · rcases hlive i o1 h1 with ⟨p1, a1, a2, a3, rfl⟩ | ⟨hin, h1'⟩ <;> rcases hlive i' o2 h2 with ⟨p2, b1, b2, b3, rfl⟩ | ⟨hin', h2'⟩
    · simp only [Cimp, a1, a2, and_self, if_true] at h3
      simp only [Cimp, b1, b2, and_self, if_true] at h4
      have := hobj.inj (i - s) (i' - s) p1 p2 b (hob _ _ a3) (hob _ _ b3) h3 h4
      omega
    · simp only [Cimp, a1, a2, and_self, if_true] at h3
      simp only [Cimp, hin', if_false] at h4
      have k1 := hnew (i - s) b (by omega) h3
      have k2 := hs.obj.bnd b (hs.obj.live i' o2 b h2' h4).1
      omega
    · simp only [Cimp, b1, b2, and_self, if_true] at h4
      simp only [Cimp, hin, if_false] at h3
      have k1 := hnew (i' - s) b (by omega) h4
      have k2 := hs.obj.bnd b (hs.obj.live i o1 b h1' h3).1
      omega
    · simp only [Cimp, hin, if_false] at h3
      simp only [Cimp, hin', if_false] at h4
      exact hs.obj.inj i i' o1 o2 b h1' h2' h3 h4
  · rw [addO_get, hlen]
    by_cases hin : s ≤ i ∧ i < s + news.length
    · rw [if_pos hin, List.getElem?_map, List.getElem?_eq_getElem (by omega)]
      intro h; cases h
    · rw [if_neg hin]
      rcases hi with hi | hi
      · exact hs.obj.dom i hi
      · exact absurd hi hin
  · rcases hb with hb | hb
    · have := hs.obj.bnd b hb
      have := hfr.size
      omega
    · exact hobj.bnd b hb
  · have := hs.fr.size
    exact (hfr.block b (by omega) (fun h => h)).trans (hs.fr.block b hb hg)
  · rcases hlive i o h with ⟨o0, h1, h2, h3, rfl⟩ | ⟨hin, h'⟩
    · simp only [Cimp, h1, h2, and_self, if_true] at hb
      have k1 := hnew (i - s) b (by omega) hb
      have := hs.fr.size
      exact .inl (by omega)
    · simp only [Cimp, hin, if_false] at hb
      exact hs.fresh i o b h' hb
  · rcases ho with ho | ho
    · exact hs.newown b hb ho
    · have := hs.fr.size
      exact hs.newown b hb (hX b (hold b (by omega) ho))

theorem ok_true {av : AV} : ∀ {u : Value} {w : World} {C : Ctx}, R w C av u → ∀ {ro : Prop}, ro → Ok (fun _ => True) ro av := by
  intro u w C h ro hro
  induction h with
  | any => exact .any
  | one => exact .one
  | v x => exact .v x
  | ro n c A cells us _ _ _ hcell hrel ih =>
    refine .ro n cells hro fun c hc => ?_
    obtain ⟨j, hj⟩ := List.mem_iff_getElem?.1 hc
    exact ih j c hj
  | rp ad cells us hcell hrel ih =>
    refine .rp cells hro fun c hc => ?_
    obtain ⟨j, hj⟩ := List.mem_iff_getElem?.1 hc
    exact ih j c hj
  | sl id off n => exact .sl id off n trivial
  | slnil id _ _ => exact .sl id 0 0 trivial
  | pt id off => exact .pt id off trivial
  | agg cells us _ _ ih =>
    refine .agg cells fun c hc => ?_
    obtain ⟨j, hj⟩ := List.mem_iff_getElem?.1 hc
    exact ih j c hj
  | tup cells us _ _ ih =>
    refine .tup cells fun c hc => ?_
    obtain ⟨j, hj⟩ := List.mem_iff_getElem?.1 hc
    exact ih j c hj
  | fn f cells us _ _ ih =>
    refine .fn f cells fun c hc => ?_
    obtain ⟨j, hj⟩ := List.mem_iff_getElem?.1 hc
    exact ih j c hj

theorem objR_nodead {w : World} {C : Ctx} {news : List LObj} (h : ObjR w C (obOf news)) {ro : Prop} (hro : ro) : ∀ o, o ∈ news → ∀ c, c ∈ o.cells → Ok (fun _ => True) ro c := by
  intro o ho c hc
  obtain ⟨i, hi⟩ := List.mem_iff_getElem?.1 ho
  have hl : obOf news i = .live o := by simp [obOf, hi]
  obtain ⟨j, hj⟩ := List.mem_iff_getElem?.1 hc
  cases hb : C.blk i with
  | none =>
    have := (h.nil i o hl).2.2 hb
    rw [this] at hc; cases hc
  | some b =>
    obtain ⟨_, cur, _, _, _, h5⟩ := h.live i o b hl hb
    obtain ⟨u, _, _, hr⟩ := h5 j c hj
    exact ok_true hr hro

/-- The core of a call. X: which blocks the callee may not read. -/
theorem aop_call0 {o : Oper} {c : Call} {cal : Operand} {args : List Operand} {tys : Array TypeId} {f : FuncId} {caps avs : List AV} {post : AV → List LObj → Prop} (lend : Bool)
    (ho : o.op = .call c) (hc : c = { callee := .value cal, args := args.toArray, argTypes := tys }) (hN : (okOp E.N cal && args.all (okOp E.N)) = true) (hd : ∀ d, o.dst = some d → d < E.N)
    (hcal : evA st.env cal = .fn f caps) (hb : bodied P f = true) (hl : Lends st.ob (args.map (evA st.env) ++ caps) avs) (hnl : lend = false → Lends (fun _ => .free) (args.map (evA st.env) ++ caps) avs)
    (hF : FnE P f avs post)
    (h : ∀ res news, post res news → ∃ s, (∀ i, i < news.length → st.ob (s + i) = .free) ∧ (lend = true → Ok (fun _ => True) False res ∧ ∀ o, o ∈ news → ∀ c, c ∈ o.cells → Ok (fun _ => True) False c) ∧
      K (St.put ⟨st.env, addO st.ob s (news.map (LObj.map (· + s)))⟩ o.dst (res.map (· + s)))) : AOp P E o st K := by
  subst hc
  simp only [Bool.and_eq_true] at hN
  rintro a w q ⟨C, hs⟩
  have hrc := hs.ev cal hN.1
  rw [hcal] at hrc
  obtain ⟨us, huc, husz, hurel⟩ := R_fn_inv hrc
  have hargs : ∀ j av, (args.map (evA st.env))[j]? = some av → R w C av ((args.map a.eval).getD j undef) := fun j av hj => by
    rw [List.getElem?_map, Option.map_eq_some_iff] at hj
    obtain ⟨x, hj, rfl⟩ := hj
    have := hs.ev x (List.all_eq_true.1 hN.2 x (List.mem_of_getElem? hj))
    simpa [hj] using this
  have hrun : (execOp a.eval o).run P w = .ok (.enter f ((args.map a.eval).toArray ++ us)) w := by
    simp [execOp, ho, resolve, huc, Deferred.ofValue, invoke, run_callFunc hb]
  let X : Nat → Prop := fun b => C.own b ∧ (lend = true → ∀ id o, st.ob id = .live o → C.blk id ≠ some b)
  have hX : ∀ b, X b → C.own b := fun b h => h.1
  have hsz : ((args.map a.eval).toArray ++ us).size = avs.length := by rw [hl.1]; simp [husz]
  have hrel : ∀ j av, avs[j]? = some av → R w (C0 X) av (((args.map a.eval).toArray ++ us).getD j undef) := fun j av hj => by
    have hjl : j < avs.length := (List.getElem?_eq_some_iff.1 hj).1
    have hjl2 : j < (args.map (evA st.env) ++ caps).length := by rw [← hl.1]; exact hjl
    have h1 : R w C (args.map (evA st.env) ++ caps)[j] (((args.map a.eval).toArray ++ us).getD j undef) := by
      by_cases hja : j < args.length
      · have h2 := hargs j _ (List.getElem?_eq_getElem (by simpa using hja))
        rw [List.getElem_append_left (by simpa using hja)]
        have : ((args.map a.eval).toArray ++ us).getD j undef = (args.map a.eval).getD j undef := by
          simp [Array.getElem?_append_left, hja]
        rw [this]
        exact h2
      · rw [List.getElem_append_right (by simp; omega)]
        have hjc : j - args.length < caps.length := by simp at hjl2; omega
        have h2 := hurel (j - args.length) _ (List.getElem?_eq_getElem hjc)
        have : ((args.map a.eval).toArray ++ us).getD j undef = us.getD (j - args.length) undef := by
          simp [Array.getElem?_append_right, Nat.not_lt.1 hja]
        rw [this]
        simpa using h2
    cases lend with
    | true => exact hs.lend X (fun b hb => ⟨hb.1, hb.2 rfl⟩) (hl.2 j _ av (List.getElem?_eq_getElem hjl2) hj) h1
    | false =>
      exact hs.lendG (ob := fun _ => .free) (fun _ _ h => by cases h) X (fun b hb => ⟨hb.1, fun _ _ h => by cases h⟩) ((hnl rfl).2 j _ av (List.getElem?_eq_getElem hjl2) hj) h1
  have hcall := hF w X _ hsz (fun b hb => hs.obj.bnd b (hX b hb)) (hs.laid.sub hX) hrel
  unfold Oper.wp
  rw [hrun]
  refine hcall.mono ?_
  rintro e w' ⟨v, C', res, news, rfl, hpost, hfr, hR, hobj, hnew, hkeep, hold⟩
  obtain ⟨s, hfree, hro, hK⟩ := h res news hpost
  refine ⟨_, ⟨_, hs.back s hX hfr hR hobj hnew hkeep hold hfree ?_ (fun hro' => ⟨ok_true hR hro', objR_nodead hobj hro'⟩) o.dst hd⟩, hK⟩
  cases lend with
  | true => exact .inr (hro rfl)
  | false => exact .inl fun b hb => ⟨hb, fun h => by cases h⟩

/-- A call to which nothing of one's own is handed: its results may lead anywhere. -/
theorem aop_call {o : Oper} {c : Call} {cal : Operand} {args : List Operand} {tys : Array TypeId} {f d : Nat} {caps avs : List AV} {res : AV}
    (ho : o.op = .call c) (hc : c = { callee := .value cal, args := args.toArray, argTypes := tys }) (hd : o.dst = some d) (hN : (okOp E.N cal && args.all (okOp E.N) && Nat.blt d E.N) = true)
    (hcal : evA st.env cal = .fn f caps) (hb : bodied P f = true) (ha : args.map (evA st.env) ++ caps = avs) (hno : NoIds avs) (hF : Fn P f avs res) (hres : NoId res)
    (h : K ⟨upd st.env d res, st.ob⟩) : AOp P E o st K := by
  rw [Bool.and_eq_true] at hN
  subst ha
  refine aop_call0 false ho hc hN.1 (fun d' hd' => by rw [hd] at hd'; cases hd'; exact blt_lt hN.2) hcal hb (lends_same hno) (fun _ => lends_same hno) hF ?_
  rintro r n ⟨rfl, rfl⟩
  refine ⟨0, (fun i hi => by simp at hi), (fun h => by cases h), ?_⟩
  rw [hd, map_noId hres]
  exact h

/-- A call to which what is one's own is lent: its result leads nowhere. -/
theorem aop_callL {o : Oper} {c : Call} {cal : Operand} {args : List Operand} {tys : Array TypeId} {f d : Nat} {caps avs : List AV} {res : AV}
    (ho : o.op = .call c) (hc : c = { callee := .value cal, args := args.toArray, argTypes := tys }) (hd : o.dst = some d) (hN : (okOp E.N cal && args.all (okOp E.N) && Nat.blt d E.N) = true)
    (hcal : evA st.env cal = .fn f caps) (hb : bodied P f = true) (hl : Lends st.ob (args.map (evA st.env) ++ caps) avs) (hF : Fn P f avs res) (hres : Ok (fun _ => False) False res)
    (h : K ⟨upd st.env d res, st.ob⟩) : AOp P E o st K := by
  rw [Bool.and_eq_true] at hN
  refine aop_call0 true ho hc hN.1 (fun d' hd' => by rw [hd] at hd'; cases hd'; exact blt_lt hN.2) hcal hb hl (fun h => by cases h) hF ?_
  rintro r n ⟨rfl, rfl⟩
  refine ⟨0, (fun i hi => by simp at hi), fun _ => ⟨hres.mono (fun _ h => h.elim) id, (fun o ho => by cases ho)⟩, ?_⟩
  rw [hd, map_noId (hres.mono (fun _ h => h) (fun h => h.elim))]
  exact h

/-- A call that is told less than there is. -/
theorem aop_callW {o : Oper} {c : Call} {cal : Operand} {args : List Operand} {tys : Array TypeId} {f d : Nat} {caps avs : List AV} {res : AV}
    (ho : o.op = .call c) (hc : c = { callee := .value cal, args := args.toArray, argTypes := tys }) (hd : o.dst = some d) (hN : (okOp E.N cal && args.all (okOp E.N) && Nat.blt d E.N) = true)
    (hcal : evA st.env cal = .fn f caps) (hb : bodied P f = true) (ha : Lends (fun _ => .free) (args.map (evA st.env) ++ caps) avs) (hF : Fn P f avs res) (hres : NoId res)
    (h : K ⟨upd st.env d res, st.ob⟩) : AOp P E o st K := by
  rw [Bool.and_eq_true] at hN
  refine aop_call0 false ho hc hN.1 (fun d' hd' => by rw [hd] at hd'; cases hd'; exact blt_lt hN.2) hcal hb (ha.more fun _ _ h => by cases h) (fun _ => ha) hF ?_
  rintro r n ⟨rfl, rfl⟩
  refine ⟨0, (fun i hi => by simp at hi), (fun h => by cases h), ?_⟩
  rw [hd, map_noId hres]
  exact h

/-- A call that hands objects over; what is one's own may be lent. -/
theorem aop_callO {o : Oper} {c : Call} {cal : Operand} {args : List Operand} {tys : Array TypeId} {f d : Nat} {caps avs : List AV} {res res' : AV} {news news' : List LObj} (s : Nat) (lend : Bool)
    (ho : o.op = .call c) (hc : c = { callee := .value cal, args := args.toArray, argTypes := tys }) (hd : o.dst = some d) (hN : (okOp E.N cal && args.all (okOp E.N) && Nat.blt d E.N) = true)
    (hcal : evA st.env cal = .fn f caps) (hb : bodied P f = true) (hl : Lends st.ob (args.map (evA st.env) ++ caps) avs) (hnl : lend = false → Lends (fun _ => .free) (args.map (evA st.env) ++ caps) avs)
    (hF : FnO P f avs res news) (hro : lend = true → Ok (fun _ => True) False res ∧ ∀ o, o ∈ news → ∀ c, c ∈ o.cells → Ok (fun _ => True) False c)
    (hfree : ∀ i, i < news.length → st.ob (s + i) = .free) (hres : res.map (· + s) = res') (hnews : news.map (LObj.map (· + s)) = news')
    (h : K ⟨upd st.env d res', addO st.ob s news'⟩) : AOp P E o st K := by
  rw [Bool.and_eq_true] at hN
  subst hres
  subst hnews
  refine aop_call0 lend ho hc hN.1 (fun d' hd' => by rw [hd] at hd'; cases hd'; exact blt_lt hN.2) hcal hb hl hnl hF ?_
  rintro r n ⟨rfl, rfl⟩
  refine ⟨s, hfree, hro, ?_⟩
  rw [hd]
  exact h
end

/-! ### a function's body -/
def envOf : List AV → Nat → AV
  | [], _ => .any
  | a :: _, 0 => a
  | _ :: l, n + 1 => envOf l n
theorem envOf_get (l : List AV) (t : Nat) : envOf l t = (l[t]?).getD .any := by
  induction l generalizing t with
  | nil => rfl
  | cons a l ih => cases t with
    | zero => rfl
    | succ t => simp [envOf, ih]

def mkV : List Value → Value
  | [u] => u
  | l => .tuple l.toArray
def mkA : List AV → AV
  | [a] => a
  | l => .tup l
/-- The function's results are these slots. -/
def ResOf (P : Program) (fn : Func) (ts : List Nat) : Prop := ∀ (tmps : Array Value) (w : World), (results fn tmps).run P w = .ok (mkV (ts.map fun t => tmps.getD t undef)) w
theorem resOf0 {P : Program} {fn : Func} (h : fn.results = #[]) : ResOf P fn [] := fun tmps w => by simp [results, h, mkV]
theorem resOf1 {P : Program} {fn : Func} {a : Nat} (h : fn.results = #[.tmp a]) : ResOf P fn [a] := fun tmps w => by simp [results, h, mkV]
theorem resOf2 {P : Program} {fn : Func} {a b : Nat} (h : fn.results = #[.tmp a, .tmp b]) : ResOf P fn [a, b] := fun tmps w => by simp [results, h, mkV]
theorem resOf3 {P : Program} {fn : Func} {a b c : Nat} (h : fn.results = #[.tmp a, .tmp b, .tmp c]) : ResOf P fn [a, b, c] := fun tmps w => by simp [results, h, mkV]
theorem resOf4 {P : Program} {fn : Func} {a b c d : Nat} (h : fn.results = #[.tmp a, .tmp b, .tmp c, .tmp d]) : ResOf P fn [a, b, c, d] := fun tmps w => by simp [results, h, mkV]
theorem resOf5 {P : Program} {fn : Func} {a b c d e : Nat} (h : fn.results = #[.tmp a, .tmp b, .tmp c, .tmp d, .tmp e]) : ResOf P fn [a, b, c, d, e] := fun tmps w => by simp [results, h, mkV]

/-- Where a name stands in a list. -/
def ix : List Nat → Nat → Nat
  | [], _ => 0
  | a :: l, x => cond (Nat.beq x a) 0 (ix l x + 1)
theorem ix_get {L : List Nat} {x : Nat} (h : x ∈ L) : L[ix L x]? = some x := by
  induction L with
  | nil => cases h
  | cons a l ih =>
    simp only [ix]
    cases hb : Nat.beq x a with
    | true => simp [Nat.eq_of_beq_eq_true hb]
    | false =>
      rcases List.mem_cons.1 h with h | h
      · subst h; simp at hb
      · simpa using ih h

/-- What a function hands back at its end. -/
def RetOk (ts : List Nat) (post : AV → List LObj → Prop) (N : Nat) (s : St) : Prop :=
  ∃ (L : List Nat) (res : AV) (news : List LObj), (ts.all fun t => Nat.blt t N) = true ∧ post res news ∧ L.Nodup ∧ (mkA (ts.map s.env)).map (ix L) = res ∧ Ok (· ∈ L) True (mkA (ts.map s.env)) ∧ news.length = L.length ∧
    ∀ (i id : Nat), L[i]? = some id → ∃ o : LObj, s.ob id = .live o ∧ news[i]? = some (LObj.map (ix L) o) ∧ ∀ c, c ∈ o.cells → Ok (· ∈ L) True c
def retQ (ts : List Nat) (post : AV → List LObj → Prop) (N : Nat) (e : Exit) (s : St) : Prop :=
  match e with
  | .normal | .ret => RetOk ts post N s
  | _ => False

theorem R_mk {w : World} {C : Ctx} {avs : List AV} {us : List Value} (hl : us.length = avs.length) (h : ∀ j a, avs[j]? = some a → R w C a (us.getD j undef)) : R w C (mkA avs) (mkV us) := by
  match avs, us, hl with
  | [], [], _ => exact .tup [] #[] rfl (fun j av hj => by simp at hj)
  | [a], [u], _ => exact h 0 a rfl
  | a :: b :: r, u :: v :: s, hl =>
    refine .tup _ _ (by simpa using hl) (fun j av hj => ?_)
    have := h j av hj
    simpa using this

theorem fnE_of_body {P : Program} {f : FuncId} {fn : Func} {c : Code} {N : Nat} {ts : List Nat} {args : List AV} {post : AV → List LObj → Prop} (hf : P.funcs[f]? = some fn) (hb : fn.body = some c) (hN : fn.ntmps = N) (hres : ResOf P fn ts) (hargs : args.length ≤ N)
    (h : ∀ w0 X hL, AWP P ⟨w0, fun _ => False, X, N, 0, C0 X, hL, fun _ _ h => h⟩ c ⟨envOf args, fun _ => .free⟩ (retQ ts post N)) : FnE P f args post := by
  intro w X vs hsz hX hL hrel
  refine calls_of_wp hf hb ?_
  have hs : SR ⟨w, fun _ => False, X, N, 0, C0 X, hL, fun _ _ h => h⟩ (C0 X) ⟨envOf args, fun _ => .free⟩ { tmps := vs ++ Array.replicate (fn.ntmps - vs.size) undef, defers := [] } w := by
    refine ⟨by simp; omega, rfl, fun t ht => ?_, ⟨(fun id o h => by cases h), (fun id o b h => by cases h), (fun i i' o1 o2 b h => by cases h), (fun id h => h.elim), hX⟩, Fr.refl _ _, (fun id o b h => by cases h), fun b h => h, fun b _ h => .inl h, fun i hi => absurd hi (Nat.not_lt_zero i), hX⟩
    show R w (C0 X) (envOf args t) _
    rw [envOf_get]
    by_cases hta : t < args.length
    · rw [List.getElem?_eq_getElem hta]
      have := hrel t _ (List.getElem?_eq_getElem hta)
      have e : (vs ++ Array.replicate (fn.ntmps - vs.size) undef).getD t undef = vs.getD t undef := by
        simp [Array.getElem?_append_left, show t < vs.size by omega]
      rw [e]
      exact this
    · rw [List.getElem?_eq_none (by omega)]
      exact .any _
  refine wp_mono (h w X hL _ w ⟨_, hs⟩) ?_
  rintro e a' w' ⟨s, ⟨C, hs'⟩, hq⟩
  have key : RetOk ts post N s → bodyPost P fn (FnPost w X post) .ret a' w' := by
    rintro ⟨L, res, news, htN, hpost, hnd, hmap, hok, hnl, hL⟩
    refine ⟨hs'.defers, _, hres a'.tmps w', ?_⟩
    have hR : R w' C (mkA (ts.map s.env)) (mkV (ts.map fun t => a'.tmps.getD t undef)) := R_mk (by simp) (fun j av hj => by
      rw [List.getElem?_map, Option.map_eq_some_iff] at hj
      obtain ⟨t, hj, rfl⟩ := hj
      have ht := List.all_eq_true.1 htN t (List.mem_of_getElem? hj)
      have := hs'.env t (blt_lt ht)
      simpa [hj] using this)
    let C2 : Ctx := ⟨fun i => (L[i]?).bind C.blk, fun i => ((L[i]?).map C.sz).getD (0, 0), fun i => ((L[i]?).map C.esz).getD 0, fun i => i < L.length, C.own⟩
    have hid : ∀ id, id ∈ L → C.dom id → C2.dom (ix L id) ∧ C2.blk (ix L id) = C.blk id ∧ C2.sz (ix L id) = C.sz id ∧ C2.esz (ix L id) = C.esz id := fun id hm _ => by
      have hg := ix_get hm
      exact ⟨(List.getElem?_eq_some_iff.1 hg).1, by simp [C2, hg], by simp [C2, hg], by simp [C2, hg]⟩
    have hown : True → ∀ b, ¬ C.own b → ¬ C2.own b := fun _ b h => h
    have hobL : ∀ i o, obOf news i = .live o → ∃ id o', L[i]? = some id ∧ s.ob id = .live o' ∧ o = LObj.map (ix L) o' ∧ ∀ c, c ∈ o'.cells → Ok (· ∈ L) True c := fun i o h => by
      unfold obOf at h
      split at h
      · rename_i o0 hn
        cases h
        have hi : i < L.length := by rw [← hnl]; exact (List.getElem?_eq_some_iff.1 hn).1
        obtain ⟨o', h1, h2, h3⟩ := hL i L[i] (List.getElem?_eq_getElem hi)
        rw [hn] at h2
        cases h2
        exact ⟨_, o', List.getElem?_eq_getElem hi, h1, rfl, h3⟩
      · cases h
    refine ⟨_, C2, res, news, rfl, hpost, hs'.fr, by rw [← hmap]; exact R.map hid hown hR hok, ⟨fun i o h => ?_, fun i o b h hb => ?_, fun i i' o1 o2 b h1 h2 h3 h4 => ?_, fun i hi => ?_, hs'.obj.bnd⟩, fun i b hi hb => ?_, hs'.keep, fun b hb ho => ?_⟩
    · obtain ⟨id, o', h1, h2, rfl, _⟩ := hobL i o h
      obtain ⟨k1, k2, k3⟩ := hs'.obj.nil id o' h2
      refine ⟨(List.getElem?_eq_some_iff.1 h1).1, by simp [C2, h1, LObj.map, k2], fun hb => ?_⟩
      have : C.blk id = none := by simpa [C2, h1] using hb
      simp [LObj.map, k3 this, AV.mapL]
    · obtain ⟨id, o', h1, h2, rfl, h3⟩ := hobL i o h
      have hb' : C.blk id = some b := by simpa [C2, h1] using hb
      obtain ⟨k1, cur, k2, k4, k5, k6⟩ := hs'.obj.live id o' b h2 hb'
      refine ⟨k1, cur, k2, by simp [C2, h1, k4], by simpa [C2, h1, LObj.map, mapL_eq] using k5, fun j av hj => ?_⟩
      simp only [LObj.map, mapL_eq, List.getElem?_map, Option.map_eq_some_iff] at hj
      obtain ⟨c, hj, rfl⟩ := hj
      obtain ⟨u, hu, k7, k8⟩ := k6 j c hj
      exact ⟨u, by simpa [C2, h1] using hu, k7, R.map hid hown k8 (h3 c (List.mem_of_getElem? hj))⟩
    · obtain ⟨id, o', a1, a2, _, _⟩ := hobL i o1 h1
      obtain ⟨id2, o'', b1, b2, _, _⟩ := hobL i' o2 h2
      have e1 : C.blk id = some b := by simpa [C2, a1] using h3
      have e2 : C.blk id2 = some b := by simpa [C2, b1] using h4
      have e3 := hs'.obj.inj id id2 o' o'' b a2 b2 e1 e2
      subst e3
      obtain ⟨l1, m1⟩ := List.getElem?_eq_some_iff.1 a1
      obtain ⟨l2, m2⟩ := List.getElem?_eq_some_iff.1 b1
      exact (List.getElem_inj (h₀ := l1) (h₁ := l2) hnd).1 (m1.trans m2.symm)
    · have hi' : i < news.length := by rw [hnl]; exact hi
      simp [obOf, hi']
    · have hi' : i < L.length := by rw [← hnl]; exact hi
      obtain ⟨o', h1, _, _⟩ := hL i L[i] (List.getElem?_eq_getElem hi')
      have hb' : C.blk L[i] = some b := by simpa [C2, List.getElem?_eq_getElem hi'] using hb
      rcases hs'.fresh _ _ b h1 hb' with h | h
      · exact h
      · exact h.elim
    · rcases hs'.newown b hb ho with h | h
      · exact h
      · exact h.elim
  cases e with
  | normal => exact key hq
  | ret => exact key hq
  | _ => exact hq.elim

/-- At the end: nothing of one's own goes out. -/
theorem ret0 {ts : List Nat} {post : AV → List LObj → Prop} {N : Nat} {s : St} {res : AV} (hN : (ts.all fun t => Nat.blt t N) = true) (hr : mkA (ts.map s.env) = res) (hno : NoId res) (hp : post res []) : RetOk ts post N s :=
  ⟨[], res, [], hN, hp, List.nodup_nil, by rw [hr, map_noId hno], by rw [hr]; exact hno.mono (fun _ h => h.elim) id, rfl, fun i id h => by simp at h⟩
/-- One row goes out. -/
theorem ret1 {ts : List Nat} {post : AV → List LObj → Prop} {N : Nat} {s : St} {res : AV} (id : Nat) (o : LObj) (hN : (ts.all fun t => Nat.blt t N) = true) (hr : (mkA (ts.map s.env)).map (ix [id]) = res) (hok : Ok (· ∈ [id]) True (mkA (ts.map s.env)))
    (hl : s.ob id = .live o) (hno : NoIds o.cells) (hp : post res [o]) : RetOk ts post N s := by
  refine ⟨[id], res, [o], hN, hp, by simp, hr, hok, rfl, fun i id' h => ?_⟩
  cases i with
  | zero =>
    simp at h
    subst h
    refine ⟨o, hl, ?_, fun c hc => (hno c hc).mono (fun _ h => h.elim) (fun h => h)⟩
    simp only [LObj.map, mapL_noId hno]
    rfl
  | succ i => simp at h
end Go.Lo
