/- The empty slice of nobody's in a cell becomes a row of one's own. -/
import Derived.Test.YthfmdljohlolpaaLoO
set_option linter.unusedVariables false
set_option linter.unusedSimpArgs false
namespace Go.Lo
theorem imp_adoptC {E : Env0} {s : St} (i j id e z : Nat) {o : LObj} (hl : s.ob i = .live o) (hj : o.cells[j]? = some (.v (.slice none 0 0))) (hf : s.ob id = .free) {cells' : List AV} (hc : o.cells.set j (.sl id 0 0) = cells') :
    Imp E s ⟨s.env, updO (updO s.ob i (.live ⟨cells', o.elem, o.esz⟩)) id (.live ⟨[], e, z⟩)⟩ := by
  rintro a w ⟨C, hs⟩
  subst hc
  have hdom : ¬ C.dom id := fun h => hs.obj.dom id h hf
  have hii : i ≠ id := fun h => by subst h; rw [hf] at hl; cases hl
  have hext : Ext w C w (C.add id none (0, 0) z) := Ext.add hdom (fun x hx => by cases hx) (fun _ _ _ => rfl)
  have hlive : ∀ id' o', updO (updO s.ob i (.live ⟨o.cells.set j (.sl id 0 0), o.elem, o.esz⟩)) id (.live ⟨[], e, z⟩) id' = .live o' → (id' = id ∧ o' = ⟨[], e, z⟩) ∨ (id' ≠ id ∧ ∃ o2, s.ob id' = .live o2 ∧ o'.elem = o2.elem ∧ o'.esz = o2.esz ∧ o'.cells.length = o2.cells.length ∧ ∀ (k : Nat) (av : AV), o'.cells[k]? = some av → o2.cells[k]? = some av ∨ (av = .sl id 0 0 ∧ o2.cells[k]? = some (.v (.slice none 0 0)))) := fun id' o' h => by
    by_cases he : id' = id
    · subst he; rw [updO_same] at h; cases h; exact .inl ⟨rfl, rfl⟩
    · rw [updO_ne _ _ he] at h
      refine .inr ⟨he, ?_⟩
      by_cases h2 : id' = i
      · subst h2
        rw [updO_same] at h
        cases h
        refine ⟨o, hl, rfl, rfl, by simp, fun k av hk => ?_⟩
        by_cases hkj : j = k
        · subst hkj
          rw [List.getElem?_set_self (List.getElem?_eq_some_iff.1 hj).1] at hk
          cases hk
          exact .inr ⟨rfl, hj⟩
        · rw [List.getElem?_set_ne hkj] at hk
          exact .inl hk
      · rw [updO_ne _ _ h2] at h
        exact ⟨o', h, rfl, rfl, rfl, fun k av hk => .inl hk⟩
  refine ⟨C.add id none (0, 0) z, hs.size, hs.defers, fun t ht => (hs.env t ht).ext hext, ⟨fun id' o' h => ?_, fun id' o' b h hb => ?_, fun i1 i2 o1 o2 b h1 h2 h3 h4 => ?_, fun i1 hi => ?_, fun b hb => ?_⟩, hs.fr, fun id' o' b h hb => ?_, fun b hb => .inr (hs.keep b hb), fun b hb ho => ?_, hext.init hs.init, hs.xbnd⟩
  · rcases hlive id' o' h with ⟨rfl, rfl⟩ | ⟨hne, o2, h', g1, g2, g3, _⟩
    · simp [Ctx.add]
    · obtain ⟨h1, h2, h3⟩ := hs.obj.nil id' o2 h'
      simp [Ctx.add, hne, h1, h2, g2]
      intro hb
      exact List.eq_nil_of_length_eq_zero (by rw [g3, h3 hb]; rfl)
  · rcases hlive id' o' h with ⟨rfl, rfl⟩ | ⟨hne, o2, h', g1, g2, g3, g4⟩
    · simp [Ctx.add] at hb
    · simp only [Ctx.add, hne, if_false] at hb
      obtain ⟨h1, cur', h2, h3, h4, h5⟩ := hs.obj.live id' o2 b h' hb
      refine ⟨.inr h1, cur', by rw [g1]; exact h2, by simp [Ctx.add, hne, h3], by rw [add_sz hne]; omega, fun k av hk => ?_⟩
      rcases g4 k av hk with g | ⟨rfl, g⟩
      · obtain ⟨x, hx, h6, hr⟩ := h5 k av g
        exact ⟨x, by rw [add_sz hne]; exact hx, h6, hr.ext hext⟩
      · obtain ⟨x, hx, h6, hr⟩ := h5 k _ g
        refine ⟨x, by rw [add_sz hne]; exact hx, h6, ?_⟩
        rw [hr.v_inv]
        exact .nil0 (.inl rfl) (by simp [Ctx.add])
  · rcases hlive i1 o1 h1 with ⟨rfl, rfl⟩ | ⟨hne, p1, h1', _⟩
    · simp [Ctx.add] at h3
    · rcases hlive i2 o2 h2 with ⟨rfl, rfl⟩ | ⟨hne', p2, h2', _⟩
      · simp [Ctx.add] at h4
      · simp only [Ctx.add, hne, if_false] at h3
        simp only [Ctx.add, hne', if_false] at h4
        exact hs.obj.inj i1 i2 p1 p2 b h1' h2' h3 h4
  · show updO _ id _ i1 ≠ _
    by_cases he : i1 = id
    · subst he; rw [updO_same]; intro h; cases h
    · rw [updO_ne _ _ he]
      by_cases h2 : i1 = i
      · subst h2; rw [updO_same]; intro h; cases h
      · rw [updO_ne _ _ h2]
        rcases hi with hi | hi
        · exact absurd hi he
        · exact hs.obj.dom i1 hi
  · rcases hb with hb | hb
    · cases hb
    · exact hs.obj.bnd b hb
  · rcases hlive id' o' h with ⟨rfl, rfl⟩ | ⟨hne, o2, h', _⟩
    · simp [Ctx.add] at hb
    · simp only [Ctx.add, hne, if_false] at hb
      exact hs.fresh id' o2 b h' hb
  · rcases ho with ho | ho
    · cases ho
    · exact hs.newown b hb ho

section
variable {P : Program} {E : Env0} {st : St} {Q : Exit → St → Prop}
/-- A loop whose first round stands by itself. -/
theorem awp_peelI {c : Code} (I : Nat → St) (Inv : Nat → Prop) (n : Nat) (h0 : AWP P E c st (thenQ (fun s => Inv 0 ∧ Imp E s (I 0)) Q))
    (round : ∀ k, k ≤ n → Inv k → AWP P E c (I k) (thenQ (fun s => k < n ∧ Inv (k + 1) ∧ Imp E s (I (k + 1))) Q)) : AWP P E (.loop c) st Q := by
  refine awp_loopI (ι := Option { k : Nat // k ≤ n ∧ Inv k }) (fun o => match o with | none => st | some k => I k.1) (fun o => match o with | none => n + 1 | some k => n - k.1) none (Imp.refl E st) (fun o => ?_)
  cases o with
  | none =>
    refine AWP.mono h0 (fun e s h => ?_)
    cases e with
    | normal => exact ⟨some ⟨0, Nat.zero_le _, h.1⟩, by show n - 0 < n + 1; omega, h.2⟩
    | _ => exact h
  | some k =>
    refine AWP.mono (round k.1 k.2.1 k.2.2) (fun e s h => ?_)
    cases e with
    | normal =>
      obtain ⟨h1, h2, h3⟩ := h
      exact ⟨some ⟨k.1 + 1, h1, h2⟩, by show n - (k.1 + 1) < n - k.1; omega, h3⟩
    | _ => exact h
end
section
variable {P : Program} {E : Env0} {st : St} {Q : Exit → St → Prop}
/-- A cut at any place behind which code follows. -/
theorem cutG {c y : Code} {Q2 : Exit → St → Prop} (mid : St) (hQ : ∀ s, AWP P E y s Q2 → Q .normal s) (h1 : AWP P E c st (thenQ (fun s => Imp E s mid) Q)) (h2 : AWP P E y mid Q2) : AWP P E c st Q := by
  refine h1.mono fun e s h => ?_
  cases e with
  | normal => exact hQ s (h2.imp h)
  | _ => exact h
end
theorem ptC_last {ob : Nat → OSt} {id off e z : Nat} {pre : List AV} {x : AV} (h : ob id = .live ⟨pre ++ [x], e, z⟩) (ho : off = pre.length) : ptC ob (.pt id off) = some [x] := by
  subst ho
  simp [ptC, h]
theorem spl_last {pre : List AV} {x y : AV} {off : Nat} (ho : off = pre.length) : spl (pre ++ [x]) off [y] = pre ++ [y] := by
  subst ho
  simp [spl]
theorem lend_last {ob : Nat → OSt} {id j e e' z t : Nat} {pre cs : List AV} {n : Nat} (hl : ob id = .live ⟨pre ++ [.sl j 0 t], e, 1⟩) (hj : ob j = .live ⟨cs, e', z⟩) (ht : cs.length = t * z) (hn : n = pre.length + 1) [h1 : NoIL pre] [h2 : NoIL cs] : Lend ob (.sl id 0 n) (.ro n (pre ++ [.ro t cs])) := by
  subst hn
  refine .sl id 0 _ _ _ hl (by simp) (by simp) (fun i a b ha hb => ?_)
  simp only [Nat.zero_add] at ha
  rcases Nat.lt_or_ge i pre.length with hi | hi
  · rw [List.getElem?_append_left hi] at ha hb
    rw [ha] at hb; cases hb
    exact .same a (h1.out a (List.mem_of_getElem? ha))
  · rw [List.getElem?_append_right hi] at ha hb
    cases hk : i - pre.length with
    | zero =>
      rw [hk] at ha hb
      simp at ha hb
      subst ha; subst hb
      exact lend_sl hj ht h2.out
    | succ k => rw [hk] at ha; simp at ha
theorem lm_append {σ : Nat → Nat} {a a' l l' : List AV} (h : AV.mapL σ a = a') (k : AV.mapL σ l = l') : AV.mapL σ (a ++ l) = a' ++ l' := by
  subst h; subst k; simp [mapL_eq]
theorem frzs_pre {ob : Nat → OSt} {pre l m : List AV} (h : ∀ (j : Nat) (a b : AV), l[j]? = some a → m[j]? = some b → FrzC ob a b) : ∀ (j : Nat) (a b : AV), (pre ++ l)[j]? = some a → (pre ++ m)[j]? = some b → FrzC ob a b := fun j a b ha hb => by
  rcases Nat.lt_or_ge j pre.length with hj | hj
  · rw [List.getElem?_append_left hj] at ha hb
    rw [ha] at hb; cases hb; exact .inl rfl
  · rw [List.getElem?_append_right hj] at ha hb
    exact h _ a b ha hb
theorem subN1 {n m : Nat} (h : n = m + 1) (hb : n ≤ 1099511627776) : binI .i64 .sub (n : Int) 1 = .int .i64 (m : Int) := by
  subst h
  show Value.int .i64 (IntKind.i64.wrap (((m + 1 : Nat) : Int) - 1)) = _
  rw [IntWalk.i64_in _ (by omega)]
  congr 1
  omega
/-! ### short forms -/
abbrev AV.i (x : Int) : AV := .v (.int .i64 x)
abbrev AV.b (x : Bool) : AV := .v (.bool x)
abbrev AV.q {α : Type} (f : α → List AV) (l : List α) : AV := .ro l.length (enc f l)
theorem lu {e e' : Nat → AV} {d : Nat} {av : AV} (hd : e d = av) (h : ∀ t, e' t = .any ∨ e' t = e t) : ∀ t, upd e' d av t = .any ∨ upd e' d av t = e t := lee_upd d av hd h
theorem ln {e : Nat → AV} : ∀ t, none_ t = .any ∨ none_ t = e t := lee_none e
section
variable {P : Program} {E : Env0} {st : St} {Q : Exit → St → Prop}
theorem rs_ {c : Code} (e' : Nat → AV) (o' : Nat → OSt) (he : ∀ t, e' t = .any ∨ e' t = st.env t) (ho : o' = st.ob) (h : AWP P E c ⟨e', o'⟩ Q) : AWP P E c st Q := awp_imp ⟨e', o'⟩ (imp_le ⟨he, fun id => .inl (by rw [ho])⟩) h
end
theorem sS {ps : List (Nat × Nat)} {e e' : Nat → AV} {d : Nat} {av : AV} (hd : e d = av) (h : ∀ t, SlotR ps (e t) (e' t)) [hn : NoI av] : ∀ t, SlotR ps (e t) (upd e' d av t) := sr_same d av hd hn.out h
theorem sM {ps : List (Nat × Nat)} {e e' : Nat → AV} {d : Nat} {av : AV} (hd : (e d).map (rn ps) = av) (h : ∀ t, SlotR ps (e t) (e' t)) (hok : Ok (· ∈ ps.map (·.1)) True (e d) := by first | exact Ok.sl _ _ _ (by first | decide | simp) | exact Ok.pt _ _ (by first | decide | simp)) : ∀ t, SlotR ps (e t) (upd e' d av t) := sr_map d av hok hd h
theorem lerI {s : St} {e' : Nat → AV} (x y : Nat) {o o' : LObj} (hl : s.ob x = .live o) (hoo : o' = o) (he : ∀ t, SlotR [(x, y)] (s.env t) (e' t)) [hn : NoIL o.cells] : LeR [(x, y)] s ⟨e', updO noOb y (.live o')⟩ := ler1 x y o o' hl hoo hn.out he
theorem lerJ {s : St} {e' : Nat → AV} (x y x2 y2 : Nat) {o o' o2 o2' : LObj} (hx : x ≠ x2) (hy : y ≠ y2) (hl : s.ob x = .live o) (hl2 : s.ob x2 = .live o2) (hoo : o' = o) (hoo2 : o2' = o2) (he : ∀ t, SlotR [(x, y), (x2, y2)] (s.env t) (e' t)) [hn : NoIL o.cells] [hn2 : NoIL o2.cells] :
    LeR [(x, y), (x2, y2)] s ⟨e', updO (updO noOb y (.live o')) y2 (.live o2')⟩ := ler2 x y x2 y2 o o' o2 o2' hx hy hl hl2 hoo hoo2 hn.out hn2.out he
end Go.Lo
