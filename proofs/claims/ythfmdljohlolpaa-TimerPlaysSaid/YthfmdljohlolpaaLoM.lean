/- Rows of one's own that are finished become values that are only read. -/
import Derived.Test.YthfmdljohlolpaaLoL
set_option linter.unusedVariables false
set_option linter.unusedSimpArgs false
namespace Go.Lo

/-- All that is one's own is finished. -/
theorem imp_frozen {E : Env0} {s : St} {e' : Nat → AV} (hm : E.m = 0) (hG : ∀ b, ¬ E.G b) (h : ∀ t, Lend s.ob (s.env t) (e' t)) : Imp E s ⟨e', noOb⟩ := by
  rintro a w ⟨C, hs⟩
  refine ⟨C0 E.X, hs.size, hs.defers, fun t ht => ?_, ⟨fun i o' h => ?_, fun i o' b h hb => ?_, fun i i' o1 o2 b h1 h2 h3 h4 => ?_, fun i hi => ?_, fun b hb => ?_⟩, hs.fr, fun i o' b h hb => ?_, fun b hb => hb, fun b hb ho => .inl ho, fun i hi => ?_, hs.xbnd⟩
  · exact hs.lendG (fun _ _ h => h) E.X (fun b hb => ⟨hs.keep b hb, fun id o hl hblk => by
      rcases hs.fresh id o b hl hblk with h | h
      · have := hs.xbnd b hb; omega
      · exact hG b h⟩) (h t) (hs.env t ht)
  · cases h
  · cases h
  · cases h1
  · exact hi.elim
  · exact hs.obj.bnd b (hs.keep b hb)
  · cases h
  · omega

theorem lee_lend {ob : Nat → OSt} {e e' : Nat → AV} (d : Nat) (av : AV) (hd : Lend ob (e d) av) (h : ∀ t, Lend ob (e t) (e' t)) : ∀ t, Lend ob (e t) (upd e' d av t) := by
  intro t
  by_cases ht : t = d
  · subst ht; rw [upd_same]; exact hd
  · rw [upd_ne _ _ ht]; exact h t
theorem lee_lend0 {ob : Nat → OSt} {e : Nat → AV} : ∀ t, Lend ob (e t) (none_ t) := fun _ => .any _

/-- What a slot or a cell says when some rows are finished: the same, or lent by the finished ones. -/
def FrzC (ob : Nat → OSt) (a b : AV) : Prop := b = a ∨ Lend ob a b
/-- Some rows are finished: 'keep' are those that are not. -/
theorem imp_frz {E : Env0} {s s' : St} (keep : List Nat) (hm : E.m = 0) (hG : ∀ b, ¬ E.G b) (he : ∀ t, FrzC (killO keep s.ob) (s.env t) (s'.env t))
    (hk : ∀ id o', s'.ob id = .live o' → id ∈ keep ∧ ∃ o, s.ob id = .live o ∧ o'.elem = o.elem ∧ o'.esz = o.esz ∧ o'.cells.length = o.cells.length ∧ ∀ (j : Nat) (a b : AV), o.cells[j]? = some a → o'.cells[j]? = some b → FrzC (killO keep s.ob) a b)
    (hf : ∀ id, s'.ob id = .free → s.ob id = .free) : Imp E s s' := by
  rintro a w ⟨C, hs⟩
  let X : Nat → Prop := fun b => C.own b ∧ ∀ id o, killO keep s.ob id = .live o → C.blk id ≠ some b
  let C' : Ctx := ⟨C.blk, C.sz, C.esz, C.dom, X⟩
  have hkl : ∀ id o, killO keep s.ob id = .live o → id ∉ keep ∧ s.ob id = .live o := fun id o h => by
    rw [killO_get] at h
    split at h
    · cases h
    · rename_i hn; exact ⟨hn, h⟩
  have hext : Ext w C w C' := ⟨fun _ h => ⟨h, rfl, rfl, rfl⟩, fun _ _ h h2 => h h2.1, fun _ _ _ => rfl⟩
  have hR : ∀ {x y : AV} {u : Value}, FrzC (killO keep s.ob) x y → R w C x u → R w C' y u := fun {x y u} hxy hr => by
    rcases hxy with h | h
    · subst h; exact hr.ext hext
    · have h1 : R w (C0 X) y u := hs.lendG (fun id o h => (hkl id o h).2) X (fun b hb => hb) h hr
      have h2 := R.map (C := C0 X) (C2 := C') (σ := id) (p := fun _ => False) (ro := True) (fun _ h => h.elim) (fun _ b hb => hb) h1 h.noId
      rwa [map_noId h.noId] at h2
  refine ⟨C', hs.size, hs.defers, fun t ht => hR (he t) (hs.env t ht), ⟨fun i o' h => ?_, fun i o' b h hb => ?_, fun i i' o1 o2 b h1 h2 h3 h4 => ?_, fun i hi hfr => hs.obj.dom i hi (hf i hfr), fun b hb => hs.obj.bnd b hb.1⟩, hs.fr, fun i o' b h hb => ?_, fun b hb => ⟨hs.keep b hb, fun id o hl hblk => ?_⟩, fun b hb ho => hs.newown b hb ho.1, fun i hi => hs.init i hi, hs.xbnd⟩
  · obtain ⟨_, o, h1, h2, h3, h4, _⟩ := hk i o' h
    obtain ⟨k1, k2, k3⟩ := hs.obj.nil i o h1
    refine ⟨k1, by rw [h3]; exact k2, fun hn => ?_⟩
    have := k3 hn
    rw [this] at h4
    exact List.eq_nil_of_length_eq_zero h4
  · obtain ⟨hin, o, h1, h2, h3, h4, h5⟩ := hk i o' h
    obtain ⟨k1, cur, k2, k3, k4, k5⟩ := hs.obj.live i o b h1 hb
    refine ⟨⟨k1, fun id o2 hl hblk => ?_⟩, cur, by rw [h2]; exact k2, k3, by show (C.sz i).2 + _ ≤ _; omega, fun j av hj => ?_⟩
    · have := hs.obj.inj id i o2 o b (hkl id o2 hl).2 h1 hblk hb
      subst this
      exact (hkl id o2 hl).1 hin
    · have hjl : j < o.cells.length := by have := (List.getElem?_eq_some_iff.1 hj).1; omega
      obtain ⟨u, hu, h6, h7⟩ := k5 j _ (List.getElem?_eq_getElem hjl)
      exact ⟨u, hu, h6, hR (h5 j _ av (List.getElem?_eq_getElem hjl) hj) h7⟩
  · obtain ⟨_, o, h5, _⟩ := hk i o1 h1
    obtain ⟨_, o', h6, _⟩ := hk i' o2 h2
    exact hs.obj.inj i i' o o' b h5 h6 h3 h4
  · obtain ⟨_, o, h5, _⟩ := hk i o' h
    exact hs.fresh i o b h5 hb
  · rcases hs.fresh id o b (hkl id o hl).2 hblk with h | h
    · have := hs.xbnd b hb; omega
    · exact hG b h

/-! ### short forms -/
theorem fz_none {ob : Nat → OSt} {e : Nat → AV} : ∀ t, FrzC ob (e t) (none_ t) := fun _ => .inr (.any _)
theorem fz_same {ob : Nat → OSt} {e e' : Nat → AV} (d : Nat) (av : AV) (hd : e d = av) (h : ∀ t, FrzC ob (e t) (e' t)) : ∀ t, FrzC ob (e t) (upd e' d av t) := by
  intro t
  by_cases ht : t = d
  · subst ht; rw [upd_same]; exact .inl hd.symm
  · rw [upd_ne _ _ ht]; exact h t
theorem fz_lend {ob : Nat → OSt} {e e' : Nat → AV} (d : Nat) (av : AV) (hd : Lend ob (e d) av) (h : ∀ t, FrzC ob (e t) (e' t)) : ∀ t, FrzC ob (e t) (upd e' d av t) := by
  intro t
  by_cases ht : t = d
  · subst ht; rw [upd_same]; exact .inr hd
  · rw [upd_ne _ _ ht]; exact h t
/-- The objects that stay, with what their cells say now. -/
def keepO : List (Nat × LObj) → (Nat → OSt)
  | [] => fun _ => .dead
  | q :: r => updO (keepO r) q.1 (.live q.2)
def KeepOk (s : St) (keep : List Nat) (q : Nat × LObj) : Prop := q.1 ∈ keep ∧ ∃ o, s.ob q.1 = .live o ∧ q.2.elem = o.elem ∧ q.2.esz = o.esz ∧ q.2.cells.length = o.cells.length ∧ ∀ (j : Nat) (a b : AV), o.cells[j]? = some a → q.2.cells[j]? = some b → FrzC (killO keep s.ob) a b
def KeepsOk (s : St) (keep : List Nat) : List (Nat × LObj) → Prop
  | [] => True
  | q :: r => KeepOk s keep q ∧ KeepsOk s keep r
theorem keepO_live {s : St} {keep : List Nat} : ∀ {qs : List (Nat × LObj)}, KeepsOk s keep qs → ∀ id o', keepO qs id = .live o' → KeepOk s keep (id, o')
  | [], _, id, o', h => by cases h
  | q :: r, hq, id, o', h => by
    by_cases hi : id = q.1
    · subst hi
      rw [show keepO (q :: r) q.1 = .live q.2 from updO_same _ _ _] at h
      cases h
      exact hq.1
    · rw [show keepO (q :: r) id = keepO r id from updO_ne _ _ hi] at h
      exact keepO_live hq.2 id o' h
theorem keepO_nofree : ∀ (qs : List (Nat × LObj)) (id : Nat), keepO qs id ≠ .free
  | [], id, h => by cases h
  | q :: r, id, h => by
    by_cases hi : id = q.1
    · subst hi
      rw [show keepO (q :: r) q.1 = .live q.2 from updO_same _ _ _] at h
      cases h
    · rw [show keepO (q :: r) id = keepO r id from updO_ne _ _ hi] at h
      exact keepO_nofree r id h
theorem frz_ {E : Env0} {s : St} {e' : Nat → AV} (keep : List Nat) (qs : List (Nat × LObj)) (hm : E.m = 0) (hG : ∀ b, ¬ E.G b) (hq : KeepsOk s keep qs) (he : ∀ t, FrzC (killO keep s.ob) (s.env t) (e' t)) : Imp E s ⟨e', keepO qs⟩ :=
  imp_frz keep hm hG he (fun id o' h => keepO_live hq id o' h) (fun id h => absurd h (keepO_nofree qs id))
theorem keep_same {s : St} {keep : List Nat} {i : Nat} {o : LObj} (hi : i ∈ keep) (h : s.ob i = .live o) : KeepOk s keep (i, o) := ⟨hi, o, h, rfl, rfl, rfl, fun j a b h1 h2 => .inl (by rw [h1] at h2; cases h2; rfl)⟩
theorem frzs_nil {ob : Nat → OSt} : ∀ (j : Nat) (a b : AV), ([] : List AV)[j]? = some a → ([] : List AV)[j]? = some b → FrzC ob a b := fun j a b h => by simp at h
theorem frzs_cons {ob : Nat → OSt} {x y : AV} {l m : List AV} (h1 : FrzC ob x y) (h : ∀ (j : Nat) (a b : AV), l[j]? = some a → m[j]? = some b → FrzC ob a b) : ∀ (j : Nat) (a b : AV), (x :: l)[j]? = some a → (y :: m)[j]? = some b → FrzC ob a b := fun j a b ha hb => by
  cases j with
  | zero => simp at ha hb; subst ha; subst hb; exact h1
  | succ j => exact h j a b (by simpa using ha) (by simpa using hb)
theorem frzs_snoc {ob : Nat → OSt} {x y : AV} {l : List AV} (h1 : FrzC ob x y) : ∀ (j : Nat) (a b : AV), (l ++ [x])[j]? = some a → (l ++ [y])[j]? = some b → FrzC ob a b := fun j a b ha hb => by
  rcases Nat.lt_or_ge j l.length with hj | hj
  · rw [List.getElem?_append_left hj] at ha hb
    rw [ha] at hb; cases hb; exact .inl rfl
  · rw [List.getElem?_append_right hj] at ha hb
    exact frzs_cons h1 frzs_nil _ a b ha hb
theorem keep_cells {s : St} {keep : List Nat} {i e z : Nat} {cs cs' : List AV} (hi : i ∈ keep) (h : s.ob i = .live ⟨cs, e, z⟩) (hl : cs'.length = cs.length) (hc : ∀ (j : Nat) (a b : AV), cs[j]? = some a → cs'[j]? = some b → FrzC (killO keep s.ob) a b) : KeepOk s keep (i, ⟨cs', e, z⟩) := ⟨hi, _, h, rfl, rfl, hl, hc⟩
section
variable {P : Program} {E : Env0} {st : St} {K : St → Prop}
theorem callW_ {o : Oper} {c : Call} {cal : Operand} {args : List Operand} {tys : Array TypeId} {f d : Nat} {caps avs : List AV} {res : AV} (hF : Fn P f avs res)
    (ho : o.op = .call c) (hc : c = { callee := .value cal, args := args.toArray, argTypes := tys }) (hd : o.dst = some d) (hN : (okOp E.N cal && args.all (okOp E.N) && Nat.blt d E.N) = true)
    (hcal : evA st.env cal = .fn f caps) (hb : bodied P f = true) (ha : Lends (fun _ => .free) (args.map (evA st.env) ++ caps) avs) [hres : NoI res]
    (h : K ⟨upd st.env d res, st.ob⟩) : AOp P E o st K := aop_callW ho hc hd hN hcal hb ha hF hres.out h
end
end Go.Lo
