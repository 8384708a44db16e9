/- Part of the logic of values: what the law reaches. -/
import Derived.Test.YtnjncdidiijpgaaPFnOfqLoY
set_option linter.unusedVariables false
set_option linter.unusedSimpArgs false
namespace Go.Lo
theorem spl_mid {A B D cs : List AV} {o : Nat} (h : o + cs.length ≤ B.length) : spl (A ++ (B ++ D)) (A.length + o) cs = A ++ (spl B o cs ++ D) := by
 unfold spl
 rw [List.take_length_add_append, Nat.add_assoc, List.drop_length_add_append, List.take_append_of_le_length (by omega), List.drop_append_of_le_length (by omega)]
 simp [List.append_assoc]
theorem enc_split {α : Type} {f : α → List AV} (d : α) {l : List α} {k : Nat} (h : k < l.length) : enc f l = enc f (l.take k) ++ (f (l.getD k d) ++ enc f (l.drop (k + 1))) := by
 conv => lhs; rw [← List.take_append_drop k l, enc_append, List.drop_eq_getElem_cons h]
 rw [show l.getD k d = l[k] by simp [h]]; rfl
theorem enc_fld {α : Type} {f : α → List AV} {s : Nat} (hf : ∀ x, (f x).length = s) (d v : α) {l : List α} {k o : Nat} {cs : List AV} (h : k < l.length) (ho : o + cs.length ≤ s) (hv : spl (f (l.getD k d)) o cs = f v) : spl (enc f l) (k * s + o) cs = enc f (l.set k v) := by
 have hl : (enc f (l.take k)).length = k * s := by rw [enc_length hf, List.length_take, Nat.min_eq_left (by omega)]
 rw [enc_split d h, ← hl, spl_mid (by rw [hf]; exact ho), hv]
 conv => rhs; rw [enc_split d (l := l.set k v) (k := k) (by simpa using h)]
 rw [List.take_set_of_le (Nat.le_refl _), List.drop_set_of_lt (by omega)]
 simp [h]
section
variable {P : Program} {E : Env0} {st : St} {K : St → Prop}
theorem aop_storeF {o : Oper} {t : TypeId} {x y : Operand} {id k s z fo : Nat} {av : AV} {α : Type} {f : α → List AV} {l l' : List α} {cs : List AV} {ob : LObj} (d v : α) (ho : o.op = .store t x y) (hd : o.dst = none) (hN : (okOp E.N x && okOp E.N y) = true)
  (hsz : (P.info? t).map (·.size) = some z) (hx : evA st.env x = .pt id (k * s + fo)) (hl : st.ob id = .live ob) (hc : ob.cells = enc f l) (hy : evA st.env y = av) (hcv : cellsA av = some cs) (hcl : cs.length = z) (hf : ∀ x, (f x).length = s) (hk : k < l.length) (h1 : cs.all isOne = true)
  (hfit : fo + z ≤ s) (hv : spl (f (l.getD k d)) fo cs = f v) (hl' : l.set k v = l') (h : K ⟨st.env, updO st.ob id (.live ⟨enc f l', ob.elem, ob.esz⟩)⟩) : AOp P E o st K := by
 subst hl'
 refine aop_store ho hd hN hsz hx hl hy hcv hcl ?_ h1 ?_ h
 ·have := enc_length hf l
  rw [hc, this]
  have h2 : (k + 1) * s ≤ l.length * s := Nat.mul_le_mul_right s hk
  rw [Nat.add_mul] at h2
  omega
 ·rw [hc]; exact enc_fld hf d v hk (by rw [hcl]; exact hfit) hv
end
def famO (rows : Nat → OSt) : Nat → OSt := fun id => cond (Nat.ble 8 id) (rows (id - 8)) .free
theorem fam_lo {rows : Nat → OSt} {id : Nat} (h : id < 8) : famO rows id = .free := by
 unfold famO
 have : Nat.ble 8 id = false := by
  cases hb : Nat.ble 8 id with
  | false => rfl
  | true => have := Nat.le_of_ble_eq_true hb; omega
 rw [this]; rfl
theorem fam_hi {rows : Nat → OSt} (j : Nat) : famO rows (j + 8) = rows j := by
 unfold famO
 rw [Nat.ble_eq_true_of_le (by omega : 8 ≤ j + 8)]
 show rows (j + 8 - 8) = _
 rw [Nat.add_sub_cancel]
theorem updO_lo {f : Nat → OSt} {i j : Nat} {x : OSt} (h : i < 8) : updO f i x (j + 8) = f (j + 8) := updO_ne _ _ (by omega)
theorem imp_ren {E : Env0} {s s' : St} (σ τ : Nat → Nat) (D : Nat → Prop) (hm : E.m = 0) (hst : ∀ id, D id → τ (σ id) = id) (he : ∀ t, s'.env t = .any ∨ (Ok D True (s.env t) ∧ (s.env t).map σ = s'.env t))
  (hob : ∀ id' o', s'.ob id' = .live o' → ∃ o, D (τ id') ∧ σ (τ id') = id' ∧ s.ob (τ id') = .live o ∧ o' = LObj.map σ o ∧ ∀ c, c ∈ o.cells → Ok D True c) (hf : ∀ id, D id → s.ob id ≠ .free → s'.ob (σ id) ≠ .free) : Imp E s s' := by
 rintro a w ⟨C, hs⟩
 let C2 : Ctx := ⟨fun i => C.blk (τ i), fun i => C.sz (τ i), fun i => C.esz (τ i), fun i => D (τ i) ∧ σ (τ i) = i ∧ C.dom (τ i), C.own⟩
 have hid : ∀ id, D id → C.dom id → C2.dom (σ id) ∧ C2.blk (σ id) = C.blk id ∧ C2.sz (σ id) = C.sz id ∧ C2.esz (σ id) = C.esz id := fun id hd hc => by
  have e := hst id hd
  exact ⟨⟨by rw [e]; exact hd, by rw [e], by rw [e]; exact hc⟩, by show C.blk (τ (σ id)) = _; rw [e], by show C.sz (τ (σ id)) = _; rw [e], by show C.esz (τ (σ id)) = _; rw [e]⟩
 have hmap : ∀ {av : AV} {u : Value}, R w C av u → Ok D True av → R w C2 (av.map σ) u := fun hr hok => R.map hid (fun _ b h => h) hr hok
 refine ⟨C2, hs.size, hs.defers, fun t ht => ?_, ⟨fun i o hl => ?_, fun i o b hl hb => ?_, fun i i' o1 o2 b h1 h2 h3 h4 => ?_, fun i hi => ?_, hs.obj.bnd⟩, hs.fr, fun i o b hl hb => ?_, hs.keep, hs.newown, fun i hi => ?_, hs.xbnd⟩
 ·rcases he t with h1 | ⟨h1, h2⟩
  ·rw [h1]; exact .any _
  ·rw [← h2]; exact hmap (hs.env t ht) h1
 ·obtain ⟨o0, h1, h2, h3, h4, h5⟩ := hob i o hl
  obtain ⟨k1, k2, k3⟩ := hs.obj.nil _ o0 h3
  subst h4
  exact ⟨⟨h1, h2, k1⟩, k2, fun hb => by show AV.mapL σ o0.cells = []; rw [k3 hb]; rfl⟩
 ·obtain ⟨o0, h1, h2, h3, h4, h5⟩ := hob i o hl
  obtain ⟨k1, cur, k2, k3, k4, k5⟩ := hs.obj.live _ o0 b h3 hb
  subst h4
  refine ⟨k1, cur, k2, k3, by show (AV.mapL σ o0.cells).length ≤ _; rw [mapL_eq, List.length_map]; exact k4, fun j av hj => ?_⟩
  have hj' : (AV.mapL σ o0.cells)[j]? = some av := hj
  rw [mapL_eq, List.getElem?_map, Option.map_eq_some_iff] at hj'
  obtain ⟨c, hj2, rfl⟩ := hj'
  obtain ⟨u, hu, k6, k7⟩ := k5 j c hj2
  exact ⟨u, hu, k6, hmap k7 (h5 c (List.mem_of_getElem? hj2))⟩
 ·obtain ⟨p1, _, a2, a3, _⟩ := hob i o1 h1
  obtain ⟨p2, _, b2, b3, _⟩ := hob i' o2 h2
  have := hs.obj.inj _ _ p1 p2 b a3 b3 h3 h4
  rw [← a2, ← b2, this]
 ·obtain ⟨h1, h2, h3⟩ := hi
  have := hf _ h1 (hs.obj.dom _ h3)
  rw [h2] at this
  exact this
 ·obtain ⟨o0, h1, h2, h3, _⟩ := hob i o hl
  exact hs.fresh _ o0 b h3 hb
 ·omega
def SubE (gs : List Nat) (d : Nat) (e : Nat → AV) (e1 : Value → Nat → AV) : Prop := ∀ u t, t ≠ d → e1 u t = .any ∨ (Ok (· ∈ gs) True (e t) ∧ (e t).map (ix gs) = e1 u t)
theorem awp_sub {P : Program} {E : Env0} {c : Code} {st : St} {Q : Exit → St → Prop} (gs : List Nat) (giv : List LObj) (d : Nat) (e1 : Value → Nat → AV) (post : Value → St → Prop) (hd : d < E.N) (hdv : ∀ u, e1 u d = .v u) (hnd : gs.Nodup) (hgl : giv.length = gs.length)
  (hgiv : ∀ (i id : Nat), gs[i]? = some id → ∃ o : LObj, st.ob id = .live o ∧ giv[i]? = some (LObj.map (ix gs) o) ∧ ∀ c, c ∈ o.cells → Ok (· ∈ gs) True c) (henv : SubE gs d st.env e1)
  (h : ∀ u w0 G C hL hLG, AWP P ⟨w0, G, C.own, E.N, giv.length, C, hL, hLG⟩ c ⟨e1 u, obG 0 (giv.map .live) noOb⟩ (thenQ (fun s => ∃ s2, Imp ⟨w0, G, C.own, E.N, giv.length, C, hL, hLG⟩ s s2 ∧ post u s2) (fun _ _ => False)))
  (hp : ∀ u s, post u s → s.env d = .v u ∧ ∃ os new, s.ob = obG 0 os noOb ∧ (gs ++ new).Nodup ∧ os.length = (gs ++ new).length ∧ (∀ id, id ∈ new → st.ob id = .free) ∧
   Q .normal ⟨fun t => cond (Nat.beq t d) (st.env d) ((s.env t).map (nm (gs ++ new))), placeO (nm (gs ++ new)) (gs ++ new) os st.ob⟩) : AWP P E c st Q := by
 rintro a w ⟨C, hs⟩
 let C2 : Ctx := ⟨fun i => (gs[i]?).bind C.blk, fun i => ((gs[i]?).map C.sz).getD 0, fun i => ((gs[i]?).map C.esz).getD 0, fun i => i < gs.length, C.own⟩
 have hown2 : True → ∀ b, ¬ C.own b → ¬ C2.own b := fun _ b h => h
 have hid2 : ∀ id, id ∈ gs → C.dom id → C2.dom (ix gs id) ∧ C2.blk (ix gs id) = C.blk id ∧ C2.sz (ix gs id) = C.sz id ∧ C2.esz (ix gs id) = C.esz id := fun id hm _ => by
  have hg := ix_get hm
  exact ⟨(List.getElem?_eq_some_iff.1 hg).1, by simp [C2, hg], by simp [C2, hg], by simp [C2, hg]⟩
 have hgo : ∀ i o', obG 0 (giv.map .live) noOb i = .live o' → ∃ id o, gs[i]? = some id ∧ st.ob id = .live o ∧ o' = LObj.map (ix gs) o ∧ ∀ c, c ∈ o.cells → Ok (· ∈ gs) True c := fun i o' h => by
  have h1 := obG_live h
  rw [List.getElem?_map, Option.map_eq_some_iff] at h1
  obtain ⟨o2, h2, h3⟩ := h1
  cases h3
  have hil : i < gs.length := by rw [← hgl]; exact (List.getElem?_eq_some_iff.1 h2).1
  obtain ⟨o, k1, k2, k3⟩ := hgiv i gs[i] (List.getElem?_eq_getElem hil)
  rw [h2] at k2
  cases k2
  exact ⟨_, o, List.getElem?_eq_getElem hil, k1, rfl, k3⟩
 have hobj : ObjR w C2 (obG 0 (giv.map .live) noOb) := by
  refine ⟨fun i o' h => ?_, fun i o' b h hb => ?_, fun i i' o1 o2 b h1 h2 h3 h4 => ?_, fun i hi => ?_, hs.obj.bnd⟩
  ·obtain ⟨id, o, h1, h2, rfl, _⟩ := hgo i o' h
   obtain ⟨k1, k2, k3⟩ := hs.obj.nil id o h2
   refine ⟨(List.getElem?_eq_some_iff.1 h1).1, by simp [C2, h1, LObj.map, k2], fun hb => ?_⟩
   have : C.blk id = none := by simpa [C2, h1] using hb
   simp [LObj.map, k3 this, AV.mapL]
  ·obtain ⟨id, o, h1, h2, rfl, h3⟩ := hgo i o' h
   have hb' : C.blk id = some b := by simpa [C2, h1] using hb
   obtain ⟨k1, cur, k2, k4, k5, k6⟩ := hs.obj.live id o b h2 hb'
   refine ⟨k1, cur, k2, by simp [C2, h1, k4], by simp [LObj.map, mapL_eq]; exact k5, fun j av hj => ?_⟩
   simp only [LObj.map, mapL_eq, List.getElem?_map, Option.map_eq_some_iff] at hj
   obtain ⟨c, hj, rfl⟩ := hj
   obtain ⟨u, hu, k7, k8⟩ := k6 j c hj
   exact ⟨u, hu, k7, R.map hid2 hown2 k8 (h3 c (List.mem_of_getElem? hj))⟩
  ·obtain ⟨id, o', a1, a2, _, _⟩ := hgo i o1 h1
   obtain ⟨id2, o'', b1, b2, _, _⟩ := hgo i' o2 h2
   have e1 : C.blk id = some b := by simpa [C2, a1] using h3
   have e2 : C.blk id2 = some b := by simpa [C2, b1] using h4
   have e3 := hs.obj.inj id id2 o' o'' b a2 b2 e1 e2
   subst e3
   obtain ⟨l1, m1⟩ := List.getElem?_eq_some_iff.1 a1
   obtain ⟨l2, m2⟩ := List.getElem?_eq_some_iff.1 b1
   exact (List.getElem_inj (h₀ := l1) (h₁ := l2) hnd).1 (m1.trans m2.symm)
  ·have hi' : i < giv.length := by rw [hgl]; exact hi
   rw [obG_some (x := .live giv[i]) (by simp [hi'])]
   intro h; cases h
 let G : Nat → Prop := fun b => ∃ i, i < giv.length ∧ C2.blk i = some b
 have hL : Laid w C2.own := hs.laid
 have hLG : LaidG G := fun q hq ⟨i, hi, hb⟩ => (hL q hq).2.1 (hobj.live i giv[i] q.1 (obG_some (by simp [hi])) hb).1
 have hsub : SR ⟨w, G, C2.own, E.N, giv.length, C2, hL, hLG⟩ C2 ⟨e1 (a.tmps.getD d undef), obG 0 (giv.map .live) noOb⟩ a w := by
  refine ⟨hs.size, hs.defers, fun t ht => ?_, hobj, Fr.refl _ _, fun id o b h hb => ?_, fun b h => h, fun b _ h => .inl h, fun i hi => ?_, hs.obj.bnd⟩
  ·show R w C2 (e1 _ t) _
   by_cases htd : t = d
   ·rw [htd, hdv]; exact .v _
   ·rcases henv (a.tmps.getD d undef) t htd with h1 | ⟨h1, h2⟩
    ·rw [h1]; exact .any _
    ·rw [← h2]; exact R.map hid2 hown2 (hs.env t ht) h1
  ·obtain ⟨id', o', h1, _⟩ := hgo id o h
   exact .inr ⟨id, by rw [hgl]; exact (List.getElem?_eq_some_iff.1 h1).1, hb⟩
  ·have hi' : i < giv.length := hi
   have : obG 0 (giv.map .live) noOb i = .live giv[i] := obG_some (by simp [hi'])
   exact ⟨(hobj.nil i _ this).1, rfl, rfl, rfl⟩
 refine wp_mono (h (a.tmps.getD d undef) w G C2 hL hLG a w ⟨_, hsub⟩) ?_
 rintro e a' w' ⟨s, h1, h2⟩
 cases e with
 | normal =>
  obtain ⟨s2, h3, h4⟩ := h2
  obtain ⟨C', hs'⟩ := h3 a' w' h1
  obtain ⟨hv, os, new, hob, hndn, hlen, hfree, hq⟩ := hp _ s2 h4
  have hobj' : ObjR w' C' (obG 0 os noOb) := by rw [← hob]; exact hs'.obj
  have hback : ∀ (av : AV) (v : Value) (dst : Option Nat), (∀ d, dst = some d → d < E.N) → R w' C' av v → SR E (Cgive C C' (gs ++ new) new) (St.put ⟨st.env, placeO (nm (gs ++ new)) (gs ++ new) os st.ob⟩ dst (av.map (nm (gs ++ new)))) (a.put dst v) w' := fun av v dst hdst hR => by
   refine hs.backG (G := G) (X := C2.own) hndn hlen (fun b h => h) (fun b hG => ?_) (fun id hid => ?_) hs'.fr hR hobj' (fun i id hi => ?_) (fun i o b h hb => hs'.fresh i o b (by rw [hob]; exact h) hb) hs'.keep (fun b hb ho => hs'.newown b hb ho) hfree (.inl fun b h => h) dst hdst
   ·obtain ⟨i, hi, hbi⟩ := hG
    have hil : i < gs.length := by rw [← hgl]; exact hi
    exact ⟨gs[i], List.getElem_mem hil, by simpa [C2, hil] using hbi⟩
   ·obtain ⟨i, hi⟩ := List.mem_iff_getElem?.1 hid
    obtain ⟨o, k1, _⟩ := hgiv i id hi
    exact ⟨o, k1⟩
   ·obtain ⟨k1, k2, k3, k4⟩ := hs'.init i (by show i < giv.length; rw [hgl]; exact (List.getElem?_eq_some_iff.1 hi).1)
    exact ⟨k1, by rw [k2]; simp [C2, hi], by rw [k3]; simp [C2, hi], by rw [k4]; simp [C2, hi]⟩
  have hb0 := hback .any undef none (fun d h => by cases h) (.any _)
  refine ⟨⟨fun t => cond (Nat.beq t d) (st.env d) ((s2.env t).map (nm (gs ++ new))), placeO (nm (gs ++ new)) (gs ++ new) os st.ob⟩, ⟨Cgive C C' (gs ++ new) new, hs'.size, hs'.defers, fun t ht => ?_, hb0.obj, hb0.fr, hb0.fresh, hb0.keep, hb0.newown, hb0.init, hb0.xbnd⟩, hq⟩
  show R w' _ (cond (Nat.beq t d) (st.env d) ((s2.env t).map (nm (gs ++ new)))) _
  cases hb : Nat.beq t d with
  | true =>
   obtain rfl := Nat.eq_of_beq_eq_true hb
   have h5 := hs'.env t ht
   rw [hv] at h5
   have h6 := h5.v_inv
   rw [h6]
   exact hb0.env t ht
  | false =>
   have h5 := (hback (s2.env t) (a'.tmps.getD t undef) (some t) (fun d h => by cases h; exact ht) (hs'.env t ht)).env t ht
   simp only [St.put, Act.put, upd_same] at h5
   rw [getD_set_self (by rw [hs.size]; exact ht)] at h5
   exact h5
 | _ => exact h2.elim
end Go.Lo
