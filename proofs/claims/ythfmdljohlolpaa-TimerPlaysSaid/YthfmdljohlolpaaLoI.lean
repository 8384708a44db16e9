/- Rows of one's own as lists; calls that hand rows back; ends. -/
import Derived.Test.YthfmdljohlolpaaLoH
set_option linter.unusedVariables false
set_option linter.unusedSimpArgs false
namespace Go.Lo

theorem enc_set {α : Type} {f : α → List AV} {s : Nat} (hf : ∀ x, (f x).length = s) : ∀ (l : List α) (k : Nat) (v : α), k < l.length → spl (enc f l) (k * s) (f v) = enc f (l.set k v) := by
  intro l k v hk
  have h1 : l.set k v = l.take k ++ v :: l.drop (k + 1) := List.set_eq_take_append_cons_drop.trans (if_pos hk)
  rw [h1, enc_append, enc_cons]
  unfold spl
  rw [hf, enc_take hf, show k * s + s = (k + 1) * s by rw [Nat.add_mul]; omega, enc_drop' hf, List.append_assoc]
theorem enc_len {α : Type} {f : α → List AV} {s : Nat} {l : List α} {n : Nat} (hf : ∀ x, (f x).length = s) (hn : n = l.length) : (enc f l).length = n * s := by rw [hn, enc_length hf]
theorem enc_get1 {α : Type} {f : α → List AV} {s : Nat} (hf : ∀ x, (f x).length = s) (d : α) {l : List α} {k : Nat} (hk : k < l.length) {a : AV} {r : List AV} (h : f (l.getD k d) = a :: r) : (enc f l).drop (k * s) = a :: (r ++ (enc f l).drop ((k + 1) * s)) := by
  rw [enc_drop hf d l k hk, h]; rfl

section
variable {P : Program} {E : Env0} {st : St} {K : St → Prop}

theorem aop_ldB {o : Oper} {t : TypeId} {x : Operand} {d s : Nat} {p : AV} {cells cells' : List AV} (ho : o.op = .load t x) (hd : o.dst = some d) (hN : (okOp E.N x && Nat.blt d E.N) = true)
    (hb : aggT P t = some true) (hsz : (P.info? t).map (·.size) = some s) (hx : evA st.env x = p) (hp : ptC st.ob p = some cells) (hc' : cells.take s = cells') (hl : cells'.length = s) (h : K ⟨upd st.env d (.agg cells'), st.ob⟩) : AOp P E o st K := by
  refine aop_ldA ho hd hN hb hsz hx hp ?_ hc' h
  have := List.length_take (i := s) (l := cells)
  rw [hc', hl] at this
  omega
/-- An element's place in a row of one's own. -/
theorem aop_ixO {o : Oper} {t e : TypeId} {x ix : Operand} {d n sz id k : Nat} {kk : IntKind} (ho : o.op = .indexAddr t x ix) (hd : o.dst = some d) (hN : (okOp E.N x && okOp E.N ix && Nat.blt d E.N) = true)
    (ht : P.underlying t = some (.slice e)) (hsz : (P.info? e).map (·.size) = some sz) (hx : evA st.env x = .sl id 0 n) (hi : evA st.env ix = .v (.int kk (k : Int))) (h1 : k < n)
    (h : K ⟨upd st.env d (.pt id (k * sz)), st.ob⟩) : AOp P E o st K := by
  refine aop_indexAddr ho hd hN ht hsz hx rfl hi (by omega) (by omega) ?_ h
  simp [ixA]
theorem aop_ixOI {o : Oper} {t e : TypeId} {x ix : Operand} {d n sz id : Nat} {i : Int} {kk : IntKind} (ho : o.op = .indexAddr t x ix) (hd : o.dst = some d) (hN : (okOp E.N x && okOp E.N ix && Nat.blt d E.N) = true)
    (ht : P.underlying t = some (.slice e)) (hsz : (P.info? e).map (·.size) = some sz) (hx : evA st.env x = .sl id 0 n) (hi : evA st.env ix = .v (.int kk i)) (h0 : 0 ≤ i) (h1 : i < n)
    (h : K ⟨upd st.env d (.pt id (i.toNat * sz)), st.ob⟩) : AOp P E o st K := by
  refine aop_indexAddr ho hd hN ht hsz hx rfl hi h0 h1 ?_ h
  simp [ixA]
theorem aop_ldO {o : Oper} {t : TypeId} {x : Operand} {d id k s : Nat} {α : Type} {f : α → List AV} {l : List α} {ob : LObj} {av : AV} {r : List AV} (df : α) (ho : o.op = .load t x) (hd : o.dst = some d) (hN : (okOp E.N x && Nat.blt d E.N) = true)
    (hb : aggT P t = some false) (hx : evA st.env x = .pt id (k * s)) (hl : st.ob id = .live ob) (hc : ob.cells = enc f l) (hf : ∀ x, (f x).length = s) (hk : k < l.length) (hav : f (l.getD k df) = av :: r) (h : K ⟨upd st.env d av, st.ob⟩) : AOp P E o st K := by
  refine aop_ld (rest := r ++ (enc f l).drop ((k + 1) * s)) ho hd hN hb hx ?_ h
  simp only [ptC, hl, hc]
  rw [enc_get1 hf df hk hav]
theorem aop_ldOA {o : Oper} {t : TypeId} {x : Operand} {d id k s : Nat} {α : Type} {f : α → List AV} {l : List α} {ob : LObj} {cells' : List AV} (df : α) (ho : o.op = .load t x) (hd : o.dst = some d) (hN : (okOp E.N x && Nat.blt d E.N) = true)
    (hb : aggT P t = some true) (hsz : (P.info? t).map (·.size) = some s) (hx : evA st.env x = .pt id (k * s)) (hl : st.ob id = .live ob) (hc : ob.cells = enc f l) (hf : ∀ x, (f x).length = s) (hk : k < l.length) (hav : f (l.getD k df) = cells') (h : K ⟨upd st.env d (.agg cells'), st.ob⟩) : AOp P E o st K := by
  refine aop_ldA (cells := (enc f l).drop (k * s)) ho hd hN hb hsz hx ?_ ?_ ?_ h
  · simp only [ptC, hl, hc]
  · rw [enc_drop hf df l k hk, List.length_append, hf]; omega
  · rw [enc_drop hf df l k hk, List.take_append_of_le_length (by rw [hf]; exact Nat.le_refl _), List.take_of_length_le (by rw [hf]; exact Nat.le_refl _)]
    exact hav
theorem aop_storeE {o : Oper} {t : TypeId} {x y : Operand} {id k s : Nat} {av : AV} {α : Type} {f : α → List AV} {l l' : List α} {ob : LObj} (v : α) (ho : o.op = .store t x y) (hd : o.dst = none) (hN : (okOp E.N x && okOp E.N y) = true)
    (hsz : (P.info? t).map (·.size) = some s) (hx : evA st.env x = .pt id (k * s)) (hl : st.ob id = .live ob) (hc : ob.cells = enc f l) (hy : evA st.env y = av) (hcv : cellsA av = some (f v)) (hf : ∀ x, (f x).length = s) (hk : k < l.length) (h1 : (f v).all isOne = true)
    (hl' : l.set k v = l') (h : K ⟨st.env, updO st.ob id (.live ⟨enc f l', ob.elem, ob.esz⟩)⟩) : AOp P E o st K := by
  subst hl'
  refine aop_store ho hd hN hsz hx hl hy hcv (hf v) ?_ h1 ?_ h
  · have := enc_length hf l
    rw [hc, this]
    have h2 : (k + 1) * s ≤ l.length * s := Nat.mul_le_mul_right s hk
    rw [Nat.add_mul] at h2
    omega
  · rw [hc, enc_set hf l k v hk]

/-- One element, or several, behind a row of one's own. -/
theorem aop_app1 {o : Oper} {c : Call} {t e : TypeId} {s x : Operand} {d id n size bytes : Nat} {z : Value} {ob : LObj} {cells : List AV} {α : Type} {f : α → List AV} {l : List α} (id' : Nat) (v : α) (ho : o.op = .call c) (hc : c = { callee := .builtin .append, args := #[s, x], argTypes := #[t, t] }) (hd : o.dst = some d)
    (hN : (okOp E.N s && okOp E.N x && Nat.blt d E.N) = true) (ht : P.underlying t = some (.slice e)) (hinfo : (P.info? e).map (fun i => (i.zero, i.size, i.bytes)) = some (some z, size, bytes)) (hzs : z.cells.size = size) (hsz : 0 < size)
    (hs0 : evA st.env s = .sl id 0 n) (hl : st.ob id = .live ob) (hoe : ob.elem = e) (hoz : ob.esz = size) (hcl : ob.cells = enc f l) (hn : n = l.length) (hfs : ∀ x, (f x).length = size) (hx0 : evA st.env x = .ro 1 cells) (hcv : cells = f v)
    (hb : (l.length + 1) * bytes ≤ 140737488355328) (hb0 : l.length + 1 ≤ 140737488355328) (hf : st.ob id' = .free) (h : K ⟨upd st.env d (.sl id' 0 (l ++ [v]).length), updO (updO st.ob id .dead) id' (.live ⟨enc f (l ++ [v]), e, size⟩)⟩) : AOp P E o st K := by
  subst hn
  subst hcv
  rw [List.length_append] at h
  exact aop_append id' ho hc hd hN ht hinfo hzs hsz hs0 hl hoe hoz (by rw [hcl, enc_length hfs]) hx0 (by rw [hfs]; omega) hb hb0 hf (by rw [hcl, enc_snoc]) h
theorem aop_appE {o : Oper} {c : Call} {t e : TypeId} {s x : Operand} {d id n m size bytes : Nat} {z : Value} {ob : LObj} {cells : List AV} {α : Type} {f : α → List AV} {l l2 : List α} (id' : Nat) (ho : o.op = .call c) (hc : c = { callee := .builtin .append, args := #[s, x], argTypes := #[t, t] }) (hd : o.dst = some d)
    (hN : (okOp E.N s && okOp E.N x && Nat.blt d E.N) = true) (ht : P.underlying t = some (.slice e)) (hinfo : (P.info? e).map (fun i => (i.zero, i.size, i.bytes)) = some (some z, size, bytes)) (hzs : z.cells.size = size) (hsz : 0 < size)
    (hs0 : evA st.env s = .sl id 0 n) (hl : st.ob id = .live ob) (hoe : ob.elem = e) (hoz : ob.esz = size) (hcl : ob.cells = enc f l) (hn : n = l.length) (hfs : ∀ x, (f x).length = size) (hx0 : evA st.env x = .ro m cells) (hcv : cells = enc f l2) (hm : m = l2.length)
    (hb : (l.length + l2.length) * bytes ≤ 140737488355328) (hb0 : l.length + l2.length ≤ 140737488355328) (hf : st.ob id' = .free) (h : K ⟨upd st.env d (.sl id' 0 (l ++ l2).length), updO (updO st.ob id .dead) id' (.live ⟨enc f (l ++ l2), e, size⟩)⟩) : AOp P E o st K := by
  subst hn
  subst hcv
  subst hm
  rw [List.length_append] at h
  exact aop_append id' ho hc hd hN ht hinfo hzs hsz hs0 hl hoe hoz (by rw [hcl, enc_length hfs]) hx0 (by rw [enc_length hfs]) hb hb0 hf (by rw [hcl, enc_append]) h
theorem enc_rep {α : Type} {f : α → List AV} (n : Nat) (v : α) (a : AV) (h : f v = [a]) : enc f (List.replicate n v) = List.replicate n a := by
  induction n with
  | zero => rfl
  | succ n ih => rw [List.replicate_succ, List.replicate_succ, enc_cons, ih, h]; rfl

theorem aop_makeE {o : Oper} {t e bytes d n : Nat} {x y : Operand} {z : Value} {k k' : IntKind} {m : Int} {α : Type} {f : α → List AV} (id : Nat) (v : α) (ho : o.op = .makeSlice t x y) (hd : o.dst = some d) (hN : (okOp E.N x && okOp E.N y && Nat.blt d E.N) = true)
    (ht : P.underlying t = some (.slice e)) (hinfo : (P.info? e).map (fun i => (i.zero, i.size, i.bytes)) = some (some z, 1, bytes)) (hz1 : z.oneCell' = true) (hx : evA st.env x = .v (.int k m)) (hy : evA st.env y = .v (.int k' m)) (hm : m = (n : Int)) (hnn : n ≤ 281474976710656) (hb : bytes * n ≤ 281474976710656) (hfree : st.ob id = .free) (hv : f v = [.v z])
    (h : K ⟨upd st.env d (.sl id 0 (List.replicate n v).length), updO st.ob id (.live ⟨enc f (List.replicate n v), e, 1⟩)⟩) : AOp P E o st K := by
  rw [List.length_replicate, enc_rep n v _ hv] at h
  exact aop_make id ho hd hN ht hinfo hz1 hx hy hm hnn hb hfree h

/-- A call that hands rows back. -/
theorem callO_ {o : Oper} {c : Call} {cal : Operand} {args : List Operand} {tys : Array TypeId} {f d : Nat} {caps avs : List AV} {res res' : AV} {news news' : List LObj} (s : Nat) (hF : FnO P f avs res news)
    (ho : o.op = .call c) (hc : c = { callee := .value cal, args := args.toArray, argTypes := tys }) (hd : o.dst = some d) (hN : (okOp E.N cal && args.all (okOp E.N) && Nat.blt d E.N) = true)
    (hcal : evA st.env cal = .fn f caps) (hb : bodied P f = true) (hl : Lends st.ob (args.map (evA st.env) ++ caps) avs) (hro : Ok (fun _ => True) False res) (hno : ∀ o, o ∈ news → ∀ c, c ∈ o.cells → Ok (fun _ => False) False c)
    (hfree : ∀ i, i < news.length → st.ob (s + i) = .free) (hres : res.map (· + s) = res') (hnews : news = news')
    (h : K ⟨upd st.env d res', addO st.ob s news'⟩) : AOp P E o st K := by
  refine aop_callO (news' := news') s true ho hc hd hN hcal hb hl (fun h => by cases h) hF (fun _ => ⟨hro, fun o ho c hc => (hno o ho c hc).mono (fun _ h => h.elim) id⟩) hfree hres ?_ h
  subst hnews
  rw [List.map_congr_left (g := id) (fun o ho => ?_), List.map_id]
  have : AV.mapL (· + s) o.cells = o.cells := mapL_noId fun c hc => (hno o ho c hc).mono (fun _ h => h) (fun h => h.elim)
  show LObj.mk _ _ _ = o
  rw [this]
theorem news0 : ∀ o : LObj, o ∈ ([] : List LObj) → ∀ c, c ∈ o.cells → Ok (fun _ => False) False c := fun _ h => by cases h
theorem news1 {o : LObj} {l : List LObj} [h : FlatL o.cells] (k : ∀ o : LObj, o ∈ l → ∀ c, c ∈ o.cells → Ok (fun _ => False) False c) : ∀ o' : LObj, o' ∈ o :: l → ∀ c, c ∈ o'.cells → Ok (fun _ => False) False c := fun o' ho => by
  rcases List.mem_cons.1 ho with rfl | ho
  · exact h.out
  · exact k o' ho
theorem lend_nil {ob : Nat → OSt} : Lend ob (.v (.slice none 0 0)) (.ro 0 []) := .nil
theorem free0 {s : Nat} {ob : Nat → OSt} : ∀ i, i < 0 → ob (s + i) = .free := fun i h => absurd h (Nat.not_lt_zero i)
theorem free1 {s : Nat} {ob : Nat → OSt} (h : ob s = .free) : ∀ i, i < 1 → ob (s + i) = .free := fun i hi => by
  have : i = 0 := by omega
  subst this; exact h
theorem free2 {s : Nat} {ob : Nat → OSt} (h : ob s = .free) (k : ob (s + 1) = .free) : ∀ i, i < 2 → ob (s + i) = .free := fun i hi => by
  have : i = 0 ∨ i = 1 := by omega
  rcases this with rfl | rfl
  · exact h
  · exact k

/-- Two rows go out. -/
theorem fretO2 {t1 t2 N n m : Nat} {s : St} {n' m' : Nat} {o o' p p' : LObj} (i1 i2 : Nat) (hne : i1 ≠ i2) (hN1 : Nat.blt t1 N = true) (hN2 : Nat.blt t2 N = true) (hr1 : s.env t1 = .sl i1 0 n) (hr2 : s.env t2 = .sl i2 0 m) (hl1 : s.ob i1 = .live o) (hl2 : s.ob i2 = .live p) (hn : n = n') (hm : m = m') (ho : o = o') (hp : p = p') [h1 : NoIL o.cells] [h2 : NoIL p.cells] :
    RetOk [t1, t2] (fun r ns => r = .tup [.sl 0 0 n', .sl 1 0 m'] ∧ ns = [o', p']) N s := by
  subst hn
  subst hm
  subst ho
  subst hp
  have hx1 : ix [i1, i2] i1 = 0 := by simp [ix]
  have hb : Nat.beq i2 i1 = false := by
    cases hb : Nat.beq i2 i1 with
    | false => rfl
    | true => exact absurd (Nat.eq_of_beq_eq_true hb).symm hne
  have hx2 : ix [i1, i2] i2 = 1 := by simp [ix, hb]
  refine ⟨[i1, i2], _, _, by simp [hN1, hN2], ⟨rfl, rfl⟩, by simp [hne], ?_, ?_, rfl, fun i id h => ?_⟩
  · simp [mkA, hr1, hr2, AV.map, AV.mapL, hx1, hx2]
  · simp only [List.map_cons, List.map_nil, mkA, hr1, hr2]
    exact .tup _ (oks_cons (.sl _ _ _ (by simp)) (oks_cons (.sl _ _ _ (by simp)) oks_nil))
  · match i, h with
    | 0, h =>
      simp at h
      subst h
      exact ⟨o, hl1, by simp [LObj.map, mapL_noId h1.out], fun c hc => (h1.out c hc).mono (fun _ h => h.elim) (fun h => h)⟩
    | 1, h =>
      simp at h
      subst h
      exact ⟨p, hl2, by simp [LObj.map, mapL_noId h2.out], fun c hc => (h2.out c hc).mono (fun _ h => h.elim) (fun h => h)⟩
    | i + 2, h => simp at h
end
end Go.Lo
