/- Rows of one's own that are moved within themselves; cells cut off; a row under another name. -/
import Derived.Test.YthfmdljohlolpaaLoX
set_option linter.unusedVariables false
set_option linter.unusedSimpArgs false
namespace Go.Lo
section
variable {P : Program} {E : Env0} {st : St} {K : St → Prop}

/-- append of a part of a row of one's own to another part of it, where what is known has room. -/
theorem aop_appendIn {o : Oper} {c : Call} {t e : TypeId} {s x : Operand} {d id off off2 n m size : Nat} {ob : LObj} {cells' : List AV} (ho : o.op = .call c) (hc : c = { callee := .builtin .append, args := #[s, x], argTypes := #[t, t] }) (hd : o.dst = some d)
    (hN : (okOp E.N s && okOp E.N x && Nat.blt d E.N) = true) (ht : P.underlying t = some (.slice e)) (hsz : (P.info? e).map (·.size) = some size) (h0 : 0 < size)
    (hs0 : evA st.env s = .sl id off n) (hx0 : evA st.env x = .sl id off2 m) (hl : st.ob id = .live ob) (hoz : ob.esz = size) (hpos : 0 < ob.cells.length) (hfit2 : off2 + m * size ≤ ob.cells.length) (hfit : off + (n + m) * size ≤ ob.cells.length)
    (hcs : spl ob.cells (off + n * size) ((ob.cells.drop off2).take (m * size)) = cells') (h : K ⟨upd st.env d (.sl id off (n + m)), updO st.ob id (.live ⟨cells', ob.elem, ob.esz⟩)⟩) : AOp P E o st K := by
  subst hc
  subst hoz
  simp only [Bool.and_eq_true] at hN
  rintro a w q ⟨C, hs⟩
  have hrs := hs.ev s hN.1.1
  rw [hs0] at hrs
  have hrx := hs.ev x hN.1.2
  rw [hx0] at hrx
  generalize hus : a.eval s = us at hrs
  generalize hux : a.eval x = ux at hrx
  obtain ⟨i0, hi, hz1⟩ := Option.map_eq_some_iff.1 hsz
  have hznil := (hs.obj.nil id ob hl).2.2
  have hzz := (hs.obj.nil id ob hl).2.1
  cases hrs with
  | slnil _ _ _ hdm hb => rw [hznil hb] at hpos; simp at hpos
  | sl _ _ _ c b hdm hb hnc hm hss =>
    cases hrx with
    | slnil _ _ _ hdm2 hb2 => rw [hb] at hb2; cases hb2
    | sl _ _ _ c2 b2 hdm2 hb2 hnc2 hm2 hss2 =>
      rw [hb] at hb2
      cases hb2
      obtain ⟨hown, cur, hh, hcs', hle, hcell⟩ := hs.obj.live id ob b hl hb
      rw [hzz] at hss hss2
      have hroom : n + m ≤ c := by
        rcases Nat.lt_or_ge c (n + m) with h3 | h3
        · have := Nat.mul_lt_mul_of_pos_right h3 h0
          omega
        · exact h3
      have hexp : (n + m) * ob.esz = n * ob.esz + m * ob.esz := Nat.add_mul _ _ _
      obtain ⟨news, hnews⟩ : ∃ news, news = (cur.toList.drop ((C.sz id).2 + off2)).take (m * ob.esz) := ⟨_, rfl⟩
      have hnl : news.length = m * ob.esz := by rw [hnews]; simp; omega
      have hget : ∀ j, news[j]? = if j < m * ob.esz then cur[(C.sz id).2 + off2 + j]? else none := fun j => by
        rw [hnews, List.getElem?_take]
        split
        · rw [List.getElem?_drop]; simp
        · rfl
      have hn1 : ∀ u ∈ news, u.oneCell' = true := fun u hu => by
        obtain ⟨j, hj⟩ := List.mem_iff_getElem?.1 hu
        rw [hget] at hj
        split at hj
        · rename_i hlt
          obtain ⟨y, hy, h5, _⟩ := hcell (off2 + j) ob.cells[off2 + j] (by rw [List.getElem?_eq_getElem (by omega)])
          rw [← Nat.add_assoc, hj] at hy; cases hy; exact h5
        · cases hj
      have hrun := run_append_room_cells (P := P) w t o.type e i0 ht hi b ((C.sz id).2 + off) n c ⟨b, (C.sz id).2 + off2, none⟩ m c2 news (by rw [hnl, hz1]) (fun j u hu => by
        rw [add_plain]
        rw [hget] at hu
        split at hu
        · simp only [World.cell?, hh]; simpa using hu
        · cases hu) hn1 hroom (fun j hj => by
        rw [hz1]
        simp only [World.cell?, hh]
        simp
        omega) (fun j hj => by simp [World.frozen?, hh])
      rw [hz1, setCells_setRow P hh (by rw [hnl]; omega) hn1, hnl] at hrun
      have hnew := hs.setOwn hl hb cells' (cur.toList.take ((C.sz id).2 + off + n * ob.esz) ++ news ++ cur.toList.drop ((C.sz id).2 + off + n * ob.esz + m * ob.esz)).toArray (by simp [hnl]; omega) (by rw [← hcs]; simp [spl, hnl]; omega) (by
        rw [← hcs]
        have hsc := spl_cells (bs := (C.sz id).2) (vals := news) (cs := (ob.cells.drop off2).take (m * ob.esz)) (off := off + n * ob.esz) hnl (by simp; omega) (by omega) hle hcell (fun j av hj => ?_)
        · simpa only [Nat.add_assoc] using hsc
        rw [List.getElem?_take] at hj
        split at hj
        · rename_i hlt
          rw [List.getElem?_drop] at hj
          obtain ⟨y, hy, h5, h6⟩ := hcell (off2 + j) av hj
          exact ⟨y, by rw [hget, if_pos hlt, Nat.add_assoc]; exact hy, h5, h6⟩
        · cases hj) o.dst (fun d' hd' => by rw [hd] at hd'; cases hd'; exact blt_lt hN.2) (.sl id off (n + m)) (.slice (some ⟨b, (C.sz id).2 + off, none⟩) (n + m) c) (fun _ => .sl id off (n + m) c b hdm hb hroom hm (by rw [hzz]; exact hss))
      unfold Oper.wp
      have hex : (execOp a.eval o).run P w = .ok (.value (.slice (some ⟨b, (C.sz id).2 + off, none⟩) (n + m) c)) (w.setRow b (cur.toList.take ((C.sz id).2 + off + n * ob.esz) ++ news ++ cur.toList.drop ((C.sz id).2 + off + n * ob.esz + m * ob.esz)).toArray) := by
        simp [execOp, ho, resolve, invoke, builtin, hus, hux, hrun]
      rw [hex]
      refine ⟨_, ⟨_, hnew⟩, ?_⟩
      rw [hd]
      exact h

/-- A part of a row of one's own, within what is known of it. -/
theorem aop_sliceIn {o : Oper} {t e sz d id off n l hgh : Nat} {x : Operand} {lo hi : Option Operand} {ob : LObj} (ho : o.op = .slice t x lo hi none) (hd : o.dst = some d) (hN : (okOp E.N x && okO E.N lo && okO E.N hi && Nat.blt d E.N) = true)
    (ht : P.underlying t = some (.slice e)) (hsz : (P.info? e).map (·.size) = some sz) (h0 : 0 < sz) (hx : evA st.env x = .sl id off n) (hl : st.ob id = .live ob) (hoz : ob.esz = sz) (hlo : bndA st.env lo 0 l) (hhi : bndA st.env hi n hgh) (h2 : l < hgh) (hfit : off + hgh * sz ≤ ob.cells.length)
    (h : K ⟨upd st.env d (.sl id (off + l * sz) (hgh - l)), st.ob⟩) : AOp P E o st K := by
  subst hoz
  simp only [Bool.and_eq_true] at hN
  refine aop_value _ (fun d' hd' => by rw [hd] at hd'; cases hd'; exact blt_lt hN.2) (fun a w C hs => ?_) (by rw [hd]; exact h)
  have hx1 := hs.ev x hN.1.1.1
  rw [hx] at hx1
  generalize hux : a.eval x = ux at hx1
  cases hx1 with
  | sl _ _ _ c b hdm hb hnc hm hss =>
    obtain ⟨hown, cur, hh, hcs', hle, hcell⟩ := hs.obj.live id ob b hl hb
    have hzz := (hs.obj.nil id ob hl).2.1
    rw [hzz] at hss
    have hroom : hgh ≤ c := by
      rcases Nat.lt_or_ge c hgh with h3 | h3
      · have := Nat.mul_lt_mul_of_pos_right h3 h0
        omega
      · exact h3
    have hr := run_slice (P := P) (A := some ⟨b, (C.sz id).2 + off, none⟩) (n := n) (c := c) ht hsz (bnd_val hs hN.1.1.2 hlo) (bnd_val hs hN.1.2 hhi) (Nat.le_of_lt h2) hroom w
    refine ⟨_, by simp only [execOp, ho, hux, Option.map_none, Sem.run_bind, hr, Result.andThen_ok]; rfl, ?_⟩
    rw [if_neg (by omega)]
    simp only [Option.map_some, add_plain, Nat.add_assoc]
    refine .sl id _ (hgh - l) (c - l) b hdm hb (by omega) (by omega) ?_
    rw [hzz, Nat.sub_mul]
    have := Nat.mul_le_mul_right ob.esz (show l ≤ c by omega)
    omega
  | slnil _ _ _ hdm hb =>
    have hz := (hs.obj.nil id ob hl).2.2 hb
    rw [hz] at hfit
    have := Nat.mul_le_mul_right ob.esz (show 1 ≤ hgh by omega)
    simp at hfit
    omega

/-- What follows the last element: nothing. -/
theorem aop_sliceEnd {o : Oper} {t e sz d id off n l : Nat} {x : Operand} {lo : Option Operand} (ho : o.op = .slice t x lo none none) (hd : o.dst = some d) (hN : (okOp E.N x && okO E.N lo && Nat.blt d E.N) = true)
    (ht : P.underlying t = some (.slice e)) (hsz : (P.info? e).map (·.size) = some sz) (hx : evA st.env x = .sl id off n) (hlo : bndA st.env lo 0 l) (h2 : l = n)
    (h : K ⟨upd st.env d (.ro 0 []), st.ob⟩) : AOp P E o st K := by
  subst h2
  simp only [Bool.and_eq_true] at hN
  refine aop_value _ (fun d' hd' => by rw [hd] at hd'; cases hd'; exact blt_lt hN.2) (fun a w C hs => ?_) (by rw [hd]; exact h)
  have hx1 := hs.ev x hN.1.1
  rw [hx] at hx1
  generalize hux : a.eval x = ux at hx1
  cases hx1 with
  | sl _ _ _ c b hdm hb hnc hm hss =>
    have hr := run_slice (P := P) (A := some ⟨b, (C.sz id).2 + off, none⟩) (n := l) (c := c) (hgh := l) (vh := none) ht hsz (bnd_val hs hN.1.2 hlo) (.inl ⟨rfl, rfl⟩) (Nat.le_refl _) hnc w
    refine ⟨_, by simp only [execOp, ho, hux, Option.map_none, Sem.run_bind, hr, Result.andThen_ok]; rfl, ?_⟩
    rw [Nat.sub_self]
    refine .ro 0 (c - l) _ [] (fun _ => undef) (Nat.zero_le _) (by omega) (fun hA => ?_) (fun j hj => by simp at hj) (fun j av hj => by simp at hj)
    split at hA
    · cases hA
    · cases hA
  | slnil _ A hA0 hdm hb =>
    have hr := run_slice (P := P) (A := A) (n := 0) (c := 0) (hgh := 0) (vh := none) ht hsz (bnd_val hs hN.1.2 hlo) (.inl ⟨rfl, rfl⟩) (Nat.le_refl _) (Nat.le_refl _) w
    refine ⟨_, by simp only [execOp, ho, hux, Option.map_none, Sem.run_bind, hr, Result.andThen_ok]; rfl, ?_⟩
    refine .ro 0 0 _ [] (fun _ => undef) (Nat.zero_le _) (by decide) (fun hA => ⟨rfl, rfl⟩) (fun j hj => by simp at hj) (fun j av hj => by simp at hj)
/-- append of nothing. -/
theorem aop_appendIn0 {o : Oper} {c : Call} {t e : TypeId} {s x : Operand} {d id off n size : Nat} (ho : o.op = .call c) (hc : c = { callee := .builtin .append, args := #[s, x], argTypes := #[t, t] }) (hd : o.dst = some d)
    (hN : (okOp E.N s && okOp E.N x && Nat.blt d E.N) = true) (ht : P.underlying t = some (.slice e)) (hsz : (P.info? e).map (·.size) = some size)
    (hs0 : evA st.env s = .sl id off n) (hx0 : evA st.env x = .ro 0 []) (h : K ⟨upd st.env d (.sl id off n), st.ob⟩) : AOp P E o st K := by
  subst hc
  simp only [Bool.and_eq_true] at hN
  refine aop_value _ (fun d' hd' => by rw [hd] at hd'; cases hd'; exact blt_lt hN.2) (fun a w C hs => ?_) (by rw [hd]; exact h)
  have hrs := hs.ev s hN.1.1
  rw [hs0] at hrs
  have hrx := hs.ev x hN.1.2
  rw [hx0] at hrx
  obtain ⟨i0, hi, hz1⟩ := Option.map_eq_some_iff.1 hsz
  generalize hus : a.eval s = us at hrs
  generalize hux : a.eval x = ux at hrx
  have hR := hrs
  obtain ⟨A, n', c', rfl, hnc⟩ : ∃ A n' c', us = .slice A n' c' ∧ n' ≤ c' := by
    cases hrs with
    | sl _ _ _ c b hdm hb hnc hm hss => exact ⟨_, _, c, rfl, hnc⟩
    | slnil _ _ _ hdm hb => exact ⟨_, _, 0, rfl, Nat.le_refl _⟩
  obtain ⟨A2, c2, rfl⟩ : ∃ A2 c2, ux = .slice A2 0 c2 := by cases hrx with | ro _ c A _ us hc hm h0 hcell hrel => exact ⟨_, _, rfl⟩
  refine ⟨.slice A n' c', ?_, hR⟩
  have hrun : (Builtin.append_ #[t, t] o.type #[.slice A n' c', .slice A2 0 c2]).run P w = .ok (.slice A n' c') w := by
    cases A <;> cases A2 <;> simp [Builtin.append_, run_underlying ht, sizeOf, typeInfo, hi, Builtin.lenOf, Builtin.firstCells, hnc, storeCells, loadCells, loadCellsFrom]
  simp [execOp, ho, resolve, invoke, builtin, hus, hux, hrun]
/-- The test of three bounds; the slice isn't used. -/
theorem aop_slice3 {o : Oper} {t e sz d id off n l hgh mx : Nat} {x lo hi mo : Operand} {kl kh km : IntKind} (ho : o.op = .slice t x (some lo) (some hi) (some mo)) (hd : o.dst = some d) (hN : (okOp E.N x && okOp E.N lo && okOp E.N hi && okOp E.N mo && Nat.blt d E.N) = true)
    (ht : P.underlying t = some (.slice e)) (hsz : (P.info? e).map (·.size) = some sz) (hx : evA st.env x = .sl id off n) (hlo : evA st.env lo = .v (.int kl (l : Int))) (hhi : evA st.env hi = .v (.int kh (hgh : Int))) (hmo : evA st.env mo = .v (.int km (mx : Int))) (h1 : l ≤ hgh) (h2 : hgh ≤ mx) (h3 : mx ≤ n)
    (h : K ⟨upd st.env d .any, st.ob⟩) : AOp P E o st K := by
  simp only [Bool.and_eq_true] at hN
  refine aop_value .any (fun d' hd' => by rw [hd] at hd'; cases hd'; exact blt_lt hN.2) (fun a w C hs => ?_) (by rw [hd]; exact h)
  have hx1 := hs.ev x hN.1.1.1.1
  rw [hx] at hx1
  have e1 := hs.ev lo hN.1.1.1.2
  rw [hlo] at e1
  have e2 := hs.ev hi hN.1.1.2
  rw [hhi] at e2
  have e3 := hs.ev mo hN.1.2
  rw [hmo] at e3
  obtain ⟨A, c, hux, hc⟩ : ∃ A c, a.eval x = .slice A n c ∧ n ≤ c := by
    generalize a.eval x = ux at hx1
    cases hx1 with
    | sl _ _ _ c b hdm hb hnc hm hss => exact ⟨_, c, rfl, hnc⟩
    | slnil _ _ _ hdm hb => exact ⟨_, 0, rfl, Nat.le_refl _⟩
  have hb : (Instr.sliceBounds true n c (some (.int kl (l : Int))) (some (.int kh (hgh : Int))) (some (.int km (mx : Int)))).run P w = .ok (l, hgh, mx) w := by
    simp [Instr.sliceBounds, Instr.sliceBound, asIntOf, h1, h2, show mx ≤ c by omega, Int.ofNat_le.2 h1, Int.ofNat_le.2 h2, Int.ofNat_le.2 (show mx ≤ c by omega)]
  refine ⟨_, by simp [execOp, ho, hux, e1.v_inv, e2.v_inv, e3.v_inv, Instr.sliceAt, Instr.slice, run_underlying ht, hb, run_sizeOf hsz]; rfl, .any _⟩
end

/-- Within a region: what isn't needed any more is forgotten. -/
theorem aops_rs {P : Program} {E : Env0} {st : St} {K : St → Prop} {ops : Array Oper} {l : List Oper} (e' : Nat → AV) (o' : Nat → OSt) (he : ∀ t, e' t = .any ∨ e' t = st.env t) (ho : o' = st.ob) (h : AOps P E ops l ⟨e', o'⟩ K) : AOps P E ops l st K :=
  aops_cut 0 ⟨e', o'⟩ (op0 (imp_le ⟨he, fun id => .inl (by rw [ho])⟩)) h
/-- The last cells that are known of a row: forgotten. -/
theorem imp_cut {E : Env0} {s : St} {id e z : Nat} {cs r : List AV} (hl : s.ob id = .live ⟨cs ++ r, e, z⟩) : Imp E s ⟨s.env, updO s.ob id (.live ⟨cs, e, z⟩)⟩ := by
  rintro a w ⟨C, hs⟩
  have hlive : ∀ i o, updO s.ob id (.live ⟨cs, e, z⟩) i = .live o → (i = id ∧ o = ⟨cs, e, z⟩) ∨ (i ≠ id ∧ s.ob i = .live o) := fun i o h => by
    by_cases he : i = id
    · subst he; rw [updO_same] at h; cases h; exact .inl ⟨rfl, rfl⟩
    · rw [updO_ne _ _ he] at h; exact .inr ⟨he, h⟩
  have hlive' : ∀ i o, updO s.ob id (.live ⟨cs, e, z⟩) i = .live o → ∃ o', s.ob i = .live o' := fun i o h => by
    rcases hlive i o h with ⟨rfl, _⟩ | ⟨_, h⟩
    · exact ⟨_, hl⟩
    · exact ⟨_, h⟩
  refine ⟨C, hs.size, hs.defers, hs.env, ⟨fun i o h => ?_, fun i o b h hb => ?_, fun i i' o o' b h1 h2 h3 h4 => ?_, fun i hi => ?_, hs.obj.bnd⟩, hs.fr, fun i o b h hb => ?_, hs.keep, hs.newown, hs.init, hs.xbnd⟩
  · rcases hlive i o h with ⟨rfl, rfl⟩ | ⟨_, h⟩
    · obtain ⟨h1, h2, h3⟩ := hs.obj.nil i _ hl
      exact ⟨h1, h2, fun hb => (List.append_eq_nil_iff.1 (h3 hb)).1⟩
    · exact hs.obj.nil i o h
  · rcases hlive i o h with ⟨rfl, rfl⟩ | ⟨_, h⟩
    · obtain ⟨h1, cur, h2, h3, h4, h5⟩ := hs.obj.live i _ b hl hb
      refine ⟨h1, cur, h2, h3, by simp at h4 ⊢; omega, fun j av hj => h5 j av ?_⟩
      show (cs ++ r)[j]? = _
      rw [List.getElem?_append_left (List.getElem?_eq_some_iff.1 hj).1]
      exact hj
    · exact hs.obj.live i o b h hb
  · obtain ⟨_, k1⟩ := hlive' i o h1
    obtain ⟨_, k2⟩ := hlive' i' o' h2
    exact hs.obj.inj i i' _ _ b k1 k2 h3 h4
  · show updO s.ob id _ i ≠ _
    by_cases he : i = id
    · subst he; rw [updO_same]; intro h; cases h
    · rw [updO_ne _ _ he]; exact hs.obj.dom i hi
  · obtain ⟨_, k⟩ := hlive' i o h
    exact hs.fresh i _ b k hb

/-- A row under a new name, also in the cell that holds it; the cells ahead of its first one are forgotten. -/
theorem imp_rb {E : Env0} {s : St} {t r r' n e z : Nat} {o : LObj} (k off : Nat) (ht : s.ob t = .live ⟨[.sl r (k + off) n], e, z⟩) (hr : s.ob r = .live o) (hf : s.ob r' = .free) (htr : t ≠ r) (hk : k ≤ o.cells.length) :
    Imp E s ⟨s.env, updO (updO (updO s.ob t (.live ⟨[.sl r' off n], e, z⟩)) r .dead) r' (.live ⟨o.cells.drop k, o.elem, o.esz⟩)⟩ := by
  rintro a w ⟨C, hs⟩
  have hdom : ¬ C.dom r' := fun h => hs.obj.dom r' h hf
  have hrd := (hs.obj.nil r o hr).1
  have htr' : t ≠ r' := fun e => by subst e; rw [ht] at hf; cases hf
  have hrr : r ≠ r' := fun e => by subst e; rw [hr] at hf; cases hf
  have hbo : ∀ x, C.blk r = some x → C.own x := fun x hx => (hs.obj.live r o x hr hx).1
  have hext : Ext w C w (C.add r' (C.blk r) ((C.sz r).1, (C.sz r).2 + k) (C.esz r)) := Ext.add hdom (fun x hx => .inr (hbo x hx)) (fun _ _ _ => rfl)
  have hownI : ∀ b, (C.add r' (C.blk r) ((C.sz r).1, (C.sz r).2 + k) (C.esz r)).own b → C.own b := fun b hb => hb.elim (fun h => hbo b h.symm) id
  have hlive : ∀ i o', updO (updO (updO s.ob t (.live ⟨[.sl r' off n], e, z⟩)) r .dead) r' (.live ⟨o.cells.drop k, o.elem, o.esz⟩) i = .live o' → (i = r' ∧ o' = ⟨o.cells.drop k, o.elem, o.esz⟩) ∨ (i = t ∧ o' = ⟨[.sl r' off n], e, z⟩) ∨ (i ≠ r' ∧ i ≠ r ∧ i ≠ t ∧ s.ob i = .live o') := fun i o' h => by
    by_cases h1 : i = r'
    · subst h1; rw [updO_same] at h; cases h; exact .inl ⟨rfl, rfl⟩
    · rw [updO_ne _ _ h1] at h
      by_cases h2 : i = r
      · subst h2; rw [updO_same] at h; cases h
      · rw [updO_ne _ _ h2] at h
        by_cases h3 : i = t
        · subst h3; rw [updO_same] at h; cases h; exact .inr (.inl ⟨rfl, rfl⟩)
        · rw [updO_ne _ _ h3] at h; exact .inr (.inr ⟨h1, h2, h3, h⟩)
  -- to the old names
  have hold : ∀ i o' b, updO (updO (updO s.ob t (.live ⟨[.sl r' off n], e, z⟩)) r .dead) r' (.live ⟨o.cells.drop k, o.elem, o.esz⟩) i = .live o' → (C.add r' (C.blk r) ((C.sz r).1, (C.sz r).2 + k) (C.esz r)).blk i = some b → ∃ i0 o0, s.ob i0 = .live o0 ∧ C.blk i0 = some b ∧ ((i = r' ∧ i0 = r) ∨ (i ≠ r' ∧ i0 = i ∧ i ≠ r)) := fun i o' b h hb => by
    rcases hlive i o' h with ⟨rfl, _⟩ | ⟨rfl, _⟩ | ⟨h1, h2, h3, h⟩
    · exact ⟨r, o, hr, by simpa [Ctx.add] using hb, .inl ⟨rfl, rfl⟩⟩
    · exact ⟨i, _, ht, by simpa [Ctx.add, htr'] using hb, .inr ⟨htr', rfl, htr⟩⟩
    · exact ⟨i, o', h, by simpa [Ctx.add, h1] using hb, .inr ⟨h1, rfl, h2⟩⟩
  refine ⟨C.add r' (C.blk r) ((C.sz r).1, (C.sz r).2 + k) (C.esz r), hs.size, hs.defers, fun t ht => (hs.env t ht).ext hext, ⟨fun i o' h => ?_, fun i o' b h hb => ?_, fun i i' o1 o2 b h1 h2 h3 h4 => ?_, fun i hi => ?_, fun b hb => hs.obj.bnd b (hownI b hb)⟩, hs.fr, fun i o' b h hb => ?_, fun b hb => .inr (hs.keep b hb), fun b hb ho => hs.newown b hb (hownI b ho), hext.init hs.init, hs.xbnd⟩
  · rcases hlive i o' h with ⟨rfl, rfl⟩ | ⟨rfl, rfl⟩ | ⟨h1, h2, h3, h⟩
    · obtain ⟨k1, k2, k3⟩ := hs.obj.nil r _ hr
      exact ⟨.inl rfl, by simp [Ctx.add, k2], fun hb => by rw [k3 (by simpa [Ctx.add] using hb)]; simp⟩
    · obtain ⟨k1, k2, k3⟩ := hs.obj.nil i _ ht
      refine ⟨.inr k1, by simp [Ctx.add, htr', k2], fun hb => ?_⟩
      have := k3 (by simpa [Ctx.add, htr'] using hb)
      cases this
    · obtain ⟨k1, k2, k3⟩ := hs.obj.nil i _ h
      exact ⟨.inr k1, by simp [Ctx.add, h1, k2], fun hb => k3 (by simpa [Ctx.add, h1] using hb)⟩
  · rcases hlive i o' h with ⟨rfl, rfl⟩ | ⟨rfl, rfl⟩ | ⟨h1, h2, h3, h⟩
    · obtain ⟨k1, cur, k2, k3, k4, k5⟩ := hs.obj.live r _ b hr (by simpa [Ctx.add] using hb)
      refine ⟨.inr k1, cur, k2, by simp [Ctx.add, k3], by rw [add_sz0]; simp; omega, fun j av hj => ?_⟩
      rw [List.getElem?_drop] at hj
      obtain ⟨u, hu, k6, k7⟩ := k5 (k + j) av hj
      exact ⟨u, by rw [add_sz0]; simpa only [Nat.add_assoc] using hu, k6, k7.ext hext⟩
    · obtain ⟨k1, cur, k2, k3, k4, k5⟩ := hs.obj.live i _ b ht (by simpa [Ctx.add, htr'] using hb)
      refine ⟨.inr k1, cur, k2, by simp [Ctx.add, htr', k3], by rw [add_sz htr']; exact k4, fun j av hj => ?_⟩
      rw [add_sz htr']
      match j, hj with
      | 0, hj =>
        simp at hj
        subst hj
        obtain ⟨u, hu, k6, k7⟩ := k5 0 (.sl r (k + off) n) rfl
        refine ⟨u, hu, k6, ?_⟩
        generalize hm : k + off = m at k7
        cases k7 with
        | sl _ _ _ c b' hd hb' hn hm' hss =>
          have := R.slB (w := w) (C := C.add r' (C.blk r) ((C.sz r).1, (C.sz r).2 + k) (C.esz r)) (id := r') (off := off) (n := n) (c := c) (b := b') (k := (C.sz r).2 + k) (.inl rfl) (by simp [Ctx.add, hb']) hn hm' (by simp [Ctx.add]; omega) (by simp [Ctx.add])
          rw [show (C.sz r).2 + m = (C.sz r).2 + k + off by omega]
          exact this
        | slnil _ A hA hd hb' =>
          obtain rfl : off = 0 := by omega
          exact .slnil r' A hA (.inl rfl) (by simp [Ctx.add, hb'])
      | j + 1, hj => simp at hj
    · obtain ⟨k1, cur, k2, k3, k4, k5⟩ := hs.obj.live i _ b h (by simpa [Ctx.add, h1] using hb)
      refine ⟨.inr k1, cur, k2, by simp [Ctx.add, h1, k3], by rw [add_sz h1]; exact k4, fun j av hj => ?_⟩
      obtain ⟨u, hu, k6, k7⟩ := k5 j av hj
      exact ⟨u, by rw [add_sz h1]; exact hu, k6, k7.ext hext⟩
  · obtain ⟨i0, o0, k1, k2, k3⟩ := hold i o1 b h1 h3
    obtain ⟨i1, o3, l1, l2, l3⟩ := hold i' o2 b h2 h4
    have := hs.obj.inj i0 i1 _ _ b k1 l1 k2 l2
    rcases k3 with ⟨rfl, rfl⟩ | ⟨k3, rfl, k4⟩ <;> rcases l3 with ⟨rfl, rfl⟩ | ⟨l3, rfl, l4⟩
    · rfl
    · exact absurd this.symm l4
    · exact absurd this k4
    · exact this
  · show updO (updO (updO s.ob t _) r _) r' _ i ≠ _
    by_cases h1 : i = r'
    · subst h1; rw [updO_same]; intro h; cases h
    · rw [updO_ne _ _ h1]
      by_cases h2 : i = r
      · subst h2; rw [updO_same]; intro h; cases h
      · rw [updO_ne _ _ h2]
        by_cases h3 : i = t
        · subst h3; rw [updO_same]; intro h; cases h
        · rw [updO_ne _ _ h3]
          rcases hi with hi | hi
          · exact absurd hi h1
          · exact hs.obj.dom i hi
  · obtain ⟨i0, o0, k1, k2, _⟩ := hold i o' b h hb
    exact hs.fresh i0 o0 b k1 k2
/-- A row of one's own, from some cell on, under a new name; where nothing is left of it, it may be nothing at all. -/
theorem SR.tail {E : Env0} {st : St} {C : Ctx} {a : Act} {w : World} (hs : SR E C st a w) {id id' : Nat} {o : LObj} (hl : st.ob id = .live o) (hf : st.ob id' = .free) (k : Nat) (hk : k ≤ o.cells.length) (nb : Option Nat) (hnb : nb = C.blk id ∨ nb = none ∧ o.cells.drop k = []) :
    SR E (C.add id' nb ((C.sz id).1, (C.sz id).2 + k) (C.esz id)) ⟨st.env, updO (updO st.ob id .dead) id' (.live ⟨o.cells.drop k, o.elem, o.esz⟩)⟩ a w := by
  have hdom : ¬ C.dom id' := fun h => hs.obj.dom id' h hf
  have hne : id ≠ id' := fun e => by subst e; rw [hl] at hf; cases hf
  have hblk : ∀ x, nb = some x → C.blk id = some x := fun x hx => by
    rcases hnb with h | ⟨h, _⟩
    · rw [← h]; exact hx
    · rw [h] at hx; cases hx
  have hbo : ∀ x, nb = some x → C.own x := fun x hx => (hs.obj.live id o x hl (hblk x hx)).1
  have hext : Ext w C w (C.add id' nb ((C.sz id).1, (C.sz id).2 + k) (C.esz id)) := Ext.add hdom (fun x hx => .inr (hbo x hx)) (fun _ _ _ => rfl)
  have hownI : ∀ b, (C.add id' nb ((C.sz id).1, (C.sz id).2 + k) (C.esz id)).own b → C.own b := fun b hb => hb.elim (fun h => hbo b h.symm) (fun h => h)
  have hlive : ∀ i o', updO (updO st.ob id .dead) id' (.live ⟨o.cells.drop k, o.elem, o.esz⟩) i = .live o' → (i = id' ∧ o' = ⟨o.cells.drop k, o.elem, o.esz⟩) ∨ (i ≠ id' ∧ i ≠ id ∧ st.ob i = .live o') := fun i o' h => by
    by_cases h1 : i = id'
    · subst h1; rw [updO_same] at h; cases h; exact .inl ⟨rfl, rfl⟩
    · rw [updO_ne _ _ h1] at h
      by_cases h2 : i = id
      · subst h2; rw [updO_same] at h; cases h
      · rw [updO_ne _ _ h2] at h; exact .inr ⟨h1, h2, h⟩
  have hold : ∀ i o' b, updO (updO st.ob id .dead) id' (.live ⟨o.cells.drop k, o.elem, o.esz⟩) i = .live o' → (C.add id' nb ((C.sz id).1, (C.sz id).2 + k) (C.esz id)).blk i = some b → ∃ i0 o0, st.ob i0 = .live o0 ∧ C.blk i0 = some b ∧ ((i = id' ∧ i0 = id) ∨ (i ≠ id' ∧ i0 = i ∧ i ≠ id)) := fun i o' b h hb => by
    rcases hlive i o' h with ⟨rfl, _⟩ | ⟨h1, h2, h⟩
    · exact ⟨id, o, hl, hblk b (by simpa [Ctx.add] using hb), .inl ⟨rfl, rfl⟩⟩
    · exact ⟨i, o', h, by simpa [Ctx.add, h1] using hb, .inr ⟨h1, rfl, h2⟩⟩
  refine ⟨hs.size, hs.defers, fun t ht => (hs.env t ht).ext hext, ⟨fun i o' h => ?_, fun i o' b h hb => ?_, fun i i' o1 o2 b h1 h2 h3 h4 => ?_, fun i hi => ?_, fun b hb => hs.obj.bnd b (hownI b hb)⟩, hs.fr, fun i o' b h hb => ?_, fun b hb => .inr (hs.keep b hb), fun b hb ho => hs.newown b hb (hownI b ho), hext.init hs.init, hs.xbnd⟩
  · rcases hlive i o' h with ⟨rfl, rfl⟩ | ⟨h1, h2, h⟩
    · obtain ⟨k1, k2, k3⟩ := hs.obj.nil id _ hl
      refine ⟨.inl rfl, by simp [Ctx.add, k2], fun hb => ?_⟩
      have hb2 : nb = none := by simpa [Ctx.add] using hb
      rcases hnb with h | ⟨_, h⟩
      · rw [k3 (h.symm.trans hb2)]; simp
      · exact h
    · obtain ⟨k1, k2, k3⟩ := hs.obj.nil i _ h
      exact ⟨.inr k1, by simp [Ctx.add, h1, k2], fun hb => k3 (by simpa [Ctx.add, h1] using hb)⟩
  · rcases hlive i o' h with ⟨rfl, rfl⟩ | ⟨h1, h2, h⟩
    · obtain ⟨k1, cur, k2, k3, k4, k5⟩ := hs.obj.live id _ b hl (hblk b (by simpa [Ctx.add] using hb))
      refine ⟨.inr k1, cur, k2, by simp [Ctx.add, k3], by rw [add_sz0]; simp; omega, fun j av hj => ?_⟩
      rw [List.getElem?_drop] at hj
      obtain ⟨u, hu, k6, k7⟩ := k5 (k + j) av hj
      exact ⟨u, by rw [add_sz0]; simpa only [Nat.add_assoc] using hu, k6, k7.ext hext⟩
    · obtain ⟨k1, cur, k2, k3, k4, k5⟩ := hs.obj.live i _ b h (by simpa [Ctx.add, h1] using hb)
      refine ⟨.inr k1, cur, k2, by simp [Ctx.add, h1, k3], by rw [add_sz h1]; exact k4, fun j av hj => ?_⟩
      obtain ⟨u, hu, k6, k7⟩ := k5 j av hj
      exact ⟨u, by rw [add_sz h1]; exact hu, k6, k7.ext hext⟩
  · obtain ⟨i0, o0, k1, k2, k3⟩ := hold i o1 b h1 h3
    obtain ⟨i1, o3, l1, l2, l3⟩ := hold i' o2 b h2 h4
    have := hs.obj.inj i0 i1 _ _ b k1 l1 k2 l2
    rcases k3 with ⟨rfl, rfl⟩ | ⟨k3, rfl, k4⟩ <;> rcases l3 with ⟨rfl, rfl⟩ | ⟨l3, rfl, l4⟩
    · rfl
    · exact absurd this.symm l4
    · exact absurd this k4
    · exact this
  · show updO (updO st.ob id _) id' _ i ≠ _
    by_cases h1 : i = id'
    · subst h1; rw [updO_same]; intro h; cases h
    · rw [updO_ne _ _ h1]
      by_cases h2 : i = id
      · subst h2; rw [updO_same]; intro h; cases h
      · rw [updO_ne _ _ h2]
        rcases hi with hi | hi
        · exact absurd hi h1
        · exact hs.obj.dom i hi
  · obtain ⟨i0, o0, k1, k2, _⟩ := hold i o' b h hb
    exact hs.fresh i0 o0 b k1 k2
/-- The elements of a row of one's own from l on, perhaps none, under a new name: the row itself isn't used any more. -/
theorem aop_sliceTail {P : Program} {E : Env0} {st : St} {K : St → Prop} {o : Oper} {t e sz d id n l : Nat} {x : Operand} {lo : Option Operand} {ob : LObj} (id' : Nat) (ho : o.op = .slice t x lo none none) (hd : o.dst = some d) (hN : (okOp E.N x && okO E.N lo && Nat.blt d E.N) = true)
    (ht : P.underlying t = some (.slice e)) (hsz : (P.info? e).map (·.size) = some sz) (hx : evA st.env x = .sl id 0 n) (hl : st.ob id = .live ob) (hoz : ob.esz = sz) (hoc : ob.cells.length = n * sz) (hlo : bndA st.env lo 0 l) (h2 : l ≤ n) (hf : st.ob id' = .free)
    {cs : List AV} (hcs : ob.cells.drop (l * sz) = cs) (h : K ⟨upd st.env d (.sl id' 0 (n - l)), updO (updO st.ob id .dead) id' (.live ⟨cs, ob.elem, ob.esz⟩)⟩) : AOp P E o st K := by
  subst hcs
  subst hoz
  simp only [Bool.and_eq_true] at hN
  rintro a w q ⟨C, hs⟩
  have hx1 := hs.ev x hN.1.1
  rw [hx] at hx1
  have hle : l * ob.esz ≤ ob.cells.length := by rw [hoc]; exact Nat.mul_le_mul_right _ h2
  have fin : ∀ (u : Value) (nb : Option Nat), (nb = C.blk id ∨ nb = none ∧ ob.cells.drop (l * ob.esz) = []) → (execOp a.eval o).run P w = .ok (.value u) w → R w (C.add id' nb ((C.sz id).1, (C.sz id).2 + l * ob.esz) (C.esz id)) (.sl id' 0 (n - l)) u →
      o.wp P a w (fun a' w' => ∃ st', SRel E st' a' w' ∧ K st') q := fun u nb hnb hr hR => by
    have hset := (hs.tail hl hf (l * ob.esz) hle nb hnb).set o.dst (fun d' hd' => by rw [hd] at hd'; cases hd'; exact blt_lt hN.2) (.sl id' 0 (n - l)) u (fun _ => hR)
    unfold Oper.wp
    rw [hr]
    refine ⟨_, ⟨_, hset⟩, ?_⟩
    rw [hd]
    exact h
  generalize hux : a.eval x = ux at hx1
  have hz := (hs.obj.nil id ob hl).2.1
  cases hx1 with
  | sl _ _ _ c b hdm hb hnc hm hss =>
    have hr := run_slice (P := P) (A := some ⟨b, (C.sz id).2 + 0, none⟩) (n := n) (c := c) (hgh := n) (vh := none) ht hsz (bnd_val hs hN.1.2 hlo) (.inl ⟨rfl, rfl⟩) h2 hnc w
    by_cases hc : c = l
    · refine fin _ none (.inr ⟨rfl, List.drop_of_length_le (by rw [hoc]; exact Nat.mul_le_mul_right _ (by omega))⟩) (by simp only [execOp, ho, hux, Option.map_none, Sem.run_bind, hr, Result.andThen_ok]; rfl) ?_
      rw [if_pos hc, show n - l = 0 by omega, show c - l = 0 by omega]
      exact .slnil id' _ (fun a ha => by cases ha; exact ⟨_, _, rfl⟩) (.inl rfl) (by simp [Ctx.add])
    · refine fin _ (some b) (.inl hb.symm) (by simp only [execOp, ho, hux, Option.map_none, Sem.run_bind, hr, Result.andThen_ok]; rfl) ?_
      rw [if_neg hc]
      simp only [Option.map_some, add_plain, Nat.add_zero]
      refine R.slB (off := 0) (.inl rfl) (by simp [Ctx.add]) (by omega) (by omega) ?_ (by simp [Ctx.add])
      simp only [Ctx.add, if_true]
      rw [hz] at hss ⊢
      rw [Nat.sub_mul]
      have := Nat.mul_le_mul_right ob.esz (show l ≤ c by omega)
      show (C.sz id).2 + l * ob.esz + 0 + (c * ob.esz - l * ob.esz) = (C.sz id).1
      omega
  | slnil _ A hA hdm hb =>
    obtain rfl : l = 0 := by omega
    have hr := run_slice (P := P) (A := A) (n := 0) (c := 0) (hgh := 0) (vh := none) ht hsz (bnd_val hs hN.1.2 hlo) (.inl ⟨rfl, rfl⟩) (Nat.le_refl _) (Nat.le_refl _) w
    refine fin _ none (.inl hb.symm) (by simp only [execOp, ho, hux, Option.map_none, Sem.run_bind, hr, Result.andThen_ok]; rfl) ?_
    exact .slnil id' A hA (.inl rfl) (by simp [Ctx.add])
theorem imp_mv {E : Env0} {s : St} {t r r' off n e z : Nat} {o : LObj} (ht : s.ob t = .live ⟨[.sl r off n], e, z⟩) (hr : s.ob r = .live o) (hf : s.ob r' = .free) (htr : t ≠ r) :
    Imp E s ⟨s.env, updO (updO (updO s.ob t (.live ⟨[.sl r' off n], e, z⟩)) r .dead) r' (.live o)⟩ := imp_rb 0 off (by rw [Nat.zero_add]; exact ht) hr hf htr (Nat.zero_le _)
end Go.Lo
