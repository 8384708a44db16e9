/- The built-in 'copy' onto a row of one's own; bits; the greater one; arrays that are read. -/
import Derived.Test.YthfmdljohlolpaaLoR
set_option linter.unusedVariables false
set_option linter.unusedSimpArgs false
namespace Go.Lo
section
variable {P : Program} {E : Env0} {st : St} {K : St → Prop}
/-- The first cells of a source. -/
def Src (E : Env0) (st : St) (y : Operand) (m : Nat) (cs : List AV) : Prop :=
  ∀ (C : Ctx) (a : Act) (w : World), SR E C st a w → ∃ ad cp, ∃ us : List Value, a.eval y = .slice (some ad) m cp ∧ us.length = cs.length ∧ (∀ (j : Nat) (x : Value), us[j]? = some x → w.cell? (ad.add j) = some x) ∧ (∀ x ∈ us, x.oneCell' = true) ∧ ∀ (j : Nat) (c : AV), cs[j]? = some c → ∃ x : Value, us[j]? = some x ∧ R w C c x
theorem src_ro {y : Operand} {m : Nat} {cells cs : List AV} (k : Nat) (hN : okOp E.N y = true) (hy : evA st.env y = .ro m cells) (hk : cells.take k = cs) (hm : 0 < m) : Src E st y m cs := fun C a w hs => by
  have hr := hs.ev y hN
  rw [hy] at hr
  obtain ⟨A, c, hu, h0, us, hl, h1, h2, h3⟩ := ro_cells hr
  cases A with
  | none => have := (h0 rfl).1; omega
  | some ad =>
    refine ⟨ad, c, us.take k, hu, by rw [← hk]; simp [hl], fun j x hj => ?_, fun x hx => h2 x (List.mem_of_mem_take hx), fun j c hj => ?_⟩
    · rw [List.getElem?_take] at hj
      split at hj
      · exact h1 ad rfl j x hj
      · cases hj
    · rw [← hk, List.getElem?_take] at hj
      split at hj
      · rename_i hlt
        obtain ⟨x, hx, hr⟩ := h3 j c hj
        exact ⟨x, by rw [List.getElem?_take, if_pos hlt]; exact hx, hr⟩
      · cases hj
theorem src_sl {y : Operand} {m id : Nat} {ob : LObj} {cs : List AV} (k : Nat) (hN : okOp E.N y = true) (hy : evA st.env y = .sl id 0 m) (hl : st.ob id = .live ob) (hk : ob.cells.take k = cs) (hm : 0 < m) : Src E st y m cs := fun C a w hs => by
  have hr := hs.ev y hN
  rw [hy] at hr
  generalize hu : a.eval y = u at hr
  cases hr with
  | sl _ _ _ c b hd hb hnc hmx hss =>
    obtain ⟨hown, cur, hh, hcs, hle, hcell⟩ := hs.obj.live id ob b hl hb
    have hlen : ((cur.toList.drop (C.sz id).2).take cs.length).length = cs.length := by
      have : cs.length ≤ ob.cells.length := by rw [← hk]; simp; omega
      simp; omega
    refine ⟨_, c, (cur.toList.drop (C.sz id).2).take cs.length, rfl, hlen, fun j x hj => ?_, fun x hx => ?_, fun j c' hj => ?_⟩
    · rw [List.getElem?_take] at hj
      split at hj
      · rw [add_plain, Nat.add_zero]
        rw [List.getElem?_drop] at hj
        simp only [World.cell?, hh]
        simpa using hj
      · cases hj
    · obtain ⟨j, hj, rfl⟩ := List.getElem_of_mem hx
      have hjl : j < ob.cells.length := by
        have : cs.length ≤ ob.cells.length := by rw [← hk]; simp; omega
        simp at hj; omega
      obtain ⟨y, hy2, h4, _⟩ := hcell j ob.cells[j] (List.getElem?_eq_getElem hjl)
      rw [List.getElem_take, List.getElem_drop]
      have hj' : (C.sz id).2 + j < cur.size := by omega
      simp [hj'] at hy2
      simpa [hy2] using h4
    · have hjl := (List.getElem?_eq_some_iff.1 hj).1
      rw [← hk, List.getElem?_take] at hj
      split at hj
      · obtain ⟨x, hx, _, hr⟩ := hcell j c' hj
        exact ⟨x, by rw [List.getElem?_take, if_pos hjl, List.getElem?_drop]; simpa using hx, hr⟩
      · cases hj
  | slnil _ _ _ hd hb => omega
theorem aop_copy {o : Oper} {c : Call} {t t2 e : TypeId} {x y : Operand} {id off n m k d : Nat} {s : Nat} {ob : LObj} {cs cells' : List AV} (ho : o.op = .call c) (hc : c = { callee := .builtin .copy, args := #[x, y], argTypes := #[t, t2] }) (hd : o.dst = some d) (hN : (okOp E.N x && okOp E.N y && Nat.blt d E.N) = true)
    (ht : P.underlying t = some (.slice e)) (hsz : (P.info? e).map (·.size) = some s) (hx : evA st.env x = .sl id off n) (hl : st.ob id = .live ob) (hsrc : Src E st y m cs) (hk : Nat.min m n = k) (hcs : cs.length = k * s) (hk0 : 0 < n) (hfit : off + k * s ≤ ob.cells.length) (hsp : spl ob.cells off cs = cells')
    (h : K ⟨upd st.env d (.v (.int .i64 (k : Int))), updO st.ob id (.live ⟨cells', ob.elem, ob.esz⟩)⟩) : AOp P E o st K := by
  subst hc
  rintro a w q ⟨C, hs⟩
  simp only [Bool.and_eq_true] at hN
  have hrx := hs.ev x hN.1.1
  rw [hx] at hrx
  generalize hux : a.eval x = ux at hrx
  obtain ⟨ad, cp, us, huy, hul, hu1, hu2, hu3⟩ := hsrc C a w hs
  cases hrx with
  | sl _ _ _ c b hdm hb hnc hm hss =>
    obtain ⟨hown, cur, hh, hcsz, hle, hcell⟩ := hs.obj.live id ob b hl hb
    have hfc := run_firstCells_some (P := P) w s k ad m cp us (by rw [hul, hcs]) hu1
    have hst := run_storeCells_at P b ((C.sz id).2 + off) ob.elem us 0 cur w hh (by rw [hul, hcs]; omega) hu2
    have hrun : (execOp a.eval o).run P w = .ok (.value (.int .i64 (k : Int))) (w.setRow b (cur.toList.take ((C.sz id).2 + off) ++ us ++ cur.toList.drop ((C.sz id).2 + off + k * s)).toArray) := by
      rw [hul, hcs] at hst
      simp only [Nat.add_zero] at hst
      simp [execOp, ho, resolve, invoke, builtin, Builtin.copy_, Builtin.lenOf, hux, huy, run_underlying ht, run_sizeOf hsz, hk, hfc, hst, goInt]
    have hnew := hs.setOwn hl hb cells' (cur.toList.take ((C.sz id).2 + off) ++ us ++ cur.toList.drop ((C.sz id).2 + off + k * s)).toArray (by simp [hul, hcs]; omega) (by rw [← hsp]; simp [spl, hul, hcs]; omega) (by
      rw [← hsp]
      refine spl_cells (by rw [hul, hcs]) hcs hfit hle hcell (fun j av hj => ?_)
      obtain ⟨u, hu, hr⟩ := hu3 j av hj
      exact ⟨u, hu, hu2 u (List.mem_of_getElem? hu), hr⟩) o.dst (fun d' hd' => by rw [hd] at hd'; cases hd'; exact blt_lt hN.2) (.v (.int .i64 (k : Int))) (.int .i64 (k : Int)) (fun _ => .v _)
    unfold Oper.wp
    rw [hrun]
    refine ⟨_, ⟨_, hnew⟩, ?_⟩
    rw [hd]
    exact h
  | slnil _ _ _ hdm hb => omega

/-! ### bits, the greater one -/
def andI (k : IntKind) (a b : Int) : Int := k.wrap (BitVec.ofInt k.bits a &&& BitVec.ofInt k.bits b).toNat
theorem aop_and {o : Oper} {t t' : TypeId} {x y : Operand} {d : Nat} {k : IntKind} {a b : Int} (ho : o.op = .binOp .and t x y t') (hd : o.dst = some d) (hN : (okOp E.N x && okOp E.N y && Nat.blt d E.N) = true)
    (hx : evA st.env x = .v (.int k a)) (hy : evA st.env y = .v (.int k b)) (h : K ⟨upd st.env d (.v (.int k (andI k a b))), st.ob⟩) : AOp P E o st K :=
  aop_bin ho hd hN hx hy (fun w => by simp [eqGuard, binOp, Op.intBits, andI]) h
theorem aop_shrK {o : Oper} {t t' : TypeId} {x y : Operand} {d : Nat} {k k' : IntKind} {a : Int} (n : Nat) (ho : o.op = .binOp .shr t x y t') (hd : o.dst = some d) (hN : (okOp E.N x && okOp E.N y && Nat.blt d E.N) = true)
    (hx : evA st.env x = .v (.int k a)) (hy : evA st.env y = .v (.int k' (n : Int))) (hn : n ≤ k.bits) (h : K ⟨upd st.env d (.v (.int k (a.fdiv (2 ^ n)))), st.ob⟩) : AOp P E o st K := aop_shr ho hd hN hx hy hn h
theorem aop_max {o : Oper} {c : Call} {ty : Array TypeId} {x y : Operand} {d : Nat} {k : IntKind} {a b r : Int} (ho : o.op = .call c) (hc : c = { callee := .builtin .max, args := #[x, y], argTypes := ty }) (hd : o.dst = some d) (hN : (okOp E.N x && okOp E.N y && Nat.blt d E.N) = true)
    (hx : evA st.env x = .v (.int k a)) (hy : evA st.env y = .v (.int k b)) (hr : ∀ w, (Builtin.max_ ty o.type #[.int k a, .int k b]).run P w = .ok (.int k r) w) (h : K ⟨upd st.env d (.v (.int k r)), st.ob⟩) : AOp P E o st K := by
  subst hc
  simp only [Bool.and_eq_true] at hN
  refine aop_value (.v (.int k r)) (fun d' hd' => by rw [hd] at hd'; cases hd'; exact blt_lt hN.2) (fun a' w C hs => ⟨.int k r, ?_, .v _⟩) (by rw [hd]; exact h)
  have h1 := hs.ev x hN.1.1
  have h2 := hs.ev y hN.1.2
  rw [hx] at h1
  rw [hy] at h2
  simp [execOp, ho, resolve, invoke, builtin, h1.v_inv, h2.v_inv, hr]
theorem aop_min {o : Oper} {c : Call} {ty : Array TypeId} {x y : Operand} {d : Nat} {k : IntKind} {a b r : Int} (ho : o.op = .call c) (hc : c = { callee := .builtin .min, args := #[x, y], argTypes := ty }) (hd : o.dst = some d) (hN : (okOp E.N x && okOp E.N y && Nat.blt d E.N) = true)
    (hx : evA st.env x = .v (.int k a)) (hy : evA st.env y = .v (.int k b)) (hr : ∀ w, (Builtin.min_ ty o.type #[.int k a, .int k b]).run P w = .ok (.int k r) w) (h : K ⟨upd st.env d (.v (.int k r)), st.ob⟩) : AOp P E o st K := by
  subst hc
  simp only [Bool.and_eq_true] at hN
  refine aop_value (.v (.int k r)) (fun d' hd' => by rw [hd] at hd'; cases hd'; exact blt_lt hN.2) (fun a' w C hs => ⟨.int k r, ?_, .v _⟩) (by rw [hd]; exact h)
  have h1 := hs.ev x hN.1.1
  have h2 := hs.ev y hN.1.2
  rw [hx] at h1
  rw [hy] at h2
  simp [execOp, ho, resolve, invoke, builtin, h1.v_inv, h2.v_inv, hr]
/-- An element of an array that is only read, by a number that is not known. -/
theorem aop_ixArrI {o : Oper} {t e : TypeId} {x ix : Operand} {d n sz : Nat} {k : IntKind} {i : Int} {cells : List AV} (ho : o.op = .indexAddr t x ix) (hd : o.dst = some d) (hN : (okOp E.N x && okOp E.N ix && Nat.blt d E.N) = true)
    (ht : P.underlying t = some (.array n e)) (hsz : (P.info? e).map (·.size) = some sz) (hx : evA st.env x = .rp cells) (hi : evA st.env ix = .v (.int k i)) (h0 : 0 ≤ i) (h1 : i < (n : Int))
    (h : K ⟨upd st.env d (.rp (cells.drop (i.toNat * sz))), st.ob⟩) : AOp P E o st K := by
  obtain ⟨j, rfl⟩ := Int.eq_ofNat_of_zero_le h0
  exact aop_ixArr (i := j) ho hd hN ht hsz hx hi (by omega) (by simpa using h)
/-- An element of an array of one's own. -/
theorem aop_ixArrO {o : Oper} {t e : TypeId} {x ix : Operand} {d n sz id i : Nat} {k : IntKind} (ho : o.op = .indexAddr t x ix) (hd : o.dst = some d) (hN : (okOp E.N x && okOp E.N ix && Nat.blt d E.N) = true)
    (ht : P.underlying t = some (.array n e)) (hsz : (P.info? e).map (·.size) = some sz) (hx : evA st.env x = .pt id 0) (hi : evA st.env ix = .v (.int k (i : Int))) (h1 : i < n)
    (h : K ⟨upd st.env d (.pt id (i * sz)), st.ob⟩) : AOp P E o st K := by
  simp only [Bool.and_eq_true] at hN
  refine aop_value _ (fun d' hd' => by rw [hd] at hd'; cases hd'; exact blt_lt hN.2) (fun a w C hs => ?_) (by rw [hd]; exact h)
  have hx1 := hs.ev x hN.1.1
  rw [hx] at hx1
  have hi1 := hs.ev ix hN.1.2
  rw [hi] at hi1
  have hi2 := hi1.v_inv
  generalize hux : a.eval x = ux at hx1
  cases hx1 with
  | pt _ _ b hdm hb =>
    refine ⟨.pointer (some ⟨b, (C.sz id).2 + i * sz, none⟩), ?_, .pt id _ b hdm hb⟩
    simp [execOp, ho, hux, hi2, Instr.indexAt, Instr.sureAddr, asIntOf, run_underlying ht, h1, run_sizeOf hsz, add_plain]
theorem aop_eqv {o : Oper} {d : Nat} {a b : AV} (h : AOp P E o st (fun s => s = ⟨upd st.env d a, st.ob⟩)) (hab : a = b) (hk : K ⟨upd st.env d b, st.ob⟩) : AOp P E o st K := by
  subst hab
  exact h.mono fun s hs => by rw [hs]; exact hk
theorem maxI {ty : Array TypeId} {t : TypeId} {k : IntKind} {a b r : Int} (h : (if b > a then b else a) = r) : ∀ w, (Builtin.max_ ty t #[.int k a, .int k b]).run P w = .ok (.int k r) w := fun w => by subst h; rfl
theorem minI {ty : Array TypeId} {t : TypeId} {k : IntKind} {a b r : Int} (h : (if b < a then b else a) = r) : ∀ w, (Builtin.min_ ty t #[.int k a, .int k b]).run P w = .ok (.int k r) w := fun w => by subst h; rfl
end
end Go.Lo
