/- Part of the logic of values: what the law reaches. -/
import Derived.Test.YtdeajfldegcdaaaPFnLsqLoR
set_option linter.unusedVariables false
set_option linter.unusedSimpArgs false
namespace Go.Lo
section
variable {P : Program} {E : Env0} {st : St} {K : St → Prop}
def Src (E : Env0) (st : St) (y : Operand) (m : Nat) (cs : List AV) : Prop :=
 ∀ (C : Ctx) (a : Act) (w : World), SR E C st a w → ∃ ad cp, ∃ us : List Value, a.eval y = .slice (some ad) m cp ∧ us.length = cs.length ∧ (∀ (j : Nat) (x : Value), us[j]? = some x → w.cell? (ad.add j) = some x) ∧ (∀ x ∈ us, x.oneCell' = true) ∧ ∀ (j : Nat) (c : AV), cs[j]? = some c → ∃ x : Value, us[j]? = some x ∧ R w C c x
theorem src_ro {y : Operand} {m : Nat} {cells cs : List AV} (k : Nat) (hN : okOp E.N y = true) (hy : evA st.env y = .ro m cells) (hk : cells.take k = cs) (hm : 0 < m) : Src E st y m cs := fun C a w hs => by
 have hr := hs.ev y hN
 rw [hy] at hr
 obtain ⟨A, c, hu, h0, us, hl, h1, h2, h3⟩ := ro_cells hr
 cases A with
 | none => have := (h0 rfl).1; omega
 | some ad =>
  refine ⟨ad, c, us.take k, hu, by rw [← hk]; simp [hl], fun j x hj => ?_, fun x hx => h2 x (List.mem_of_mem_take hx), fun j c hj => ?_⟩
  ·rw [List.getElem?_take] at hj
   split at hj
   ·exact h1 ad rfl j x hj
   ·cases hj
  ·rw [← hk, List.getElem?_take] at hj
   split at hj
   ·rename_i hlt
    obtain ⟨x, hx, hr⟩ := h3 j c hj
    exact ⟨x, by rw [List.getElem?_take, if_pos hlt]; exact hx, hr⟩
   ·cases hj
theorem src_sl {y : Operand} {m id : Nat} {ob : LObj} {cs : List AV} (k : Nat) (hN : okOp E.N y = true) (hy : evA st.env y = .sl id 0 m) (hl : st.ob id = .live ob) (hk : ob.cells.take k = cs) (hm : 0 < m) : Src E st y m cs := fun C a w hs => by
 have hr := hs.ev y hN
 rw [hy] at hr
 generalize hu : a.eval y = u at hr
 cases hr with
 | sl _ _ _ c b hd hb hnc hmx hss =>
  obtain ⟨hown, cur, hh, hcs, hle, hcell⟩ := hs.obj.live id ob b hl hb
  have hlen : (cur.toList.take cs.length).length = cs.length := by
   have : cs.length ≤ ob.cells.length := by rw [← hk]; simp; omega
   simp; omega
  refine ⟨_, c, cur.toList.take cs.length, rfl, hlen, fun j x hj => ?_, fun x hx => ?_, fun j c' hj => ?_⟩
  ·rw [List.getElem?_take] at hj
   split at hj
   ·rw [add_plain, Nat.zero_add]
    simp only [World.cell?, hh]
    simpa using hj
   ·cases hj
  ·obtain ⟨j, hj, rfl⟩ := List.getElem_of_mem hx
   have hjl : j < ob.cells.length := by
    have : cs.length ≤ ob.cells.length := by rw [← hk]; simp; omega
    simp at hj; omega
   obtain ⟨y, hy2, h4, _⟩ := hcell j ob.cells[j] (List.getElem?_eq_getElem hjl)
   rw [List.getElem_take]
   have hj' : j < cur.size := by omega
   simp [hj'] at hy2
   simpa [hy2] using h4
  ·have hjl := (List.getElem?_eq_some_iff.1 hj).1
   rw [← hk, List.getElem?_take] at hj
   split at hj
   ·obtain ⟨x, hx, _, hr⟩ := hcell j c' hj
    exact ⟨x, by rw [List.getElem?_take, if_pos hjl]; simpa using hx, hr⟩
   ·cases hj
 | slnil _ hd hb => omega
theorem aop_copy {o : Oper} {c : Call} {t t2 e : TypeId} {x y : Operand} {id off n m k d : Nat} {s : Nat} {ob : LObj} {cs cells' : List AV} (ho : o.op = .call c) (hc : c = { callee := .builtin .copy, args := #[x, y], argTypes := #[t, t2] }) (hd : o.dst = some d) (hN : (okOp E.N x && okOp E.N y && Nat.blt d E.N) = true)
  (ht : P.underlying t = some (.slice e)) (hsz : (P.info? e).map (·.size) = some s) (hx : evA st.env x = .sl id off n) (hl : st.ob id = .live ob) (hsrc : Src E st y m cs) (hk : Nat.min m n = k) (hcs : cs.length = k * s) (hk0 : 0 < n) (hfit : off + k * s ≤ ob.cells.length) (hsp : spl ob.cells off cs = cells')
  (h : K ⟨upd st.env d (.v (.int .i64 (k : Int))), updO st.ob id (.live ⟨cells', ob.elem, ob.esz⟩)⟩) : AOp P E o st K := by
 subst hc
 rintro a w q ⟨C, hs⟩
 simp only [Bool.and_eq_true] at hN
 have hrx := hs.ev x hN.1.1
 rw [hx] at hrx
 generalize hux : a.eval x = ux at hrx
 obtain ⟨ad, cp, us, huy, hul, hu1, hu2, hu3⟩ := hsrc C a w hs
 cases hrx with
 | sl _ _ _ c b hdm hb hnc hm hss =>
  obtain ⟨hown, cur, hh, hcsz, hle, hcell⟩ := hs.obj.live id ob b hl hb
  have hfc := run_firstCells_some (P := P) w s k ad m cp us (by rw [hul, hcs]) hu1
  have hst := run_storeCells_at P b off ob.elem us 0 cur w hh (by rw [hul, hcs]; omega) hu2
  have hrun : (execOp a.eval o).run P w = .ok (.value (.int .i64 (k : Int))) (w.setRow b (cur.toList.take off ++ us ++ cur.toList.drop (off + k * s)).toArray) := by
   rw [hul, hcs] at hst
   simp only [Nat.add_zero] at hst
   simp [execOp, ho, resolve, invoke, builtin, Builtin.copy_, Builtin.lenOf, hux, huy, run_underlying ht, run_sizeOf hsz, hk, hfc, hst, goInt]
  have hnew := hs.setOwn hl hb cells' (cur.toList.take off ++ us ++ cur.toList.drop (off + k * s)).toArray (by simp [hul, hcs]; omega) (by rw [← hsp]; simp [spl, hul, hcs]; omega) (by
   rw [← hsp]
   refine spl_cells (by rw [hul, hcs]) hcs hfit hle hcell (fun j av hj => ?_)
   obtain ⟨u, hu, hr⟩ := hu3 j av hj
   exact ⟨u, hu, hu2 u (List.mem_of_getElem? hu), hr⟩) o.dst (fun d' hd' => by rw [hd] at hd'; cases hd'; exact blt_lt hN.2) (.v (.int .i64 (k : Int))) (.int .i64 (k : Int)) (fun _ => .v _)
  unfold Oper.wp
  rw [hrun]
  refine ⟨_, ⟨_, hnew⟩, ?_⟩
  rw [hd]
  exact h
 | slnil _ hdm hb => omega
def andI (k : IntKind) (a b : Int) : Int := k.wrap (BitVec.ofInt k.bits a &&& BitVec.ofInt k.bits b).toNat
theorem aop_and {o : Oper} {t t' : TypeId} {x y : Operand} {d : Nat} {k : IntKind} {a b : Int} (ho : o.op = .binOp .and t x y t') (hd : o.dst = some d) (hN : (okOp E.N x && okOp E.N y && Nat.blt d E.N) = true)
  (hx : evA st.env x = .v (.int k a)) (hy : evA st.env y = .v (.int k b)) (h : K ⟨upd st.env d (.v (.int k (andI k a b))), st.ob⟩) : AOp P E o st K :=
 aop_bin ho hd hN hx hy (fun w => by simp [eqGuard, binOp, Op.intBits, andI]) h
theorem aop_shrK {o : Oper} {t t' : TypeId} {x y : Operand} {d : Nat} {k k' : IntKind} {a : Int} (n : Nat) (ho : o.op = .binOp .shr t x y t') (hd : o.dst = some d) (hN : (okOp E.N x && okOp E.N y && Nat.blt d E.N) = true)
  (hx : evA st.env x = .v (.int k a)) (hy : evA st.env y = .v (.int k' (n : Int))) (hn : n ≤ k.bits) (h : K ⟨upd st.env d (.v (.int k (a.fdiv (2 ^ n)))), st.ob⟩) : AOp P E o st K := aop_shr ho hd hN hx hy hn h
end
end Go.Lo
