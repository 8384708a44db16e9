/- An element of an array's value; the capacity, the cut of nil; zeros appended to nil. -/
import Derived.Test.YthfmdljohlolpaaLoV
import Derived.Lib.AppendZerosOnto
set_option linter.unusedVariables false
set_option linter.unusedSimpArgs false
namespace Go.Lo
section
variable {P : Program} {E : Env0} {st : St} {K : St → Prop}

theorem aop_index {o : Oper} {t e : TypeId} {x ix : Operand} {d n sz : Nat} {b : Bool} {k : IntKind} {i : Int} {cells : List AV} {av : AV} (ho : o.op = .index t x ix) (hd : o.dst = some d) (hN : (okOp E.N x && okOp E.N ix && Nat.blt d E.N) = true)
    (ht : P.underlying t = some (.array n e)) (hb : aggT P e = some b) (hsz : (P.info? e).map (·.size) = some sz) (hx : evA st.env x = .agg cells) (hi : evA st.env ix = .v (.int k i)) (h0 : 0 ≤ i) (h1 : i < n)
    (hp : partA b cells (i.toNat * sz) sz = some av) (h : K ⟨upd st.env d av, st.ob⟩) : AOp P E o st K := by
  simp only [Bool.and_eq_true] at hN
  refine aop_value av (fun d' hd' => by rw [hd] at hd'; cases hd'; exact blt_lt hN.2) (fun a w C hs => ?_) (by rw [hd]; exact h)
  have hx1 := hs.ev x hN.1.1
  rw [hx] at hx1
  have hi1 := hs.ev ix hN.1.2
  rw [hi] at hi1
  have hi2 := hi1.v_inv
  generalize hux : a.eval x = ux at hx1
  cases hx1 with
  | agg _ us hsz' hrel =>
    obtain ⟨u, hr, hR⟩ := R_part (off := i.toNat * sz) hb hsz hp hsz' hrel
    refine ⟨u, ?_, hR⟩
    simp [execOp, ho, hux, hi2, Instr.index, asIntOf, run_underlying ht, h0, h1, run_sizeOf hsz, hr]

theorem aop_capNil {o : Oper} {c : Call} {t e : TypeId} {x : Operand} {d : Nat} (ho : o.op = .call c) (hc : c = { callee := .builtin .cap, args := #[x], argTypes := #[t] }) (hd : o.dst = some d) (hN : (okOp E.N x && Nat.blt d E.N) = true)
    (ht : P.underlying t = some (.slice e)) (hx : evA st.env x = .v (.slice none 0 0)) (h : K ⟨upd st.env d (.v (.int .i64 0)), st.ob⟩) : AOp P E o st K := by
  subst hc
  simp only [Bool.and_eq_true] at hN
  refine aop_value (.v (.int .i64 0)) (fun d' hd' => by rw [hd] at hd'; cases hd'; exact blt_lt hN.2) (fun a w C hs => ?_) (by rw [hd]; exact h)
  have hx1 := hs.ev x hN.1
  rw [hx] at hx1
  have hx2 := hx1.v_inv
  refine ⟨.int .i64 0, ?_, .v _⟩
  simp [execOp, ho, resolve, invoke, builtin, hx2, Builtin.cap_, run_underlying ht, goInt]

theorem aop_sliceNil {o : Oper} {t e sz d : Nat} {x : Operand} {lo hi : Option Operand} (ho : o.op = .slice t x lo hi none) (hd : o.dst = some d) (hN : (okOp E.N x && okO E.N lo && okO E.N hi && Nat.blt d E.N) = true)
    (ht : P.underlying t = some (.slice e)) (hsz : (P.info? e).map (·.size) = some sz) (hx : evA st.env x = .v (.slice none 0 0)) (hlo : bndA st.env lo 0 0) (hhi : bndA st.env hi 0 0)
    (h : K ⟨upd st.env d (.v (.slice none 0 0)), st.ob⟩) : AOp P E o st K := by
  simp only [Bool.and_eq_true] at hN
  refine aop_value _ (fun d' hd' => by rw [hd] at hd'; cases hd'; exact blt_lt hN.2) (fun a w C hs => ?_) (by rw [hd]; exact h)
  have hx1 := hs.ev x hN.1.1.1
  rw [hx] at hx1
  have hx2 := hx1.v_inv
  have hr := run_slice (P := P) (A := none) (n := 0) (c := 0) ht hsz (bnd_val hs hN.1.1.2 hlo) (bnd_val hs hN.1.2 hhi) (Nat.le_refl 0) (Nat.le_refl 0) w
  exact ⟨.slice none 0 0, by simp only [execOp, ho, hx2, Option.map_none, Sem.run_bind, hr, Result.andThen_ok]; rfl, .v _⟩

theorem SR.drew {C : Ctx} {a : Act} {w : World} (hs : SR E C st a w) : SR E C st a w.drew := by
  have hext : Ext w C { w with drawn := w.drawn + 1 } C := ⟨fun _ h => ⟨h, rfl, rfl, rfl⟩, fun _ _ h => h, fun _ _ _ => rfl⟩
  have := hs.put hext st.ob ⟨hs.obj.nil, fun id o b h1 h2 => ?_, hs.obj.inj, hs.obj.dom, hs.obj.bnd⟩ ⟨hs.fr.os, hs.fr.tape, hs.fr.output, hs.fr.size, hs.fr.block⟩ hs.fresh hs.keep hs.newown none (fun d h => by cases h) .any undef (fun h => absurd rfl h)
  · exact this
  · obtain ⟨k1, cur, k2, k3, k4, k5⟩ := hs.obj.live id o b h1 h2
    refine ⟨k1, cur, k2, k3, k4, fun j av hj => ?_⟩
    obtain ⟨u, hu, k6, k7⟩ := k5 j av hj
    exact ⟨u, hu, k6, k7.ext hext⟩

/-- 'append(s, make([]E, n)...)' at nil: a new row, of whose elements nothing is told. -/
theorem aop_appZ {o : Oper} {c : Call} {t tn e : TypeId} {s x : Operand} {d size bytes n : Nat} {z : Value} {k : IntKind} (id : Nat) (ho : o.op = .call c) (hc : c = { callee := .builtin .append, args := #[s, x], argTypes := #[t, tn] }) (hd : o.dst = some d)
    (hN : (okOp E.N s && okOp E.N x && Nat.blt d E.N) = true) (ht : P.underlying t = some (.slice e)) (htn : P.underlying tn = some (.int k)) (hinfo : (P.info? e).map (fun i => (i.zero, i.size, i.bytes)) = some (some z, size, bytes)) (hzs : z.cells.size = size) (hsz : 0 < size)
    (hs0 : evA st.env s = .v (.slice none 0 0)) (hx0 : evA st.env x = .v (.int k (n : Int))) (hn : 0 < n) (hb : n * bytes ≤ 140737488355328) (hb0 : n ≤ 140737488355328) (hf : st.ob id = .free)
    (h : K ⟨upd st.env d (.sl id 0 n), updO st.ob id (.live ⟨[], e, size⟩)⟩) : AOp P E o st K := by
  subst hc
  simp only [Bool.and_eq_true] at hN
  rintro a w q ⟨C, hs⟩
  obtain ⟨i0, hi, hzz⟩ := Option.map_eq_some_iff.1 hinfo
  simp only [Prod.mk.injEq] at hzz
  obtain ⟨hz0, hz1, hz2⟩ := hzz
  have hvs := hs.ev s hN.1.1
  rw [hs0] at hvs
  have hvs2 := hvs.v_inv
  have hvx := hs.ev x hN.1.2
  rw [hx0] at hvx
  have hvx2 := hvx.v_inv
  have hfit : Builtin.nextslicecap (0 + n) 0 * i0.bytes ≤ 281474976710656 := growslice_fits (by omega) (by rw [Nat.zero_add, hz2]; exact hb)
  have hold : (Builtin.firstCells i0.size 0 (.slice none 0 0)).run P w.drew = .ok ([] : List Value).toArray w.drew := by simp [Builtin.firstCells]
  have hrun := Lib.run_append_grow_zeros (P := P) w t tn o.type e i0 z k k ht htn hi hz0 none 0 0 [] hold n hn (by omega) (by omega) (by omega) (by rw [hz2]; omega) hfit
  have hcap := grownCap_ge w (0 + n) 0 e
  have hcap2 := grownCap_le_maxLen w (0 + n) 0 e (by unfold maxLen; omega)
  generalize hG : grownCap w (0 + n) 0 e = G at hrun hcap hcap2
  have hcsz : (([] : List Value).toArray ++ Builtin.zeroCells z.cells n ++ Builtin.zeroCells z.cells (G - (0 + n))).size = G * size := by
    simp only [Builtin.zeroCells, Array.size_append, List.size_toArray, List.length_nil, Array.size_map, Array.size_range, hzs]
    rw [Nat.zero_add, ← Nat.add_mul]
    congr 1
    omega
  have hnew := hs.drew.new id hf ⟨[], e, size⟩ (([] : List Value).toArray ++ Builtin.zeroCells z.cells n ++ Builtin.zeroCells z.cells (G - (0 + n))) (by simp) (fun j c hj => by simp at hj) o.dst (fun d' hd' => by rw [hd] at hd'; cases hd'; exact blt_lt hN.2) (.sl id 0 n) (.slice (some ⟨w.drew.heap.size, 0, none⟩) (0 + n) G) (fun _ => by
    rw [Nat.zero_add] at hcsz ⊢
    exact .sl0 (.inl rfl) (by simp [Ctx.add]) (by omega) hcap2 (by simp only [Ctx.add, if_true]; rw [Nat.zero_add]; exact hcsz.symm) add_sz0')
  unfold Oper.wp
  have hex : (execOp a.eval o).run P w = .ok (.value (.slice (some ⟨w.drew.heap.size, 0, none⟩) (0 + n) G)) (w.drew.alloc (.cells (([] : List Value).toArray ++ Builtin.zeroCells z.cells n ++ Builtin.zeroCells z.cells (G - (0 + n))) e)) := by
    simp only [execOp, ho, resolve, invoke, builtin, Sem.run_bind, Sem.run_pure, Result.andThen_ok, List.map_toArray, List.map_cons, List.map_nil, hvs2, hvx2, hrun]
    rfl
  rw [hex]
  refine ⟨_, ⟨_, hnew⟩, ?_⟩
  rw [hd]
  exact h
theorem fretC3 {fn : Func} {s : St} {p t n q : Nat} {av a2 : AV} {cells cs : List AV} {res : AV} (hres : fn.results = #[.tmp q, .cell p t]) (hp : Nat.blt p E.N = true) (hb : aggT P t = some true) (hsz : (P.info? t).map (·.size) = some n) (hx : s.env p = av) (hc : ptC s.ob av = some cells) (hl : n ≤ cells.length) (hcs : cells.take n = cs)
    (hq : Nat.blt q E.N = true) (hx2 : s.env q = a2) (hav : AV.tup [a2, .agg cs] = res) [hno : NoI res] :
    RetC P E fn (fun r n => r = res ∧ n = []) s := by
  subst hav
  refine ⟨_, hno.out, ⟨rfl, rfl⟩, fun a w C hs => ?_⟩
  obtain ⟨ad, u, h1, h2, h3⟩ := cell_run (P := P) hs hp hb hsz hx hc hl hcs
  rw [Array.getD_eq_getD_getElem?] at h1
  have h4 := hs.env q (blt_lt hq)
  rw [hx2, Array.getD_eq_getD_getElem?] at h4
  refine ⟨.tuple #[(a.tmps[q]?).getD undef, u], by simp [results, hres, asAddr, h1, h2], .tup _ _ rfl fun j c hj => ?_⟩
  match j, hj with
  | 0, hj => simp at hj; subst hj; exact h4
  | 1, hj => simp at hj; subst hj; exact h3
  | j + 2, hj => simp at hj
/-- 'append(nil, x...)': a new row. -/
theorem aop_appNil {o : Oper} {c : Call} {t e : TypeId} {s x : Operand} {d m size bytes : Nat} {z : Value} {cells : List AV} (id' : Nat) (ho : o.op = .call c) (hc : c = { callee := .builtin .append, args := #[s, x], argTypes := #[t, t] }) (hd : o.dst = some d)
    (hN : (okOp E.N s && okOp E.N x && Nat.blt d E.N) = true) (ht : P.underlying t = some (.slice e)) (hinfo : (P.info? e).map (fun i => (i.zero, i.size, i.bytes)) = some (some z, size, bytes)) (hzs : z.cells.size = size) (hsz : 0 < size)
    (hs0 : evA st.env s = .v (.slice none 0 0)) (hx0 : evA st.env x = .ro m cells) (hm : cells.length = m * size)
    (hb : m * bytes ≤ 140737488355328) (hb0 : m ≤ 140737488355328) (hf : st.ob id' = .free) (h : K ⟨upd st.env d (.sl id' 0 m), updO st.ob id' (.live ⟨cells, e, size⟩)⟩) : AOp P E o st K := by
  subst hc
  simp only [Bool.and_eq_true] at hN
  rintro a w q ⟨C, hs⟩
  obtain ⟨i0, hi, hzz⟩ := Option.map_eq_some_iff.1 hinfo
  simp only [Prod.mk.injEq] at hzz
  obtain ⟨hz0, hz1, hz2⟩ := hzz
  have hrs := hs.ev s hN.1.1
  rw [hs0] at hrs
  have hus := hrs.v_inv
  have hrx := hs.ev x hN.1.2
  rw [hx0] at hrx
  generalize hux : a.eval x = ux at hrx
  obtain ⟨A, cap, rfl, hA0, news, hnl, hnc, hn1, hnr⟩ := ro_cells hrx
  have hdom : ¬ C.dom id' := fun h => hs.obj.dom id' h hf
  have hown : OwnR w e size (.slice none 0 0) 0 [] none (0, 0) := ⟨by simp, .inl ⟨rfl, rfl, none, rfl, fun _ h => by cases h⟩⟩
  obtain ⟨v', w', nb, k', hr, hown', hg, hat⟩ := run_appR (P := P) w t o.type e i0 z size bytes ht hi hz0 hz1 hz2 hzs hsz (.slice none 0 0) 0 [] none (0, 0) hown A m cap news hA0 (by rw [hnl, hm]) hnc hn1 (by unfold maxLen; omega) (by rw [Nat.zero_add]; exact hb)
  rw [Nat.zero_add, List.nil_append] at hown'
  obtain ⟨hR, hnbs⟩ : R w' (C.add id' nb k' size) (.sl id' 0 m) v' ∧
      (∀ g, nb = some g → ∃ cur : Array Value, w'.heap[g]? = some (.cells cur e (0, 0)) ∧ cur.size = k'.1 ∧ (cur.toList.drop k'.2).take (m * size) = news ∧ k'.2 + m * size ≤ cur.size) := by
    rcases hown'.2 with ⟨rfl, h0, A', rfl, hA'⟩ | ⟨g, cap', cur, rfl, rfl, hh, h1, h2, h3, h4, h5⟩
    · refine ⟨?_, fun g hg => by cases hg⟩
      rw [h0]
      exact .slnil id' A' hA' (.inl rfl) (by simp [Ctx.add])
    · refine ⟨.slB (k := k'.2) (.inl rfl) (by simp [Ctx.add]) h1 h2 (by simp [Ctx.add]; omega) (by simp [Ctx.add]), fun g' hg' => ?_⟩
      cases hg'
      exact ⟨cur, hh, h4.symm, h5, by have := Nat.mul_le_mul_right size h1; omega⟩
  have hnbo : ∀ g, nb = some g → w.heap.size ≤ g := fun g hg' => by
    rcases hat with h1 | ⟨g', h1, h2⟩
    · rw [hg'] at h1; cases h1
    · rw [hg'] at h1; cases h1; exact h2
  have hnn : nb = none → m = 0 := fun h0 => by
    rcases hown'.2 with ⟨_, h1, _⟩ | ⟨g, cap', cur, h1, _⟩
    · exact h1
    · rw [h0] at h1; cases h1
  have hheap : ∀ b, b < w.heap.size → ¬ C.own b → w'.heap[b]? = w.heap[b]? := fun b hb' ho => hg.block b hb' (fun e => by cases e)
  have hext : Ext w C w' (C.add id' nb k' size) := Ext.add hdom (fun g hg' => .inl (hnbo g hg')) hheap
  have hlive : ∀ i o', updO st.ob id' (.live ⟨cells, e, size⟩) i = .live o' → (i = id' ∧ o' = ⟨cells, e, size⟩) ∨ (i ≠ id' ∧ st.ob i = .live o') := fun i o' h => by
    by_cases he : i = id'
    · subst he; rw [updO_same] at h; cases h; exact .inl ⟨rfl, rfl⟩
    · rw [updO_ne _ _ he] at h; exact .inr ⟨he, h⟩
  have hrel : ∀ (j : Nat) (av : AV), cells[j]? = some av → ∃ u : Value, news[j]? = some u ∧ u.oneCell' = true ∧ R w C av u := fun j av hj => by
    obtain ⟨y, hy, hr⟩ := hnr _ av hj
    exact ⟨y, hy, hn1 y (List.mem_of_getElem? hy), hr⟩
  have hfin := hs.put hext (updO st.ob id' (.live ⟨cells, e, size⟩)) ⟨fun i o' h => by
      rcases hlive i o' h with ⟨rfl, rfl⟩ | ⟨h1, h3⟩
      · refine ⟨.inl rfl, by simp [Ctx.add], fun hb0 => ?_⟩
        simp only [Ctx.add, if_true] at hb0
        exact List.eq_nil_of_length_eq_zero (by rw [hm, hnn hb0]; simp)
      · obtain ⟨k1, k2, k3⟩ := hs.obj.nil i o' h3
        simp [Ctx.add, h1, k1, k2]
        exact k3, fun i o' b h hb' => by
      rcases hlive i o' h with ⟨rfl, rfl⟩ | ⟨h1, h3⟩
      · simp only [Ctx.add, if_true] at hb'
        obtain ⟨cur, k1, k2, k3, k4⟩ := hnbs b hb'
        refine ⟨.inl hb'.symm, cur, k1, by simp [Ctx.add, k2], by rw [add_sz0]; simp only [hm]; exact k4, fun j av hj => ?_⟩
        obtain ⟨u, hu, k5, k6⟩ := hrel j av hj
        refine ⟨u, ?_, k5, k6.ext hext⟩
        rw [← k3, List.getElem?_take] at hu
        split at hu
        · rw [List.getElem?_drop] at hu
          rw [add_sz0]
          simpa using hu
        · cases hu
      · simp only [Ctx.add, h1, if_false] at hb'
        obtain ⟨k1, cur2, k2, k3, k4, k5⟩ := hs.obj.live i o' b h3 hb'
        refine ⟨.inr k1, cur2, (hg.block b (hs.obj.bnd b k1) (fun e => by cases e)).trans k2, by simp [Ctx.add, h1, k3], by rw [add_sz h1]; exact k4, fun j av hj => ?_⟩
        obtain ⟨u, hu, k6, hr⟩ := k5 j av hj
        exact ⟨u, by rw [add_sz h1]; exact hu, k6, hr.ext hext⟩, fun i i' o1 o2 b h1 h2 h3 h4 => by
      have other : ∀ i o1, st.ob i = .live o1 → C.blk i = some b → nb = some b → False := fun i o1 k1 k3 k4 => by
        have k5 := hnbo b k4
        have := hs.obj.bnd b (hs.obj.live i o1 b k1 k3).1
        omega
      rcases hlive i o1 h1 with ⟨rfl, rfl⟩ | ⟨k1, k3⟩ <;> rcases hlive i' o2 h2 with ⟨rfl, rfl⟩ | ⟨l1, l3⟩
      · rfl
      · simp only [Ctx.add, if_true] at h3
        simp only [Ctx.add, l1, if_false] at h4
        exact (other i' o2 l3 h4 h3).elim
      · simp only [Ctx.add, if_true] at h4
        simp only [Ctx.add, k1, if_false] at h3
        exact (other i o1 k3 h3 h4).elim
      · simp only [Ctx.add, k1, if_false] at h3
        simp only [Ctx.add, l1, if_false] at h4
        exact hs.obj.inj i i' o1 o2 b k3 l3 h3 h4, fun i hi => by
      by_cases he : i = id'
      · subst he; rw [updO_same]; intro h; cases h
      · rw [updO_ne _ _ he]
        rcases hi with hi | hi
        · exact absurd hi he
        · exact hs.obj.dom i hi, fun b hb' => by
      rcases hb' with hb' | hb'
      · obtain ⟨cur, k1, _⟩ := hnbs b hb'.symm
        exact (Array.getElem?_eq_some_iff.1 k1).1
      · have := hs.obj.bnd b hb'
        have := hg.size
        omega⟩
    ⟨hg.os.trans hs.fr.os, hg.tape.trans hs.fr.tape, hg.output.trans hs.fr.output, Nat.le_trans hs.fr.size hg.size, fun b hb' hG => by
      have hsz0 := hs.fr.size
      exact (hg.block b (by omega) (fun e => by cases e)).trans (hs.fr.block b hb' hG)⟩ (fun i o' b h hb' => by
      rcases hlive i o' h with ⟨rfl, rfl⟩ | ⟨h1, h3⟩
      · simp only [Ctx.add, if_true] at hb'
        have := hnbo b hb'
        have := hs.fr.size
        exact .inl (by omega)
      · simp only [Ctx.add, h1, if_false] at hb'
        exact hs.fresh i o' b h3 hb') (fun b hb' => .inr (hs.keep b hb')) (fun b hb' ho => by
      rcases ho with ho | ho
      · have := hnbo b ho.symm
        have := hs.fr.size
        omega
      · exact hs.newown b hb' ho) o.dst (fun d' hd' => by rw [hd] at hd'; cases hd'; exact blt_lt hN.2) (.sl id' 0 m) v' (fun _ => hR)
  have hrun' : (execOp a.eval o).run P w = .ok (.value v') w' := by
    simp only [execOp, ho, resolve, invoke, builtin, Sem.run_bind, Sem.run_pure, Result.andThen_ok, List.map_toArray, List.map_cons, List.map_nil, hus, hux, hr]
  unfold Oper.wp
  rw [hrun']
  refine ⟨_, ⟨_, hfin⟩, ?_⟩
  rw [hd]
  exact h
end
end Go.Lo
