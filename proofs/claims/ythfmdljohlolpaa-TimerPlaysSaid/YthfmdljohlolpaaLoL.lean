/- The last elements of a row of one's own; clear. -/
import Derived.Test.YthfmdljohlolpaaLoK
set_option linter.unusedVariables false
set_option linter.unusedSimpArgs false
namespace Go.Lo
section
variable {P : Program} {E : Env0} {st : St} {K : St → Prop}

/-- The elements of a row of one's own from l on (there is one at least). -/
theorem aop_sliceFrom {o : Oper} {t e sz d id off n l : Nat} {x : Operand} {lo : Option Operand} {ob : LObj} (ho : o.op = .slice t x lo none none) (hd : o.dst = some d) (hN : (okOp E.N x && okO E.N lo && Nat.blt d E.N) = true)
    (ht : P.underlying t = some (.slice e)) (hsz : (P.info? e).map (·.size) = some sz) (hx : evA st.env x = .sl id off n) (hl : st.ob id = .live ob) (hoz : ob.esz = sz) (hlo : bndA st.env lo 0 l) (h2 : l < n)
    (h : K ⟨upd st.env d (.sl id (off + l * sz) (n - l)), st.ob⟩) : AOp P E o st K := by
  simp only [Bool.and_eq_true] at hN
  refine aop_value _ (fun d' hd' => by rw [hd] at hd'; cases hd'; exact blt_lt hN.2) (fun a w C hs => ?_) (by rw [hd]; exact h)
  have hx1 := hs.ev x hN.1.1
  rw [hx] at hx1
  generalize hux : a.eval x = ux at hx1
  cases hx1 with
  | sl _ _ _ c b hdm hb hnc hm hss =>
    have hr := run_slice (P := P) (A := some ⟨b, (C.sz id).2 + off, none⟩) (n := n) (c := c) (hgh := n) (vh := none) ht hsz (bnd_val hs hN.1.2 hlo) (.inl ⟨rfl, rfl⟩) (Nat.le_of_lt h2) hnc w
    refine ⟨_, by simp only [execOp, ho, hux, Option.map_none, Sem.run_bind, hr, Result.andThen_ok]; rfl, ?_⟩
    rw [if_neg (by omega)]
    simp only [Option.map_some, add_plain, Nat.add_assoc]
    refine .sl id _ (n - l) (c - l) b hdm hb (by omega) (by omega) ?_
    have hz := (hs.obj.nil id ob hl).2.1
    rw [hz, hoz] at hss ⊢
    rw [Nat.sub_mul]
    have := Nat.mul_le_mul_right sz (show l ≤ c by omega)
    omega
  | slnil _ _ _ hdm hb => omega

theorem aop_ldOF {o : Oper} {t : TypeId} {x : Operand} {d id k s off : Nat} {α : Type} {f : α → List AV} {l : List α} {ob : LObj} {av : AV} {r : List AV} (df : α) (ho : o.op = .load t x) (hd : o.dst = some d) (hN : (okOp E.N x && Nat.blt d E.N) = true)
    (hb : aggT P t = some false) (hx : evA st.env x = .pt id (k * s + off)) (hl : st.ob id = .live ob) (hc : ob.cells = enc f l) (hf : ∀ x, (f x).length = s) (hk : k < l.length) (hav : (f (l.getD k df)).drop off = av :: r) (h : K ⟨upd st.env d av, st.ob⟩) : AOp P E o st K := by
  refine aop_ld (rest := r ++ (enc f l).drop ((k + 1) * s)) ho hd hN hb hx ?_ h
  have hlt : off < s := by
    rcases Nat.lt_or_ge off s with h1 | h1
    · exact h1
    · rw [List.drop_of_length_le (by rw [hf]; exact h1)] at hav; cases hav
  simp only [ptC, hl, hc]
  rw [← List.drop_drop, enc_drop hf df l k hk, List.drop_append_of_le_length (by rw [hf]; omega), hav]
  rfl
theorem lend_p {ob : Nat → OSt} {id n : Nat} {o : LObj} {α : Type} {f : α → List AV} {l rest : List α} (hl : ob id = .live o) (hc : o.cells = enc f (l ++ rest)) (hn : n = l.length) (hz : ∀ x, (f x).length = o.esz) [h : ∀ x, NoIL (f x)] : Lend ob (.sl id 0 n) (.ro n (enc f l)) := by
  subst hn
  refine .sl id 0 l.length o _ hl (enc_length hz l) ?_ (fun j a b hx hy => ?_)
  · rw [hc, enc_append, List.length_append, enc_length hz]; omega
  · rw [Nat.zero_add, hc, enc_append, List.getElem?_append_left (List.getElem?_eq_some_iff.1 hy).1, hy] at hx
    have hab : b = a := by simpa using hx
    subst hab
    exact .same b ((inferInstance : NoIL (enc f l)).out b (List.mem_of_getElem? hy))
theorem run_zero_ {t : TypeId} {z : Value} (h : (P.info? t).bind (·.zero) = some z) : ∀ w, (zeroValue t).run P w = .ok z w := fun w => by
  obtain ⟨i, hi, hz⟩ := Option.bind_eq_some_iff.1 h
  simp [zeroValue, typeInfo, hi, hz]
theorem zero_len (z : Array Value) (n : Nat) : (Builtin.zeroCells z n).toList.length = n * z.size := by simp [Builtin.zeroCells]
theorem spl_cells {w : World} {C : Ctx} {cur : Array Value} {cells cs : List AV} {vals : List Value} {off s bs : Nat} (hvl : vals.length = s) (hcl : cs.length = s) (hfit : off + s ≤ cells.length) (hle : bs + cells.length ≤ cur.size)
    (hcell : ∀ (j : Nat) (av : AV), cells[j]? = some av → ∃ u : Value, cur[bs + j]? = some u ∧ u.oneCell' = true ∧ R w C av u) (hv : ∀ (j : Nat) (av : AV), cs[j]? = some av → ∃ u : Value, vals[j]? = some u ∧ u.oneCell' = true ∧ R w C av u) :
    ∀ (j : Nat) (c : AV), (spl cells off cs)[j]? = some c → ∃ u : Value, (cur.toList.take (bs + off) ++ vals ++ cur.toList.drop (bs + off + s)).toArray[bs + j]? = some u ∧ u.oneCell' = true ∧ R w C c u := by
  intro j c hj
  unfold spl at hj
  have hjl : j < cells.length := by
    have := (List.getElem?_eq_some_iff.1 hj).1
    simp at this; omega
  by_cases ha : j < off
  · rw [List.getElem?_append_left (by simp; omega), List.getElem?_append_left (by simp; omega), List.getElem?_take, if_pos ha] at hj
    obtain ⟨u, hu, h2, hr⟩ := hcell j c hj
    refine ⟨u, ?_, h2, hr⟩
    rw [List.getElem?_toArray, List.getElem?_append_left (by simp; omega), List.getElem?_append_left (by simp; omega), List.getElem?_take, if_pos (by omega)]
    simpa using hu
  · by_cases hb2 : j < off + s
    · rw [List.getElem?_append_left (by simp; omega), List.getElem?_append_right (by simp; omega)] at hj
      have hmin : (cells.take off).length = off := by simp; omega
      rw [hmin] at hj
      obtain ⟨u, hu, h2, hr⟩ := hv (j - off) c hj
      refine ⟨u, ?_, h2, hr⟩
      rw [List.getElem?_toArray, List.getElem?_append_left (by simp; omega), List.getElem?_append_right (by simp; omega)]
      have : (cur.toList.take (bs + off)).length = bs + off := by simp; omega
      rw [this, show bs + j - (bs + off) = j - off by omega]
      exact hu
    · rw [List.getElem?_append_right (by simp; omega)] at hj
      have e1 : (cells.take off ++ cs).length = off + s := by simp; omega
      rw [e1, List.getElem?_drop, hcl, show off + s + (j - (off + s)) = j by omega] at hj
      obtain ⟨u, hu, h2, hr⟩ := hcell j c hj
      refine ⟨u, ?_, h2, hr⟩
      have e2 : (cur.toList.take (bs + off) ++ vals).length = bs + off + s := by simp; omega
      rw [List.getElem?_toArray, List.getElem?_append_right (by rw [e2]; omega), e2, List.getElem?_drop, show bs + off + s + (bs + j - (bs + off + s)) = bs + j by omega]
      simpa using hu
/-- The built-in 'clear' on a part of a row of one's own. -/
theorem aop_clear {o : Oper} {c : Call} {t e : TypeId} {x : Operand} {id off n : Nat} {z : Value} {ob : LObj} {cells' : List AV} (ho : o.op = .call c) (hc : c = { callee := .builtin .clear, args := #[x], argTypes := #[t] }) (hd : o.dst = none) (hN : okOp E.N x = true)
    (ht : P.underlying t = some (.slice e)) (hz : ∀ w, (zeroValue e).run P w = .ok z w) (h1 : z.cells.toList.all (·.oneCell') = true) (hx : evA st.env x = .sl id off n) (hl : st.ob id = .live ob) (hn : 0 < n) (hfit : off + n * z.cells.size ≤ ob.cells.length)
    (hsp : spl ob.cells off ((Builtin.zeroCells z.cells n).toList.map .v) = cells') (h : K ⟨st.env, updO st.ob id (.live ⟨cells', ob.elem, ob.esz⟩)⟩) : AOp P E o st K := by
  subst hc
  rintro a w q ⟨C, hs⟩
  have hrx := hs.ev x hN
  rw [hx] at hrx
  generalize hux : a.eval x = ux at hrx
  cases hrx with
  | sl _ _ _ c b hdm hb hnc hm hss =>
    obtain ⟨hown, cur, hh, hcs, hle, hcell⟩ := hs.obj.live id ob b hl hb
    have hone : ∀ v ∈ (Builtin.zeroCells z.cells n).toList, v.oneCell' = true := by
      intro v hv
      simp only [Builtin.zeroCells, Array.toList_map, List.mem_map] at hv
      obtain ⟨i, hi, rfl⟩ := hv
      have hi' : i < n * z.cells.size := by simpa using hi
      have hpos : 0 < z.cells.size := by
        rcases Nat.eq_zero_or_pos z.cells.size with h0 | h0
        · rw [h0] at hi'; simp at hi'
        · exact h0
      have hlt : i % z.cells.size < z.cells.size := Nat.mod_lt _ hpos
      have := List.all_eq_true.1 h1 (z.cells[i % z.cells.size]) (by simp)
      simpa [hlt] using this
    have hlen : (Builtin.zeroCells z.cells n).toList.length = n * z.cells.size := zero_len _ _
    have hst := run_storeCells_at P b ((C.sz id).2 + off) ob.elem (Builtin.zeroCells z.cells n).toList 0 cur w hh (by rw [hlen]; omega) hone
    have hrun : (execOp a.eval o).run P w = .ok (.value (.tuple #[])) (w.setRow b (cur.toList.take ((C.sz id).2 + off) ++ (Builtin.zeroCells z.cells n).toList ++ cur.toList.drop ((C.sz id).2 + off + n * z.cells.size)).toArray) := by
      rw [hlen] at hst
      simp only [Nat.add_zero] at hst
      obtain ⟨m, rfl⟩ : ∃ m, n = m + 1 := ⟨n - 1, by omega⟩
      simp [execOp, ho, resolve, invoke, builtin, Builtin.clear_, hux, run_underlying ht, hz, hst]
    have hnew := hs.setOwn hl hb cells' (cur.toList.take ((C.sz id).2 + off) ++ (Builtin.zeroCells z.cells n).toList ++ cur.toList.drop ((C.sz id).2 + off + n * z.cells.size)).toArray (by simp [hlen]; omega) (by rw [← hsp]; simp [spl, hlen]; omega) (by
      rw [← hsp]
      refine spl_cells hlen (by simp [hlen]) hfit hle hcell (fun j av hj => ?_)
      rw [List.getElem?_map, Option.map_eq_some_iff] at hj
      obtain ⟨u, hu, rfl⟩ := hj
      exact ⟨u, hu, hone u (List.mem_of_getElem? hu), .v u⟩) o.dst (fun d' hd' => by rw [hd] at hd'; cases hd') .any (.tuple #[]) (fun _ => .any _)
    unfold Oper.wp
    rw [hrun]
    refine ⟨_, ⟨_, hnew⟩, ?_⟩
    rw [hd]
    exact h
  | slnil _ _ _ hdm hb => omega
end
end Go.Lo
