/- Part of the logic of values: what the law reaches. -/
import Derived.Test.YtdeajfldegcdaaaPFnLsqLoX
set_option linter.unusedVariables false
set_option linter.unusedSimpArgs false
namespace Go.Lo
theorem aop_makeRo {P : Program} {E : Env0} {st : St} {K : St → Prop} {o : Oper} {t e bytes d n : Nat} {x y : Operand} {z : Value} {k k' : IntKind} {m : Int} (ho : o.op = .makeSlice t x y) (hd : o.dst = some d) (hN : (okOp E.N x && okOp E.N y && Nat.blt d E.N) = true)
  (ht : P.underlying t = some (.slice e)) (hinfo : (P.info? e).map (fun i => (i.zero, i.size, i.bytes)) = some (some z, 1, bytes)) (hz1 : z.oneCell' = true) (hx : evA st.env x = .v (.int k m)) (hy : evA st.env y = .v (.int k' m)) (hm : m = (n : Int)) (hnn : n ≤ 281474976710656) (hb : bytes * n ≤ 281474976710656)
  (h : K ⟨upd st.env d (.ro n (List.replicate n (.v z))), st.ob⟩) : AOp P E o st K := by
 simp only [Bool.and_eq_true] at hN
 subst hm
 rintro a w q ⟨C, hs⟩
 have h1 := hs.ev x hN.1.1
 rw [hx] at h1
 have h2 := hs.ev y hN.1.2
 rw [hy] at h2
 obtain ⟨i0, hi, hzz⟩ := Option.map_eq_some_iff.1 hinfo
 simp only [Prod.mk.injEq] at hzz
 obtain ⟨hz, hsz, hby⟩ := hzz
 have hwrap : IntKind.i64.wrap (n : Int) = n := IntWalk.i64_in _ (by omega)
 have hb' : (bytes : Int) * (n : Int) ≤ 281474976710656 := by
  have : ((bytes * n : Nat) : Int) ≤ 281474976710656 := by omega
  rwa [Int.natCast_mul] at this
 have hzc : z.cells = #[z] := cells_one hz1
 have hrun : (execOp a.eval o).run P w = .ok (.value (.slice (some ⟨w.heap.size, 0, none⟩) n n)) (w.alloc (.cells (Array.replicate n z) e)) := by
  have hrow : (Array.range n).map (fun i => (if n = 0 then (#[] : Array Value) else z.cells)[i % (if n = 0 then (#[] : Array Value) else z.cells).size]!) = Array.replicate n z := by
   apply Array.ext
   ·simp
   ·intro i h1 h2
    simp at h1
    have h0 : ¬ n = 0 := by omega
    simp [h0, hzc, Nat.mod_one]
  have hneg : ¬ ((n : Int) < 0) := by omega
  have hzr : (zeroValue e).run P w = .ok z w := by simp [zeroValue, typeInfo, hi, hz]
  simp only [execOp, ho, h1.v_inv, h2.v_inv, Instr.makeSlice, asInt, asIntOf, Sem.run_bind, Sem.run_pure, run_underlying ht, Result.andThen_ok, typeInfo, run_program, hi, hby, hwrap, hsz, sizeOf, Nat.mul_one, Int.toNat_natCast]
  rw [if_neg (by simp [hneg, hb'])]
  simp only [Sem.run_bind, run_askRoom, Result.andThen_ok, run_program, hi, Sem.run_pure, hsz, Nat.mul_one]
  by_cases h0 : n = 0
  ·rw [if_pos h0]
   simp only [if_pos h0] at hrow
   simp only [Sem.run_bind, Sem.run_pure, Result.andThen_ok, hrow, newRow, run_newObj]
   rfl
  ·rw [if_neg h0]
   simp only [if_neg h0] at hrow
   simp only [Sem.run_bind, Sem.run_pure, hzr, Result.andThen_ok, hrow, newRow, run_newObj]
   rfl
 have hR : R (w.alloc (.cells (Array.replicate n z) e)) C (.ro n (List.replicate n (.v z))) (.slice (some ⟨w.heap.size, 0, none⟩) n n) := by
  refine .ro n n _ _ (fun _ => z) (Nat.le_refl _) (by unfold maxLen; omega) (fun h => by cases h) (fun j hj => ⟨_, rfl, fun ho => ?_, ?_, hz1⟩) (fun j av hj => ?_)
  ·have := hs.obj.bnd _ ho
   simp at this
  ·rw [add_plain]
   simp only [World.cell?, heap_alloc_new]
   simp at hj
   simp [hj]
  ·obtain ⟨hlt, rfl⟩ := List.getElem?_eq_some_iff.1 hj
   simp only [List.getElem_replicate]
   exact .v z
 have hnew := hs.newRo (.cells (Array.replicate n z) e) o.dst (fun d' hd' => by rw [hd] at hd'; cases hd'; exact blt_lt hN.2) (.ro n (List.replicate n (.v z))) (.slice (some ⟨w.heap.size, 0, none⟩) n n) (fun _ => hR)
 unfold Oper.wp
 rw [hrun]
 refine ⟨_, ⟨_, hnew⟩, ?_⟩
 rw [hd]
 exact h
theorem aop_makeRoE {P : Program} {E : Env0} {st : St} {K : St → Prop} {o : Oper} {t e bytes d n : Nat} {x y : Operand} {z : Value} {k k' : IntKind} {m : Int} {α : Type} {f : α → List AV} (v : α) (ho : o.op = .makeSlice t x y) (hd : o.dst = some d) (hN : (okOp E.N x && okOp E.N y && Nat.blt d E.N) = true)
  (ht : P.underlying t = some (.slice e)) (hinfo : (P.info? e).map (fun i => (i.zero, i.size, i.bytes)) = some (some z, 1, bytes)) (hz1 : z.oneCell' = true) (hx : evA st.env x = .v (.int k m)) (hy : evA st.env y = .v (.int k' m)) (hm : m = (n : Int)) (hnn : n ≤ 281474976710656) (hb : bytes * n ≤ 281474976710656) (hv : f v = [.v z])
  (h : K ⟨upd st.env d (.ro (List.replicate n v).length (enc f (List.replicate n v))), st.ob⟩) : AOp P E o st K := by
 rw [List.length_replicate, enc_rep n v _ hv] at h
 exact aop_makeRo ho hd hN ht hinfo hz1 hx hy hm hnn hb h
end Go.Lo
