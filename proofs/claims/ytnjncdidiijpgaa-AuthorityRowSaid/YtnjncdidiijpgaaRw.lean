/- Layer 16: a row of sections, all free; a route through all of it, or two. -/
import Derived.Test.YtnjncdidiijpgaaNo
set_option linter.unusedVariables false
set_option linter.unusedSimpArgs false
namespace Go.Lo
/-- n numbers, from a on. -/
def rgI (a n : Nat) : List Int := (List.range n).map fun (j : Nat) => ((a + j : Nat) : Int)
theorem rgI_len (a n : Nat) : (rgI a n).length = n := by simp [rgI]
theorem rgI_succ (a n : Nat) : rgI a (n + 1) = rgI a n ++ [((a + n : Nat) : Int)] := by simp [rgI, List.range_succ]
theorem path_on {A i : Nat} (h : i ≤ A) : rgI 0 (min i (A + 1)) ++ [(i : Int)] = rgI 0 (min (i + 1) (A + 1)) := by
  rw [Nat.min_eq_left (by omega), Nat.min_eq_left (by omega), rgI_succ, Nat.zero_add]
theorem path_off {A i : Nat} (h : ¬ i ≤ A) : rgI 0 (min i (A + 1)) = rgI 0 (min (i + 1) (A + 1)) := by
  rw [Nat.min_eq_right (by omega), Nat.min_eq_right (by omega)]
theorem rest_on {A i : Nat} (h : i ≥ A) : rgI A (i - A) ++ [(i : Int)] = rgI A (i + 1 - A) := by
  rw [show i + 1 - A = (i - A) + 1 by omega, rgI_succ, show A + (i - A) = i by omega]
theorem rest_off {A i : Nat} (h : ¬ i ≥ A) : rgI A (i - A) = rgI A (i + 1 - A) := by
  rw [show i - A = 0 by omega, show i + 1 - A = 0 by omega]
theorem path_end {A K i : Nat} (h : i = K) (hA : A + 1 ≤ K) : rgI 0 (min i (A + 1)) = rgI 0 (A + 1) := by rw [h, Nat.min_eq_right hA]
/-- Pieces, of which the first are set. -/
def oneR (q n : Nat) : List Int := List.replicate q 1 ++ List.replicate (n - q) 0
theorem oneR_0 (n : Nat) : oneR 0 n = List.replicate n 0 := by simp [oneR]
theorem oneR_len {q n : Nat} (h : q ≤ n) : (oneR q n).length = n := by simp [oneR]; omega
theorem oneR_step {q n : Nat} (h : q < n) : (oneR q n).set q 1 = oneR (q + 1) n := by
  unfold oneR
  rw [List.set_append_right _ _ (by simp), List.length_replicate, Nat.sub_self, show n - q = (n - (q + 1)) + 1 by omega, List.replicate_succ, List.set_cons_zero, List.replicate_succ', List.append_assoc]
  rfl
def rwF (form : Int) (routes : List (List Int)) (K : Nat) (ow : List Int) : Fld := fldOf (findV [⟨1, true, [0]⟩] 1) (mkSecs form 0) (mkParts form 0) (mkPts form) routes (List.replicate K 0) ow []
def lk1 (A : Nat) : List Lk := [⟨0, 1, -1, oneR A A⟩]
def lk2 (A B : Nat) : List Lk := [⟨0, 1, -1, oneR A A⟩, ⟨1, 1, -1, oneR B B⟩]
def rt1 (A : Nat) : List (List Int) := [rgI 0 (A + 1)]
def rt2 (A K : Nat) : List (List Int) := [rgI 0 (A + 1), rgI A (K - A)]
def frm (m : Nat) : Int := 4 * (m : Int)
theorem row_base : ∀ m, m < 6 → (mkSecs (frm m) 0).length = 3 + m ∧ (mkParts (frm m) 0).length = 3 + m ∧ (mkPts (frm m)).length = 0 ∧ (∀ x, x ∈ mkParts (frm m) 0 → x.length ≤ 65536) ∧ (∀ s, s < 3 + m → partI (mkParts (frm m) 0) (s : Int) = (s : Int)) := by decide +kernel
theorem row_1 : ∀ m, m < 6 → auT [⟨1, true, [0]⟩] 1 (rwF (frm m) (rt1 (2 + m)) (3 + m) (List.replicate (3 + m) (-2))) (lk1 (2 + m)) = rgI 1 (2 + m) := by decide +kernel
theorem row_2 : ∀ m, m < 6 → ∀ A, A < 2 + m → 1 ≤ A → auT [⟨1, true, [0]⟩] 1 (rwF (frm m) (rt2 A (3 + m)) (3 + m) (List.replicate (3 + m) (-2))) (lk2 A (3 + m - A - 1)) = rgI 1 (2 + m) := by decide +kernel
theorem rgI_mem {a n : Nat} {s : Int} (h : s ∈ rgI a n) : (a : Int) ≤ s ∧ s < ((a + n : Nat) : Int) := by
  unfold rgI at h
  obtain ⟨j, hj, rfl⟩ := List.mem_map.1 h
  have := List.mem_range.1 hj
  omega
theorem row_ok {m : Nat} (hm : m < 6) {routes : List (List Int)} (hr : routes.length ≤ 65536) (hrl : ∀ x, x ∈ routes → 1 ≤ x.length ∧ x.length ≤ 65536) (hrs : ∀ x, x ∈ routes → ∀ s, s ∈ x → 0 ≤ s ∧ s < ((3 + m : Nat) : Int)) : FldOk (rwF (frm m) routes (3 + m) (List.replicate (3 + m) (-2))) := by
  obtain ⟨h1, h2, h3, h4, h5⟩ := row_base m hm
  refine ⟨by show (mkSecs (frm m) 0).length ≤ _; omega, by show (mkPts (frm m)).length ≤ _; omega, by show (mkParts (frm m) 0).length ≤ _; omega, h4, by show (List.replicate (3 + m) (0 : Int)).length ≤ _; simp; omega, by show (List.replicate (3 + m) (-2 : Int)).length ≤ _; simp; omega, by show ([] : List Bool).length ≤ 65536; decide, by show ([0] : List Int).length ≤ _; decide, hr, hrl, ?_, ?_⟩
  · intro x hx s hs
    have := hrs x hx s hs
    show 0 ≤ s ∧ s < ((List.replicate (3 + m) (0 : Int)).length : Int)
    rw [List.length_replicate]
    exact this
  · intro s h0 hs
    have hs' : s < ((List.replicate (3 + m) (0 : Int)).length : Int) := hs
    rw [List.length_replicate] at hs'
    obtain ⟨k, rfl⟩ := Int.eq_ofNat_of_zero_le h0
    have hp := h5 k (by omega)
    show 0 ≤ partI (mkParts (frm m) 0) (k : Int) ∧ partI (mkParts (frm m) 0) (k : Int) < ((List.replicate (3 + m) (-2 : Int)).length : Int)
    rw [hp, List.length_replicate]
    omega
theorem row_ok1 {m : Nat} (hm : m < 6) : FldOk (rwF (frm m) (rt1 (2 + m)) (3 + m) (List.replicate (3 + m) (-2))) ∧ ∀ x, x ∈ lk1 (2 + m) → LkOk (rwF (frm m) (rt1 (2 + m)) (3 + m) (List.replicate (3 + m) (-2))) x := by
  refine ⟨row_ok hm (by simp [rt1]) (fun x hx => ?_) (fun x hx s hs => ?_), fun x hx => ?_⟩
  · rw [List.mem_singleton.1 hx, rgI_len]; omega
  · rw [List.mem_singleton.1 hx] at hs
    have := rgI_mem hs
    omega
  · rw [List.mem_singleton.1 hx]
    refine ⟨⟨by show (0 : Int) ≤ 0; decide, by show (0 : Int) < ((1 : Nat) : Int); decide⟩, ?_⟩
    show (oneR (2 + m) (2 + m)).length + 1 ≤ (rgI 0 (2 + m + 1)).length
    rw [oneR_len (Nat.le_refl _), rgI_len]
    exact Nat.le_refl _
theorem row_ok2 {m A : Nat} (hm : m < 6) (hA : A < 2 + m) (h1 : 1 ≤ A) : FldOk (rwF (frm m) (rt2 A (3 + m)) (3 + m) (List.replicate (3 + m) (-2))) ∧ ∀ x, x ∈ lk2 A (3 + m - A - 1) → LkOk (rwF (frm m) (rt2 A (3 + m)) (3 + m) (List.replicate (3 + m) (-2))) x := by
  have two : ∀ {α : Type} {x a b : α}, x ∈ [a, b] → x = a ∨ x = b := fun h => by simpa using h
  refine ⟨row_ok hm (by simp [rt2]) (fun x hx => ?_) (fun x hx s hs => ?_), fun x hx => ?_⟩
  · rcases two hx with rfl | rfl <;> (rw [rgI_len]; omega)
  · rcases two hx with rfl | rfl <;> (have := rgI_mem hs; omega)
  · rcases two hx with rfl | rfl
    · refine ⟨⟨by show (0 : Int) ≤ 0; decide, by show (0 : Int) < ((2 : Nat) : Int); decide⟩, ?_⟩
      show (oneR A A).length + 1 ≤ (rgI 0 (A + 1)).length
      rw [oneR_len (Nat.le_refl _), rgI_len]
      exact Nat.le_refl _
    · refine ⟨⟨by show (0 : Int) ≤ 1; decide, by show (1 : Int) < ((2 : Nat) : Int); decide⟩, ?_⟩
      show (oneR (3 + m - A - 1) (3 + m - A - 1)).length + 1 ≤ (rgI A (3 + m - A)).length
      rw [oneR_len (Nat.le_refl _), rgI_len]
      omega
theorem frm_mul {n : Int} {m : Nat} (h : (m : Int) = n % 6) (h6 : m < 6) : binI .u8 .mul 4 (n % 6) = .int .u8 (frm m) := by
  rw [← h]
  show Value.int .u8 (IntKind.u8.wrap (4 * (m : Int))) = _
  congr 1
  unfold frm
  simp only [IntKind.wrap, IntKind.bits, IntKind.signed]
  simp
  omega
theorem lend_row {ob : Nat → OSt} {id n : Nat} {o : LObj} {cs : List AV} (hl : ob id = .live o) (hlen : cs.length = n * o.esz) (h : Lends ob o.cells cs) : Lend ob (.sl id 0 n) (.ro n cs) :=
  .sl id 0 n o cs hl hlen (by rw [← h.1, hlen]; omega) (fun j a b h1 h2 => h.2 j a b (by rw [← Nat.zero_add j]; exact h1) h2)
theorem lkx2 {A B : Nat} : AV.ro 2 [.v (.int .i64 0), .v (.int .i64 1), .v (.int .i64 (-1)), .ro (List.replicate A (0 : Int)).length (enc eU8 (oneR A A)), .v (.int .i64 1), .v (.int .i64 1), .v (.int .i64 (-1)), .ro (List.replicate B (0 : Int)).length (enc eU8 (oneR B B))] = .ro 2 (enc eLk (lk2 A B)) := by
  have h1 := oneR_len (Nat.le_refl A)
  have h2 := oneR_len (Nat.le_refl B)
  show _ = AV.ro 2 [.v (.int .i64 0), .v (.int .i64 1), .v (.int .i64 (-1)), .ro (oneR A A).length (enc eU8 (oneR A A)), .v (.int .i64 1), .v (.int .i64 1), .v (.int .i64 (-1)), .ro (oneR B B).length (enc eU8 (oneR B B))]
  rw [h1, h2, List.length_replicate, List.length_replicate]
theorem lkx1 {A : Nat} : AV.ro 1 [.v (.int .i64 0), .v (.int .i64 1), .v (.int .i64 (-1)), .ro (List.replicate A (0 : Int)).length (enc eU8 (oneR A A))] = .ro 1 (enc eLk (lk1 A)) := by
  have h1 := oneR_len (Nat.le_refl A)
  show _ = AV.ro 1 [.v (.int .i64 0), .v (.int .i64 1), .v (.int .i64 (-1)), .ro (oneR A A).length (enc eU8 (oneR A A))]
  rw [h1, List.length_replicate]
theorem aop_makeRo {P : Program} {E : Env0} {st : St} {K : St → Prop} {o : Oper} {t e bytes d n : Nat} {x y : Operand} {z : Value} {k k' : IntKind} {m : Int} (ho : o.op = .makeSlice t x y) (hd : o.dst = some d) (hN : (okOp E.N x && okOp E.N y && Nat.blt d E.N) = true)
    (ht : P.underlying t = some (.slice e)) (hinfo : (P.info? e).map (fun i => (i.zero, i.size, i.bytes)) = some (some z, 1, bytes)) (hz1 : z.oneCell' = true) (hx : evA st.env x = .v (.int k m)) (hy : evA st.env y = .v (.int k' m)) (hm : m = (n : Int)) (hnn : n ≤ 281474976710656) (hb : bytes * n ≤ 281474976710656)
    (h : K ⟨upd st.env d (.ro n (List.replicate n (.v z))), st.ob⟩) : AOp P E o st K := by
  simp only [Bool.and_eq_true] at hN
  subst hm
  rintro a w q ⟨C, hs⟩
  have h1 := hs.ev x hN.1.1
  rw [hx] at h1
  have h2 := hs.ev y hN.1.2
  rw [hy] at h2
  obtain ⟨i0, hi, hzz⟩ := Option.map_eq_some_iff.1 hinfo
  simp only [Prod.mk.injEq] at hzz
  obtain ⟨hz, hsz, hby⟩ := hzz
  have hwrap : IntKind.i64.wrap (n : Int) = n := IntWalk.i64_in _ (by omega)
  have hb' : (bytes : Int) * (n : Int) ≤ 281474976710656 := by
    have : ((bytes * n : Nat) : Int) ≤ 281474976710656 := by omega
    rwa [Int.natCast_mul] at this
  have hzc : z.cells = #[z] := cells_one hz1
  have hrun : (execOp a.eval o).run P w = .ok (.value (.slice (some ⟨w.heap.size, 0, none⟩) n n)) (w.alloc (.cells (Array.replicate n z) e)) := by
    have hrow : (Array.range n).map (fun i => (if n = 0 then (#[] : Array Value) else z.cells)[i % (if n = 0 then (#[] : Array Value) else z.cells).size]!) = Array.replicate n z := by
      apply Array.ext
      · simp
      · intro i h1 h2
        simp at h1
        have h0 : ¬ n = 0 := by omega
        simp [h0, hzc, Nat.mod_one]
    have hneg : ¬ ((n : Int) < 0) := by omega
    have hzr : (zeroValue e).run P w = .ok z w := by simp [zeroValue, typeInfo, hi, hz]
    simp only [execOp, ho, h1.v_inv, h2.v_inv, Instr.makeSlice, asInt, asIntOf, Sem.run_bind, Sem.run_pure, run_underlying ht, Result.andThen_ok, typeInfo, run_program, hi, hby, hwrap, hsz, sizeOf, Nat.mul_one, Int.toNat_natCast]
    rw [if_neg (by simp [hneg, hb'])]
    simp only [Sem.run_bind, run_askRoom, Result.andThen_ok, run_program, hi, Sem.run_pure, hsz, Nat.mul_one]
    by_cases h0 : n = 0
    · rw [if_pos h0]
      simp only [if_pos h0] at hrow
      simp only [Sem.run_bind, Sem.run_pure, Result.andThen_ok, hrow, newRow, run_newObj]
      rfl
    · rw [if_neg h0]
      simp only [if_neg h0] at hrow
      simp only [Sem.run_bind, Sem.run_pure, hzr, Result.andThen_ok, hrow, newRow, run_newObj]
      rfl
  have hR : R (w.alloc (.cells (Array.replicate n z) e)) C (.ro n (List.replicate n (.v z))) (.slice (some ⟨w.heap.size, 0, none⟩) n n) := by
    refine .ro n n _ _ (fun _ => z) (Nat.le_refl _) (by unfold maxLen; omega) (fun h => by cases h) (fun j hj => ⟨_, rfl, fun ho => ?_, ?_, hz1⟩) (fun j av hj => ?_)
    · have := hs.obj.bnd _ ho
      simp at this
    · rw [add_plain]
      simp only [World.cell?, heap_alloc_new]
      simp at hj
      simp [hj]
    · obtain ⟨hlt, rfl⟩ := List.getElem?_eq_some_iff.1 hj
      simp only [List.getElem_replicate]
      exact .v z
  have hnew := hs.newRo (.cells (Array.replicate n z) e) o.dst (fun d' hd' => by rw [hd] at hd'; cases hd'; exact blt_lt hN.2) (.ro n (List.replicate n (.v z))) (.slice (some ⟨w.heap.size, 0, none⟩) n n) (fun _ => hR)
  unfold Oper.wp
  rw [hrun]
  refine ⟨_, ⟨_, hnew⟩, ?_⟩
  rw [hd]
  exact h
theorem aop_makeRoE {P : Program} {E : Env0} {st : St} {K : St → Prop} {o : Oper} {t e bytes d n : Nat} {x y : Operand} {z : Value} {k k' : IntKind} {m : Int} {α : Type} {f : α → List AV} (v : α) (ho : o.op = .makeSlice t x y) (hd : o.dst = some d) (hN : (okOp E.N x && okOp E.N y && Nat.blt d E.N) = true)
    (ht : P.underlying t = some (.slice e)) (hinfo : (P.info? e).map (fun i => (i.zero, i.size, i.bytes)) = some (some z, 1, bytes)) (hz1 : z.oneCell' = true) (hx : evA st.env x = .v (.int k m)) (hy : evA st.env y = .v (.int k' m)) (hm : m = (n : Int)) (hnn : n ≤ 281474976710656) (hb : bytes * n ≤ 281474976710656) (hv : f v = [.v z])
    (h : K ⟨upd st.env d (.ro (List.replicate n v).length (enc f (List.replicate n v))), st.ob⟩) : AOp P E o st K := by
  rw [List.length_replicate, enc_rep n v _ hv] at h
  exact aop_makeRo ho hd hN ht hinfo hz1 hx hy hm hnn hb h
end Go.Lo
