/- Literals, makes, cuts, in the logic of values. -/
import Derived.Test.YthfmdljohlolpaaLoE
import Derived.Laws.Tables
import Derived.IntWalk
set_option linter.unusedVariables false
set_option linter.unusedSimpArgs false
namespace Go.Lo
section
variable {P : Program} {E : Env0} {st : St} {K : St → Prop}

/-! ### literals -/
def fillA (place : Nat → Option (Nat × Nat)) (cells : List AV) : List (Nat × AV) → Option (List AV)
  | [] => some cells
  | (i, av) :: rest =>
    match place i, cellsA av with
    | some (off, size), some cs => if cs.length = size ∧ off + size ≤ cells.length then fillA place (spl cells off cs) rest else none
    | _, _ => none

theorem foldl_set (off : Nat) : ∀ (vs : List Value) (s : Nat) (cs : Array Value) (j : Nat), off + s + vs.length ≤ cs.size →
    ((vs.zipIdx s).foldl (fun cs (x : Value × Nat) => cs.setIfInBounds (off + x.2) x.1) cs).size = cs.size ∧
    ((vs.zipIdx s).foldl (fun cs (x : Value × Nat) => cs.setIfInBounds (off + x.2) x.1) cs)[j]? = if off + s ≤ j ∧ j < off + s + vs.length then vs[j - (off + s)]? else cs[j]?
  | [], s, cs, j, _ => by simp; omega
  | v :: vs, s, cs, j, h => by
    have ih := foldl_set off vs (s + 1) (cs.setIfInBounds (off + s) v) j (by simp at h ⊢; omega)
    simp only [List.zipIdx_cons, List.foldl_cons]
    refine ⟨by rw [ih.1]; simp, ?_⟩
    rw [ih.2]
    simp only [List.length_cons] at h ⊢
    by_cases hj : j = off + s
    · subst hj
      rw [if_neg (by omega), if_pos (by omega)]
      rw [Array.getElem?_setIfInBounds_self_of_lt (by omega)]
      simp
    · by_cases h1 : off + (s + 1) ≤ j ∧ j < off + (s + 1) + vs.length
      · rw [if_pos h1, if_pos (by omega)]
        rw [show j - (off + s) = (j - (off + (s + 1))) + 1 by omega, List.getElem?_cons_succ]
      · rw [if_neg h1, if_neg (by omega), Array.getElem?_setIfInBounds_ne (by omega)]

theorem spl_get {cells cs : List AV} {off j : Nat} (h : off + cs.length ≤ cells.length) : (spl cells off cs)[j]? = if off ≤ j ∧ j < off + cs.length then cs[j - off]? else cells[j]? := by
  unfold spl
  have h1 : (cells.take off).length = off := by simp; omega
  by_cases ha : j < off
  · rw [List.getElem?_append_left (by simp; omega), List.getElem?_append_left (by omega), List.getElem?_take, if_pos ha, if_neg (by omega)]
  · by_cases hb : j < off + cs.length
    · rw [List.getElem?_append_left (by simp; omega), List.getElem?_append_right (by omega), h1, if_pos (by omega)]
    · rw [List.getElem?_append_right (by simp; omega), if_neg (by omega), List.getElem?_drop]
      congr 1
      simp; omega
theorem spl_length {cells cs : List AV} {off : Nat} (h : off + cs.length ≤ cells.length) : (spl cells off cs).length = cells.length := by
  unfold spl; simp; omega

theorem R_fill {w : World} {C : Ctx} {place : Nat → Option (Nat × Nat)} : ∀ (parts : List (Nat × AV)) (pv : List (Nat × Value)) (cells cells' : List AV) (vals : Array Value), pv.length = parts.length →
    (∀ (j i : Nat) (av : AV), parts[j]? = some (i, av) → ∃ u : Value, pv[j]? = some (i, u) ∧ R w C av u) → vals.size = cells.length → (∀ j c, cells[j]? = some c → R w C c (vals.getD j undef)) → fillA place cells parts = some cells' →
    ∃ vals', Instr.fill place vals pv = some vals' ∧ vals'.size = cells'.length ∧ ∀ j c, cells'[j]? = some c → R w C c (vals'.getD j undef)
  | [], [], cells, cells', vals, _, _, hs, hr, h => by
    simp only [fillA, Option.some.injEq] at h
    subst h
    exact ⟨vals, rfl, hs, hr⟩
  | (i, av) :: parts, (i', u) :: pv, cells, cells', vals, hl, hp, hs, hr, h => by
    obtain ⟨u', hu', hR⟩ := hp 0 i av rfl
    simp only [List.getElem?_cons_zero, Option.some.injEq, Prod.mk.injEq] at hu'
    obtain ⟨rfl, rfl⟩ := hu'
    simp only [fillA] at h
    cases hpl : place i' with
    | none => simp [hpl] at h
    | some os =>
      obtain ⟨off, size⟩ := os
      cases hcs : cellsA av with
      | none => simp [hpl, hcs] at h
      | some cs =>
        simp only [hpl, hcs] at h
        split at h
        · rename_i hc
          obtain ⟨rfl, hle⟩ := hc
          obtain ⟨hsz, hrel⟩ := R_cells hR hcs
          have hf := fun j => foldl_set off u.cells.toList 0 vals j (by simp [hsz, hs]; omega)
          have hfold : u.cells.zipIdx.foldl (fun cs (x : Value × Nat) => cs.setIfInBounds (off + x.2) x.1) vals = (u.cells.toList.zipIdx 0).foldl (fun cs (x : Value × Nat) => cs.setIfInBounds (off + x.2) x.1) vals := by
            rw [← Array.foldl_toList, Array.toList_zipIdx]
          obtain ⟨vals', h1, h2, h3⟩ := R_fill parts pv (spl cells off cs) cells' ((u.cells.toList.zipIdx 0).foldl (fun cs (x : Value × Nat) => cs.setIfInBounds (off + x.2) x.1) vals) (by simpa using hl)
            (fun j i av hj => hp (j + 1) i av (by simpa using hj)) (by rw [(hf 0).1, hs, spl_length hle]) (fun j c hj => by
              rw [spl_get hle] at hj
              rw [Array.getD_eq_getD_getElem?, (hf j).2]
              simp only [Nat.add_zero, Array.length_toList, hsz] at *
              by_cases hin : off ≤ j ∧ j < off + cs.length
              · rw [if_pos hin] at hj ⊢
                have := hrel (j - off) c hj
                simpa using this
              · rw [if_neg hin] at hj ⊢
                have := hr j c hj
                simpa using this) h
          refine ⟨vals', ?_, h2, h3⟩
          simp only [Instr.fill, hpl]
          rw [if_neg (by simp [hsz, hs]; omega)]
          rw [← h1]
          congr 1
        · cases h
  | [], _ :: _, _, _, _, hl, _, _, _, _ => by simp at hl
  | _ :: _, [], _, _, _, hl, _, _, _, _ => by simp at hl

/-- Parts, evaluated. -/
def partsA (env : Nat → AV) (ps : List (Nat × Operand)) : List (Nat × AV) := ps.map fun x => (x.1, evA env x.2)

theorem SR.parts {C : Ctx} {a : Act} {w : World} (hs : SR E C st a w) (ps : List (Nat × Operand)) (hok : (ps.all fun p => okOp E.N p.2) = true) : ∀ (j i : Nat) (av : AV), (partsA st.env ps)[j]? = some (i, av) → ∃ u : Value, (ps.map fun (x : Nat × Operand) => (x.1, a.eval x.2))[j]? = some (i, u) ∧ R w C av u := by
  intro j i av hj
  unfold partsA at hj
  rw [List.getElem?_map, Option.map_eq_some_iff] at hj
  obtain ⟨⟨i', x⟩, hj, he⟩ := hj
  simp only [Prod.mk.injEq] at he
  obtain ⟨rfl, rfl⟩ := he
  have hmem := List.mem_of_getElem? hj
  have := List.all_eq_true.1 hok _ hmem
  exact ⟨a.eval x, by rw [List.getElem?_map, hj]; rfl, hs.ev x this⟩

/-- How a struct's or array's parts lie. -/
def placesOf (P : Program) (t : TypeId) : Option (Value × (Nat → Option (Nat × Nat))) :=
  match P.info? t, P.underlying t with
  | some it, some (.array _ e) =>
    match it.zero, P.info? e with
    | some z, some ie => some (z, fun i => some (i * ie.size, ie.size))
    | _, _ => none
  | some it, some (.struct fields) =>
    match it.zero, fields.toList.mapM (fun f => (P.info? f.type).map fun i => (f.offset, i.size)) with
    | some z, some places => some (z, (places.toArray[·]?))
    | _, _ => none
  | _, _ => none
theorem built_of {t : TypeId} {z : Value} {pl : Nat → Option (Nat × Nat)} (h : placesOf P t = some (z, pl)) (parts : List (Nat × Value)) : P.built t parts = Instr.fill pl z.cells parts := by
  unfold placesOf at h
  unfold Program.built
  split at h <;> (try (simp at h; done))
  · split at h
    · simp only [Option.some.injEq, Prod.mk.injEq] at h
      obtain ⟨rfl, rfl⟩ := h
      simp [*]
    · cases h
  · split at h
    · simp only [Option.some.injEq, Prod.mk.injEq] at h
      obtain ⟨rfl, rfl⟩ := h
      simp [*]
    · cases h

theorem aop_build {o : Oper} {t : TypeId} {ps : List (Nat × Operand)} {d : Nat} {z : Value} {pl : Nat → Option (Nat × Nat)} {cells : List AV} (ho : o.op = .build t ps.toArray) (hd : o.dst = some d) (hN : ((ps.all fun p => okOp E.N p.2) && Nat.blt d E.N) = true)
    (hpl : placesOf P t = some (z, pl)) (hf : fillA pl (z.cells.toList.map .v) (partsA st.env ps) = some cells) (h : K ⟨upd st.env d (.agg cells), st.ob⟩) : AOp P E o st K := by
  simp only [Bool.and_eq_true] at hN
  refine aop_value (.agg cells) (fun d' hd' => by rw [hd] at hd'; cases hd'; exact blt_lt hN.2) (fun a w C hs => ?_) (by rw [hd]; exact h)
  obtain ⟨vals', h1, h2, h3⟩ := R_fill (w := w) (C := C) (partsA st.env ps) (ps.map fun (x : Nat × Operand) => (x.1, a.eval x.2)) (z.cells.toList.map .v) cells z.cells (by simp [partsA]) (hs.parts ps hN.1) (by simp) (fun j c hj => by
    rw [List.getElem?_map, Option.map_eq_some_iff] at hj
    obtain ⟨y, hy, rfl⟩ := hj
    have : z.cells.getD j undef = y := by
      simp at hy
      simp [hy]
    rw [this]
    exact .v y) hf
  refine ⟨.agg vals', ?_, .agg cells vals' h2 h3⟩
  have hb : P.built t ((ps.toArray.map fun (i, x) => (i, a.eval x)).toList) = some vals' := by
    rw [built_of hpl]
    simpa using h1
  simp only [execOp, ho, Sem.run_bind, run_build w t _ _ hb, Result.andThen_ok]
  rfl

/-- What a slice's literal holds: the zero value's cells, filled. -/
def litA (n size : Nat) (z : Value) (ps : List (Nat × AV)) : Option (List AV) := fillA (fun i => some (i * size, size)) ((List.range (n * size)).map fun i => .v (z.cells[i % z.cells.size]!)) ps

theorem run_lit {t e n size : Nat} {z : Value} {C : Ctx} {a : Act} {w : World} {ps : List (Nat × Operand)} {cells : List AV} (hs : SR E C st a w) (hok : (ps.all fun p => okOp E.N p.2) = true) (ht : P.underlying t = some (.slice e)) (hinfo : (P.info? e).map (fun i => (i.zero, i.size)) = some (some z, size)) (hn : n * size ≤ 16777216)
    (hf : litA n size z (partsA st.env ps) = some cells) (h1 : cells.all isOne = true) : ∃ vals : Array Value, (Instr.buildSlice t n (ps.toArray.map fun (i, x) => (i, a.eval x))).run P w = .ok (.slice (some ⟨w.heap.size, 0, none⟩) n n) (w.alloc (.cells vals e)) ∧ vals.size = cells.length ∧
      ∀ (j : Nat) (c : AV), cells[j]? = some c → ∃ u : Value, vals[j]? = some u ∧ u.oneCell' = true ∧ R w C c u := by
  obtain ⟨i0, hi, hzz⟩ := Option.map_eq_some_iff.1 hinfo
  simp only [Prod.mk.injEq] at hzz
  obtain ⟨hz, rfl⟩ := hzz
  obtain ⟨vals', h1', h2, h3⟩ := R_fill (w := w) (C := C) (partsA st.env ps) (ps.map fun (x : Nat × Operand) => (x.1, a.eval x.2)) _ cells ((Array.range (n * i0.size)).map fun i => z.cells[i % z.cells.size]!) (by simp [partsA]) (hs.parts ps hok) (by simp) (fun j c hj => by
    rw [List.getElem?_map, Option.map_eq_some_iff] at hj
    obtain ⟨y, hy, rfl⟩ := hj
    obtain ⟨hlt, rfl⟩ := List.getElem?_eq_some_iff.1 hy
    simp at hlt
    have : ((Array.range (n * i0.size)).map fun i => z.cells[i % z.cells.size]!).getD j undef = z.cells[j % z.cells.size]! := by simp [hlt]
    rw [this]
    simp only [List.getElem_range]
    exact .v _) hf
  refine ⟨vals', ?_, h2, fun j c hj => ?_⟩
  · have hfill : Instr.fill (fun i => some (i * i0.size, i0.size)) ((Array.range (n * i0.size)).map ((if n * i0.size = 0 then #[] else z.cells)[· % (if n * i0.size = 0 then #[] else z.cells).size]!)) (ps.toArray.map fun (i, x) => (i, a.eval x)).toList = some vals' := by
      by_cases h0 : n * i0.size = 0
      · have e1 : ((Array.range (n * i0.size)).map fun i => z.cells[i % z.cells.size]!) = #[] := by rw [h0]; simp
        rw [e1] at h1'
        have e2 : ((Array.range (n * i0.size)).map ((if n * i0.size = 0 then (#[] : Array Value) else z.cells)[· % (if n * i0.size = 0 then (#[] : Array Value) else z.cells).size]!)) = #[] := by rw [h0]; simp
        rw [e2]
        simpa using h1'
      · simp only [if_neg h0]
        simpa using h1'
    simp only [Instr.buildSlice, Sem.run_bind, run_underlying ht, Result.andThen_ok, run_sizeOf (show (P.info? e).map (·.size) = some i0.size by rw [hi]; rfl)]
    rw [if_neg (by simp; omega)]
    by_cases h0 : n * i0.size = 0
    · rw [if_pos h0]
      simp only [if_pos h0] at hfill
      simp only [Sem.run_bind, Sem.run_pure, Result.andThen_ok, hfill, newRow, run_newObj]
      rfl
    · rw [if_neg h0]
      simp only [if_neg h0] at hfill
      have hzr : (zeroValue e).run P w = .ok z w := by simp [zeroValue, typeInfo, hi, hz]
      simp only [Sem.run_bind, Sem.run_pure, hzr, Result.andThen_ok, hfill, newRow, run_newObj]
      rfl
  · have hlt : j < vals'.size := by rw [h2]; exact (List.getElem?_eq_some_iff.1 hj).1
    have hr := h3 j c hj
    have he : vals'.getD j undef = vals'[j] := by simp [hlt]
    rw [he] at hr
    exact ⟨vals'[j], Array.getElem?_eq_getElem hlt, R_one hr (List.all_eq_true.1 h1 c (List.mem_of_getElem? hj)), hr⟩

theorem run_litop {o : Oper} {t e n size d : Nat} {ps : List (Nat × Operand)} {z : Value} {cells : List AV} {C : Ctx} {a : Act} {w : World} (ho : o.op = .buildSlice t n ps.toArray) (hs : SR E C st a w) (hok : (ps.all fun p => okOp E.N p.2) = true)
    (ht : P.underlying t = some (.slice e)) (hinfo : (P.info? e).map (fun i => (i.zero, i.size)) = some (some z, size)) (hn : n * size ≤ 16777216) (hf : litA n size z (partsA st.env ps) = some cells) (h1 : cells.all isOne = true) :
    ∃ vals : Array Value, (execOp a.eval o).run P w = .ok (.value (.slice (some ⟨w.heap.size, 0, none⟩) n n)) (w.alloc (.cells vals e)) ∧ vals.size = cells.length ∧
      ∀ (j : Nat) (c : AV), cells[j]? = some c → ∃ u : Value, vals[j]? = some u ∧ u.oneCell' = true ∧ R w C c u := by
  obtain ⟨vals, hr, hvl, hc⟩ := run_lit hs hok ht hinfo hn hf h1
  refine ⟨vals, ?_, hvl, hc⟩
  simp only [execOp, ho, Sem.run_bind, hr, Result.andThen_ok]
  rfl

/-- A slice's literal that is only read. -/
theorem aop_lit {o : Oper} {t e n size d : Nat} {ps : List (Nat × Operand)} {z : Value} {cells : List AV} (ho : o.op = .buildSlice t n ps.toArray) (hd : o.dst = some d) (hN : ((ps.all fun p => okOp E.N p.2) && Nat.blt d E.N) = true)
    (ht : P.underlying t = some (.slice e)) (hinfo : (P.info? e).map (fun i => (i.zero, i.size)) = some (some z, size)) (hn : n * size ≤ 16777216) (hnn : n ≤ 16777216) (hf : litA n size z (partsA st.env ps) = some cells) (h1 : cells.all isOne = true)
    (h : K ⟨upd st.env d (.ro n cells), st.ob⟩) : AOp P E o st K := by
  simp only [Bool.and_eq_true] at hN
  rintro a w q ⟨C, hs⟩
  obtain ⟨vals, hrun, hvl, hc⟩ := run_litop (d := d) ho hs hN.1 ht hinfo hn hf h1
  have hext : Ext w C (w.alloc (.cells vals e)) C := ⟨fun _ h => ⟨h, rfl, rfl, rfl⟩, fun _ _ h => h, fun x hx _ => heap_alloc_old w _ x hx⟩
  have hR : R (w.alloc (.cells vals e)) C (.ro n cells) (.slice (some ⟨w.heap.size, 0, none⟩) n n) := by
    refine .ro n n _ cells (fun j => vals.getD j undef) (Nat.le_refl _) (by unfold maxLen; omega) (fun h => by cases h) (fun j hj => ⟨_, rfl, fun ho => ?_, ?_, ?_⟩) (fun j av hj => ?_)
    · have := hs.obj.bnd _ ho
      simp at this
    · obtain ⟨u, hu, _, _⟩ := hc j _ (List.getElem?_eq_getElem hj)
      rw [add_plain]
      simp only [World.cell?, heap_alloc_new]
      simp [hu]
    · obtain ⟨u, hu, h2, _⟩ := hc j _ (List.getElem?_eq_getElem hj)
      simpa [hu] using h2
    · obtain ⟨u, hu, _, h3⟩ := hc j _ hj
      simpa [hu] using h3.ext hext
  have hnew := hs.newRo (.cells vals e) o.dst (fun d' hd' => by rw [hd] at hd'; cases hd'; exact blt_lt hN.2) (.ro n cells) (.slice (some ⟨w.heap.size, 0, none⟩) n n) (fun _ => hR)
  unfold Oper.wp
  rw [hrun]
  refine ⟨_, ⟨_, hnew⟩, ?_⟩
  rw [hd]
  exact h

/-- A slice's literal that is a row of one's own. -/
theorem aop_litO {o : Oper} {t e n size d : Nat} {ps : List (Nat × Operand)} {z : Value} {cells : List AV} (id : Nat) (ho : o.op = .buildSlice t n ps.toArray) (hd : o.dst = some d) (hN : ((ps.all fun p => okOp E.N p.2) && Nat.blt d E.N) = true)
    (ht : P.underlying t = some (.slice e)) (hinfo : (P.info? e).map (fun i => (i.zero, i.size)) = some (some z, size)) (hn : n * size ≤ 16777216) (hnn : n ≤ 16777216) (hfree : st.ob id = .free) (hf : litA n size z (partsA st.env ps) = some cells) (hcl : cells.length = n * size) (h1 : cells.all isOne = true)
    (h : K ⟨upd st.env d (.sl id 0 n), updO st.ob id (.live ⟨cells, e, size⟩)⟩) : AOp P E o st K := by
  simp only [Bool.and_eq_true] at hN
  rintro a w q ⟨C, hs⟩
  obtain ⟨vals, hrun, hvl, hc⟩ := run_litop (d := d) ho hs hN.1 ht hinfo hn hf h1
  have hnew := hs.new id hfree ⟨cells, e, size⟩ vals (by simp [hvl]) hc o.dst (fun d' hd' => by rw [hd] at hd'; cases hd'; exact blt_lt hN.2) (.sl id 0 n) (.slice (some ⟨w.heap.size, 0, none⟩) n n)
    (fun _ => .sl0 (.inl rfl) (by simp [Ctx.add]) (Nat.le_refl _) (by unfold maxLen; omega) (by simp [Ctx.add, hvl, hcl]) add_sz0')
  unfold Oper.wp
  rw [hrun]
  refine ⟨_, ⟨_, hnew⟩, ?_⟩
  rw [hd]
  exact h

/-! ### make -/
theorem aop_make {o : Oper} {t e bytes d n : Nat} {x y : Operand} {z : Value} {k k' : IntKind} {m : Int} (id : Nat) (ho : o.op = .makeSlice t x y) (hd : o.dst = some d) (hN : (okOp E.N x && okOp E.N y && Nat.blt d E.N) = true)
    (ht : P.underlying t = some (.slice e)) (hinfo : (P.info? e).map (fun i => (i.zero, i.size, i.bytes)) = some (some z, 1, bytes)) (hz1 : z.oneCell' = true) (hx : evA st.env x = .v (.int k m)) (hy : evA st.env y = .v (.int k' m)) (hm : m = (n : Int)) (hnn : n ≤ 281474976710656) (hb : bytes * n ≤ 281474976710656) (hfree : st.ob id = .free)
    (h : K ⟨upd st.env d (.sl id 0 n), updO st.ob id (.live ⟨List.replicate n (.v z), e, 1⟩)⟩) : AOp P E o st K := by
  simp only [Bool.and_eq_true] at hN
  subst hm
  rintro a w q ⟨C, hs⟩
  have h1 := hs.ev x hN.1.1
  rw [hx] at h1
  have h2 := hs.ev y hN.1.2
  rw [hy] at h2
  obtain ⟨i0, hi, hzz⟩ := Option.map_eq_some_iff.1 hinfo
  simp only [Prod.mk.injEq] at hzz
  obtain ⟨hz, hsz, hby⟩ := hzz
  have hwrap : IntKind.i64.wrap (n : Int) = n := IntWalk.i64_in _ (by omega)
  have hb' : (bytes : Int) * (n : Int) ≤ 281474976710656 := by
    have : ((bytes * n : Nat) : Int) ≤ 281474976710656 := by omega
    rwa [Int.natCast_mul] at this
  have hzc : z.cells = #[z] := cells_one hz1
  have hrun : (execOp a.eval o).run P w = .ok (.value (.slice (some ⟨w.heap.size, 0, none⟩) n n)) (w.alloc (.cells (Array.replicate n z) e)) := by
    have hrow : (Array.range n).map (fun i => (if n = 0 then (#[] : Array Value) else z.cells)[i % (if n = 0 then (#[] : Array Value) else z.cells).size]!) = Array.replicate n z := by
      apply Array.ext
      · simp
      · intro i h1 h2
        simp at h1
        have h0 : ¬ n = 0 := by omega
        simp [h0, hzc, Nat.mod_one]
    have hneg : ¬ ((n : Int) < 0) := by omega
    have hzr : (zeroValue e).run P w = .ok z w := by simp [zeroValue, typeInfo, hi, hz]
    simp only [execOp, ho, h1.v_inv, h2.v_inv, Instr.makeSlice, asInt, asIntOf, Sem.run_bind, Sem.run_pure, run_underlying ht, Result.andThen_ok, typeInfo, run_program, hi, hby, hwrap, hsz, sizeOf, Nat.mul_one, Int.toNat_natCast]
    rw [if_neg (by simp [hneg, hb'])]
    simp only [Sem.run_bind, run_askRoom, Result.andThen_ok, run_program, hi, Sem.run_pure, hsz, Nat.mul_one]
    by_cases h0 : n = 0
    · rw [if_pos h0]
      simp only [if_pos h0] at hrow
      simp only [Sem.run_bind, Sem.run_pure, Result.andThen_ok, hrow, newRow, run_newObj]
      rfl
    · rw [if_neg h0]
      simp only [if_neg h0] at hrow
      simp only [Sem.run_bind, Sem.run_pure, hzr, Result.andThen_ok, hrow, newRow, run_newObj]
      rfl
  have hnew := hs.new id hfree ⟨List.replicate n (.v z), e, 1⟩ (Array.replicate n z) (by simp) (fun j c hj => by
      obtain ⟨hlt, rfl⟩ := List.getElem?_eq_some_iff.1 hj
      simp at hlt
      refine ⟨z, by simp [hlt], hz1, ?_⟩
      simp only [List.getElem_replicate]
      exact .v z) o.dst (fun d' hd' => by rw [hd] at hd'; cases hd'; exact blt_lt hN.2) (.sl id 0 n) (.slice (some ⟨w.heap.size, 0, none⟩) n n)
    (fun _ => .sl0 (.inl rfl) (by simp [Ctx.add]) (Nat.le_refl _) (by unfold maxLen; omega) (by simp [Ctx.add]) add_sz0')
  unfold Oper.wp
  rw [hrun]
  refine ⟨_, ⟨_, hnew⟩, ?_⟩
  rw [hd]
  exact h

/-! ### cuts -/
/-- A bound of a cut: none, or a number. -/
def bndA (env : Nat → AV) (x : Option Operand) (dflt : Nat) (n : Nat) : Prop :=
  match x with
  | none => n = dflt
  | some o => ∃ k, evA env o = .v (.int k (n : Int))
def okO (N : Nat) : Option Operand → Bool
  | none => true
  | some o => okOp N o

theorem run_slice {t e sz : Nat} {A : Option Addr} {n c l hgh : Nat} {vl vh : Option Value} (ht : P.underlying t = some (.slice e)) (hsz : (P.info? e).map (·.size) = some sz) (hl : (vl = none ∧ l = 0) ∨ ∃ k, vl = some (.int k (l : Int))) (hh : (vh = none ∧ hgh = n) ∨ ∃ k, vh = some (.int k (hgh : Int)))
    (h1 : l ≤ hgh) (h2 : hgh ≤ c) (w : World) : (Instr.sliceAt t (.slice A n c) vl vh none).run P w = .ok (.slice (if c = l then A else A.map (·.add (l * sz))) (hgh - l) (c - l)) w := by
  have hb : (Instr.sliceBounds true n c vl vh none).run P w = .ok (l, hgh, c) w := by
    rcases hl with ⟨rfl, rfl⟩ | ⟨k, rfl⟩ <;> rcases hh with ⟨rfl, rfl⟩ | ⟨k', rfl⟩ <;> simp [Instr.sliceBounds, Instr.sliceBound, asIntOf, h1, h2, Int.ofNat_le.2 h1, Int.ofNat_le.2 h2]
  simp [Instr.sliceAt, Instr.slice, run_underlying ht, hb, run_sizeOf hsz]

theorem bnd_val {C : Ctx} {a : Act} {w : World} (hs : SR E C st a w) {x : Option Operand} {dflt n : Nat} (hx : okO E.N x = true) (h : bndA st.env x dflt n) : (x.map a.eval = none ∧ n = dflt) ∨ ∃ k, x.map a.eval = some (.int k (n : Int)) := by
  cases x with
  | none => exact .inl ⟨rfl, h⟩
  | some o =>
    obtain ⟨k, h⟩ := h
    have := hs.ev o hx
    rw [h] at this
    exact .inr ⟨k, by simp [this.v_inv]⟩

theorem aop_sliceRo {o : Oper} {t e sz d n l hgh : Nat} {x : Operand} {lo hi : Option Operand} {cells cells' : List AV} (ho : o.op = .slice t x lo hi none) (hd : o.dst = some d) (hN : (okOp E.N x && okO E.N lo && okO E.N hi && Nat.blt d E.N) = true)
    (ht : P.underlying t = some (.slice e)) (hsz : (P.info? e).map (·.size) = some sz) (hx : evA st.env x = .ro n cells) (hlo : bndA st.env lo 0 l) (hhi : bndA st.env hi n hgh) (h1 : l ≤ hgh) (h2 : hgh ≤ n) (hc' : (cells.drop (l * sz)).take ((hgh - l) * sz) = cells')
    (h : K ⟨upd st.env d (.ro (hgh - l) cells'), st.ob⟩) : AOp P E o st K := by
  simp only [Bool.and_eq_true] at hN
  subst hc'
  refine aop_value _ (fun d' hd' => by rw [hd] at hd'; cases hd'; exact blt_lt hN.2) (fun a w C hs => ?_) (by rw [hd]; exact h)
  have hx1 := hs.ev x hN.1.1.1
  rw [hx] at hx1
  generalize hux : a.eval x = ux at hx1
  cases hx1 with
  | ro _ c A _ us hc hm h0 hcell hrel =>
    have hr := run_slice (P := P) (A := A) (n := n) (c := c) ht hsz (bnd_val hs hN.1.1.2 hlo) (bnd_val hs hN.1.2 hhi) h1 (by omega) w
    refine ⟨_, by simp only [execOp, ho, hux, Option.map_none, Sem.run_bind, hr, Result.andThen_ok]; rfl, .ro _ _ _ _ (fun j => us (l * sz + j)) (by omega) (by omega) (fun hA => ?_) (fun j hj => ?_) (fun j av hj => ?_)⟩
    · by_cases hcl : c = l
      · rw [if_pos hcl] at hA
        obtain ⟨hn0, hc0⟩ := h0 hA
        omega
      · rw [if_neg hcl] at hA
        have : A = none := by simpa using hA
        obtain ⟨hn0, hc0⟩ := h0 this
        omega
    · simp at hj
      have hgl : l < hgh := by
        rcases Nat.lt_or_ge l hgh with h3 | h3
        · exact h3
        · rw [show hgh - l = 0 by omega] at hj; simp at hj
      obtain ⟨ad, hA, h3, h4, h5⟩ := hcell (l * sz + j) (by omega)
      rw [if_neg (by omega)]
      exact ⟨ad.add (l * sz), by simp [hA], by rw [add_block]; exact h3, by rw [add_add]; exact h4, h5⟩
    · have hlt := (List.getElem?_eq_some_iff.1 hj).1
      simp at hlt
      rw [List.getElem?_take, if_pos (by omega), List.getElem?_drop] at hj
      exact hrel _ _ hj

/-- The first elements of a row of one's own. -/
theorem aop_sliceOwn {o : Oper} {t e sz d id off n hgh : Nat} {x : Operand} {hi : Option Operand} (ho : o.op = .slice t x none hi none) (hd : o.dst = some d) (hN : (okOp E.N x && okO E.N hi && Nat.blt d E.N) = true)
    (ht : P.underlying t = some (.slice e)) (hsz : (P.info? e).map (·.size) = some sz) (hx : evA st.env x = .sl id off n) (hhi : bndA st.env hi n hgh) (h2 : hgh ≤ n)
    (h : K ⟨upd st.env d (.sl id off hgh), st.ob⟩) : AOp P E o st K := by
  simp only [Bool.and_eq_true] at hN
  refine aop_value _ (fun d' hd' => by rw [hd] at hd'; cases hd'; exact blt_lt hN.2) (fun a w C hs => ?_) (by rw [hd]; exact h)
  have hx1 := hs.ev x hN.1.1
  rw [hx] at hx1
  generalize hux : a.eval x = ux at hx1
  cases hx1 with
  | sl _ _ _ c b hdm hb hnc hm hss =>
    have hr := run_slice (P := P) (A := some ⟨b, (C.sz id).2 + off, none⟩) (n := n) (c := c) (l := 0) (vl := none) ht hsz (.inl ⟨rfl, rfl⟩) (bnd_val hs hN.1.2 hhi) (Nat.zero_le _) (by omega) w
    refine ⟨_, by simp only [execOp, ho, hux, Option.map_none, Sem.run_bind, hr, Result.andThen_ok]; rfl, ?_⟩
    have : (if c = 0 then some (⟨b, (C.sz id).2 + off, none⟩ : Addr) else (some (⟨b, (C.sz id).2 + off, none⟩ : Addr)).map (·.add (0 * sz))) = some ⟨b, (C.sz id).2 + off, none⟩ := by
      split
      · rfl
      · simp [add_plain]
    rw [this]
    exact .sl id off (hgh - 0) (c - 0) b hdm hb (by omega) (by omega) (by simpa using hss)
  | slnil _ A hA hdm hb =>
    have h0 : hgh = 0 := by omega
    subst h0
    have hr := run_slice (P := P) (A := A) (n := 0) (c := 0) (l := 0) (vl := none) ht hsz (.inl ⟨rfl, rfl⟩) (bnd_val hs hN.1.2 hhi) (Nat.zero_le _) (Nat.zero_le _) w
    refine ⟨_, by simp only [execOp, ho, hux, Option.map_none, Sem.run_bind, hr, Result.andThen_ok]; rfl, ?_⟩
    exact .slnil id A hA hdm hb
end
end Go.Lo
