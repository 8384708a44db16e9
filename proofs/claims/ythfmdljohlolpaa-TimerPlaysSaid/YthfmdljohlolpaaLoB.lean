/- The operations of the machine, one lemma each, in the logic of values. -/
import Derived.Test.YthfmdljohlolpaaLoA
import Derived.Laws.Entries
import Derived.Laws.Cells
import Derived.Laws.CopyRow
set_option linter.unusedVariables false
set_option linter.unusedSimpArgs false
namespace Go.Lo
section
variable {P : Program} {E : Env0} {st : St} {K : St → Prop}

theorem blt_lt {d n : Nat} (h : Nat.blt d n = true) : d < n := by simpa [Nat.blt_eq] using h

theorem R.v_inv {w : World} {C : Ctx} {u x : Value} (h : R w C (.v x) u) : u = x := by cases h; rfl

theorem aop_fin {o : Oper} {d : Nat} (a : Act) (w : World) (q : Exit → Act → World → Prop) (C : Ctx) (hs : SR E C st a w) {u : Value} {av : AV} (hr : (execOp a.eval o).run P w = .ok (.value u) w) (hR : R w C av u)
    (hd : o.dst = some d) (hdN : d < E.N) (h : K ⟨upd st.env d av, st.ob⟩) : o.wp P a w (fun a' w' => ∃ st', SRel E st' a' w' ∧ K st') q := by
  unfold Oper.wp
  rw [hr]
  refine ⟨_, ⟨C, hs.set o.dst (fun d' hd' => by rw [hd] at hd'; cases hd'; exact hdN) av u (fun _ => hR)⟩, ?_⟩
  rw [hd]
  exact h

theorem put_some (st : St) (d : Nat) (av : AV) : st.put (some d) av = ⟨upd st.env d av, st.ob⟩ := rfl

theorem aop_move {o : Oper} {x : Operand} {d : Nat} {av : AV} (ho : o.op = .move x ∨ o.op = .assign x) (hd : o.dst = some d) (hN : (okOp E.N x && Nat.blt d E.N) = true) (hx : evA st.env x = av)
    (h : K ⟨upd st.env d av, st.ob⟩) : AOp P E o st K := by
  simp only [Bool.and_eq_true] at hN
  refine aop_value av (fun d' hd' => by rw [hd] at hd'; cases hd'; exact blt_lt hN.2) (fun a w C hs => ⟨a.eval x, ?_, ?_⟩) (by rw [hd]; exact h)
  · rcases ho with ho | ho <;> simp [execOp, ho]
  · rw [← hx]; exact hs.ev x hN.1

theorem aop_bin {o : Oper} {op : BinOp} {t t' : TypeId} {x y : Operand} {d : Nat} {vx vy u : Value} (ho : o.op = .binOp op t x y t') (hd : o.dst = some d) (hN : (okOp E.N x && okOp E.N y && Nat.blt d E.N) = true)
    (hx : evA st.env x = .v vx) (hy : evA st.env y = .v vy) (hrun : ∀ w, (do eqGuard op t x y vx vy; binOp op t vx vy : Sem Value).run P w = .ok u w)
    (h : K ⟨upd st.env d (.v u), st.ob⟩) : AOp P E o st K := by
  simp only [Bool.and_eq_true] at hN
  refine aop_value (.v u) (fun d' hd' => by rw [hd] at hd'; cases hd'; exact blt_lt hN.2) (fun a w C hs => ⟨u, ?_, .v u⟩) (by rw [hd]; exact h)
  have h1 := hs.ev x hN.1.1
  have h2 := hs.ev y hN.1.2
  rw [hx] at h1
  rw [hy] at h2
  have hr := hrun w
  rw [← h1.v_inv, ← h2.v_inv] at hr
  simp only [execOp, ho, Sem.run_bind, hr]
  rfl

/-- Whole numbers: what a binary operation makes of two. -/
def binI (k : IntKind) (op : BinOp) (a b : Int) : Value :=
  match op with
  | .add => .int k (k.wrap (a + b))
  | .sub => .int k (k.wrap (a - b))
  | .mul => .int k (k.wrap (a * b))
  | .quo => .int k (k.wrap (a.tdiv b))
  | .rem => .int k (a.tmod b)
  | .eql => .bool (a == b)
  | .neq => .bool (a != b)
  | .lss => .bool (decide (a < b))
  | .leq => .bool (decide (a ≤ b))
  | .gtr => .bool (decide (a > b))
  | .geq => .bool (decide (a ≥ b))
  | _ => .nilFunc
def binOk (op : BinOp) (b : Int) : Prop :=
  match op with
  | .quo | .rem => b ≠ 0
  | .and | .or | .xor | .andNot | .shl | .shr => False
  | _ => True

theorem run_binI (k : IntKind) (op : BinOp) (t : TypeId) (x y : Operand) (a b : Int) (hb : binOk op b) (w : World) :
    (do eqGuard op t x y (.int k a) (.int k b); binOp op t (.int k a) (.int k b) : Sem Value).run P w = .ok (binI k op a b) w := by
  cases op <;> simp only [binOk] at hb <;> first
    | exact hb.elim
    | (simp [eqGuard, binOp, binI, Op.intArith, Op.intDiv, Op.intCmp]; done)
    | (simp [eqGuard, binOp, binI, Op.intArith, Op.intDiv, Op.intCmp, hb]; done)

theorem aop_binI {o : Oper} {op : BinOp} {t t' : TypeId} {x y : Operand} {d : Nat} {k : IntKind} {a b : Int} {u : Value} (ho : o.op = .binOp op t x y t') (hd : o.dst = some d)
    (hN : (okOp E.N x && okOp E.N y && Nat.blt d E.N) = true) (hx : evA st.env x = .v (.int k a)) (hy : evA st.env y = .v (.int k b)) (hb : binOk op b) (hu : binI k op a b = u)
    (h : K ⟨upd st.env d (.v u), st.ob⟩) : AOp P E o st K := aop_bin ho hd hN hx hy (fun w => by rw [← hu]; exact run_binI k op t x y a b hb w) h

theorem equal_unfold (t : TypeId) (x y : Value) : Op.equal t x y = Op.equalIn (9999 + 1) t x y := rfl
theorem equalIn_bool {t : TypeId} (ht : P.underlying t = some .bool) (d : Nat) (a b : Bool) (w : World) : (Op.equalIn (d + 1) t (.bool a) (.bool b)).run P w = .ok (a == b) w := by
  simp [Op.equalIn, run_underlying ht]
theorem equalIn_ptrNil {t e : TypeId} (ht : P.underlying t = some (.pointer e)) (d : Nat) (ad : Addr) (w : World) : (Op.equalIn (d + 1) t (.pointer (some ad)) (.pointer none)).run P w = .ok false w := by
  simp [Op.equalIn, run_underlying ht]
theorem equalIn_nilNil {t e : TypeId} (ht : P.underlying t = some (.pointer e)) (d : Nat) (w : World) : (Op.equalIn (d + 1) t (.pointer none) (.pointer none)).run P w = .ok true w := by
  simp [Op.equalIn, run_underlying ht]
theorem equalIn_slNil {t e : TypeId} (ht : P.underlying t = some (.slice e)) (d : Nat) (A : Option Addr) (n c : Nat) (w : World) : (Op.equalIn (d + 1) t (.slice A n c) (.slice none 0 0)).run P w = .ok A.isNone w := by
  cases A <;> simp [Op.equalIn, run_underlying ht]
theorem run_binB {t : TypeId} (ht : P.underlying t = some .bool) (x y : Operand) (a b : Bool) (w : World) :
    (do eqGuard .eql t x y (.bool a) (.bool b); binOp .eql t (.bool a) (.bool b) : Sem Value).run P w = .ok (.bool (a == b)) w ∧
    (do eqGuard .neq t x y (.bool a) (.bool b); binOp .neq t (.bool a) (.bool b) : Sem Value).run P w = .ok (.bool (a != b)) w := by
  constructor
  · simp only [eqGuard, binOp, equal_unfold, Sem.run_bind, equalIn_bool ht, Result.andThen_ok]
    rfl
  · simp only [eqGuard, binOp, equal_unfold, Sem.run_bind, equalIn_bool ht, Result.andThen_ok]
    rfl

theorem aop_eqB {o : Oper} {t t' : TypeId} {x y : Operand} {d : Nat} {a b : Bool} (ho : o.op = .binOp .eql t x y t') (hd : o.dst = some d)
    (hN : (okOp E.N x && okOp E.N y && Nat.blt d E.N) = true) (hx : evA st.env x = .v (.bool a)) (hy : evA st.env y = .v (.bool b)) (ht : P.underlying t = some .bool)
    (h : K ⟨upd st.env d (.v (.bool (a == b))), st.ob⟩) : AOp P E o st K := aop_bin ho hd hN hx hy (fun w => (run_binB ht x y a b w).1) h
theorem aop_neB {o : Oper} {t t' : TypeId} {x y : Operand} {d : Nat} {a b : Bool} (ho : o.op = .binOp .neq t x y t') (hd : o.dst = some d)
    (hN : (okOp E.N x && okOp E.N y && Nat.blt d E.N) = true) (hx : evA st.env x = .v (.bool a)) (hy : evA st.env y = .v (.bool b)) (ht : P.underlying t = some .bool)
    (h : K ⟨upd st.env d (.v (.bool (a != b))), st.ob⟩) : AOp P E o st K := aop_bin ho hd hN hx hy (fun w => (run_binB ht x y a b w).2) h

theorem aop_un {o : Oper} {op : UnOp} {t : TypeId} {x : Operand} {d : Nat} {vx u : Value} (ho : o.op = .unOp op t x) (hd : o.dst = some d) (hN : (okOp E.N x && Nat.blt d E.N) = true)
    (hx : evA st.env x = .v vx) (hrun : ∀ w, (Op.unary op vx).run P w = .ok u w) (h : K ⟨upd st.env d (.v u), st.ob⟩) : AOp P E o st K := by
  simp only [Bool.and_eq_true] at hN
  refine aop_value (.v u) (fun d' hd' => by rw [hd] at hd'; cases hd'; exact blt_lt hN.2) (fun a w C hs => ⟨u, ?_, .v u⟩) (by rw [hd]; exact h)
  have h1 := hs.ev x hN.1
  rw [hx] at h1
  simp only [execOp, ho, Sem.run_bind, h1.v_inv, hrun w]
  rfl
theorem aop_not {o : Oper} {t : TypeId} {x : Operand} {d : Nat} {b : Bool} (ho : o.op = .unOp .not t x) (hd : o.dst = some d) (hN : (okOp E.N x && Nat.blt d E.N) = true)
    (hx : evA st.env x = .v (.bool b)) (h : K ⟨upd st.env d (.v (.bool (!b))), st.ob⟩) : AOp P E o st K := aop_un ho hd hN hx (fun w => rfl) h
theorem aop_neg {o : Oper} {t : TypeId} {x : Operand} {d : Nat} {k : IntKind} {n : Int} (ho : o.op = .unOp .neg t x) (hd : o.dst = some d) (hN : (okOp E.N x && Nat.blt d E.N) = true)
    (hx : evA st.env x = .v (.int k n)) (h : K ⟨upd st.env d (.v (.int k (k.wrap (0 - n)))), st.ob⟩) : AOp P E o st K := aop_un ho hd hN hx (fun w => rfl) h

theorem aop_convI {o : Oper} {s t : TypeId} {x : Operand} {d : Nat} {k k' : IntKind} {n : Int} (ho : o.op = .convert s t x) (hd : o.dst = some d) (hN : (okOp E.N x && Nat.blt d E.N) = true)
    (hs0 : P.underlying s = some (.int k')) (ht : P.underlying t = some (.int k)) (hx : evA st.env x = .v (.int k' n)) (h : K ⟨upd st.env d (.v (.int k (k.wrap n))), st.ob⟩) : AOp P E o st K := by
  simp only [Bool.and_eq_true] at hN
  refine aop_value (.v (.int k (k.wrap n))) (fun d' hd' => by rw [hd] at hd'; cases hd'; exact blt_lt hN.2) (fun a w C hs => ⟨.int k (k.wrap n), ?_, .v _⟩) (by rw [hd]; exact h)
  have h1 := hs.ev x hN.1
  rw [hx] at h1
  simp [execOp, ho, h1.v_inv, convert, run_underlying hs0, run_underlying ht, Conv.intToInt]

/-- A conversion between two names of one type of slice, string, pointer ..: 'x' itself, where the model says so. -/
theorem aop_conv {o : Oper} {s t : TypeId} {x : Operand} {d : Nat} {av : AV} (ho : o.op = .convert s t x) (hd : o.dst = some d) (hN : (okOp E.N x && Nat.blt d E.N) = true)
    (hx : evA st.env x = av) (hrun : ∀ w C u, R w C av u → (convert s t u).run P w = .ok u w) (h : K ⟨upd st.env d av, st.ob⟩) : AOp P E o st K := by
  simp only [Bool.and_eq_true] at hN
  refine aop_value av (fun d' hd' => by rw [hd] at hd'; cases hd'; exact blt_lt hN.2) (fun a w C hs => ⟨a.eval x, ?_, by rw [← hx]; exact hs.ev x hN.1⟩) (by rw [hd]; exact h)
  have h1 := hs.ev x hN.1
  rw [hx] at h1
  simp [execOp, ho, hrun w C _ h1]

theorem aop_extract {o : Oper} {x : Operand} {i d : Nat} {cs : List AV} {av : AV} (ho : o.op = .extract x i) (hd : o.dst = some d) (hN : (okOp E.N x && Nat.blt d E.N) = true)
    (hx : evA st.env x = .tup cs) (hi : cs[i]? = some av) (h : K ⟨upd st.env d av, st.ob⟩) : AOp P E o st K := by
  simp only [Bool.and_eq_true] at hN
  refine aop_value av (fun d' hd' => by rw [hd] at hd'; cases hd'; exact blt_lt hN.2) (fun a w C hs => ?_) (by rw [hd]; exact h)
  have h1 := hs.ev x hN.1
  rw [hx] at h1
  generalize hux : a.eval x = ux at h1
  cases h1 with
  | tup _ us hsz hrel =>
    refine ⟨us.getD i undef, ?_, hrel i av hi⟩
    have hlt : i < us.size := by rw [hsz]; exact (List.getElem?_eq_some_iff.1 hi).1
    simp [execOp, ho, hux, Instr.extract, hlt]

theorem run_isAgg {t : TypeId} {b : Bool} (h : (match P.underlying t with | some (.struct _) | some (.array _ _) => some true | some _ => some false | none => none) = some b) (w : World) : (isAgg t).run P w = .ok b w := by
  unfold isAgg
  cases hu : P.underlying t with
  | none => rw [hu] at h; simp at h
  | some d =>
    rw [hu] at h
    simp only [Sem.run_bind, run_underlying hu, Result.andThen_ok]
    cases d <;> simp_all

/-- A type whose values are of one cell (false), or structs and arrays (true). -/
def aggT (P : Program) (t : TypeId) : Option Bool :=
  match P.underlying t with
  | some (.struct _) | some (.array _ _) => some true
  | some _ => some false
  | none => none

theorem run_sizeOf {t : TypeId} {s : Nat} (h : (P.info? t).map (·.size) = some s) (w : World) : (sizeOf t).run P w = .ok s w := by
  obtain ⟨i, hi, rfl⟩ := Option.map_eq_some_iff.1 h
  simp [sizeOf, typeInfo, hi]

/-- A struct's field: its type's, its cells' place. -/
def fieldT (P : Program) (s : TypeId) (i : Nat) : Option (TypeId × Nat) :=
  match P.underlying s with
  | some (.struct fs) => (fs[i]?).map fun f => (f.type, f.offset)
  | _ => none
theorem fieldT_spec {s : TypeId} {i : Nat} {t off : Nat} (h : fieldT P s i = some (t, off)) : ∃ fs f, P.underlying s = some (.struct fs) ∧ fs[i]? = some f ∧ f.type = t ∧ f.offset = off := by
  unfold fieldT at h
  split at h
  · rename_i fs hu
    obtain ⟨f, hf, hh⟩ := Option.map_eq_some_iff.1 h
    simp only [Prod.mk.injEq] at hh
    exact ⟨fs, f, hu, hf, hh.1, hh.2⟩
  · cases h

/-- A part of a struct by value. -/
def partA (agg : Bool) (cells : List AV) (off size : Nat) : Option AV :=
  if agg then (if off + size ≤ cells.length then some (.agg ((cells.drop off).take size)) else none) else cells[off]?

theorem R_part {w : World} {C : Ctx} {t : TypeId} {b : Bool} {s off : Nat} {cells : List AV} {us : Array Value} {av : AV} (hb : aggT P t = some b) (hsz : (P.info? t).map (·.size) = some s) (hp : partA b cells off s = some av)
    (hs : us.size = cells.length) (hrel : ∀ j av, cells[j]? = some av → R w C av (us.getD j undef)) : ∃ u, (part t us off).run P w = .ok u w ∧ R w C av u := by
  unfold part
  simp only [Sem.run_bind, run_isAgg hb, Result.andThen_ok]
  cases b with
  | false =>
    simp only [partA, Bool.false_eq_true, if_false] at hp
    have hlt : off < us.size := by rw [hs]; exact (List.getElem?_eq_some_iff.1 hp).1
    refine ⟨us.getD off undef, ?_, hrel off av hp⟩
    simp [hlt]
  | true =>
    simp only [partA, if_true] at hp
    split at hp
    · rename_i hle
      cases hp
      simp only [if_true, Sem.run_bind, run_sizeOf hsz, Result.andThen_ok, Sem.run_pure]
      refine ⟨_, rfl, .agg _ _ ?_ fun j av hj => ?_⟩
      · simp [hs]; omega
      · have hj' : j < s := by
          have := (List.getElem?_eq_some_iff.1 hj).1
          simp at this; omega
        rw [List.getElem?_take, if_pos hj', List.getElem?_drop] at hj
        have := hrel (off + j) av hj
        have hb1 : off + j < us.size := by rw [hs]; omega
        simpa [Array.getElem?_extract, hb1, show j < min (off + s) us.size - off by omega] using this
    · cases hp

theorem aop_field {o : Oper} {s : TypeId} {x : Operand} {i d t off sz : Nat} {b : Bool} {cells : List AV} {av : AV} (ho : o.op = .field s x i) (hd : o.dst = some d) (hN : (okOp E.N x && Nat.blt d E.N) = true)
    (hf : fieldT P s i = some (t, off)) (hb : aggT P t = some b) (hsz : (P.info? t).map (·.size) = some sz) (hx : evA st.env x = .agg cells) (hp : partA b cells off sz = some av)
    (h : K ⟨upd st.env d av, st.ob⟩) : AOp P E o st K := by
  simp only [Bool.and_eq_true] at hN
  refine aop_value av (fun d' hd' => by rw [hd] at hd'; cases hd'; exact blt_lt hN.2) (fun a w C hs => ?_) (by rw [hd]; exact h)
  obtain ⟨fs, f, hu, hfi, rfl, rfl⟩ := fieldT_spec hf
  have h1 := hs.ev x hN.1
  rw [hx] at h1
  generalize hux : a.eval x = ux at h1
  cases h1 with
  | agg _ us hsz' hrel =>
    obtain ⟨u, hr, hR⟩ := R_part hb hsz hp hsz' hrel
    refine ⟨u, ?_, hR⟩
    simp [execOp, ho, hux, Instr.field, run_underlying hu, hfi, asAgg, hr]

/-! ### lengths -/
theorem aop_len {o : Oper} {c : Call} {t e : TypeId} {x : Operand} {d n : Nat} (ho : o.op = .call c) (hc : c = { callee := .builtin .len, args := #[x], argTypes := #[t] }) (hd : o.dst = some d)
    (hN : (okOp E.N x && Nat.blt d E.N) = true) (ht : P.underlying t = some (.slice e)) (hx : ∀ w C u, R w C (evA st.env x) u → ∃ A c, u = .slice A n c) (h : K ⟨upd st.env d (.v (.int .i64 n)), st.ob⟩) : AOp P E o st K := by
  subst hc
  simp only [Bool.and_eq_true] at hN
  refine aop_value (.v (.int .i64 n)) (fun d' hd' => by rw [hd] at hd'; cases hd'; exact blt_lt hN.2) (fun a w C hs => ⟨_, ?_, .v _⟩) (by rw [hd]; exact h)
  obtain ⟨A, c, hu⟩ := hx w C _ (hs.ev x hN.1)
  simp [execOp, ho, resolve, invoke, builtin, Builtin.len_, hu, run_underlying ht, goInt]
theorem len_ro {av : AV} {n : Nat} {cells : List AV} (h : av = .ro n cells) : ∀ w C u, R w C av u → ∃ A c, u = .slice A n c := by
  intro w C u hr; rw [h] at hr; cases hr; exact ⟨_, _, rfl⟩
theorem len_sl {av : AV} {id off n : Nat} (h : av = .sl id off n) : ∀ w C u, R w C av u → ∃ A c, u = .slice A n c := by
  intro w C u hr; rw [h] at hr; cases hr <;> exact ⟨_, _, rfl⟩
theorem len_nil {av : AV} (h : av = .v (.slice none 0 0)) : ∀ w C u, R w C av u → ∃ A c, u = .slice A 0 c := by
  intro w C u hr; rw [h] at hr; cases hr; exact ⟨_, _, rfl⟩

/-! ### addresses -/
/-- The cells from a pointer on. -/
def ptC (ob : Nat → OSt) : AV → Option (List AV)
  | .rp cells => some cells
  | .pt id off => match ob id with | .live o => some (o.cells.drop off) | _ => none
  | _ => none
/-- A pointer moved on. -/
def ptAdd (av : AV) (n : Nat) : AV :=
  match av with
  | .rp cells => .rp (cells.drop n)
  | .pt id off => .pt id (off + n)
  | _ => .any
def isPt : AV → Bool
  | .rp _ | .pt _ _ => true
  | _ => false

theorem R_ptAdd {w : World} {C : Ctx} {av : AV} {u : Value} (h : R w C av u) (hp : isPt av = true) (n : Nat) : ∃ ad, u = .pointer (some ad) ∧ R w C (ptAdd av n) (.pointer (some (ad.add n))) := by
  cases h with
  | rp ad cells us hcell hrel =>
    refine ⟨ad, rfl, .rp _ _ (fun j => us (n + j)) (fun j hj => ?_) (fun j av hj => ?_)⟩
    · simp only [List.length_drop] at hj
      obtain ⟨h1, h2, h3⟩ := hcell (n + j) (by omega)
      exact ⟨by rw [add_block]; exact h1, by rw [add_add]; exact h2, h3⟩
    · rw [List.getElem?_drop] at hj
      exact hrel _ _ hj
  | pt id off b hd hb => exact ⟨_, rfl, by rw [add_plain, Nat.add_assoc]; exact .pt id (off + n) b hd hb⟩
  | _ => simp [isPt] at hp

theorem aop_fieldAddr {o : Oper} {s : TypeId} {x : Operand} {i d t off sz : Nat} {av av' : AV} (ho : o.op = .fieldAddr s x i) (hd : o.dst = some d) (hN : (okOp E.N x && Nat.blt d E.N) = true)
    (hf : fieldT P s i = some (t, off)) (hsz : (P.info? t).map (·.size) = some (sz + 1)) (hx : evA st.env x = av) (hp : isPt av = true) (ha : ptAdd av off = av')
    (h : K ⟨upd st.env d av', st.ob⟩) : AOp P E o st K := by
  simp only [Bool.and_eq_true] at hN
  refine aop_value av' (fun d' hd' => by rw [hd] at hd'; cases hd'; exact blt_lt hN.2) (fun a w C hs => ?_) (by rw [hd]; exact h)
  obtain ⟨fs, f, hu, hfi, rfl, rfl⟩ := fieldT_spec hf
  have h1 := hs.ev x hN.1
  rw [hx] at h1
  obtain ⟨ad, hux, hr⟩ := R_ptAdd h1 hp f.offset
  refine ⟨.pointer (some (ad.add f.offset)), ?_, by rw [← ha]; exact hr⟩
  simp [execOp, ho, hux, Instr.fieldAt, run_underlying hu, hfi, Instr.sureAddr, fieldPlace, run_sizeOf hsz]

/-- An element's address, of a slice. -/
def ixA (av : AV) (i sz : Nat) : AV :=
  match av with
  | .ro _ cells => .rp (cells.drop (i * sz))
  | .sl id off _ => .pt id (off + i * sz)
  | _ => .any
def slLen : AV → Option Nat
  | .ro n _ => some n
  | .sl _ _ n => some n
  | _ => none

theorem aop_indexAddr {o : Oper} {t e : TypeId} {x ix : Operand} {d n sz : Nat} {k : IntKind} {i : Int} {av av' : AV} (ho : o.op = .indexAddr t x ix) (hd : o.dst = some d) (hN : (okOp E.N x && okOp E.N ix && Nat.blt d E.N) = true)
    (ht : P.underlying t = some (.slice e)) (hsz : (P.info? e).map (·.size) = some sz) (hx : evA st.env x = av) (hn : slLen av = some n) (hi : evA st.env ix = .v (.int k i)) (h0 : 0 ≤ i) (h1 : i < n) (ha : ixA av i.toNat sz = av')
    (h : K ⟨upd st.env d av', st.ob⟩) : AOp P E o st K := by
  simp only [Bool.and_eq_true] at hN
  refine aop_value av' (fun d' hd' => by rw [hd] at hd'; cases hd'; exact blt_lt hN.2) (fun a w C hs => ?_) (by rw [hd]; exact h)
  have hx1 := hs.ev x hN.1.1
  rw [hx] at hx1
  have hi1 := hs.ev ix hN.1.2
  rw [hi] at hi1
  have hi2 := hi1.v_inv
  generalize hux : a.eval x = ux at hx1
  rw [← ha]
  cases hx1 with
  | ro n' c A cells us hc hm hz hcell hrel =>
    simp only [slLen, Option.some.injEq] at hn
    subst hn
    cases A with
    | none => obtain ⟨h2, _⟩ := hz rfl; omega
    | some ad =>
      refine ⟨.pointer (some (ad.add (i.toNat * sz))), ?_, .rp _ _ (fun j => us (i.toNat * sz + j)) (fun j hj => ?_) (fun j av hj => ?_)⟩
      · simp [execOp, ho, hux, hi2, Instr.indexAt, asIntOf, run_underlying ht, h0, h1, run_sizeOf hsz]
      · simp only [List.length_drop] at hj
        obtain ⟨ad', hA, h2, h3, h4⟩ := hcell (i.toNat * sz + j) (by omega)
        cases hA
        exact ⟨by rw [add_block]; exact h2, by rw [add_add]; exact h3, h4⟩
      · rw [List.getElem?_drop] at hj
        exact hrel _ _ hj
  | sl id off n' c b hdm hb hnc hm hss =>
    simp only [slLen, Option.some.injEq] at hn
    subst hn
    refine ⟨.pointer (some (⟨b, (C.sz id).2 + (off + i.toNat * sz), none⟩)), ?_, .pt id _ b hdm hb⟩
    simp [execOp, ho, hux, hi2, Instr.indexAt, asIntOf, run_underlying ht, h0, h1, run_sizeOf hsz, add_plain, Nat.add_assoc]
  | slnil id hdm hb =>
    simp only [slLen, Option.some.injEq] at hn
    omega
  | _ => simp [slLen] at hn

/-! ### loads -/
theorem SR.cells {C : Ctx} {a : Act} {w : World} (hs : SR E C st a w) {av : AV} {u : Value} (h : R w C av u) {cells : List AV} (hp : ptC st.ob av = some cells) :
    ∃ ad, u = .pointer (some ad) ∧ ∀ j c, cells[j]? = some c → ∃ x, w.cell? (ad.add j) = some x ∧ x.oneCell' = true ∧ R w C c x := by
  cases h with
  | rp ad cs us hcell hrel =>
    simp only [ptC, Option.some.injEq] at hp
    subst hp
    refine ⟨ad, rfl, fun j c hj => ?_⟩
    obtain ⟨_, h2, h3⟩ := hcell j (List.getElem?_eq_some_iff.1 hj).1
    exact ⟨us j, h2, h3, hrel j c hj⟩
  | pt id off b hd hb =>
    simp only [ptC] at hp
    split at hp
    · rename_i o hlive
      cases hp
      obtain ⟨_, cur, hh, _, hl, hc⟩ := hs.obj.live id o b hlive hb
      refine ⟨_, rfl, fun j c hj => ?_⟩
      rw [List.getElem?_drop] at hj
      obtain ⟨u, hu, h1, hr⟩ := hc (off + j) c hj
      refine ⟨u, ?_, h1, hr⟩
      rw [add_plain, Nat.add_assoc]
      simp [World.cell?, hh, hu]
    · cases hp
  | _ => simp [ptC] at hp

theorem aop_load {o : Oper} {t : TypeId} {x : Operand} {d : Nat} {av : AV} {rest : List AV} (ho : o.op = .load t x) (hd : o.dst = some d) (hN : (okOp E.N x && Nat.blt d E.N) = true)
    (hb : aggT P t = some false) (hp : ptC st.ob (evA st.env x) = some (av :: rest)) (h : K ⟨upd st.env d av, st.ob⟩) : AOp P E o st K := by
  simp only [Bool.and_eq_true] at hN
  refine aop_value av (fun d' hd' => by rw [hd] at hd'; cases hd'; exact blt_lt hN.2) (fun a w C hs => ?_) (by rw [hd]; exact h)
  obtain ⟨ad, hux, hc⟩ := hs.cells (hs.ev x hN.1) hp
  obtain ⟨u, hu, _, hr⟩ := hc 0 av rfl
  refine ⟨u, ?_, hr⟩
  have hu' : w.cell? ad = some u := by simpa [Addr.add] using hu
  simp [execOp, ho, hux, Instr.loadAt, Instr.sureAddr, loadVar, run_isAgg hb, hu']

theorem aop_loadAgg {o : Oper} {t : TypeId} {x : Operand} {d s : Nat} {cells : List AV} {cells' : List AV} (ho : o.op = .load t x) (hd : o.dst = some d) (hN : (okOp E.N x && Nat.blt d E.N) = true)
    (hb : aggT P t = some true) (hsz : (P.info? t).map (·.size) = some s) (hp : ptC st.ob (evA st.env x) = some cells) (hl : s ≤ cells.length) (hc' : cells.take s = cells') (h : K ⟨upd st.env d (.agg cells'), st.ob⟩) : AOp P E o st K := by
  simp only [Bool.and_eq_true] at hN
  refine aop_value (.agg cells') (fun d' hd' => by rw [hd] at hd'; cases hd'; exact blt_lt hN.2) (fun a w C hs => ?_) (by rw [hd]; exact h)
  subst hc'
  obtain ⟨ad, hux, hc⟩ := hs.cells (hs.ev x hN.1) hp
  have hcell : ∀ j, j < s → w.cell? (ad.add j) = some ((w.cell? (ad.add j)).getD undef) := fun j hj => by
    obtain ⟨u, hu, _⟩ := hc j _ (List.getElem?_eq_getElem (by omega))
    rw [hu]; rfl
  have hrun := run_loadCells (P := P) w ad s (fun j => (w.cell? (ad.add j)).getD undef) hcell
  refine ⟨.agg ((List.range s).map fun j => (w.cell? (ad.add j)).getD undef).toArray, ?_, .agg _ _ ?_ fun j c hj => ?_⟩
  · simp [execOp, ho, hux, Instr.loadAt, Instr.sureAddr, loadVar, run_isAgg hb, run_sizeOf hsz, hrun]
  · simp; omega
  · have hj' : j < s := by
      have := (List.getElem?_eq_some_iff.1 hj).1
      simp at this; omega
    rw [List.getElem?_take, if_pos hj'] at hj
    obtain ⟨u, hu, _, hr⟩ := hc j c hj
    simpa [hj', hu] using hr

theorem aop_nilCheck {o : Oper} {x : Operand} {d : Nat} {av : AV} (ho : o.op = .nilCheck x) (hd : o.dst = some d) (hN : (okOp E.N x && Nat.blt d E.N) = true) (hx : evA st.env x = av) (hp : isPt av = true)
    (h : K ⟨upd st.env d av, st.ob⟩) : AOp P E o st K := by
  simp only [Bool.and_eq_true] at hN
  refine aop_value av (fun d' hd' => by rw [hd] at hd'; cases hd'; exact blt_lt hN.2) (fun a w C hs => ?_) (by rw [hd]; exact h)
  have h1 := hs.ev x hN.1
  rw [hx] at h1
  obtain ⟨ad, hux, _⟩ := R_ptAdd h1 hp 0
  rw [hux] at h1
  exact ⟨_, by simp [execOp, ho, hux], h1⟩

theorem aop_makeFunc {o : Oper} {f : FuncId} {caps : List Operand} {d : Nat} {cs : List AV} (ho : o.op = .makeFunc (.func f) #[] caps.toArray) (hd : o.dst = some d) (hN : (caps.all (okOp E.N) && Nat.blt d E.N) = true)
    (hx : caps.map (evA st.env) = cs) (h : K ⟨upd st.env d (.fn f cs), st.ob⟩) : AOp P E o st K := by
  simp only [Bool.and_eq_true] at hN
  refine aop_value (.fn f cs) (fun d' hd' => by rw [hd] at hd'; cases hd'; exact blt_lt hN.2) (fun a w C hs => ⟨.func (.func f) #[] (caps.toArray.map a.eval), ?_, .fn f cs _ ?_ fun j av hj => ?_⟩) (by rw [hd]; exact h)
  · simp [execOp, ho, Instr.makeFunc]
  · simp [← hx]
  · subst hx
    rw [List.getElem?_map, Option.map_eq_some_iff] at hj
    obtain ⟨x, hj, rfl⟩ := hj
    have := hs.ev x (List.all_eq_true.1 hN.1 x (List.mem_of_getElem? hj))
    simpa [hj] using this

/-- A pointer held against nil. -/
theorem aop_ptNil {o : Oper} {op : BinOp} {t t' e : TypeId} {x y : Operand} {d : Nat} {av : AV} {r : Bool} (ho : o.op = .binOp op t x y t') (hd : o.dst = some d) (hN : (okOp E.N x && okOp E.N y && Nat.blt d E.N) = true)
    (ht : P.underlying t = some (.pointer e)) (hx : evA st.env x = av) (hp : isPt av = true) (hy : evA st.env y = .v (.pointer none)) (hop : op = .eql ∧ r = false ∨ op = .neq ∧ r = true)
    (h : K ⟨upd st.env d (.v (.bool r)), st.ob⟩) : AOp P E o st K := by
  simp only [Bool.and_eq_true] at hN
  refine aop_value (.v (.bool r)) (fun d' hd' => by rw [hd] at hd'; cases hd'; exact blt_lt hN.2) (fun a w C hs => ⟨.bool r, ?_, .v _⟩) (by rw [hd]; exact h)
  have h1 := hs.ev x hN.1.1
  rw [hx] at h1
  have h2 := hs.ev y hN.1.2
  rw [hy] at h2
  obtain ⟨ad, hux, _⟩ := R_ptAdd h1 hp 0
  rcases hop with ⟨rfl, rfl⟩ | ⟨rfl, rfl⟩
  · simp only [execOp, ho, hux, h2.v_inv, eqGuard, binOp, equal_unfold, Sem.run_bind, equalIn_ptrNil ht, Result.andThen_ok]
    rfl
  · simp only [execOp, ho, hux, h2.v_inv, eqGuard, binOp, equal_unfold, Sem.run_bind, equalIn_ptrNil ht, Result.andThen_ok]
    rfl

theorem aop_nilNil {o : Oper} {op : BinOp} {t t' e : TypeId} {x y : Operand} {d : Nat} {r : Bool} (ho : o.op = .binOp op t x y t') (hd : o.dst = some d) (hN : (okOp E.N x && okOp E.N y && Nat.blt d E.N) = true)
    (ht : P.underlying t = some (.pointer e)) (hx : evA st.env x = .v (.pointer none)) (hy : evA st.env y = .v (.pointer none)) (hop : op = .eql ∧ r = true ∨ op = .neq ∧ r = false)
    (h : K ⟨upd st.env d (.v (.bool r)), st.ob⟩) : AOp P E o st K := by
  refine aop_bin ho hd hN hx hy (fun w => ?_) h
  rcases hop with ⟨rfl, rfl⟩ | ⟨rfl, rfl⟩
  · simp only [eqGuard, binOp, equal_unfold, Sem.run_bind, equalIn_nilNil ht, Result.andThen_ok]
    rfl
  · simp only [eqGuard, binOp, equal_unfold, Sem.run_bind, equalIn_nilNil ht, Result.andThen_ok]
    rfl

/-- A slice held against nil: either way, unless it has elements. -/
theorem aop_slNil {o : Oper} {op : BinOp} {t t' e : TypeId} {x y : Operand} {d : Nat} {n : Nat} {cells : List AV} (ho : o.op = .binOp op t x y t') (hd : o.dst = some d) (hN : (okOp E.N x && okOp E.N y && Nat.blt d E.N) = true)
    (ht : P.underlying t = some (.slice e)) (hx : evA st.env x = .ro n cells) (hy : evA st.env y = .v (.slice none 0 0)) (hop : op = .eql ∨ op = .neq)
    (h : ∀ b : Bool, (n ≠ 0 → b = (op != .eql)) → K ⟨upd st.env d (.v (.bool b)), st.ob⟩) : AOp P E o st K := by
  simp only [Bool.and_eq_true] at hN
  rintro a w q ⟨C, hs⟩
  have h1 := hs.ev x hN.1.1
  rw [hx] at h1
  have h2 := hs.ev y hN.1.2
  rw [hy] at h2
  generalize hux : a.eval x = ux at h1
  cases h1 with
  | ro _ c A _ us hc hm hz hcell hrel =>
    have hb : ∃ b : Bool, (execOp a.eval o).run P w = .ok (.value (.bool b)) w ∧ (n ≠ 0 → b = (op != .eql)) := by
      have hA : n ≠ 0 → A.isNone = false := fun hn => by
        cases A with
        | none => exact absurd (hz rfl).1 hn
        | some ad => rfl
      rcases hop with rfl | rfl
      · refine ⟨A.isNone, ?_, fun hn => by rw [hA hn]; rfl⟩
        simp only [execOp, ho, hux, h2.v_inv, eqGuard, binOp, equal_unfold, Sem.run_bind, equalIn_slNil ht, Result.andThen_ok]
        rfl
      · refine ⟨!A.isNone, ?_, fun hn => by rw [hA hn]; rfl⟩
        simp only [execOp, ho, hux, h2.v_inv, eqGuard, binOp, equal_unfold, Sem.run_bind, equalIn_slNil ht, Result.andThen_ok]
        rfl
    obtain ⟨b, hr, hb⟩ := hb
    exact aop_fin a w q C hs hr (.v _) hd (blt_lt hN.2) (h b hb)
end
end Go.Lo
