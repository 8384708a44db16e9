/- Results in memory, complex numbers, shifts, arrays in rows, cuts of rows that are only read, structs that are compared. -/
import Derived.Test.YthfmdljohlolpaaLoM
set_option linter.unusedVariables false
set_option linter.unusedSimpArgs false
namespace Go.Lo

/-! ### results that lie in memory -/
def RetC (P : Program) (E : Env0) (fn : Func) (post : AV → List LObj → Prop) (s : St) : Prop :=
  ∃ res, NoId res ∧ post res [] ∧ ∀ (a : Act) (w : World) (C : Ctx), SR E C s a w → ∃ u, (results fn a.tmps).run P w = .ok u w ∧ R w C res u
def retC (P : Program) (E : Env0) (fn : Func) (post : AV → List LObj → Prop) (e : Exit) (s : St) : Prop :=
  match e with
  | .normal | .ret => RetC P E fn post s
  | _ => False
theorem fnC_of_body {P : Program} {f : FuncId} {fn : Func} {c : Code} {N : Nat} {args : List AV} {post : AV → List LObj → Prop} (hf : P.funcs[f]? = some fn) (hb : fn.body = some c) (hN : fn.ntmps = N) (hargs : args.length ≤ N)
    (h : ∀ w0 X hL, AWP P ⟨w0, fun _ => False, X, N, 0, C0 X, hL, fun _ _ h => h⟩ c ⟨envOf args, fun _ => .free⟩ (retC P ⟨w0, fun _ => False, X, N, 0, C0 X, hL, fun _ _ h => h⟩ fn post)) : FnE P f args post := by
  intro w X vs hsz hX hL hrel
  refine calls_of_wp hf hb ?_
  have hs : SR ⟨w, fun _ => False, X, N, 0, C0 X, hL, fun _ _ h => h⟩ (C0 X) ⟨envOf args, fun _ => .free⟩ { tmps := vs ++ Array.replicate (fn.ntmps - vs.size) undef, defers := [] } w := by
    refine ⟨by simp; omega, rfl, fun t ht => ?_, ⟨(fun id o h => by cases h), (fun id o b h => by cases h), (fun i i' o1 o2 b h => by cases h), (fun id h => h.elim), hX⟩, Fr.refl _ _, (fun id o b h => by cases h), fun b h => h, fun b _ h => .inl h, fun i hi => absurd hi (Nat.not_lt_zero i), hX⟩
    show R w (C0 X) (envOf args t) _
    rw [envOf_get]
    by_cases hta : t < args.length
    · rw [List.getElem?_eq_getElem hta]
      have := hrel t _ (List.getElem?_eq_getElem hta)
      have e : (vs ++ Array.replicate (fn.ntmps - vs.size) undef).getD t undef = vs.getD t undef := by
        simp [Array.getElem?_append_left, show t < vs.size by omega]
      rw [e]
      exact this
    · rw [List.getElem?_eq_none (by omega)]
      exact .any _
  refine wp_mono (h w X hL _ w ⟨_, hs⟩) ?_
  rintro e a' w' ⟨s, ⟨C, hs'⟩, hq⟩
  have key : RetC P ⟨w, fun _ => False, X, N, 0, C0 X, hL, fun _ _ h => h⟩ fn post s → bodyPost P fn (FnPost w X post) .ret a' w' := by
    rintro ⟨res, hno, hpost, hrun⟩
    obtain ⟨u, hu, hR⟩ := hrun a' w' C hs'
    refine ⟨hs'.defers, _, hu, ?_⟩
    let C2 : Ctx := ⟨fun _ => none, fun _ => (0, 0), fun _ => 0, fun _ => False, C.own⟩
    have h2 := R.map (C := C) (C2 := C2) (σ := id) (p := fun _ => False) (ro := True) (fun _ h => h.elim) (fun _ b hb => hb) hR hno
    rw [map_noId hno] at h2
    refine ⟨u, C2, res, [], rfl, hpost, hs'.fr, h2, ⟨(fun i o h => by cases h), (fun i o b h hb => by cases h), (fun i i' o1 o2 b h1 h2 h3 h4 => by cases h1), (fun i hi => hi.elim), hs'.obj.bnd⟩, (fun i b hi hb => by cases hb), hs'.keep, fun b hb ho => ?_⟩
    rcases hs'.newown b hb ho with h | h
    · exact h
    · exact h.elim
  cases e with
  | normal => exact key hq
  | ret => exact key hq
  | _ => exact hq.elim
section
variable {P : Program} {E : Env0}
theorem cell_run {C : Ctx} {s : St} {a : Act} {w : World} (hs : SR E C s a w) {p t n : Nat} {av : AV} {cells cs : List AV} (hp : Nat.blt p E.N = true) (hb : aggT P t = some true) (hsz : (P.info? t).map (·.size) = some n) (hx : s.env p = av) (hc : ptC s.ob av = some cells) (hl : n ≤ cells.length) (hcs : cells.take n = cs) :
    ∃ ad u, a.tmps.getD p undef = .pointer (some ad) ∧ (loadVar t ad).run P w = .ok u w ∧ R w C (.agg cs) u := by
  subst hx
  subst hcs
  obtain ⟨ad, hux, hc⟩ := hs.cells (hs.env p (blt_lt hp)) hc
  have hcell : ∀ j, j < n → w.cell? (ad.add j) = some ((w.cell? (ad.add j)).getD undef) := fun j hj => by
    obtain ⟨u, hu, _⟩ := hc j _ (List.getElem?_eq_getElem (by omega))
    rw [hu]; rfl
  have hrun := run_loadCells (P := P) w ad n (fun j => (w.cell? (ad.add j)).getD undef) hcell
  refine ⟨ad, .agg ((List.range n).map fun j => (w.cell? (ad.add j)).getD undef).toArray, hux, ?_, .agg _ _ ?_ fun j c hj => ?_⟩
  · simp [loadVar, run_isAgg hb, run_sizeOf hsz, hrun]
  · simp; omega
  · have hj' : j < n := by
      have := (List.getElem?_eq_some_iff.1 hj).1
      simp at this; omega
    rw [List.getElem?_take, if_pos hj'] at hj
    obtain ⟨u, hu, _, hr⟩ := hc j c hj
    simpa [hj', hu] using hr
theorem fretC {fn : Func} {s : St} {p t n : Nat} {av : AV} {cells cs : List AV} {res : AV} (hres : fn.results = #[.cell p t]) (hp : Nat.blt p E.N = true) (hb : aggT P t = some true) (hsz : (P.info? t).map (·.size) = some n) (hx : s.env p = av) (hc : ptC s.ob av = some cells) (hl : n ≤ cells.length) (hcs : cells.take n = cs) (hav : AV.agg cs = res) [hno : NoI res] :
    RetC P E fn (fun r n => r = res ∧ n = []) s := by
  subst hav
  refine ⟨_, hno.out, ⟨rfl, rfl⟩, fun a w C hs => ?_⟩
  obtain ⟨ad, u, h1, h2, h3⟩ := cell_run (P := P) hs hp hb hsz hx hc hl hcs
  rw [Array.getD_eq_getD_getElem?] at h1
  exact ⟨u, by simp [results, hres, asAddr, h1, h2], h3⟩
theorem fretC2 {fn : Func} {s : St} {p t n q : Nat} {av a2 : AV} {cells cs : List AV} {res : AV} (hres : fn.results = #[.cell p t, .tmp q]) (hp : Nat.blt p E.N = true) (hb : aggT P t = some true) (hsz : (P.info? t).map (·.size) = some n) (hx : s.env p = av) (hc : ptC s.ob av = some cells) (hl : n ≤ cells.length) (hcs : cells.take n = cs)
    (hq : Nat.blt q E.N = true) (hx2 : s.env q = a2) (hav : AV.tup [.agg cs, a2] = res) [hno : NoI res] :
    RetC P E fn (fun r n => r = res ∧ n = []) s := by
  subst hav
  refine ⟨_, hno.out, ⟨rfl, rfl⟩, fun a w C hs => ?_⟩
  obtain ⟨ad, u, h1, h2, h3⟩ := cell_run (P := P) hs hp hb hsz hx hc hl hcs
  rw [Array.getD_eq_getD_getElem?] at h1
  have h4 := hs.env q (blt_lt hq)
  rw [hx2, Array.getD_eq_getD_getElem?] at h4
  refine ⟨.tuple #[u, (a.tmps[q]?).getD undef], by simp [results, hres, asAddr, h1, h2], .tup _ _ rfl fun j c hj => ?_⟩
  match j, hj with
  | 0, hj => simp at hj; subst hj; exact h3
  | 1, hj => simp at hj; subst hj; exact h4
  | j + 2, hj => simp at hj
end

/-! ### complex numbers -/
def fuI (n : Int) : Nat := FloatKind.f64.nearest n
def cxA (op : BinOp) (x y : Nat) : Option Nat := match op with
  | .add => FloatKind.f64.format.add x y
  | .sub => FloatKind.f64.format.sub x y
  | .mul => FloatKind.f64.format.mul x y
  | .quo => FloatKind.f64.format.div x y
  | _ => none
def cxGe (x y : Nat) : Bool := FloatKind.f64.format.order (Op.Complex.abs x) (Op.Complex.abs y) == some .gt || FloatKind.f64.format.order (Op.Complex.abs x) (Op.Complex.abs y) == some .eq
def cxE (op : BinOp) (x y : Nat × Nat) : Option (Nat × Nat) := match op with
  | .add | .sub => do
    let a ← cxA op x.1 y.1
    let b ← cxA op x.2 y.2
    pure (a, b)
  | .mul => do
    let ac ← cxA .mul x.1 y.1
    let bd ← cxA .mul x.2 y.2
    let e ← cxA .sub ac bd
    let ad ← cxA .mul x.1 y.2
    let bc ← cxA .mul x.2 y.1
    let f ← cxA .add ad bc
    pure (e, f)
  | .quo => do
    guard (cxGe y.1 y.2)
    let ratio ← cxA .quo y.2 y.1
    let m ← cxA .mul ratio y.2
    let denom ← cxA .add y.1 m
    let e1 ← cxA .mul x.2 ratio
    let e2 ← cxA .add x.1 e1
    let e ← cxA .quo e2 denom
    let f1 ← cxA .mul x.1 ratio
    let f2 ← cxA .sub x.2 f1
    let f ← cxA .quo f2 denom
    if Op.Complex.isNaN e then none else pure (e, f)
  | _ => none
def cx (op : BinOp) (x y : Nat × Nat) : Nat × Nat := (cxE op x y).getD (0, 0)
section
variable {P : Program}
theorem run_cxA {op : BinOp} {x y r : Nat} (h : cxA op x y = some r) (w : World) : (Op.Complex.arith op .f64 x y).run P w = .ok r w := by
  cases op <;> first | (simp only [cxA] at h; simp [Op.Complex.arith, Op.floatArith, h]; done) | (simp [cxA] at h; done)
theorem run_conv (x : Nat) (w : World) : (Op.Complex.conv .f64 x .f64).run P w = .ok x w := by simp [Op.Complex.conv]
theorem run_cmp (op : BinOp) (x y : Nat) (w : World) (b : Bool) (h : ∀ w, (Op.floatCmp op .f64 x y).run P w = .ok (.bool b) w) : (Op.Complex.cmp op .f64 x y).run P w = .ok b w := by simp [Op.Complex.cmp, h, asBool]
theorem run_cxAdd {op : BinOp} (hop : op = .add ∨ op = .sub) {x1 x2 y1 y2 a b : Nat} (h1 : cxA op x1 y1 = some a) (h2 : cxA op x2 y2 = some b) (w : World) : (Op.complexOp op .f64 x1 x2 y1 y2).run P w = .ok (.complex .f64 a b) w := by
  rcases hop with rfl | rfl <;> simp only [Op.complexOp, Sem.run_bind, run_cxA h1, run_cxA h2, Result.andThen_ok] <;> rfl
theorem run_cxMul {x1 x2 y1 y2 ac bd e ad bc f : Nat} (h1 : cxA .mul x1 y1 = some ac) (h2 : cxA .mul x2 y2 = some bd) (h3 : cxA .sub ac bd = some e) (h4 : cxA .mul x1 y2 = some ad) (h5 : cxA .mul x2 y1 = some bc) (h6 : cxA .add ad bc = some f) (w : World) :
    (Op.complexOp .mul .f64 x1 x2 y1 y2).run P w = .ok (.complex .f64 e f) w := by
  have hp : (Op.Complex.product x1 x2 y1 y2).run P w = .ok (e, f) w := by
    simp only [Op.Complex.product, Op.Complex.mul, Op.Complex.add, Op.Complex.sub, Sem.run_bind, run_cxA h1, run_cxA h2, run_cxA h3, run_cxA h4, run_cxA h5, run_cxA h6, Result.andThen_ok]
    rfl
  simp only [Op.complexOp, Sem.run_bind, run_conv, Result.andThen_ok, beq_self_eq_true, if_true, hp]
  rfl
theorem run_cxGe {x y : Nat} (h : cxGe x y = true) (w : World) : (Op.Complex.cmp .geq .f64 (Op.Complex.abs x) (Op.Complex.abs y)).run P w = .ok true w := run_cmp .geq _ _ w true fun w => by
  unfold cxGe at h
  simp only [Op.floatCmp, h]
  rfl
theorem run_cxZe (z : Nat) (w : World) : (Op.Complex.cmp .eql .f64 z 0).run P w = .ok (FloatKind.f64.format.order z 0 == some .eq) w := run_cmp .eql _ _ w _ fun w => rfl
theorem run_cxQuo {a b c d ra m de e1 e2 e f1 f2 f : Nat} (h0 : cxGe c d = true) (h1 : cxA .quo d c = some ra) (h2 : cxA .mul ra d = some m) (h3 : cxA .add c m = some de) (h4 : cxA .mul b ra = some e1) (h5 : cxA .add a e1 = some e2) (h6 : cxA .quo e2 de = some e) (h7 : cxA .mul a ra = some f1) (h8 : cxA .sub b f1 = some f2) (h9 : cxA .quo f2 de = some f) (h10 : Op.Complex.isNaN e = false) (w : World) :
    (Op.complexOp .quo .f64 a b c d).run P w = .ok (.complex .f64 e f) w := by
  have hp : (Op.Complex.quotient a b c d).run P w = .ok (e, f) w := by
    unfold Op.Complex.quotient
    simp only [Op.Complex.mul, Op.Complex.add, Op.Complex.sub, Op.Complex.quo, Sem.run_bind, run_cxGe h0, run_cxA h1, run_cxA h2, run_cxA h3, run_cxA h4, run_cxA h5, run_cxA h6, run_cxA h7, run_cxA h8, run_cxA h9, Result.andThen_ok, run_cxZe, h10, Bool.false_and, Bool.not_false, if_true, Sem.run_pure]
    try (split <;> simp only [Sem.run_bind, Sem.run_pure, Result.andThen_ok, run_cxZe, h10, Bool.false_and, Bool.not_false, if_true])
  simp only [Op.complexOp, Sem.run_bind, run_conv, Result.andThen_ok, if_neg (show ¬ ((BinOp.quo == BinOp.mul) = true) from by decide), hp]
  rfl
theorem run_cx {op : BinOp} {x y r : Nat × Nat} (h : cxE op x y = some r) (w : World) : (Op.complexOp op .f64 x.1 x.2 y.1 y.2).run P w = .ok (.complex .f64 r.1 r.2) w := by
  cases op <;> first | (simp [cxE] at h; done) | simp only [cxE] at h
  · obtain ⟨a, h1, h⟩ := Option.bind_eq_some_iff.1 h
    obtain ⟨b, h2, h⟩ := Option.bind_eq_some_iff.1 h
    obtain rfl := Option.some.inj h
    exact run_cxAdd (.inl rfl) h1 h2 w
  · obtain ⟨a, h1, h⟩ := Option.bind_eq_some_iff.1 h
    obtain ⟨b, h2, h⟩ := Option.bind_eq_some_iff.1 h
    obtain rfl := Option.some.inj h
    exact run_cxAdd (.inr rfl) h1 h2 w
  · obtain ⟨ac, h1, h⟩ := Option.bind_eq_some_iff.1 h
    obtain ⟨bd, h2, h⟩ := Option.bind_eq_some_iff.1 h
    obtain ⟨e, h3, h⟩ := Option.bind_eq_some_iff.1 h
    obtain ⟨ad, h4, h⟩ := Option.bind_eq_some_iff.1 h
    obtain ⟨bc, h5, h⟩ := Option.bind_eq_some_iff.1 h
    obtain ⟨f, h6, h⟩ := Option.bind_eq_some_iff.1 h
    obtain rfl := Option.some.inj h
    exact run_cxMul h1 h2 h3 h4 h5 h6 w
  · cases hg : cxGe y.1 y.2 with
    | false => rw [hg] at h; cases h
    | true =>
      rw [hg] at h
      obtain ⟨_, h0, h⟩ := Option.bind_eq_some_iff.1 h
      obtain ⟨ra, h1, h⟩ := Option.bind_eq_some_iff.1 h
      obtain ⟨m, h2, h⟩ := Option.bind_eq_some_iff.1 h
      obtain ⟨de, h3, h⟩ := Option.bind_eq_some_iff.1 h
      obtain ⟨e1, h4, h⟩ := Option.bind_eq_some_iff.1 h
      obtain ⟨e2, h5, h⟩ := Option.bind_eq_some_iff.1 h
      obtain ⟨e, h6, h⟩ := Option.bind_eq_some_iff.1 h
      obtain ⟨f1, h7, h⟩ := Option.bind_eq_some_iff.1 h
      obtain ⟨f2, h8, h⟩ := Option.bind_eq_some_iff.1 h
      obtain ⟨f, h9, h⟩ := Option.bind_eq_some_iff.1 h
      cases hn : Op.Complex.isNaN e with
      | true => rw [hn] at h; cases h
      | false =>
        rw [hn] at h
        obtain rfl := Option.some.inj h
        exact run_cxQuo hg h1 h2 h3 h4 h5 h6 h7 h8 h9 hn w
theorem run_complex (ty : Array TypeId) (t : TypeId) (a b : Nat) (w : World) : (Builtin.complex_ ty t #[.float .f64 a, .float .f64 b]).run P w = .ok (.complex .f64 a b) w := rfl
end
section
variable {P : Program} {E : Env0} {st : St} {K : St → Prop}
theorem aop_cx {o : Oper} {op : BinOp} {t t' : TypeId} {x y : Operand} {d : Nat} (X Y : Nat × Nat) (ho : o.op = .binOp op t x y t') (hd : o.dst = some d) (hN : (okOp E.N x && okOp E.N y && Nat.blt d E.N) = true)
    (hx : evA st.env x = .v (.complex .f64 X.1 X.2)) (hy : evA st.env y = .v (.complex .f64 Y.1 Y.2)) (hop : op = .add ∨ op = .sub ∨ op = .mul ∨ op = .quo) (hs : (cxE op X Y).isSome = true)
    (h : K ⟨upd st.env d (.v (.complex .f64 (cx op X Y).1 (cx op X Y).2)), st.ob⟩) : AOp P E o st K := by
  obtain ⟨r, hr⟩ := Option.isSome_iff_exists.1 hs
  have hc : cx op X Y = r := by simp [cx, hr]
  rw [hc] at h
  refine aop_bin ho hd hN hx hy (fun w => ?_) h
  have := run_cx (P := P) hr w
  rcases hop with rfl | rfl | rfl | rfl <;> simpa [eqGuard, binOp] using this
theorem aop_toFloat {o : Oper} {s t : TypeId} {x : Operand} {d : Nat} {k : IntKind} {n : Int} (ho : o.op = .convert s t x) (hd : o.dst = some d) (hN : (okOp E.N x && Nat.blt d E.N) = true)
    (hs0 : P.underlying s = some (.int k)) (ht : P.underlying t = some (.float .f64)) (hx : evA st.env x = .v (.int k n)) (h : K ⟨upd st.env d (.v (.float .f64 (fuI n))), st.ob⟩) : AOp P E o st K := by
  simp only [Bool.and_eq_true] at hN
  refine aop_value (.v (.float .f64 (fuI n))) (fun d' hd' => by rw [hd] at hd'; cases hd'; exact blt_lt hN.2) (fun a w C hs => ⟨.float .f64 (fuI n), ?_, .v _⟩) (by rw [hd]; exact h)
  have h1 := hs.ev x hN.1
  rw [hx] at h1
  simp [execOp, ho, h1.v_inv, convert, run_underlying hs0, run_underlying ht, Conv.intToFloat, fuI]
theorem aop_complex {o : Oper} {c : Call} {ty : Array TypeId} {x y : Operand} {d a b : Nat} (ho : o.op = .call c) (hc : c = { callee := .builtin .complex, args := #[x, y], argTypes := ty }) (hd : o.dst = some d)
    (hN : (okOp E.N x && okOp E.N y && Nat.blt d E.N) = true) (hx : evA st.env x = .v (.float .f64 a)) (hy : evA st.env y = .v (.float .f64 b)) (h : K ⟨upd st.env d (.v (.complex .f64 a b)), st.ob⟩) : AOp P E o st K := by
  subst hc
  simp only [Bool.and_eq_true] at hN
  refine aop_value (.v (.complex .f64 a b)) (fun d' hd' => by rw [hd] at hd'; cases hd'; exact blt_lt hN.2) (fun a' w C hs => ⟨_, ?_, .v _⟩) (by rw [hd]; exact h)
  have h1 := hs.ev x hN.1.1
  have h2 := hs.ev y hN.1.2
  rw [hx] at h1
  rw [hy] at h2
  simp [execOp, ho, resolve, invoke, builtin, run_complex, h1.v_inv, h2.v_inv]
theorem aop_complexOne {o : Oper} {c : Call} {ty : Array TypeId} {x y : Operand} {d a b : Nat} (ho : o.op = .call c) (hc : c = { callee := .builtin .complex, args := #[x, y], argTypes := ty }) (hd : o.dst = some d)
    (hN : (okOp E.N x && okOp E.N y && Nat.blt d E.N) = true) (hx : evA st.env x = .v (.float .f64 a)) (hy : evA st.env y = .v (.float .f64 b)) (h : K ⟨upd st.env d .one, st.ob⟩) : AOp P E o st K := by
  subst hc
  simp only [Bool.and_eq_true] at hN
  refine aop_value .one (fun d' hd' => by rw [hd] at hd'; cases hd'; exact blt_lt hN.2) (fun a' w C hs => ⟨.complex .f64 a b, ?_, .one _ rfl⟩) (by rw [hd]; exact h)
  have h1 := hs.ev x hN.1.1
  have h2 := hs.ev y hN.1.2
  rw [hx] at h1
  rw [hy] at h2
  simp [execOp, ho, resolve, invoke, builtin, run_complex, h1.v_inv, h2.v_inv]

/-! ### shifts, arrays in rows, cuts -/
theorem aop_shr {o : Oper} {t t' : TypeId} {x y : Operand} {d : Nat} {k k' : IntKind} {a : Int} {n : Nat} (ho : o.op = .binOp .shr t x y t') (hd : o.dst = some d) (hN : (okOp E.N x && okOp E.N y && Nat.blt d E.N) = true)
    (hx : evA st.env x = .v (.int k a)) (hy : evA st.env y = .v (.int k' (n : Int))) (hn : n ≤ k.bits) (h : K ⟨upd st.env d (.v (.int k (a.fdiv (2 ^ n)))), st.ob⟩) : AOp P E o st K :=
  aop_bin ho hd hN hx hy (fun w => by
    have h1 : ¬ ((n : Int) < 0) := by omega
    simp [eqGuard, binOp, Op.shift, h1, Nat.min_eq_left hn]) h
theorem aop_ixArr {o : Oper} {t e : TypeId} {x ix : Operand} {d n sz : Nat} {k : IntKind} {i : Nat} {cells : List AV} (ho : o.op = .indexAddr t x ix) (hd : o.dst = some d) (hN : (okOp E.N x && okOp E.N ix && Nat.blt d E.N) = true)
    (ht : P.underlying t = some (.array n e)) (hsz : (P.info? e).map (·.size) = some sz) (hx : evA st.env x = .rp cells) (hi : evA st.env ix = .v (.int k (i : Int))) (h1 : i < n)
    (h : K ⟨upd st.env d (.rp (cells.drop (i * sz))), st.ob⟩) : AOp P E o st K := by
  simp only [Bool.and_eq_true] at hN
  refine aop_value _ (fun d' hd' => by rw [hd] at hd'; cases hd'; exact blt_lt hN.2) (fun a w C hs => ?_) (by rw [hd]; exact h)
  have hx1 := hs.ev x hN.1.1
  rw [hx] at hx1
  have hi1 := hs.ev ix hN.1.2
  rw [hi] at hi1
  have hi2 := hi1.v_inv
  generalize hux : a.eval x = ux at hx1
  have h0 : (0 : Int) ≤ (i : Int) := by omega
  have h1' : (i : Int) < (n : Int) := by omega
  cases hx1 with
  | rp ad cells us hcell hrel =>
    refine ⟨.pointer (some (ad.add (i * sz))), ?_, .rp _ _ (fun j => us (i * sz + j)) (fun j hj => ?_) (fun j av hj => ?_)⟩
    · simp [execOp, ho, hux, hi2, Instr.indexAt, Instr.sureAddr, asIntOf, run_underlying ht, h1, run_sizeOf hsz]
    · simp only [List.length_drop] at hj
      obtain ⟨h2, h3, h4⟩ := hcell (i * sz + j) (by omega)
      exact ⟨by rw [add_block]; exact h2, by rw [add_add]; exact h3, h4⟩
    · rw [List.getElem?_drop] at hj
      exact hrel _ _ hj
end
end Go.Lo
