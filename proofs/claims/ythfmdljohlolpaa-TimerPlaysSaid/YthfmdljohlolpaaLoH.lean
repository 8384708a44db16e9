/- Lists in memory, and what makes the proofs short, in the logic of values. -/
import Derived.Test.YthfmdljohlolpaaLoG
set_option linter.unusedVariables false
set_option linter.unusedSimpArgs false
namespace Go.Lo

/-! ### lists -/
def enc {α : Type} (f : α → List AV) (l : List α) : List AV := l.flatMap f
theorem enc_nil {α : Type} (f : α → List AV) : enc f [] = [] := rfl
theorem enc_append {α : Type} (f : α → List AV) (l m : List α) : enc f (l ++ m) = enc f l ++ enc f m := by simp [enc]
theorem enc_snoc {α : Type} (f : α → List AV) (l : List α) (x : α) : enc f (l ++ [x]) = enc f l ++ f x := by simp [enc]
theorem enc_cons {α : Type} (f : α → List AV) (l : List α) (x : α) : enc f (x :: l) = f x ++ enc f l := by simp [enc]
theorem enc_length {α : Type} {f : α → List AV} {s : Nat} (hf : ∀ x, (f x).length = s) (l : List α) : (enc f l).length = l.length * s := by
  induction l with
  | nil => simp [enc]
  | cons a l ih => rw [enc_cons, List.length_append, hf, ih, List.length_cons, Nat.add_mul]; omega
theorem enc_drop {α : Type} {f : α → List AV} {s : Nat} (hf : ∀ x, (f x).length = s) (d : α) : ∀ (l : List α) (i : Nat), i < l.length → (enc f l).drop (i * s) = f (l.getD i d) ++ (enc f l).drop ((i + 1) * s) := by
  intro l
  induction l with
  | nil => intro i h; simp at h
  | cons a l ih =>
    intro i h
    rw [enc_cons]
    cases i with
    | zero =>
      simp only [Nat.zero_mul, List.drop_zero, List.getD_cons_zero, Nat.zero_add, Nat.one_mul]
      rw [List.drop_append_of_le_length (by rw [hf]; exact Nat.le_refl _), List.drop_of_length_le (by rw [hf]; exact Nat.le_refl _), List.nil_append]
    | succ i =>
      have e1 : (f a ++ enc f l).drop ((i + 1) * s) = (enc f l).drop (i * s) := by
        rw [List.drop_append, hf, List.drop_of_length_le (by rw [hf, Nat.add_mul]; omega), List.nil_append]
        congr 1
        rw [Nat.add_mul]; omega
      have e2 : (f a ++ enc f l).drop ((i + 1 + 1) * s) = (enc f l).drop ((i + 1) * s) := by
        rw [List.drop_append, hf, List.drop_of_length_le (by rw [hf, Nat.add_mul]; omega), List.nil_append]
        congr 1
        rw [Nat.add_mul (i + 1)]; omega
      rw [e1, e2, List.getD_cons_succ]
      exact ih i (by simpa using h)
theorem enc_take {α : Type} {f : α → List AV} {s : Nat} (hf : ∀ x, (f x).length = s) (l : List α) (i : Nat) : (enc f l).take (i * s) = enc f (l.take i) := by
  induction l generalizing i with
  | nil => simp [enc]
  | cons a l ih =>
    cases i with
    | zero => simp [enc]
    | succ i =>
      rw [enc_cons, List.take_succ_cons, enc_cons, List.take_append, hf, List.take_of_length_le (by rw [hf, Nat.add_mul]; omega)]
      rw [show (i + 1) * s - s = i * s by rw [Nat.add_mul]; omega, ih]
theorem enc_drop' {α : Type} {f : α → List AV} {s : Nat} (hf : ∀ x, (f x).length = s) (l : List α) (i : Nat) : (enc f l).drop (i * s) = enc f (l.drop i) := by
  induction l generalizing i with
  | nil => simp [enc]
  | cons a l ih =>
    cases i with
    | zero => simp
    | succ i =>
      rw [enc_cons, List.drop_succ_cons, List.drop_append, hf, List.drop_of_length_le (by rw [hf, Nat.add_mul]; omega), List.nil_append]
      rw [show (i + 1) * s - s = i * s by rw [Nat.add_mul]; omega, ih]

/-! ### nothing of anybody's own: by instances -/
class NoI (av : AV) : Prop where out : NoId av
class NoIL (l : List AV) : Prop where out : NoIds l
instance : NoI .any := ⟨.any⟩
instance : NoI .one := ⟨.one⟩
instance (x : Value) : NoI (.v x) := ⟨.v x⟩
instance (n : Nat) (cells : List AV) [h : NoIL cells] : NoI (.ro n cells) := ⟨.ro n cells trivial h.out⟩
instance (cells : List AV) [h : NoIL cells] : NoI (.rp cells) := ⟨.rp cells trivial h.out⟩
instance (cells : List AV) [h : NoIL cells] : NoI (.agg cells) := ⟨.agg cells h.out⟩
instance (cells : List AV) [h : NoIL cells] : NoI (.tup cells) := ⟨.tup cells h.out⟩
instance (f : FuncId) (cells : List AV) [h : NoIL cells] : NoI (.fn f cells) := ⟨.fn f cells h.out⟩
instance : NoIL [] := ⟨oks_nil⟩
instance (a : AV) (l : List AV) [h : NoI a] [k : NoIL l] : NoIL (a :: l) := ⟨oks_cons h.out k.out⟩
instance (a l : List AV) [h : NoIL a] [k : NoIL l] : NoIL (a ++ l) := ⟨oks_append h.out k.out⟩
instance (a : List AV) (n : Nat) [h : NoIL a] : NoIL (a.drop n) := ⟨fun c hc => h.out c (List.mem_of_mem_drop hc)⟩
instance (a : List AV) (n : Nat) [h : NoIL a] : NoIL (a.take n) := ⟨fun c hc => h.out c (List.mem_of_mem_take hc)⟩
instance (a : List AV) (n : Nat) (x : AV) [h : NoIL a] [k : NoI x] : NoIL (a.set n x) := ⟨fun c hc => by
  rcases List.mem_or_eq_of_mem_set hc with h1 | h1
  · exact h.out c h1
  · rw [h1]; exact k.out⟩
instance (n : Nat) (x : AV) [k : NoI x] : NoIL (List.replicate n x) := ⟨fun c hc => by rw [List.eq_of_mem_replicate hc]; exact k.out⟩
instance {α : Type} (f : α → List AV) (l : List α) [h : ∀ x, NoIL (f x)] : NoIL (enc f l) := ⟨fun c hc => by
  obtain ⟨x, _, hx⟩ := List.mem_flatMap.1 hc
  exact (h x).out c hx⟩
/-- No pointer, no slice: what a call that was lent something may hand back. -/
class Flat (av : AV) : Prop where out : Ok (fun _ => False) False av
instance : Flat .any := ⟨.any⟩
instance : Flat .one := ⟨.one⟩
instance (x : Value) : Flat (.v x) := ⟨.v x⟩
class FlatL (l : List AV) : Prop where out : ∀ c, c ∈ l → Ok (fun _ => False) False c
instance : FlatL [] := ⟨oks_nil⟩
instance (a : AV) (l : List AV) [h : Flat a] [k : FlatL l] : FlatL (a :: l) := ⟨oks_cons h.out k.out⟩
instance (a l : List AV) [h : FlatL a] [k : FlatL l] : FlatL (a ++ l) := ⟨oks_append h.out k.out⟩
instance (cells : List AV) [h : FlatL cells] : Flat (.agg cells) := ⟨.agg cells h.out⟩
instance (cells : List AV) [h : FlatL cells] : Flat (.tup cells) := ⟨.tup cells h.out⟩
instance {α : Type} (f : α → List AV) (l : List α) [h : ∀ x, FlatL (f x)] : FlatL (enc f l) := ⟨fun c hc => by
  obtain ⟨x, _, hx⟩ := List.mem_flatMap.1 hc
  exact (h x).out c hx⟩

section
variable {P : Program} {E : Env0} {st : St} {K : St → Prop}

/-! ### elements of lists -/
theorem aop_ixE {o : Oper} {t e : TypeId} {x ix : Operand} {d n sz k : Nat} {kk : IntKind} {α : Type} {f : α → List AV} {l : List α} (df : α) (ho : o.op = .indexAddr t x ix) (hd : o.dst = some d) (hN : (okOp E.N x && okOp E.N ix && Nat.blt d E.N) = true)
    (ht : P.underlying t = some (.slice e)) (hsz : (P.info? e).map (·.size) = some sz) (hx : evA st.env x = .ro n (enc f l)) (hi : evA st.env ix = .v (.int kk (k : Int))) (hf : ∀ x, (f x).length = sz) (hn : n = l.length) (h1 : k < l.length)
    (h : K ⟨upd st.env d (.rp (f (l.getD k df) ++ (enc f l).drop ((k + 1) * sz))), st.ob⟩) : AOp P E o st K := by
  subst hn
  refine aop_indexAddr ho hd hN ht hsz hx rfl hi (by omega) (by omega) ?_ h
  simp only [ixA, Int.toNat_natCast]
  rw [enc_drop hf df l k h1]
theorem aop_ixI {o : Oper} {t e : TypeId} {x ix : Operand} {d n sz : Nat} {i : Int} {kk : IntKind} {α : Type} {f : α → List AV} {l : List α} (df : α) (ho : o.op = .indexAddr t x ix) (hd : o.dst = some d) (hN : (okOp E.N x && okOp E.N ix && Nat.blt d E.N) = true)
    (ht : P.underlying t = some (.slice e)) (hsz : (P.info? e).map (·.size) = some sz) (hx : evA st.env x = .ro n (enc f l)) (hi : evA st.env ix = .v (.int kk i)) (hf : ∀ x, (f x).length = sz) (hn : n = l.length) (h0 : 0 ≤ i) (h1 : i < l.length)
    (h : K ⟨upd st.env d (.rp (f (l.getD i.toNat df) ++ (enc f l).drop ((i.toNat + 1) * sz))), st.ob⟩) : AOp P E o st K := by
  subst hn
  refine aop_indexAddr ho hd hN ht hsz hx rfl hi h0 h1 ?_ h
  simp only [ixA]
  rw [enc_drop hf df l i.toNat (by omega)]

/-! ### tests -/
theorem and_t {a b : Bool} (h : (a && b) = true) : a = true ∧ b = true := by cases a <;> cases b <;> simp_all
theorem or_f {a b : Bool} (h : (a || b) = false) : a = false ∧ b = false := by cases a <;> cases b <;> simp_all
theorem not_t {a : Bool} (h : (!a) = true) : a = false := by cases a <;> simp_all
theorem not_f {a : Bool} (h : (!a) = false) : a = true := by cases a <;> simp_all

/-! ### whole numbers -/
theorem addI {a b : Int} (h : -9223372036854775808 ≤ a + b ∧ a + b ≤ 9223372036854775807) : binI .i64 .add a b = .int .i64 (a + b) := by
  simp only [binI]; rw [IntWalk.i64_in _ h]
theorem addN {k : Nat} (h : k + 1 ≤ 9223372036854775807) : binI .i64 .add (k : Int) 1 = .int .i64 ((k + 1 : Nat) : Int) := by
  simp only [binI]; rw [IntWalk.i64_in _ (by omega)]; rfl
theorem subI {a b : Int} (h : -9223372036854775808 ≤ a - b ∧ a - b ≤ 9223372036854775807) : binI .i64 .sub a b = .int .i64 (a - b) := by
  simp only [binI]; rw [IntWalk.i64_in _ h]
theorem mulI {a b : Int} (h : -9223372036854775808 ≤ a * b ∧ a * b ≤ 9223372036854775807) : binI .i64 .mul a b = .int .i64 (a * b) := by
  simp only [binI]; rw [IntWalk.i64_in _ h]
theorem remI {k : IntKind} {a b : Int} (h : 0 ≤ a) : binI k .rem a b = .int k (a % b) := by
  simp only [binI]; rw [Int.tmod_eq_emod_of_nonneg h]
theorem quoI {a b : Int} (h : 0 ≤ a ∧ a ≤ 9223372036854775807 ∧ 1 ≤ b) : binI .i64 .quo a b = .int .i64 (a / b) := by
  simp only [binI]; rw [IntWalk.i64_quo _ _ h]

theorem aop_conv' {o : Oper} {s t : TypeId} {x : Operand} {d : Nat} {k k' : IntKind} {n n' : Int} (ho : o.op = .convert s t x) (hd : o.dst = some d) (hN : (okOp E.N x && Nat.blt d E.N) = true)
    (hs0 : P.underlying s = some (.int k')) (ht : P.underlying t = some (.int k)) (hx : evA st.env x = .v (.int k' n)) (hw : k.wrap n = n') (h : K ⟨upd st.env d (.v (.int k n')), st.ob⟩) : AOp P E o st K := by
  subst hw
  exact aop_convI ho hd hN hs0 ht hx h

theorem aop_pick {o : Oper} {c x y : Operand} {d : Nat} {b : Bool} {av : AV} (ho : o.op = .pick c x y) (hd : o.dst = some d) (hN : (okOp E.N c && okOp E.N x && okOp E.N y && Nat.blt d E.N) = true)
    (hc : evA st.env c = .v (.bool b)) (hr : cond b (evA st.env x) (evA st.env y) = av) (h : K ⟨upd st.env d av, st.ob⟩) : AOp P E o st K := by
  simp only [Bool.and_eq_true] at hN
  refine aop_value av (fun d' hd' => by rw [hd] at hd'; cases hd'; exact blt_lt hN.2) (fun a w C hs => ?_) (by rw [hd]; exact h)
  have h1 := hs.ev c hN.1.1.1
  rw [hc] at h1
  subst hr
  cases b with
  | true => exact ⟨a.eval x, by simp [execOp, ho, h1.v_inv, asBool], hs.ev x hN.1.1.2⟩
  | false => exact ⟨a.eval y, by simp [execOp, ho, h1.v_inv, asBool], hs.ev y hN.1.2⟩

theorem aop_ld {o : Oper} {t : TypeId} {x : Operand} {d : Nat} {p av : AV} {rest : List AV} (ho : o.op = .load t x) (hd : o.dst = some d) (hN : (okOp E.N x && Nat.blt d E.N) = true)
    (hb : aggT P t = some false) (hx : evA st.env x = p) (hp : ptC st.ob p = some (av :: rest)) (h : K ⟨upd st.env d av, st.ob⟩) : AOp P E o st K := aop_load ho hd hN hb (by rw [hx]; exact hp) h
theorem aop_ldA {o : Oper} {t : TypeId} {x : Operand} {d s : Nat} {p : AV} {cells cells' : List AV} (ho : o.op = .load t x) (hd : o.dst = some d) (hN : (okOp E.N x && Nat.blt d E.N) = true)
    (hb : aggT P t = some true) (hsz : (P.info? t).map (·.size) = some s) (hx : evA st.env x = p) (hp : ptC st.ob p = some cells) (hl : s ≤ cells.length) (hc' : cells.take s = cells') (h : K ⟨upd st.env d (.agg cells'), st.ob⟩) : AOp P E o st K :=
  aop_loadAgg ho hd hN hb hsz (by rw [hx]; exact hp) hl hc' h

/-! ### calls -/
theorem call_ {o : Oper} {c : Call} {cal : Operand} {args : List Operand} {tys : Array TypeId} {f d : Nat} {caps avs : List AV} {res : AV} (hF : Fn P f avs res)
    (ho : o.op = .call c) (hc : c = { callee := .value cal, args := args.toArray, argTypes := tys }) (hd : o.dst = some d) (hN : (okOp E.N cal && args.all (okOp E.N) && Nat.blt d E.N) = true)
    (hcal : evA st.env cal = .fn f caps) (hb : bodied P f = true) (ha : args.map (evA st.env) ++ caps = avs) [hno : NoIL avs] [hres : NoI res]
    (h : K ⟨upd st.env d res, st.ob⟩) : AOp P E o st K := aop_call ho hc hd hN hcal hb ha hno.out hF hres.out h
theorem callL_ {o : Oper} {c : Call} {cal : Operand} {args : List Operand} {tys : Array TypeId} {f d : Nat} {caps avs : List AV} {res : AV} (hF : Fn P f avs res)
    (ho : o.op = .call c) (hc : c = { callee := .value cal, args := args.toArray, argTypes := tys }) (hd : o.dst = some d) (hN : (okOp E.N cal && args.all (okOp E.N) && Nat.blt d E.N) = true)
    (hcal : evA st.env cal = .fn f caps) (hb : bodied P f = true) (hl : Lends st.ob (args.map (evA st.env) ++ caps) avs) [hres : Flat res]
    (h : K ⟨upd st.env d res, st.ob⟩) : AOp P E o st K := aop_callL ho hc hd hN hcal hb hl hF hres.out h
theorem lend_n {ob : Nat → OSt} {av : AV} [h : NoI av] : Lend ob av av := .same av h.out
theorem lend_s {ob : Nat → OSt} {id n : Nat} {o : LObj} (hl : ob id = .live o) (hlen : o.cells.length = n * o.esz) [h : NoIL o.cells] : Lend ob (.sl id 0 n) (.ro n o.cells) := lend_sl hl hlen h.out
theorem lends_n {ob : Nat → OSt} {l : List AV} [h : NoIL l] : Lends ob l l := lends_same h.out

/-! ### cuts in the code -/
theorem cutK {c y : Code} {Q : Exit → St → Prop} (mid : St) (h1 : AWP P E c st (thenQ (fun s => Imp E s mid) Q)) (h2 : AWP P E y mid Q) : AWP P E c st (thenQ (fun s => AWP P E y s Q) Q) := by
  refine h1.mono fun e s h => ?_
  cases e with
  | normal => exact h2.imp h
  | _ => exact h

/-! ### ends -/
theorem fret {ts : List Nat} {N : Nat} {s : St} {av res : AV} (hN : (ts.all fun t => Nat.blt t N) = true) (hr : mkA (ts.map s.env) = av) (hav : av = res) [hno : NoI res] : RetOk ts (fun r n => r = res ∧ n = []) N s :=
  ret0 hN (hr.trans hav) hno.out ⟨rfl, rfl⟩
theorem fretO {t N n : Nat} {s : St} {m : Nat} {o o' : LObj} (id : Nat) (hN : Nat.blt t N = true) (hr : s.env t = .sl id 0 n) (hl : s.ob id = .live o) (hn : n = m) (ho : o = o') [hno : NoIL o.cells] : RetOk [t] (fun r ns => r = .sl 0 0 m ∧ ns = [o']) N s := by
  subst hn
  subst ho
  exact ret1 id o (by simpa using hN) (by simp [mkA, hr, AV.map, ix]) (by simp only [List.map_cons, List.map_nil, mkA, hr]; exact .sl _ _ _ (by simp)) hl hno.out ⟨rfl, rfl⟩
end
end Go.Lo
