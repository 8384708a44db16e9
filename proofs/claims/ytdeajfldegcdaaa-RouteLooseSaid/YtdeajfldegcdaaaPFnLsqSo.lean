/- Part of the logic of values: what the law reaches. -/
import Derived.Test.YtdeajfldegcdaaaPFnLsqLoX
set_option linter.unusedVariables false
namespace Go.Lo
abbrev vN : AV := .v (.slice none 0 0)
theorem oo {p : Prop} (h : p := by first | omega | (simp; done) | decide | (simp at *; omega)) : p := h
theorem om {p : Prop} (h : p := by omega) : p := h
theorem lend_y {ob : Nat → OSt} {a c : AV} [h : NoI c] (e : a = c) : Lend ob a c := by subst e; exact .same a h.out
theorem oz {p : Prop} (h : p := by first | (simp; done) | (simp; omega)) : p := h
section
variable {P : Program} {E : Env0} {st : St} {K : St → Prop} {ops : Array Oper} {o : Oper} {r : List Oper} {d : Nat}
theorem oG {K : St → Prop} (h : AOp P E o st fun s => AOps P E ops r s K) (hg : o.guard = none := by rfl) : AOps P E ops (o :: r) st K := opG hg h
theorem qM {x : Operand} (av : AV) (h : K ⟨upd st.env d av, st.ob⟩) (ho : o.op = .move x ∨ o.op = .assign x := by first | exact .inl rfl | exact .inr rfl) (hd : o.dst = some d := by rfl) (hN : (okOp E.N x && Nat.blt d E.N) = true := by rfl) (hx : evA st.env x = av := by rfl) : AOp P E o st K := aop_move ho hd hN hx h
theorem qL {t : TypeId} {x : Operand} {p : AV} {rest : List AV} (av : AV) (hb : aggT P t = some false) (h : K ⟨upd st.env d av, st.ob⟩) (ho : o.op = .load t x := by rfl) (hd : o.dst = some d := by rfl) (hN : (okOp E.N x && Nat.blt d E.N) = true := by rfl) (hx : evA st.env x = p := by rfl) (hp : ptC st.ob p = some (av :: rest) := by rfl) : AOp P E o st K := aop_ld ho hd hN hb hx hp h
theorem qLB {t : TypeId} {x : Operand} {s : Nat} {p : AV} {cells : List AV} (cells' : List AV) (hb : aggT P t = some true) (hsz : (P.info? t).map (·.size) = some s) (h : K ⟨upd st.env d (.agg cells'), st.ob⟩) (ho : o.op = .load t x := by rfl) (hd : o.dst = some d := by rfl) (hN : (okOp E.N x && Nat.blt d E.N) = true := by rfl)
  (hx : evA st.env x = p := by rfl) (hp : ptC st.ob p = some cells := by rfl) (hc' : cells.take s = cells' := by rfl) (hl : cells'.length = s := by rfl) : AOp P E o st K := aop_ldB ho hd hN hb hsz hx hp hc' hl h
theorem qF {s : TypeId} {x : Operand} {i t off sz : Nat} (av av' : AV) (hf : fieldT P s i = some (t, off)) (hsz : (P.info? t).map (·.size) = some (sz + 1)) (h : K ⟨upd st.env d av', st.ob⟩) (ho : o.op = .fieldAddr s x i := by rfl)
  (hd : o.dst = some d := by rfl) (hN : (okOp E.N x && Nat.blt d E.N) = true := by rfl) (hx : evA st.env x = av := by rfl) (hp : isPt av = true := by rfl) (ha : ptAdd av off = av' := by rfl) : AOp P E o st K := aop_fieldAddr ho hd hN hf hsz hx hp ha h
theorem qB {op : BinOp} {t t' : TypeId} {x y : Operand} {k : IntKind} {a b : Int} (u : Value) (hu : binI k op a b = u) (h : K ⟨upd st.env d (.v u), st.ob⟩) (ho : o.op = .binOp op t x y t' := by rfl) (hd : o.dst = some d := by rfl)
  (hN : (okOp E.N x && okOp E.N y && Nat.blt d E.N) = true := by rfl) (hx : evA st.env x = .v (.int k a) := by rfl) (hy : evA st.env y = .v (.int k b) := by rfl) (hb : binOk op b := by trivial) : AOp P E o st K := aop_binI ho hd hN hx hy hb hu h
theorem qP {c x y : Operand} {b' : Bool} (b : Bool) (av : AV) (hbb : b = b') (h : K ⟨upd st.env d av, st.ob⟩) (ho : o.op = .pick c x y := by rfl) (hd : o.dst = some d := by rfl) (hN : (okOp E.N c && okOp E.N x && okOp E.N y && Nat.blt d E.N) = true := by rfl)
  (hc : evA st.env c = .v (.bool b) := by rfl) (hr : cond b' (evA st.env x) (evA st.env y) = av := by rfl) : AOp P E o st K := by subst hbb; exact aop_pick ho hd hN hc hr h
theorem qN {c : Call} {t e : TypeId} {x : Operand} {n : Nat} {cells : List AV} (ht : P.underlying t = some (.slice e)) (h : K ⟨upd st.env d (.v (.int .i64 n)), st.ob⟩) (ho : o.op = .call c := by rfl) (hc : c = { callee := .builtin .len, args := #[x], argTypes := #[t] } := by rfl) (hd : o.dst = some d := by rfl)
  (hN : (okOp E.N x && Nat.blt d E.N) = true := by rfl) (hx : evA st.env x = .ro n cells := by exact rfl) : AOp P E o st K := aop_len ho hc hd hN ht (len_ro hx) h
theorem qX {t e : TypeId} {x ix : Operand} {n sz k : Nat} {kk : IntKind} {α : Type} {f : α → List AV} {l : List α} (df : α) (ht : P.underlying t = some (.slice e)) (hsz : (P.info? e).map (·.size) = some sz) (h : K ⟨upd st.env d (.rp (f (l.getD k df) ++ (enc f l).drop ((k + 1) * sz))), st.ob⟩) (ho : o.op = .indexAddr t x ix := by rfl) (hd : o.dst = some d := by rfl) (hN : (okOp E.N x && okOp E.N ix && Nat.blt d E.N) = true := by rfl)
  (hx : evA st.env x = .ro n (enc f l) := by exact rfl) (hi : evA st.env ix = .v (.int kk (k : Int)) := by exact rfl) (hf : ∀ x, (f x).length = sz := by exact fun _ => rfl) (hn : n = l.length := by rfl) (h1 : k < l.length := by first | omega | (simp; done) | decide | (simp at *; omega)) : AOp P E o st K := aop_ixE df ho hd hN ht hsz hx hi hf hn h1 h
theorem qS {t : TypeId} {x y : Operand} {id off s : Nat} {av : AV} {cs cells' : List AV} {ob : LObj} (hsz : (P.info? t).map (·.size) = some s) (h : K ⟨st.env, updO st.ob id (.live ⟨cells', ob.elem, ob.esz⟩)⟩) (ho : o.op = .store t x y := by rfl) (hd : o.dst = none := by rfl) (hN : (okOp E.N x && okOp E.N y) = true := by rfl)
  (hx : evA st.env x = .pt id off := by rfl) (hl : st.ob id = .live ob := by rfl) (hy : evA st.env y = av := by rfl) (hc : cellsA av = some cs := by rfl) (hcl : cs.length = s := by rfl) (hfit : off + s ≤ ob.cells.length := by exact Nat.le_of_ble_eq_true rfl) (h1 : cs.all isOne = true := by rfl) (hsp : spl ob.cells off cs = cells' := by rfl) : AOp P E o st K := aop_store ho hd hN hsz hx hl hy hc hcl hfit h1 hsp h
theorem qW {t : TypeId} {x : Operand} {av : AV} {cs : List AV} (id : Nat) (h : K ⟨upd st.env d (.pt id 0), updO st.ob id (.live ⟨cs, t, 1⟩)⟩) (ho : o.op = .box t x := by rfl) (hd : o.dst = some d := by rfl) (hN : (okOp E.N x && Nat.blt d E.N) = true := by rfl) (hf : st.ob id = .free := by rfl) (hx : evA st.env x = av := by rfl) (hc : cellsA av = some cs := by rfl) (h1 : cs.all isOne = true := by rfl) : AOp P E o st K := aop_box id ho hd hN hf hx hc h1 h
theorem qE {x : Operand} {i : Nat} {cs : List AV} {av : AV} (h : K ⟨upd st.env d av, st.ob⟩) (ho : o.op = .extract x i := by rfl) (hd : o.dst = some d := by rfl) (hN : (okOp E.N x && Nat.blt d E.N) = true := by rfl) (hx : evA st.env x = .tup cs := by rfl) (hi : cs[i]? = some av := by rfl) : AOp P E o st K := aop_extract ho hd hN hx hi h
theorem qD {t : TypeId} {ps : List (Nat × Operand)} {z : Value} {pl : Nat → Option (Nat × Nat)} {cells : List AV} (hpl : placesOf P t = some (z, pl)) (h : K ⟨upd st.env d (.agg cells), st.ob⟩) (ho : o.op = .build t ps.toArray := by rfl) (hd : o.dst = some d := by rfl) (hN : ((ps.all fun p => okOp E.N p.2) && Nat.blt d E.N) = true := by rfl) (hf : fillA pl (z.cells.toList.map .v) (partsA st.env ps) = some cells := by rfl) : AOp P E o st K := aop_build ho hd hN hpl hf h
theorem qC {c : Call} {cal : Operand} {args : List Operand} {tys : Array TypeId} {f : Nat} {caps avs : List AV} {res : AV} (hF : Fn P f avs res) (hb : bodied P f = true) [hres : NoI res] (h : K ⟨upd st.env d res, st.ob⟩) (ho : o.op = .call c := by rfl) (hc : c = { callee := .value cal, args := args.toArray, argTypes := tys } := by rfl) (hd : o.dst = some d := by rfl) (hN : (okOp E.N cal && args.all (okOp E.N) && Nat.blt d E.N) = true := by rfl)
  (hcal : evA st.env cal = .fn f caps := by rfl) (ha : Lends (fun _ => .free) (args.map (evA st.env) ++ caps) avs := by repeat' (first | exact lends_nil | refine lends_cons ?_ ?_ | exact lend_y rfl | exact Lend.one _ rfl | refine lend_agg ?_ | refine lend_rpw ?_)) : AOp P E o st K := callW_ hF ho hc hd hN hcal hb ha h
theorem qJ {c : Call} {cal : Operand} {args : List Operand} {tys : Array TypeId} {f : Nat} {caps avs : List AV} {res : AV} (hF : Fn P f avs res) (hb : bodied P f = true) [hno : NoIL avs] [hres : NoI res] (h : K ⟨upd st.env d res, st.ob⟩) (ho : o.op = .call c := by rfl) (hc : c = { callee := .value cal, args := args.toArray, argTypes := tys } := by rfl) (hd : o.dst = some d := by rfl) (hN : (okOp E.N cal && args.all (okOp E.N) && Nat.blt d E.N) = true := by rfl)
  (hcal : evA st.env cal = .fn f caps := by rfl) (ha : args.map (evA st.env) ++ caps = avs := by rfl) : AOp P E o st K := call_ hF ho hc hd hN hcal hb ha h
end
theorem lS {ob : Nat → OSt} {as cs : List AV} (h : Lends ob as cs := by repeat' (first | exact lends_nil | refine lends_cons ?_ ?_ | exact lend_y rfl | exact Lend.one _ rfl | refine lend_agg ?_ | refine lend_rpw ?_)) : Lends ob as cs := h
theorem fzA {ob : Nat → OSt} {l m : List AV} (h : ∀ (j : Nat) (a b : AV), l[j]? = some a → m[j]? = some b → FrzC ob a b := by repeat (first | exact frzs_nil | refine frzs_cons (.inl rfl) ?_)) : ∀ (j : Nat) (a b : AV), l[j]? = some a → m[j]? = some b → FrzC ob a b := h
theorem lO {e e' : Nat → AV} (h : ∀ t, e' t = .any ∨ e' t = e t := by repeat (first | exact lee_same _ | refine lee_out _ _ rfl ?_)) : ∀ t, e' t = .any ∨ e' t = e t := h
section
variable {P : Program} {E : Env0} {ops : Array Oper} {env : Nat → AV} {ob : Nat → OSt} {o : Oper}
theorem dW (d : Nat) (h : ∀ st : St, st.ob = ob → (∀ t, (o.looksAt ops).elem t = true → st.env t = env t) → AOp P E o st (fun s => s = ⟨upd st.env d (env d), ob⟩)) (hd : o.dst = some d := by rfl) (hl : Nat.blt d E.N = true := by rfl) : StillOp P E ops env ob o := ⟨d, hd, blt_lt hl, h⟩
def lkOp (ops : Array Oper) (o : Oper) : Operand → Bool
 | .tmp t => (o.looksAt ops).elem t
 | _ => true
theorem lk_ev {x : Operand} {e : Nat → AV} (hk : lkOp ops o x = true) (hE : ∀ t, (o.looksAt ops).elem t = true → e t = env t) : evA e x = evA env x := by
 cases x with
 | tmp t => exact hE t hk
 | const _ => rfl
 | global _ => rfl
 | func _ => rfl
variable {d : Nat}
theorem sF {s : TypeId} {x : Operand} {i t off sz : Nat} (av av' : AV) (hf : fieldT P s i = some (t, off)) (hsz : (P.info? t).map (·.size) = some (sz + 1)) (ho : o.op = .fieldAddr s x i := by rfl) (hd : o.dst = some d := by rfl) (hN : (okOp E.N x && Nat.blt d E.N) = true := by rfl) (hl : Nat.blt d E.N = true := by rfl) (hk : lkOp ops o x = true := by rfl)
  (hx : evA env x = av := by rfl) (hp : isPt av = true := by rfl) (ha : ptAdd av off = av' := by rfl) (he : av' = env d := by rfl) : StillOp P E ops env ob o :=
 ⟨d, hd, blt_lt hl, fun st hob hE => aop_fieldAddr ho hd hN hf hsz ((lk_ev hk hE).trans hx) hp (ha.trans he) (by rw [hob])⟩
theorem sB {op : BinOp} {t t' : TypeId} {x y : Operand} {k : IntKind} {a b : Int} (u : Value) (hu : binI k op a b = u) (ho : o.op = .binOp op t x y t' := by rfl) (hd : o.dst = some d := by rfl) (hN : (okOp E.N x && okOp E.N y && Nat.blt d E.N) = true := by rfl) (hl : Nat.blt d E.N = true := by rfl) (hk : lkOp ops o x = true := by rfl) (hk2 : lkOp ops o y = true := by rfl)
  (hx : evA env x = .v (.int k a) := by rfl) (hy : evA env y = .v (.int k b) := by rfl) (hb : binOk op b := by trivial) (he : AV.v u = env d := by rfl) : StillOp P E ops env ob o :=
 ⟨d, hd, blt_lt hl, fun st hob hE => aop_binI ho hd hN ((lk_ev hk hE).trans hx) ((lk_ev hk2 hE).trans hy) hb hu (by rw [hob, he])⟩
theorem sPk {c x y : Operand} {b' : Bool} (b : Bool) (av : AV) (hbb : b = b') (ho : o.op = .pick c x y := by rfl) (hd : o.dst = some d := by rfl) (hN : (okOp E.N c && okOp E.N x && okOp E.N y && Nat.blt d E.N) = true := by rfl) (hl : Nat.blt d E.N = true := by rfl) (hk : lkOp ops o c = true := by rfl) (hk2 : lkOp ops o x = true := by rfl) (hk3 : lkOp ops o y = true := by rfl)
  (hc : evA env c = .v (.bool b) := by rfl) (hr : cond b' (evA env x) (evA env y) = av := by rfl) (he : av = env d := by rfl) : StillOp P E ops env ob o :=
 ⟨d, hd, blt_lt hl, fun st hob hE => aop_pick (av := av) ho hd hN ((lk_ev hk hE).trans hc) (by rw [lk_ev hk2 hE, lk_ev hk3 hE, hbb]; exact hr) (by rw [hob, he])⟩
theorem sLB {t : TypeId} {x : Operand} {s : Nat} {p : AV} {cells : List AV} (cells' : List AV) (hb : aggT P t = some true) (hsz : (P.info? t).map (·.size) = some s) (ho : o.op = .load t x := by rfl) (hd : o.dst = some d := by rfl) (hN : (okOp E.N x && Nat.blt d E.N) = true := by rfl) (hl : Nat.blt d E.N = true := by rfl) (hk : lkOp ops o x = true := by rfl)
  (hx : evA env x = p := by rfl) (hp : ptC ob p = some cells := by rfl) (hc' : cells.take s = cells' := by rfl) (hl' : cells'.length = s := by rfl) (he : AV.agg cells' = env d := by rfl) : StillOp P E ops env ob o :=
 ⟨d, hd, blt_lt hl, fun st hob hE => aop_ldB ho hd hN hb hsz ((lk_ev hk hE).trans hx) (by rw [hob]; exact hp) hc' hl' (by rw [hob, he])⟩
theorem sL {t : TypeId} {x : Operand} {p : AV} {rest : List AV} (hb : aggT P t = some false) (ho : o.op = .load t x := by rfl) (hd : o.dst = some d := by rfl) (hN : (okOp E.N x && Nat.blt d E.N) = true := by rfl) (hl : Nat.blt d E.N = true := by rfl) (hk : lkOp ops o x = true := by rfl)
  (hx : evA env x = p := by rfl) (hp : ptC ob p = some (env d :: rest) := by rfl) : StillOp P E ops env ob o :=
 ⟨d, hd, blt_lt hl, fun st hob hE => aop_ld ho hd hN hb ((lk_ev hk hE).trans hx) (by rw [hob]; exact hp) (by rw [hob])⟩
theorem sC {c : Call} {cal : Operand} {args : List Operand} {tys : Array TypeId} {f : Nat} {caps avs : List AV} {res : AV} (hF : Fn P f avs res) (hb : bodied P f = true) [hres : NoI res] (ho : o.op = .call c := by rfl) (hc : c = { callee := .value cal, args := args.toArray, argTypes := tys } := by rfl) (hd : o.dst = some d := by rfl) (hN : (okOp E.N cal && args.all (okOp E.N) && Nat.blt d E.N) = true := by rfl) (hl : Nat.blt d E.N = true := by rfl)
  (hk : lkOp ops o cal = true := by rfl) (hk2 : args.all (lkOp ops o) = true := by rfl) (hcal : evA env cal = .fn f caps := by rfl) (ha : Lends (fun _ => .free) (args.map (evA env) ++ caps) avs := by repeat' (first | exact lends_nil | refine lends_cons ?_ ?_ | exact lend_y rfl | exact Lend.one _ rfl | refine lend_agg ?_ | refine lend_rpw ?_)) (he : res = env d := by rfl) : StillOp P E ops env ob o :=
 ⟨d, hd, blt_lt hl, fun st hob hE => callW_ hF ho hc hd hN ((lk_ev hk hE).trans hcal) hb (by
  have : args.map (evA st.env) = args.map (evA env) := List.map_congr_left fun a h => lk_ev (List.all_eq_true.1 hk2 a h) hE
  rw [this]; exact ha) (by rw [hob, he])⟩
end
section
variable {P : Program} {E : Env0} {ops : Array Oper}
theorem aD {id : Nat} {st : St} {Q : Exit → St → Prop} (m : Nat) (vs : List (Nat × AV)) (hm : P.follows .mixedOrders = true) (hst : Stills P E ops (ovl vs st.env) st.ob (ops.toList.take m)) (htail : AOps P E ops (ops.toList.drop m) ⟨ovl vs st.env, st.ob⟩ (fun s => Q .normal s)) (hB : drawOk ops m (vs.map (·.1)) = true := by kernel_rfl) : AWP P E (.region id ops true) st Q := awp_draw vs hm hB hst htail
end
section
variable {P : Program} {E : Env0} {st : St} {Q : Exit → St → Prop} {ops : Array Oper}
theorem rU {c : Code} (e' : Nat → AV) (o' : Nat → OSt) (h : AWP P E c ⟨e', o'⟩ Q) (he : ∀ t, e' t = .any ∨ e' t = st.env t := by repeat (first | exact ln | refine lu rfl ?_)) (ho : o' = st.ob := by rfl) : AOps P E ops [] st (fun s => AWP P E c s Q) := op0 (rs_ e' o' he ho h)
end
end Go.Lo
