/- Part of the logic of values: what the law reaches. -/
import Derived.Test.YtdeajfldegcdaaaGreatPFnApm8
import Derived.Test.YtdeajfldegcdaaaGreatPFnApm11
import Derived.Test.YtdeajfldegcdaaaGreatPFnApm10
set_option linter.unusedVariables false
namespace Go.Lo
abbrev vN:AV:=.v (.slice none 0 0)
theorem oo {p:Prop} (h:p:=by first|omega|(simp;done)|decide|(simp at*;omega)):p:=h
theorem om {p:Prop} (h:p:=by omega):p:=h
theorem adA {ob:Nat→aH} {a c:AV} [h:W6 c] (e:a=c):VN ob a c:=by subst e;exact .same a h.out
theorem qG {p:Prop} (h:p:=by first|(simp;done)|(simp;omega)):p:=h
section
variable {P:Program} {E:VC} {st:St} {K:St→Prop} {ops:Array Oper} {o:Oper} {r:List Oper} {d:Nat}
theorem oG {K:St→Prop} (h:Vo P E o st fun s=>VL P E ops r s K) (hg:o.guard=none:=by rfl):VL P E ops (o::r) st K:=tJ hg h
theorem qM {x:Operand} (av:AV) (h:K ⟨upd st.env d av,st.ob⟩) (ho:o.op=.move x∨o.op=.assign x:=by first|exact .inl rfl|exact .inr rfl) (hd:o.dst=some d:=by rfl) (hN:(aT E.N x&&Nat.blt d E.N)=true:=by rfl) (hx:aO st.env x=av:=by rfl):Vo P E o st K:=eD ho hd hN hx h
theorem qL {t:TypeId} {x:Operand} {p:AV} {rest:List AV} (av:AV) (hb:V0 P t=some false) (h:K ⟨upd st.env d av,st.ob⟩) (ho:o.op=.load t x:=by rfl) (hd:o.dst=some d:=by rfl) (hN:(aT E.N x&&Nat.blt d E.N)=true:=by rfl) (hx:aO st.env x=p:=by rfl) (hp:aB st.ob p=some (av::rest):=by rfl):Vo P E o st K:=Yd ho hd hN hb hx hp h
theorem cZ {t:TypeId} {x:Operand} {s:Nat} {p:AV} {cells:List AV} (cells':List AV) (hb:V0 P t=some true) (hsz:(P.info? t).map (·.size)=some s) (h:K ⟨upd st.env d (.agg cells'),st.ob⟩) (ho:o.op=.load t x:=by rfl) (hd:o.dst=some d:=by rfl) (hN:(aT E.N x&&Nat.blt d E.N)=true:=by rfl)
  (hx:aO st.env x=p:=by rfl) (hp:aB st.ob p=some cells:=by rfl) (hc':cells.take s=cells':=by rfl) (hl:cells'.length=s:=by rfl):Vo P E o st K:=ny ho hd hN hb hsz hx hp hc' hl h
theorem qF {s:TypeId} {x:Operand} {i t off sz:Nat} (av dA:AV) (hf:VZ P s i=some (t,off)) (hsz:(P.info? t).map (·.size)=some (sz+1)) (h:K ⟨upd st.env d dA,st.ob⟩) (ho:o.op=.fieldAddr s x i:=by rfl)
  (hd:o.dst=some d:=by rfl) (hN:(aT E.N x&&Nat.blt d E.N)=true:=by rfl) (hx:aO st.env x=av:=by rfl) (hp:ZN av=true:=by rfl) (ha:nL av off=dA:=by rfl):Vo P E o st K:=tV ho hd hN hf hsz hx hp ha h
theorem qB {op:BinOp} {t t':TypeId} {x y:Operand} {k:IntKind} {a b:Int} (u:Value) (hu:Xv k op a b=u) (h:K ⟨upd st.env d (.v u),st.ob⟩) (ho:o.op=.binOp op t x y t':=by rfl) (hd:o.dst=some d:=by rfl)
  (hN:(aT E.N x&&aT E.N y&&Nat.blt d E.N)=true:=by rfl) (hx:aO st.env x=.v (.int k a):=by rfl) (hy:aO st.env y=.v (.int k b):=by rfl) (hb:aa6 op b:=by trivial):Vo P E o st K:=WC ho hd hN hx hy hb hu h
theorem qP {c x y:Operand} {b':Bool} (b:Bool) (av:AV) (hbb:b=b') (h:K ⟨upd st.env d av,st.ob⟩) (ho:o.op=.pick c x y:=by rfl) (hd:o.dst=some d:=by rfl) (hN:(aT E.N c&&aT E.N x&&aT E.N y&&Nat.blt d E.N)=true:=by rfl)
  (hc:aO st.env c=.v (.bool b):=by rfl) (hr:cond b' (aO st.env x) (aO st.env y)=av:=by rfl):Vo P E o st K:=by subst hbb;exact fF ho hd hN hc hr h
theorem qN {c:Call} {t e:TypeId} {x:Operand} {n:Nat} {cells:List AV} (ht:P.underlying t=some (.slice e)) (h:K ⟨upd st.env d (.v (.int .i64 n)),st.ob⟩) (ho:o.op=.call c:=by rfl) (hc:c={ callee:=.builtin .len,args:= #[x],argTypes:= #[t] }:=by rfl) (hd:o.dst=some d:=by rfl)
  (hN:(aT E.N x&&Nat.blt d E.N)=true:=by rfl) (hx:aO st.env x=.ro n cells:=by exact rfl):Vo P E o st K:=dU ho hc hd hN ht (o9 hx) h
theorem qX {t e:TypeId} {x ix:Operand} {n sz k:Nat} {kk:IntKind} {α:Type} {f:α→List AV} {l:List α} (df:α) (ht:P.underlying t=some (.slice e)) (hsz:(P.info? e).map (·.size)=some sz) (h:K ⟨upd st.env d (.rp (f (l.getD k df)++(enc f l).drop ((k+1)*sz))),st.ob⟩) (ho:o.op=.indexAddr t x ix:=by rfl) (hd:o.dst=some d:=by rfl) (hN:(aT E.N x&&aT E.N ix&&Nat.blt d E.N)=true:=by rfl)
  (hx:aO st.env x=.ro n (enc f l):=by exact rfl) (hi:aO st.env ix=.v (.int kk (k:Int)):=by exact rfl) (hf:∀x,(f x).length=sz:=by exact fun _=>rfl) (hn:n=l.length:=by rfl) (h1:k<l.length:=by first|omega|(simp;done)|decide|(simp at*;omega)):Vo P E o st K:=aaw df ho hd hN ht hsz hx hi hf hn h1 h
theorem qS {t:TypeId} {x y:Operand} {id off s:Nat} {av:AV} {cs cells':List AV} {ob:aC} (hsz:(P.info? t).map (·.size)=some s) (h:K ⟨st.env,U4 st.ob id (.live ⟨cells',ob.elem,ob.bC⟩)⟩) (ho:o.op=.store t x y:=by rfl) (hd:o.dst=none:=by rfl) (hN:(aT E.N x&&aT E.N y)=true:=by rfl)
  (hx:aO st.env x=.pt id off:=by rfl) (hl:st.ob id=.live ob:=by rfl) (hy:aO st.env y=av:=by rfl) (hc:XN av=some cs:=by rfl) (hcl:cs.length=s:=by rfl) (hfit:off+s≤ob.cells.length:=by exact Nat.le_of_ble_eq_true rfl) (h1:cs.all je=true:=by rfl) (hsp:spl ob.cells off cs=cells':=by rfl):Vo P E o st K:=Z_ ho hd hN hsz hx hl hy hc hcl hfit h1 hsp h
theorem qW {t:TypeId} {x:Operand} {av:AV} {cs:List AV} (id:Nat) (h:K ⟨upd st.env d (.pt id 0),U4 st.ob id (.live ⟨cs,t,1⟩)⟩) (ho:o.op=.box t x:=by rfl) (hd:o.dst=some d:=by rfl) (hN:(aT E.N x&&Nat.blt d E.N)=true:=by rfl) (hf:st.ob id=.free:=by rfl) (hx:aO st.env x=av:=by rfl) (hc:XN av=some cs:=by rfl) (h1:cs.all je=true:=by rfl):Vo P E o st K:=AA id ho hd hN hf hx hc h1 h
theorem qE {x:Operand} {i:Nat} {cs:List AV} {av:AV} (h:K ⟨upd st.env d av,st.ob⟩) (ho:o.op=.extract x i:=by rfl) (hd:o.dst=some d:=by rfl) (hN:(aT E.N x&&Nat.blt d E.N)=true:=by rfl) (hx:aO st.env x=.Vm cs:=by rfl) (hi:cs[i]? =some av:=by rfl):Vo P E o st K:=af6 ho hd hN hx hi h
theorem qD {t:TypeId} {ps:List (Nat×Operand)} {z:Value} {pl:Nat→Option (Nat×Nat)} {cells:List AV} (hpl:placesOf P t=some (z,pl)) (h:K ⟨upd st.env d (.agg cells),st.ob⟩) (ho:o.op=.build t ps.toArray:=by rfl) (hd:o.dst=some d:=by rfl) (hN:((ps.all fun p=>aT E.N p.2)&&Nat.blt d E.N)=true:=by rfl) (hf:aa9 pl (z.cells.toList.map .v) (WL st.env ps)=some cells:=by rfl):Vo P E o st K:=kE ho hd hN hpl hf h
theorem qC {c:Call} {bZ:Operand} {args:List Operand} {tys:Array TypeId} {f:Nat} {caps bU:List AV} {res:AV} (hF:Fn P f bU res) (hb:Vp P f=true) [hres:W6 res] (h:K ⟨upd st.env d res,st.ob⟩) (ho:o.op=.call c:=by rfl) (hc:c={ callee:=.value bZ,args:=args.toArray,argTypes:=tys }:=by rfl) (hd:o.dst=some d:=by rfl) (hN:(aT E.N bZ&&args.all (aT E.N)&&Nat.blt d E.N)=true:=by rfl)
  (dQ:aO st.env bZ=.fn f caps:=by rfl) (ha:dV (fun _=>.free) (args.map (aO st.env)++caps) bU:=by repeat' (first|exact fP|refine Vb ?_ ?_|exact adA rfl|exact VN.one _ rfl|refine adi ?_|refine oN ?_)):Vo P E o st K:=aeT hF ho hc hd hN dQ hb ha h
theorem qJ {c:Call} {bZ:Operand} {args:List Operand} {tys:Array TypeId} {f:Nat} {caps bU:List AV} {res:AV} (hF:Fn P f bU res) (hb:Vp P f=true) [hno:VB bU] [hres:W6 res] (h:K ⟨upd st.env d res,st.ob⟩) (ho:o.op=.call c:=by rfl) (hc:c={ callee:=.value bZ,args:=args.toArray,argTypes:=tys }:=by rfl) (hd:o.dst=some d:=by rfl) (hN:(aT E.N bZ&&args.all (aT E.N)&&Nat.blt d E.N)=true:=by rfl)
  (dQ:aO st.env bZ=.fn f caps:=by rfl) (ha:args.map (aO st.env)++caps=bU:=by rfl):Vo P E o st K:=call_ hF ho hc hd hN dQ hb ha h
end
theorem lS {ob:Nat→aH} {as cs:List AV} (h:dV ob as cs:=by repeat' (first|exact fP|refine Vb ?_ ?_|exact adA rfl|exact VN.one _ rfl|refine adi ?_|refine oN ?_)):dV ob as cs:=h
theorem XD {ob:Nat→aH} {l m:List AV} (h:∀(j:Nat) (a b:AV),l[j]? =some a→m[j]? =some b→Xk ob a b:=by repeat (first|exact aeL|refine gq (.inl rfl) ?_)):∀(j:Nat) (a b:AV),l[j]? =some a→m[j]? =some b→Xk ob a b:=h
theorem lO {e e':Nat→AV} (h:∀t,e' t=.any∨e' t=e t:=by repeat (first|exact ajU _|refine akl _ _ rfl ?_)):∀t,e' t=.any∨e' t=e t:=h
section
variable {P:Program} {E:VC} {ops:Array Oper} {env:Nat→AV} {ob:Nat→aH} {o:Oper}
theorem dW (d:Nat) (h:∀st:St,st.ob=ob→(∀t,(o.looksAt ops).elem t=true→st.env t=env t)→Vo P E o st (fun s=>s=⟨upd st.env d (env d),ob⟩)) (hd:o.dst=some d:=by rfl) (hl:Nat.blt d E.N=true:=by rfl):fu P E ops env ob o:=⟨d,hd,aS hl,h⟩
def iR (ops:Array Oper) (o:Oper):Operand→Bool
 | .tmp t=>(o.looksAt ops).elem t
 |_=>true
theorem jg {x:Operand} {e:Nat→AV} (hk:iR ops o x=true) (hE:∀t,(o.looksAt ops).elem t=true→e t=env t):aO e x=aO env x:=by
 cases x with
 |tmp t=>exact hE t hk
 |const _=>rfl
 |global _=>rfl
 |func _=>rfl
variable {d:Nat}
theorem sF {s:TypeId} {x:Operand} {i t off sz:Nat} (av dA:AV) (hf:VZ P s i=some (t,off)) (hsz:(P.info? t).map (·.size)=some (sz+1)) (ho:o.op=.fieldAddr s x i:=by rfl) (hd:o.dst=some d:=by rfl) (hN:(aT E.N x&&Nat.blt d E.N)=true:=by rfl) (hl:Nat.blt d E.N=true:=by rfl) (hk:iR ops o x=true:=by rfl)
  (hx:aO env x=av:=by rfl) (hp:ZN av=true:=by rfl) (ha:nL av off=dA:=by rfl) (he:dA=env d:=by rfl):fu P E ops env ob o:=
 ⟨d,hd,aS hl,fun st au hE=>tV ho hd hN hf hsz ((jg hk hE).trans hx) hp (ha.trans he) (by rw [au])⟩
theorem sB {op:BinOp} {t t':TypeId} {x y:Operand} {k:IntKind} {a b:Int} (u:Value) (hu:Xv k op a b=u) (ho:o.op=.binOp op t x y t':=by rfl) (hd:o.dst=some d:=by rfl) (hN:(aT E.N x&&aT E.N y&&Nat.blt d E.N)=true:=by rfl) (hl:Nat.blt d E.N=true:=by rfl) (hk:iR ops o x=true:=by rfl) (hk2:iR ops o y=true:=by rfl)
  (hx:aO env x=.v (.int k a):=by rfl) (hy:aO env y=.v (.int k b):=by rfl) (hb:aa6 op b:=by trivial) (he:AV.v u=env d:=by rfl):fu P E ops env ob o:=
 ⟨d,hd,aS hl,fun st au hE=>WC ho hd hN ((jg hk hE).trans hx) ((jg hk2 hE).trans hy) hb hu (by rw [au,he])⟩
theorem lX {c x y:Operand} {b':Bool} (b:Bool) (av:AV) (hbb:b=b') (ho:o.op=.pick c x y:=by rfl) (hd:o.dst=some d:=by rfl) (hN:(aT E.N c&&aT E.N x&&aT E.N y&&Nat.blt d E.N)=true:=by rfl) (hl:Nat.blt d E.N=true:=by rfl) (hk:iR ops o c=true:=by rfl) (hk2:iR ops o x=true:=by rfl) (hk3:iR ops o y=true:=by rfl)
  (hc:aO env c=.v (.bool b):=by rfl) (hr:cond b' (aO env x) (aO env y)=av:=by rfl) (he:av=env d:=by rfl):fu P E ops env ob o:=
 ⟨d,hd,aS hl,fun st au hE=>fF (av:=av) ho hd hN ((jg hk hE).trans hc) (by rw [jg hk2 hE,jg hk3 hE,hbb];exact hr) (by rw [au,he])⟩
theorem Ys {t:TypeId} {x:Operand} {s:Nat} {p:AV} {cells:List AV} (cells':List AV) (hb:V0 P t=some true) (hsz:(P.info? t).map (·.size)=some s) (ho:o.op=.load t x:=by rfl) (hd:o.dst=some d:=by rfl) (hN:(aT E.N x&&Nat.blt d E.N)=true:=by rfl) (hl:Nat.blt d E.N=true:=by rfl) (hk:iR ops o x=true:=by rfl)
  (hx:aO env x=p:=by rfl) (hp:aB ob p=some cells:=by rfl) (hc':cells.take s=cells':=by rfl) (hl':cells'.length=s:=by rfl) (he:AV.agg cells'=env d:=by rfl):fu P E ops env ob o:=
 ⟨d,hd,aS hl,fun st au hE=>ny ho hd hN hb hsz ((jg hk hE).trans hx) (by rw [au];exact hp) hc' hl' (by rw [au,he])⟩
theorem sL {t:TypeId} {x:Operand} {p:AV} {rest:List AV} (hb:V0 P t=some false) (ho:o.op=.load t x:=by rfl) (hd:o.dst=some d:=by rfl) (hN:(aT E.N x&&Nat.blt d E.N)=true:=by rfl) (hl:Nat.blt d E.N=true:=by rfl) (hk:iR ops o x=true:=by rfl)
  (hx:aO env x=p:=by rfl) (hp:aB ob p=some (env d::rest):=by rfl):fu P E ops env ob o:=
 ⟨d,hd,aS hl,fun st au hE=>Yd ho hd hN hb ((jg hk hE).trans hx) (by rw [au];exact hp) (by rw [au])⟩
theorem sC {c:Call} {bZ:Operand} {args:List Operand} {tys:Array TypeId} {f:Nat} {caps bU:List AV} {res:AV} (hF:Fn P f bU res) (hb:Vp P f=true) [hres:W6 res] (ho:o.op=.call c:=by rfl) (hc:c={ callee:=.value bZ,args:=args.toArray,argTypes:=tys }:=by rfl) (hd:o.dst=some d:=by rfl) (hN:(aT E.N bZ&&args.all (aT E.N)&&Nat.blt d E.N)=true:=by rfl) (hl:Nat.blt d E.N=true:=by rfl)
  (hk:iR ops o bZ=true:=by rfl) (hk2:args.all (iR ops o)=true:=by rfl) (dQ:aO env bZ=.fn f caps:=by rfl) (ha:dV (fun _=>.free) (args.map (aO env)++caps) bU:=by repeat' (first|exact fP|refine Vb ?_ ?_|exact adA rfl|exact VN.one _ rfl|refine adi ?_|refine oN ?_)) (he:res=env d:=by rfl):fu P E ops env ob o:=
 ⟨d,hd,aS hl,fun st au hE=>aeT hF ho hc hd hN ((jg hk hE).trans dQ) hb (by
  have:args.map (aO st.env)=args.map (aO env):=List.map_congr_left fun a h=>jg (List.all_eq_true.1 hk2 a h) hE;rw [this];exact ha) (by rw [au,he])⟩
end
section
variable {P:Program} {E:VC} {ops:Array Oper}
theorem Vd {id:Nat} {st:St} {Q:Exit→St→Prop} (m:Nat) (vs:List (Nat×AV)) (hm:P.follows .mixedOrders=true) (hst:acB P E ops (iD vs st.env) st.ob (ops.toList.take m)) (htail:VL P E ops (ops.toList.drop m) ⟨iD vs st.env,st.ob⟩ (fun s=>Q .normal s)) (hB:mo ops m (vs.map (·.1))=true:=by kernel_rfl):VD P E (.region id ops true) st Q:=ajQ vs hm hB hst htail
end
section
variable {P:Program} {E:VC} {st:St} {Q:Exit→St→Prop} {ops:Array Oper}
theorem rU {c:Code} (e':Nat→AV) (o':Nat→aH) (h:VD P E c ⟨e',o'⟩ Q) (he:∀t,e' t=.any∨e' t=st.env t:=by repeat (first|exact ln|refine lu rfl ?_)) (ho:o'=st.ob:=by rfl):VL P E ops [] st (fun s=>VD P E c s Q):=ak (ES e' o' he ho h)
end
end Go.Lo
set_option linter.unusedVariables false
namespace Go.Lo
section
variable {P:Program} {E:VC} {st:St} {K:St→Prop} {ops:Array Oper} {o:Oper} {r:List Oper} {d:Nat} {x:Operand}
theorem mV {u:Value} (h:VL P E ops r ⟨upd st.env d (.v u),st.ob⟩ K) (hg:o.guard=none:=by rfl) (ho:o.op=.move x∨o.op=.assign x:=by first|exact .inl rfl|exact .inr rfl) (hd:o.dst=some d:=by rfl) (hN:(aT E.N x&&Nat.blt d E.N)=true:=by rfl) (hx:aO st.env x=.v u:=by rfl):VL P E ops (o::r) st K:=mG _ h hg ho hd hN hx
theorem mP {i j:Nat} (h:VL P E ops r ⟨upd st.env d (.pt i j),st.ob⟩ K) (hg:o.guard=none:=by rfl) (ho:o.op=.move x∨o.op=.assign x:=by first|exact .inl rfl|exact .inr rfl) (hd:o.dst=some d:=by rfl) (hN:(aT E.N x&&Nat.blt d E.N)=true:=by rfl) (hx:aO st.env x=.pt i j:=by rfl):VL P E ops (o::r) st K:=mG _ h hg ho hd hN hx
theorem mO {n:Nat} {c:List AV} (h:VL P E ops r ⟨upd st.env d (.ro n c),st.ob⟩ K) (hg:o.guard=none:=by rfl) (ho:o.op=.move x∨o.op=.assign x:=by first|exact .inl rfl|exact .inr rfl) (hd:o.dst=some d:=by rfl) (hN:(aT E.N x&&Nat.blt d E.N)=true:=by rfl) (hx:aO st.env x=.ro n c:=by rfl):VL P E ops (o::r) st K:=mG _ h hg ho hd hN hx
theorem mR {c:List AV} (h:VL P E ops r ⟨upd st.env d (.rp c),st.ob⟩ K) (hg:o.guard=none:=by rfl) (ho:o.op=.move x∨o.op=.assign x:=by first|exact .inl rfl|exact .inr rfl) (hd:o.dst=some d:=by rfl) (hN:(aT E.N x&&Nat.blt d E.N)=true:=by rfl) (hx:aO st.env x=.rp c:=by rfl):VL P E ops (o::r) st K:=mG _ h hg ho hd hN hx
theorem mS {i j n:Nat} (h:VL P E ops r ⟨upd st.env d (.sl i j n),st.ob⟩ K) (hg:o.guard=none:=by rfl) (ho:o.op=.move x∨o.op=.assign x:=by first|exact .inl rfl|exact .inr rfl) (hd:o.dst=some d:=by rfl) (hN:(aT E.N x&&Nat.blt d E.N)=true:=by rfl) (hx:aO st.env x=.sl i j n:=by rfl):VL P E ops (o::r) st K:=mG _ h hg ho hd hN hx
theorem oV {t:TypeId} {p:AV} {u:Value} {rest:List AV} (hb:V0 P t=some false) (h:VL P E ops r ⟨upd st.env d (.v u),st.ob⟩ K) (hg:o.guard=none:=by rfl) (ho:o.op=.load t x:=by rfl) (hd:o.dst=some d:=by rfl) (hN:(aT E.N x&&Nat.blt d E.N)=true:=by rfl) (hx:aO st.env x=p:=by rfl) (hp:aB st.ob p=some (.v u::rest):=by rfl):VL P E ops (o::r) st K:=oG (Yd ho hd hN hb hx hp h) hg
theorem oO {t:TypeId} {p:AV} {n:Nat} {c rest:List AV} (hb:V0 P t=some false) (h:VL P E ops r ⟨upd st.env d (.ro n c),st.ob⟩ K) (hg:o.guard=none:=by rfl) (ho:o.op=.load t x:=by rfl) (hd:o.dst=some d:=by rfl) (hN:(aT E.N x&&Nat.blt d E.N)=true:=by rfl) (hx:aO st.env x=p:=by rfl) (hp:aB st.ob p=some (.ro n c::rest):=by rfl):VL P E ops (o::r) st K:=oG (Yd ho hd hN hb hx hp h) hg
theorem oR {t:TypeId} {p:AV} {c rest:List AV} (hb:V0 P t=some false) (h:VL P E ops r ⟨upd st.env d (.rp c),st.ob⟩ K) (hg:o.guard=none:=by rfl) (ho:o.op=.load t x:=by rfl) (hd:o.dst=some d:=by rfl) (hN:(aT E.N x&&Nat.blt d E.N)=true:=by rfl) (hx:aO st.env x=p:=by rfl) (hp:aB st.ob p=some (.rp c::rest):=by rfl):VL P E ops (o::r) st K:=oG (Yd ho hd hN hb hx hp h) hg
theorem bB {op:BinOp} {t t':TypeId} {y:Operand} {k:IntKind} {a b:Int} {u:Bool} (h:VL P E ops r ⟨upd st.env d (.v (.bool u)),st.ob⟩ K) (hg:o.guard=none:=by rfl) (ho:o.op=.binOp op t x y t':=by rfl) (hd:o.dst=some d:=by rfl)
  (hN:(aT E.N x&&aT E.N y&&Nat.blt d E.N)=true:=by rfl) (hx:aO st.env x=.v (.int k a):=by rfl) (hy:aO st.env y=.v (.int k b):=by rfl) (hb:aa6 op b:=by trivial) (hu:Xv k op a b=.bool u:=by rfl):VL P E ops (o::r) st K:=jU (.bool u) h hg ho hd hN hx hy hb hu
theorem cD {Q:Exit→St→Prop} {c c':Code} {b:Bool} (ht:b=true→VD P E c st Q) (hf:b=false→VD P E c' st Q) (hok:aT E.N x=true:=by rfl) (hc:aO st.env x=.v (.bool b):=by rfl):VD P E (.cond x c c') st Q:=eP b hok hc ht hf
end
end Go.Lo
set_option linter.unusedVariables false
namespace Go.Lo
theorem bN {p:Nat→Prop} {cs:List AV} (h:∀c,c∈cs→Ok p True c:=by repeat' (first|exact aeN|refine uL ?_ ?_|exact vQ|exact .v _|exact .sl _ _ _ (by first|(simp;done)|decide)|exact .pt _ _ (by first|(simp;done)|decide))):∀c,c∈cs→Ok p True c:=h
theorem lmB {σ:Nat→Nat} {cs cs':List AV} (h:AV.V4 σ cs=cs':=by repeat' (first|exact o7|refine oU ?_ ?_|exact jH|exact rfl)):AV.V4 σ cs=cs':=h
theorem Vs {σ:Nat→Nat} {cs cs':List AV} {e z:Nat} (h:AV.V4 σ cs=cs':=by repeat' (first|exact o7|refine oU ?_ ?_|exact jH|exact rfl)):aC.map σ ⟨cs,e,z⟩=⟨cs',e,z⟩:=X5 h
theorem XU {σ:Nat→Nat} {cs cs':List AV} {e z:Nat} (h:AV.V4 σ cs=cs':=by repeat' (first|exact o7|refine oU ?_ ?_|exact jH|exact rfl)):aH.map σ (.live ⟨cs,e,z⟩)=.live ⟨cs',e,z⟩:=agw h
theorem Jb {ob:Nat→aH} {id n:Nat} {o:aC} {cs:List AV} (hl:ob id=.live o) (hc:o.cells=cs) (hlen:o.cells.length=n*o.bC) [h:VB o.cells]:VN ob (.sl id 0 n) (.ro n cs):=by subst hc;exact W8 hl hlen
theorem lT {ob:Nat→aH} {as cs:List AV} (h:dV ob as cs:=by repeat' (first|exact fP|refine Vb ?_ ?_|exact adA rfl|exact VN.one _ rfl|refine adi ?_|refine oN ?_|refine kI rfl ?_|exact ajW|exact Jb rfl rfl (WH (fun _=>rfl) (by first|rfl|(simp;done)))|(refine GN rfl ?_ ?_;rotate_left;exact rfl))):dV ob as cs:=h
theorem sU {A B:Prop} {i:Nat} {xs:List Nat} (b:B) (h:¬i∈xs:=by decide):if i∈xs then A else B:=I5 h b
section
variable {P:Program} {E:VC} {ops:Array Oper} {env:Nat→AV} {ob:Nat→aH} {o:Oper} {d:Nat} {x:Operand}
theorem Xl {av:AV} (ho:o.op=.nilCheck x:=by rfl) (hd:o.dst=some d:=by rfl) (hN:(aT E.N x&&Nat.blt d E.N)=true:=by rfl) (hl:Nat.blt d E.N=true:=by rfl) (hk:iR ops o x=true:=by rfl) (hx:aO env x=av:=by rfl) (hp:ZN av=true:=by rfl) (he:av=env d:=by rfl):fu P E ops env ob o:=
 ⟨d,hd,aS hl,fun st au hE=>VV ho hd hN ((jg hk hE).trans hx) hp (by rw [au,he])⟩
theorem jr {i:Nat} {cs:List AV} (ho:o.op=.extract x i:=by rfl) (hd:o.dst=some d:=by rfl) (hN:(aT E.N x&&Nat.blt d E.N)=true:=by rfl) (hl:Nat.blt d E.N=true:=by rfl) (hk:iR ops o x=true:=by rfl) (hx:aO env x=.Vm cs:=by rfl) (hi:cs[i]? =some (env d):=by rfl):fu P E ops env ob o:=
 ⟨d,hd,aS hl,fun st au hE=>af6 ho hd hN ((jg hk hE).trans hx) hi (by rw [au])⟩
end
end Go.Lo
