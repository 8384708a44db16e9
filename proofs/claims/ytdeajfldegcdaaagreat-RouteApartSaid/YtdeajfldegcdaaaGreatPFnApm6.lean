/- Part of the logic of values: what the law reaches. -/
import Derived.Test.YtdeajfldegcdaaaGreatPFnApm5
set_option linter.unusedVariables false
set_option linter.unusedSimpArgs false
namespace Go.Lo
def adH (P:Program) (E:VC) (fn:Func) (post:AV→List aC→Prop) (s:St):Prop:=
 ∃res,iw res∧post res []∧∀(a:Act) (w:World) (C:Ctx),SR E C s a w→∃u,(results fn a.tmps).run P w=.ok u w∧R w C res u
def akK (P:Program) (E:VC) (fn:Func) (post:AV→List aC→Prop) (e:Exit) (s:St):Prop:=
 match e with
 | .normal| .ret=>adH P E fn post s
 |_=>False
theorem tX {P:Program} {f:FuncId} {fn:Func} {c:Code} {N:Nat} {args:List AV} {post:AV→List aC→Prop} (hf:P.funcs[f]? =some fn) (hb:fn.body=some c) (hN:fn.ntmps=N) (hargs:args.length≤N)
  (h:∀w0 X hL,VD P ⟨w0,fun _=>False,X,N,0,C0 X,hL,fun _ _ h=>h⟩ c ⟨jf args,fun _=>.free⟩ (akK P ⟨w0,fun _=>False,X,N,0,C0 X,hL,fun _ _ h=>h⟩ fn post)):l7 P f args post:=by
 intro w X vs hsz hX hL hrel;refine calls_of_wp hf hb ?_
 have hs:SR ⟨w,fun _=>False,X,N,0,C0 X,hL,fun _ _ h=>h⟩ (C0 X) ⟨jf args,fun _=>.free⟩ { tmps:=vs++Array.replicate (fn.ntmps-vs.size) undef,defers:=[] } w:=by
  refine ⟨by simp;omega,rfl,fun t ht=>?_,⟨(fun id o h=>by cases h),(fun id o b h=>by cases h),(fun i i' o1 o2 b h=>by cases h),(fun id h=>h.elim),hX⟩,Fr.refl _ _,(fun id o b h=>by cases h),fun b h=>h,fun b _ h=>.inl h,fun i hi=>absurd hi (Nat.not_lt_zero i),hX⟩;show R w (C0 X) (jf args t) _;rw [aeG];by_cases l8:t<args.length
  ·rw [List.getElem?_eq_getElem l8];have:=hrel t _ (List.getElem?_eq_getElem l8)
   have e:(vs++Array.replicate (fn.ntmps-vs.size) undef).getD t undef=vs.getD t undef:=by
    simp [Array.getElem?_append_left,show t<vs.size by omega]
   rw [e];exact this
  ·rw [List.getElem?_eq_none (by omega)];exact .any _
 refine wp_mono (h w X hL _ w ⟨_,hs⟩) ?_;rintro e a' w' ⟨s,⟨C,hs'⟩,hq⟩
 have key:adH P ⟨w,fun _=>False,X,N,0,C0 X,hL,fun _ _ h=>h⟩ fn post s→bodyPost P fn (vv w X post) .ret a' w':=by
  rintro ⟨res,hno,hpost,hrun⟩;obtain ⟨u,hu,hR⟩:=hrun a' w' C hs';refine ⟨hs'.defers,_,hu,?_⟩
  let C2:Ctx:=⟨fun _=>none,fun _=>0,fun _=>0,fun _=>False,C.own⟩
  have h2:=R.map (C:=C) (C2:=C2) (σ:=id) (p:=fun _=>False) (ro:=True) (fun _ h=>h.elim) (fun _ b hb=>hb) hR hno;rw [jy hno] at h2;refine ⟨u,C2,res,[],rfl,hpost,hs'.fr,h2,⟨(fun i o h=>by cases h),(fun i o b h hb=>by cases h),(fun i i' o1 o2 b h1 h2 h3 h4=>by cases h1),(fun i hi=>hi.elim),hs'.obj.bnd⟩,(fun i b hi hb=>by cases hb),hs'.keep,fun b hb ho=>?_⟩;rcases hs'.WE b hb ho with h|h
  ·exact h
  ·exact h.elim
 cases e with
 |normal=>exact key hq
 |ret=>exact key hq
 |_=>exact hq.elim
section
variable {P:Program} {E:VC}
theorem Aj {C:Ctx} {s:St} {a:Act} {w:World} (hs:SR E C s a w) {p t n:Nat} {av:AV} {cells cs:List AV} (hp:Nat.blt p E.N=true) (hb:V0 P t=some true) (hsz:(P.info? t).map (·.size)=some n) (hx:s.env p=av) (hc:aB s.ob av=some cells) (hl:n≤cells.length) (hcs:cells.take n=cs):
  ∃ad u,a.tmps.getD p undef=.pointer (some ad)∧(loadVar t ad).run P w=.ok u w∧R w C (.agg cs) u:=by
 subst hx;subst hcs;obtain ⟨ad,Wd,hc⟩:=hs.cells (hs.env p (aS hp)) hc
 have hcell:∀j,j<n→w.cell? (ad.add j)=some ((w.cell? (ad.add j)).getD undef):=fun j hj=>by
  obtain ⟨u,hu,_⟩:=hc j _ (List.getElem?_eq_getElem (by omega));rw [hu];rfl
 have hrun:=run_loadCells (P:=P) w ad n (fun j=>(w.cell? (ad.add j)).getD undef) hcell;refine ⟨ad,.agg ((List.range n).map fun j=>(w.cell? (ad.add j)).getD undef).toArray,Wd,?_,.agg _ _ ?_ fun j c hj=>?_⟩
 ·simp [loadVar,oJ hb,run_sizeOf hsz,hrun]
 ·simp;omega
 ·have hj':j<n:=by
   have:=(List.getElem?_eq_some_iff.1 hj).1;simp at this;omega
  rw [List.getElem?_take,if_pos hj'] at hj;obtain ⟨u,hu,_,hr⟩:=hc j c hj;simpa [hj',hu] using hr
theorem BK {fn:Func} {s:St} {p t n:Nat} {av:AV} {cells cs:List AV} {res:AV} (hres:fn.results= #[.cell p t]) (hp:Nat.blt p E.N=true) (hb:V0 P t=some true) (hsz:(P.info? t).map (·.size)=some n) (hx:s.env p=av) (hc:aB s.ob av=some cells) (hl:n≤cells.length) (hcs:cells.take n=cs) (jS:AV.agg cs=res) [hno:W6 res]:
  adH P E fn (fun r n=>r=res∧n=[]) s:=by
 subst jS;refine ⟨_,hno.out,⟨rfl,rfl⟩,fun a w C hs=>?_⟩;obtain ⟨ad,u,h1,h2,h3⟩:=Aj (P:=P) hs hp hb hsz hx hc hl hcs;rw [Array.getD_eq_getD_getElem?] at h1;exact ⟨u,by simp [results,hres,asAddr,h1,h2],h3⟩
theorem A_ {fn:Func} {s:St} {p t n q:Nat} {av a2:AV} {cells cs:List AV} {res:AV} (hres:fn.results= #[.cell p t,.tmp q]) (hp:Nat.blt p E.N=true) (hb:V0 P t=some true) (hsz:(P.info? t).map (·.size)=some n) (hx:s.env p=av) (hc:aB s.ob av=some cells) (hl:n≤cells.length) (hcs:cells.take n=cs)
  (hq:Nat.blt q E.N=true) (hx2:s.env q=a2) (jS:AV.Vm [.agg cs,a2]=res) [hno:W6 res]:
  adH P E fn (fun r n=>r=res∧n=[]) s:=by
 subst jS;refine ⟨_,hno.out,⟨rfl,rfl⟩,fun a w C hs=>?_⟩;obtain ⟨ad,u,h1,h2,h3⟩:=Aj (P:=P) hs hp hb hsz hx hc hl hcs;rw [Array.getD_eq_getD_getElem?] at h1;have h4:=hs.env q (aS hq);rw [hx2,Array.getD_eq_getD_getElem?] at h4;refine ⟨.tuple #[u,(a.tmps[q]?).getD undef],by simp [results,hres,asAddr,h1,h2],.Vm _ _ rfl fun j c hj=>?_⟩
 match j,hj with
 |0,hj=>simp at hj;subst hj;exact h3
 |1,hj=>simp at hj;subst hj;exact h4
 |j+2,hj=>simp at hj
end
def Vq (n:Int):Nat:=FloatKind.f64.nearest n
def dK (op:BinOp) (x y:Nat):Option Nat:=match op with
 | .add=>FloatKind.f64.format.add x y
 | .sub=>FloatKind.f64.format.sub x y
 | .mul=>FloatKind.f64.format.mul x y
 | .quo=>FloatKind.f64.format.div x y
 |_=>none
def pY (x y:Nat):Bool:=FloatKind.f64.format.order (Op.Complex.abs x) (Op.Complex.abs y)==some .gt||FloatKind.f64.format.order (Op.Complex.abs x) (Op.Complex.abs y)==some .eq
def XT (op:BinOp) (x y:Nat×Nat):Option (Nat×Nat):=match op with
 | .add| .sub=>do
  let a ←dK op x.1 y.1
  let b ←dK op x.2 y.2
  pure (a,b)
 | .mul=>do
  let ac ←dK .mul x.1 y.1
  let bd ←dK .mul x.2 y.2
  let e ←dK .sub ac bd
  let ad ←dK .mul x.1 y.2
  let bc ←dK .mul x.2 y.1
  let f ←dK .add ad bc
  pure (e,f)
 | .quo=>do
  guard (pY y.1 y.2)
  let ratio ←dK .quo y.2 y.1
  let m ←dK .mul ratio y.2
  let denom ←dK .add y.1 m
  let e1 ←dK .mul x.2 ratio
  let e2 ←dK .add x.1 e1
  let e ←dK .quo e2 denom
  let f1 ←dK .mul x.1 ratio
  let f2 ←dK .sub x.2 f1
  let f ←dK .quo f2 denom
  if Op.Complex.isNaN e then none else pure (e,f)
 |_=>none
def cx (op:BinOp) (x y:Nat×Nat):Nat×Nat:=(XT op x y).getD (0,0)
section
variable {P:Program}
theorem gy {op:BinOp} {x y r:Nat} (h:dK op x y=some r) (w:World):(Op.Complex.arith op .f64 x y).run P w=.ok r w:=by
 cases op<;>first|(simp only [dK] at h;simp [Op.Complex.arith,Op.floatArith,h];done)|(simp [dK] at h;done)
theorem Ak (x:Nat) (w:World):(Op.Complex.conv .f64 x .f64).run P w=.ok x w:=by simp [Op.Complex.conv]
theorem agD (op:BinOp) (x y:Nat) (w:World) (b:Bool) (h:∀w,(Op.floatCmp op .f64 x y).run P w=.ok (.bool b) w):(Op.Complex.cmp op .f64 x y).run P w=.ok b w:=by simp [Op.Complex.cmp,h,asBool]
theorem zN {op:BinOp} (hop:op=.add∨op=.sub) {x1 x2 y1 y2 a b:Nat} (h1:dK op x1 y1=some a) (h2:dK op x2 y2=some b) (w:World):(Op.complexOp op .f64 x1 x2 y1 y2).run P w=.ok (.complex .f64 a b) w:=by
 rcases hop with rfl|rfl<;>simp only [Op.complexOp,Sem.run_bind,gy h1,gy h2,Result.andThen_ok]<;>rfl
theorem ajr {x1 x2 y1 y2 ac bd e ad bc f:Nat} (h1:dK .mul x1 y1=some ac) (h2:dK .mul x2 y2=some bd) (h3:dK .sub ac bd=some e) (h4:dK .mul x1 y2=some ad) (h5:dK .mul x2 y1=some bc) (h6:dK .add ad bc=some f) (w:World):
  (Op.complexOp .mul .f64 x1 x2 y1 y2).run P w=.ok (.complex .f64 e f) w:=by
 have hp:(Op.Complex.product x1 x2 y1 y2).run P w=.ok (e,f) w:=by
  simp only [Op.Complex.product,Op.Complex.mul,Op.Complex.add,Op.Complex.sub,Sem.run_bind,gy h1,gy h2,gy h3,gy h4,gy h5,gy h6,Result.andThen_ok];rfl
 simp only [Op.complexOp,Sem.run_bind,Ak,Result.andThen_ok,beq_self_eq_true,if_true,hp];rfl
theorem ajY {x y:Nat} (h:pY x y=true) (w:World):(Op.Complex.cmp .geq .f64 (Op.Complex.abs x) (Op.Complex.abs y)).run P w=.ok true w:=agD .geq _ _ w true fun w=>by
 unfold pY at h;simp only [Op.floatCmp,h];rfl
theorem Al (z:Nat) (w:World):(Op.Complex.cmp .eql .f64 z 0).run P w=.ok (FloatKind.f64.format.order z 0==some .eq) w:=agD .eql _ _ w _ fun w=>rfl
theorem ajs {a b c d ra m de e1 e2 e f1 f2 f:Nat} (h0:pY c d=true) (h1:dK .quo d c=some ra) (h2:dK .mul ra d=some m) (h3:dK .add c m=some de) (h4:dK .mul b ra=some e1) (h5:dK .add a e1=some e2) (h6:dK .quo e2 de=some e) (h7:dK .mul a ra=some f1) (h8:dK .sub b f1=some f2) (h9:dK .quo f2 de=some f) (h10:Op.Complex.isNaN e=false) (w:World):
  (Op.complexOp .quo .f64 a b c d).run P w=.ok (.complex .f64 e f) w:=by
 have hp:(Op.Complex.quotient a b c d).run P w=.ok (e,f) w:=by
  unfold Op.Complex.quotient;simp only [Op.Complex.mul,Op.Complex.add,Op.Complex.sub,Op.Complex.quo,Sem.run_bind,ajY h0,gy h1,gy h2,gy h3,gy h4,gy h5,gy h6,gy h7,gy h8,gy h9,Result.andThen_ok,Al,h10,Bool.false_and,Bool.not_false,if_true,Sem.run_pure]
  try (split<;>simp only [Sem.run_bind,Sem.run_pure,Result.andThen_ok,Al,h10,Bool.false_and,Bool.not_false,if_true])
 simp only [Op.complexOp,Sem.run_bind,Ak,Result.andThen_ok,if_neg (show ¬((BinOp.quo==BinOp.mul)=true) from by decide),hp];rfl
theorem Kh {op:BinOp} {x y r:Nat×Nat} (h:XT op x y=some r) (w:World):(Op.complexOp op .f64 x.1 x.2 y.1 y.2).run P w=.ok (.complex .f64 r.1 r.2) w:=by
 cases op<;>first|(simp [XT] at h;done)|simp only [XT] at h
 ·obtain ⟨a,h1,h⟩:=Option.bind_eq_some_iff.1 h;obtain ⟨b,h2,h⟩:=Option.bind_eq_some_iff.1 h;obtain rfl:=Option.some.inj h;exact zN (.inl rfl) h1 h2 w
 ·obtain ⟨a,h1,h⟩:=Option.bind_eq_some_iff.1 h;obtain ⟨b,h2,h⟩:=Option.bind_eq_some_iff.1 h;obtain rfl:=Option.some.inj h;exact zN (.inr rfl) h1 h2 w
 ·obtain ⟨ac,h1,h⟩:=Option.bind_eq_some_iff.1 h;obtain ⟨bd,h2,h⟩:=Option.bind_eq_some_iff.1 h;obtain ⟨e,h3,h⟩:=Option.bind_eq_some_iff.1 h;obtain ⟨ad,h4,h⟩:=Option.bind_eq_some_iff.1 h;obtain ⟨bc,h5,h⟩:=Option.bind_eq_some_iff.1 h;obtain ⟨f,h6,h⟩:=Option.bind_eq_some_iff.1 h;obtain rfl:=Option.some.inj h;exact ajr h1 h2 h3 h4 h5 h6 w
 ·cases hg:pY y.1 y.2 with
  |false=>rw [hg] at h;cases h
  |true=>
   rw [hg] at h;obtain ⟨_,h0,h⟩:=Option.bind_eq_some_iff.1 h;obtain ⟨ra,h1,h⟩:=Option.bind_eq_some_iff.1 h;obtain ⟨m,h2,h⟩:=Option.bind_eq_some_iff.1 h;obtain ⟨de,h3,h⟩:=Option.bind_eq_some_iff.1 h;obtain ⟨e1,h4,h⟩:=Option.bind_eq_some_iff.1 h;obtain ⟨e2,h5,h⟩:=Option.bind_eq_some_iff.1 h;obtain ⟨e,h6,h⟩:=Option.bind_eq_some_iff.1 h;obtain ⟨f1,h7,h⟩:=Option.bind_eq_some_iff.1 h;obtain ⟨f2,h8,h⟩:=Option.bind_eq_some_iff.1 h;obtain ⟨f,h9,h⟩:=Option.bind_eq_some_iff.1 h
   cases hn:Op.Complex.isNaN e with
   |true=>rw [hn] at h;cases h
   |false=>
    rw [hn] at h;obtain rfl:=Option.some.inj h;exact ajs hg h1 h2 h3 h4 h5 h6 h7 h8 h9 hn w
theorem run_complex (ty:Array TypeId) (t:TypeId) (a b:Nat) (w:World):(Builtin.complex_ ty t #[.float .f64 a,.float .f64 b]).run P w=.ok (.complex .f64 a b) w:=rfl
end
section
variable {P:Program} {E:VC} {st:St} {K:St→Prop}
theorem Xt {o:Oper} {op:BinOp} {t t':TypeId} {x y:Operand} {d:Nat} (X Y:Nat×Nat) (ho:o.op=.binOp op t x y t') (hd:o.dst=some d) (hN:(aT E.N x&&aT E.N y&&Nat.blt d E.N)=true)
  (hx:aO st.env x=.v (.complex .f64 X.1 X.2)) (hy:aO st.env y=.v (.complex .f64 Y.1 Y.2)) (hop:op=.add∨op=.sub∨op=.mul∨op=.quo) (hs:(XT op X Y).isSome=true)
  (h:K ⟨upd st.env d (.v (.complex .f64 (cx op X Y).1 (cx op X Y).2)),st.ob⟩):Vo P E o st K:=by
 obtain ⟨r,hr⟩:=Option.isSome_iff_exists.1 hs;have hc:cx op X Y=r:=by simp [cx,hr]
 rw [hc] at h;refine abK ho hd hN hx hy (fun w=>?_) h;have:=Kh (P:=P) hr w;rcases hop with rfl|rfl|rfl|rfl<;>simpa [eqGuard,binOp] using this
theorem tY {o:Oper} {s t:TypeId} {x:Operand} {d:Nat} {k:IntKind} {n:Int} (ho:o.op=.convert s t x) (hd:o.dst=some d) (hN:(aT E.N x&&Nat.blt d E.N)=true)
  (hs0:P.underlying s=some (.int k)) (ht:P.underlying t=some (.float .f64)) (hx:aO st.env x=.v (.int k n)) (h:K ⟨upd st.env d (.v (.float .f64 (Vq n))),st.ob⟩):Vo P E o st K:=by
 simp only [Bool.and_eq_true] at hN;refine W4 (.v (.float .f64 (Vq n))) (fun d' hd'=>by rw [hd] at hd';cases hd';exact aS hN.2) (fun a w C hs=>⟨.float .f64 (Vq n),?_,.v _⟩) (by rw [hd];exact h);have h1:=hs.ev x hN.1;rw [hx] at h1;simp [execOp,ho,h1.dM,convert,run_underlying hs0,run_underlying ht,Conv.intToFloat,Vq]
theorem yX {o:Oper} {c:Call} {ty:Array TypeId} {x y:Operand} {d a b:Nat} (ho:o.op=.call c) (hc:c={ callee:=.builtin .complex,args:= #[x,y],argTypes:=ty }) (hd:o.dst=some d)
  (hN:(aT E.N x&&aT E.N y&&Nat.blt d E.N)=true) (hx:aO st.env x=.v (.float .f64 a)) (hy:aO st.env y=.v (.float .f64 b)) (h:K ⟨upd st.env d (.v (.complex .f64 a b)),st.ob⟩):Vo P E o st K:=by
 subst hc;simp only [Bool.and_eq_true] at hN;refine W4 (.v (.complex .f64 a b)) (fun d' hd'=>by rw [hd] at hd';cases hd';exact aS hN.2) (fun a' w C hs=>⟨_,?_,.v _⟩) (by rw [hd];exact h);have h1:=hs.ev x hN.1.1;have h2:=hs.ev y hN.1.2;rw [hx] at h1;rw [hy] at h2;simp [execOp,ho,resolve,invoke,builtin,run_complex,h1.dM,h2.dM]
theorem ai6 {o:Oper} {c:Call} {ty:Array TypeId} {x y:Operand} {d a b:Nat} (ho:o.op=.call c) (hc:c={ callee:=.builtin .complex,args:= #[x,y],argTypes:=ty }) (hd:o.dst=some d)
  (hN:(aT E.N x&&aT E.N y&&Nat.blt d E.N)=true) (hx:aO st.env x=.v (.float .f64 a)) (hy:aO st.env y=.v (.float .f64 b)) (h:K ⟨upd st.env d .one,st.ob⟩):Vo P E o st K:=by
 subst hc;simp only [Bool.and_eq_true] at hN;refine W4 .one (fun d' hd'=>by rw [hd] at hd';cases hd';exact aS hN.2) (fun a' w C hs=>⟨.complex .f64 a b,?_,.one _ rfl⟩) (by rw [hd];exact h);have h1:=hs.ev x hN.1.1;have h2:=hs.ev y hN.1.2;rw [hx] at h1;rw [hy] at h2;simp [execOp,ho,resolve,invoke,builtin,run_complex,h1.dM,h2.dM]
theorem uT {o:Oper} {t t':TypeId} {x y:Operand} {d:Nat} {k k':IntKind} {a:Int} {n:Nat} (ho:o.op=.binOp .shr t x y t') (hd:o.dst=some d) (hN:(aT E.N x&&aT E.N y&&Nat.blt d E.N)=true)
  (hx:aO st.env x=.v (.int k a)) (hy:aO st.env y=.v (.int k' (n:Int))) (hn:n≤k.bits) (h:K ⟨upd st.env d (.v (.int k (a.fdiv (2 ^ n)))),st.ob⟩):Vo P E o st K:=
 abK ho hd hN hx hy (fun w=>by
  have h1:¬((n:Int)<0):=by omega
  simp [eqGuard,binOp,Op.shift,h1,Nat.min_eq_left hn]) h
theorem agf {o:Oper} {t e:TypeId} {x ix:Operand} {d n sz:Nat} {k:IntKind} {i:Nat} {cells:List AV} (ho:o.op=.indexAddr t x ix) (hd:o.dst=some d) (hN:(aT E.N x&&aT E.N ix&&Nat.blt d E.N)=true)
  (ht:P.underlying t=some (.array n e)) (hsz:(P.info? e).map (·.size)=some sz) (hx:aO st.env x=.rp cells) (hi:aO st.env ix=.v (.int k (i:Int))) (h1:i<n)
  (h:K ⟨upd st.env d (.rp (cells.drop (i*sz))),st.ob⟩):Vo P E o st K:=by
 simp only [Bool.and_eq_true] at hN;refine W4 _ (fun d' hd'=>by rw [hd] at hd';cases hd';exact aS hN.2) (fun a w C hs=>?_) (by rw [hd];exact h);have hx1:=hs.ev x hN.1.1;rw [hx] at hx1;have hi1:=hs.ev ix hN.1.2;rw [hi] at hi1;have hi2:=hi1.dM;generalize Wd:a.eval x=ux at hx1;have h0:(0:Int)≤(i:Int):=by omega
 have h1':(i:Int)<(n:Int):=by omega
 cases hx1 with
 |rp ad cells us hcell hrel=>
  refine ⟨.pointer (some (ad.add (i*sz))),?_,.rp _ _ (fun j=>us (i*sz+j)) (fun j hj=>?_) (fun j av hj=>?_)⟩
  ·simp [execOp,ho,Wd,hi2,Instr.indexAt,Instr.sureAddr,asIntOf,run_underlying ht,h1,run_sizeOf hsz]
  ·simp only [List.length_drop] at hj;obtain ⟨h2,h3,h4⟩:=hcell (i*sz+j) (by omega);exact ⟨by rw [add_block];exact h2,by rw [add_add];exact h3,h4⟩
  ·rw [List.getElem?_drop] at hj;exact hrel _ _ hj
end
end Go.Lo
set_option linter.unusedVariables false
set_option linter.unusedSimpArgs false
namespace Go.Lo
def nN (P:Program) (t:TypeId):Option (TypeId×TypeId):=
 match P.underlying t with
 |some (.struct fs)=>match fs.toList with
  | [f,g]=>if f.name != "_" &&g.name != "_" &&f.offset==0&&g.offset==1&& !P.stoodInHeld t&& !P.eqGuardType P.depth t then some (f.type,g.type) else none
  |_=>none
 |_=>none
section
variable {P:Program} {E:VC} {st:St} {K:St→Prop}
theorem run_program (w:World):(program).run P w=.ok P w:=rfl
theorem Am {t:TypeId} (hb:V0 P t=some false) {cs:Array Value} {off:Nat} {v:Value} (h:cs[off]? =some v) (w:World):(part t cs off).run P w=.ok v w:=by
 simp [part,oJ hb,h]
theorem y5 {t:TypeId} {k:IntKind} (ht:P.underlying t=some (.int k)) (d:Nat) (a b:Int) (w:World):(Op.equalIn (d+1) t (.int k a) (.int k b)).run P w=.ok (a==b) w:=by
 simp [Op.equalIn,run_underlying ht]
theorem zO {t e1 e2:TypeId} (h:nN P t=some (e1,e2)):∃f g,P.underlying t=some (.struct #[f,g])∧f.name≠ "_" ∧g.name≠ "_" ∧f.offset=0∧g.offset=1∧P.stoodInHeld t=false∧P.eqGuardType P.depth t=false∧f.type=e1∧g.type=e2:=by
 unfold nN at h
 split at h
 ·rename_i fs hu
  split at h
  case h_2=>cases h
  rename_i f g hfs;have Np:fs= #[f,g]:=by rw [←hfs]
  subst Np
  split at h
  ·rename_i hc;simp only [Bool.and_eq_true,bne_iff_ne,beq_iff_eq,Bool.not_eq_true'] at hc;simp only [Option.some.injEq,Prod.mk.injEq] at h;exact ⟨f,g,hu,hc.1.1.1.1.1,hc.1.1.1.1.2,hc.1.1.1.2,hc.1.1.2,hc.1.2,hc.2,h.1,h.2⟩
  ·cases h
 ·cases h
theorem FY {t e1 e2:TypeId} {k1 k2:IntKind} (h:nN P t=some (e1,e2)) (h1:P.underlying e1=some (.int k1)) (h2:P.underlying e2=some (.int k2)) (ha1:V0 P e1=some false) (ha2:V0 P e2=some false) (d:Nat) (a b a' b':Int) (w:World):
  (Op.equalIn (d+2) t (.agg #[.int k1 a,.int k2 b]) (.agg #[.int k1 a',.int k2 b'])).run P w=.ok (decide (a=a'∧b=b')) w:=by
 obtain ⟨f,g,hu,n1,n2,o1,o2,s1,s2,rfl,rfl⟩:=zO h;have p1:∀x y w,(part f.type #[.int k1 x,.int k2 y] f.offset).run P w=.ok (.int k1 x) w:=fun x y w=>Am ha1 (by rw [o1];rfl) w;have p2:∀x y w,(part g.type #[.int k1 x,.int k2 y] g.offset).run P w=.ok (.int k2 y) w:=fun x y w=>Am ha2 (by rw [o2];rfl) w;have e1:=fun x y w=>y5 (P:=P) h1 d x y w;have e2:=fun x y w=>y5 (P:=P) h2 d x y w;rw [Op.equalIn];simp only [Sem.run_bind,run_underlying hu,Result.andThen_ok,run_program,s1];by_cases ha:a=a'<;>by_cases hb:b=b'<;>simp [n1,n2,p1,p2,e1,e2,ha,hb]
theorem ajZ {t e1 e2:TypeId} {k1 k2:IntKind} (h:nN P t=some (e1,e2)) (h1:P.underlying e1=some (.int k1)) (h2:P.underlying e2=some (.int k2)) (ha1:V0 P e1=some false) (ha2:V0 P e2=some false) (x y:Operand) (a b a' b':Int) (w:World):
  (do eqGuard .eql t x y (.agg #[.int k1 a,.int k2 b]) (.agg #[.int k1 a',.int k2 b']);binOp .eql t (.agg #[.int k1 a,.int k2 b]) (.agg #[.int k1 a',.int k2 b']):Sem Value).run P w=.ok (.bool (decide (a=a'∧b=b'))) w∧
  (do eqGuard .neq t x y (.agg #[.int k1 a,.int k2 b]) (.agg #[.int k1 a',.int k2 b']);binOp .neq t (.agg #[.int k1 a,.int k2 b]) (.agg #[.int k1 a',.int k2 b']):Sem Value).run P w=.ok (.bool (!decide (a=a'∧b=b'))) w:=by
 obtain ⟨f,g,hu,n1,n2,o1,o2,s1,s2,_,_⟩:=zO h;have he:∀w,(Op.equal t (.agg #[.int k1 a,.int k2 b]) (.agg #[.int k1 a',.int k2 b'])).run P w=.ok (decide (a=a'∧b=b')) w:=fun w=>FY h h1 h2 ha1 ha2 9998 a b a' b' w;constructor
 ·simp [eqGuard,binOp,run_program,s2,he]
 ·simp [eqGuard,binOp,run_program,s2,he]
theorem C8 {w:World} {C:Ctx} {u:Value} {k1 k2:IntKind} {a b:Int} (h:R w C (.agg [.v (.int k1 a),.v (.int k2 b)]) u):u=.agg #[.int k1 a,.int k2 b]:=by
 cases h with
 |agg _ us hs hr=>
  have h0:=(hr 0 _ rfl).dM;have h1:=(hr 1 _ rfl).dM
  congr 1
  apply Array.ext
  ·simpa using hs
  ·intro i hi hj;have:us.size=2:=hs
   match i with
   |0=>simpa [this] using h0
   |1=>simpa [this] using h1
   |i+2=>omega
theorem zT {o:Oper} {op:BinOp} {t t' e1 e2:TypeId} {x y:Operand} {d:Nat} {k1 k2:IntKind} {a b a' b':Int} {r:Bool} (ho:o.op=.binOp op t x y t') (hd:o.dst=some d) (hN:(aT E.N x&&aT E.N y&&Nat.blt d E.N)=true)
  (hx:aO st.env x=.agg [.v (.int k1 a),.v (.int k2 b)]) (hy:aO st.env y=.agg [.v (.int k1 a'),.v (.int k2 b')]) (h:nN P t=some (e1,e2)) (h1:P.underlying e1=some (.int k1)) (h2:P.underlying e2=some (.int k2)) (ha1:V0 P e1=some false) (ha2:V0 P e2=some false)
  (hr:(op=.eql∧r=decide (a=a'∧b=b'))∨(op=.neq∧r= !decide (a=a'∧b=b'))) (hk:K ⟨upd st.env d (.v (.bool r)),st.ob⟩):Vo P E o st K:=by
 simp only [Bool.and_eq_true] at hN;refine W4 (.v (.bool r)) (fun d' hd'=>by rw [hd] at hd';cases hd';exact aS hN.2) (fun ac w C hs=>⟨.bool r,?_,.v _⟩) (by rw [hd];exact hk);have g1:=hs.ev x hN.1.1;have g2:=hs.ev y hN.1.2;rw [hx] at g1;rw [hy] at g2;have hrun:=ajZ h h1 h2 ha1 ha2 x y a b a' b' w;rw [←C8 g1, ←C8 g2] at hrun;rcases hr with ⟨rfl,rfl⟩|⟨rfl,rfl⟩
 ·have:=hrun.1;simp only [execOp,ho,Sem.run_bind] at this ⊢;rw [this];rfl
 ·have:=hrun.2;simp only [execOp,ho,Sem.run_bind] at this ⊢;rw [this];rfl
end
end Go.Lo
set_option linter.unusedVariables false
set_option linter.unusedSimpArgs false
namespace Go.Lo
theorem qK {E:VC} {s:St} (i j id e z:Nat) {o:aC} (hl:s.ob i=.live o) (hj:o.cells[j]? =some (.v (.slice none 0 0))) (hf:s.ob id=.free) {cells':List AV} (hc:o.cells.set j (.sl id 0 0)=cells'):
  Vv E s ⟨s.env,U4 (U4 s.ob i (.live ⟨cells',o.elem,o.bC⟩)) id (.live ⟨[],e,z⟩)⟩:=by
 rintro a w ⟨C,hs⟩;subst hc;have hdom:¬C.dom id:=fun h=>hs.obj.dom id h hf;have hii:i≠id:=fun h=>by subst h;rw [hf] at hl;cases hl
 have hext:Ext w C w (C.add id none 0 z):=Ext.add hdom (fun x hx=>by cases hx) (fun _ _ _=>rfl)
 have hlive:∀id' o',U4 (U4 s.ob i (.live ⟨o.cells.set j (.sl id 0 0),o.elem,o.bC⟩)) id (.live ⟨[],e,z⟩) id'=.live o'→(id'=id∧o'=⟨[],e,z⟩)∨(id'≠id∧∃o2,s.ob id'=.live o2∧o'.elem=o2.elem∧o'.bC=o2.bC∧o'.cells.length=o2.cells.length∧∀(k:Nat) (av:AV),o'.cells[k]? =some av→o2.cells[k]? =some av∨(av=.sl id 0 0∧o2.cells[k]? =some (.v (.slice none 0 0)))):=fun id' o' h=>by
  by_cases he:id'=id
  ·subst he;rw [V9] at h;cases h;exact .inl ⟨rfl,rfl⟩
  ·rw [VX _ _ he] at h;refine .inr ⟨he,?_⟩;by_cases h2:id'=i
   ·subst h2;rw [V9] at h
    cases h
    refine ⟨o,hl,rfl,rfl,by simp,fun k av hk=>?_⟩;by_cases hkj:j=k
    ·subst hkj;rw [List.getElem?_set_self (List.getElem?_eq_some_iff.1 hj).1] at hk
     cases hk
     exact .inr ⟨rfl,hj⟩
    ·rw [List.getElem?_set_ne hkj] at hk;exact .inl hk
   ·rw [VX _ _ h2] at h;exact ⟨o',h,rfl,rfl,rfl,fun k av hk=>.inl hk⟩
 refine ⟨C.add id none 0 z,hs.size,hs.defers,fun t ht=>(hs.env t ht).ext hext,⟨fun id' o' h=>?_,fun id' o' b h hb=>?_,fun i1 i2 o1 o2 b h1 h2 h3 h4=>?_,fun i1 hi=>?_,fun b hb=>?_⟩,hs.fr,fun id' o' b h hb=>?_,fun b hb=>.inr (hs.keep b hb),fun b hb ho=>?_,hext.init hs.init,hs.X4⟩
 ·rcases hlive id' o' h with ⟨rfl,rfl⟩|⟨hne,o2,h',g1,g2,g3,_⟩
  ·simp [Ctx.add]
  ·obtain ⟨h1,h2,h3⟩:=hs.obj.nil id' o2 h';simp [Ctx.add,hne,h1,h2,g2];intro hb;exact List.eq_nil_of_length_eq_zero (by rw [g3,h3 hb];rfl)
 ·rcases hlive id' o' h with ⟨rfl,rfl⟩|⟨hne,o2,h',g1,g2,g3,g4⟩
  ·simp [Ctx.add] at hb
  ·simp only [Ctx.add,hne,if_false] at hb;obtain ⟨h1,cur',h2,h3,h4,h5⟩:=hs.obj.live id' o2 b h' hb;refine ⟨.inr h1,cur',by rw [g1];exact h2,by simp [Ctx.add,hne,h3],by omega,fun k av hk=>?_⟩;rcases g4 k av hk with g|⟨rfl,g⟩
   ·obtain ⟨x,hx,h6,hr⟩:=h5 k av g;exact ⟨x,hx,h6,hr.ext hext⟩
   ·obtain ⟨x,hx,h6,hr⟩:=h5 k _ g;refine ⟨x,hx,h6,?_⟩;rw [hr.dM];exact .slnil id (.inl rfl) (by simp [Ctx.add])
 ·rcases hlive i1 o1 h1 with ⟨rfl,rfl⟩|⟨hne,p1,h1',_⟩
  ·simp [Ctx.add] at h3
  ·rcases hlive i2 o2 h2 with ⟨rfl,rfl⟩|⟨hne',p2,h2',_⟩
   ·simp [Ctx.add] at h4
   ·simp only [Ctx.add,hne,if_false] at h3;simp only [Ctx.add,hne',if_false] at h4;exact hs.obj.inj i1 i2 p1 p2 b h1' h2' h3 h4
 ·show U4 _ id _ i1≠_;by_cases he:i1=id
  ·subst he;rw [V9];intro h;cases h
  ·rw [VX _ _ he];by_cases h2:i1=i
   ·subst h2;rw [V9];intro h;cases h
   ·rw [VX _ _ h2];rcases hi with hi|hi
    ·exact absurd hi he
    ·exact hs.obj.dom i1 hi
 ·rcases hb with hb|hb
  ·cases hb
  ·exact hs.obj.bnd b hb
 ·rcases hlive id' o' h with ⟨rfl,rfl⟩|⟨hne,o2,h',_⟩
  ·simp [Ctx.add] at hb
  ·simp only [Ctx.add,hne,if_false] at hb;exact hs.fresh id' o2 b h' hb
 ·rcases ho with ho|ho
  ·cases ho
  ·exact hs.WE b hb ho
section
variable {P:Program} {E:VC} {st:St} {Q:Exit→St→Prop}
theorem F3 {c:Code} (I:Nat→St) (Inv:Nat→Prop) (n:Nat) (h0:VD P E c st (ZJ (fun s=>Inv 0∧Vv E s (I 0)) Q))
  (round:∀k,k≤n→Inv k→VD P E c (I k) (ZJ (fun s=>k<n∧Inv (k+1)∧Vv E s (I (k+1))) Q)):VD P E (.loop c) st Q:=by
 refine zK (ι:=Option { k:Nat // k≤n∧Inv k }) (fun o=>match o with|none=>st|some k=>I k.1) (fun o=>match o with|none=>n+1|some k=>n-k.1) none (Vv.refl E st) (fun o=>?_)
 cases o with
 |none=>
  refine VD.mono h0 (fun e s h=>?_)
  cases e with
  |normal=>exact ⟨some ⟨0,Nat.zero_le _,h.1⟩,by show n-0<n+1;omega,h.2⟩
  |_=>exact h
 |some k=>
  refine VD.mono (round k.1 k.2.1 k.2.2) (fun e s h=>?_)
  cases e with
  |normal=>
   obtain ⟨h1,h2,h3⟩:=h;exact ⟨some ⟨k.1+1,h1,h2⟩,by show n-(k.1+1)<n-k.1;omega,h3⟩
  |_=>exact h
end
section
variable {P:Program} {E:VC} {st:St} {Q:Exit→St→Prop}
theorem pF {c y:Code} {Q2:Exit→St→Prop} (mid:St) (hQ:∀s,VD P E y s Q2→Q .normal s) (h1:VD P E c st (ZJ (fun s=>Vv E s mid) Q)) (h2:VD P E y mid Q2):VD P E c st Q:=by
 refine h1.mono fun e s h=>?_
 cases e with
 |normal=>exact hQ s (h2.imp h)
 |_=>exact h
end
theorem G7 {ob:Nat→aH} {id off e z:Nat} {pre:List AV} {x:AV} (h:ob id=.live ⟨pre++[x],e,z⟩) (ho:off=pre.length):aB ob (.pt id off)=some [x]:=by
 subst ho;simp [aB,h]
theorem G8 {pre:List AV} {x y:AV} {off:Nat} (ho:off=pre.length):spl (pre++[x]) off [y]=pre++[y]:=by
 subst ho;simp [spl]
theorem F6 {ob:Nat→aH} {id j e e' z t:Nat} {pre cs:List AV} {n:Nat} (hl:ob id=.live ⟨pre++[.sl j 0 t],e,1⟩) (hj:ob j=.live ⟨cs,e',z⟩) (ht:cs.length=t*z) (hn:n=pre.length+1) [h1:VB pre] [h2:VB cs]:VN ob (.sl id 0 n) (.ro n (pre++[.ro t cs])):=by
 subst hn;refine .sl id 0 _ _ _ hl (by simp) (by simp) (fun i a b ha hb=>?_);simp only [Nat.zero_add] at ha;rcases Nat.lt_or_ge i pre.length with hi|hi
 ·rw [List.getElem?_append_left hi] at ha hb;rw [ha] at hb;cases hb;exact .same a (h1.out a (List.mem_of_getElem? ha))
 ·rw [List.getElem?_append_right hi] at ha hb
  cases hk:i-pre.length with
  |zero=>
   rw [hk] at ha hb;simp at ha hb;subst ha;subst hb;exact ads hj ht h2.out
  |succ k=>rw [hk] at ha;simp at ha
theorem aco {σ:Nat→Nat} {a a' l l':List AV} (h:AV.V4 σ a=a') (k:AV.V4 σ l=l'):AV.V4 σ (a++l)=a'++l':=by
 subst h;subst k;simp [WR]
theorem G9 {ob:Nat→aH} {pre l m:List AV} (h:∀(j:Nat) (a b:AV),l[j]? =some a→m[j]? =some b→Xk ob a b):∀(j:Nat) (a b:AV),(pre++l)[j]? =some a→(pre++m)[j]? =some b→Xk ob a b:=fun j a b ha hb=>by
 rcases Nat.lt_or_ge j pre.length with hj|hj
 ·rw [List.getElem?_append_left hj] at ha hb;rw [ha] at hb;cases hb;exact .inl rfl
 ·rw [List.getElem?_append_right hj] at ha hb;exact h _ a b ha hb
theorem BJ {n m:Nat} (h:n=m+1) (hb:n≤1099511627776):Xv .i64 .sub (n:Int) 1=.int .i64 (m:Int):=by
 subst h;show Value.int .i64 (IntKind.i64.wrap (((m+1:Nat):Int)-1))=_;rw [IntWalk.i64_in _ (by omega)]
 congr 1
 omega
abbrev AV.i (x:Int):AV:=.v (.int .i64 x)
abbrev AV.b (x:Bool):AV:=.v (.bool x)
abbrev AV.q {α:Type} (f:α→List AV) (l:List α):AV:=.ro l.length (enc f l)
theorem lu {e e':Nat→AV} {d:Nat} {av:AV} (hd:e d=av) (h:∀t,e' t=.any∨e' t=e t):∀t,upd e' d av t=.any∨upd e' d av t=e t:=aaz d av hd h
theorem ln {e:Nat→AV}:∀t,none_ t=.any∨none_ t=e t:=z8 e
section
variable {P:Program} {E:VC} {st:St} {Q:Exit→St→Prop}
theorem ES {c:Code} (e':Nat→AV) (o':Nat→aH) (he:∀t,e' t=.any∨e' t=st.env t) (ho:o'=st.ob) (h:VD P E c ⟨e',o'⟩ Q):VD P E c st Q:=VA ⟨e',o'⟩ (vk ⟨he,fun id=>.inl (by rw [ho])⟩) h
end
theorem sS {ps:List (Nat×Nat)} {e e':Nat→AV} {d:Nat} {av:AV} (hd:e d=av) (h:∀t,eG ps (e t) (e' t)) [hn:W6 av]:∀t,eG ps (e t) (upd e' d av t):=akk d av hd hn.out h
theorem sM {ps:List (Nat×Nat)} {e e':Nat→AV} {d:Nat} {av:AV} (hd:(e d).map (rn ps)=av) (h:∀t,eG ps (e t) (e' t)) (hok:Ok (· ∈ps.map (·.1)) True (e d):=by first|exact Ok.sl _ _ _ (by first|decide|simp)|exact Ok.pt _ _ (by first|decide|simp)):∀t,eG ps (e t) (upd e' d av t):=Kg d av hok hd h
theorem Nq {s:St} {e':Nat→AV} (x y:Nat) {o o':aC} (hl:s.ob x=.live o) (WG:o'=o) (he:∀t,eG [(x,y)] (s.env t) (e' t)) [hn:VB o.cells]:LeR [(x,y)] s ⟨e',U4 U5 y (.live o')⟩:=Nj x y o o' hl WG hn.out he
theorem Nr {s:St} {e':Nat→AV} (x y x2 y2:Nat) {o o' o2 iC:aC} (hx:x≠x2) (hy:y≠y2) (hl:s.ob x=.live o) (hl2:s.ob x2=.live o2) (WG:o'=o) (pV:iC=o2) (he:∀t,eG [(x,y),(x2,y2)] (s.env t) (e' t)) [hn:VB o.cells] [hn2:VB o2.cells]:
  LeR [(x,y),(x2,y2)] s ⟨e',U4 (U4 U5 y (.live o')) y2 (.live iC)⟩:=Nl x y x2 y2 o o' o2 iC hx hy hl hl2 WG pV hn.out hn2.out he
end Go.Lo
set_option linter.unusedVariables false
set_option linter.unusedSimpArgs false
namespace Go.Lo
section
variable (P:Program) (E:VC)
def adv (ops:Array Oper) (env:Nat→AV) (VY:(Nat→Bool)→Nat→aH) (xs:List Nat):Nat→List Oper→Prop
 |_,[]=>True
 |i,o::r=>(if i∈xs then o.guard=none∧o.dst=none∧∀b:Nat→Bool,b i=false→∀st:St,st.ob=VY b→(∀t,(o.looksAt ops).elem t=true→st.env t=env t)→Vo P E o st (fun s=>s.env=st.env∧∀id,s.ob id=VY (fun j=>j==i||b j) id)
   else ∀b,Still P E ops env (VY b) o)∧adv ops env VY xs (i+1) r
end
section
variable {P:Program} {E:VC} {ops:Array Oper}
theorem zm {env:Nat→AV} {VY:(Nat→Bool)→Nat→aH} {xs:List Nat}:∀(k:Nat) (l:List Oper),adv P E ops env VY xs k l→∀(i:Nat) (o:Oper),l[i]? =some o→
  (if k+i∈xs then o.guard=none∧o.dst=none∧∀b:Nat→Bool,b (k+i)=false→∀st:St,st.ob=VY b→(∀t,(o.looksAt ops).elem t=true→st.env t=env t)→Vo P E o st (fun s=>s.env=st.env∧∀id,s.ob id=VY (fun j=>j==(k+i)||b j) id)
   else ∀b,Still P E ops env (VY b) o)
 |_,[],_,i,o,h=>by simp at h
 |k,a::r,hst,i,o,h=>by
  cases i with
  |zero=>simp at h;subst h;exact hst.1
  |succ i=>
   have:=zm (k+1) r hst.2 i o (by simpa using h)
   rwa [show k+1+i=k+(i+1) by omega] at this
theorem cu {j i:Nat} (h:j≠i):Nat.beq j i=false:=by
 cases hb:Nat.beq j i with
 |false=>rfl
 |true=>exact absurd (Nat.eq_of_beq_eq_true hb) h
theorem adl {f g:Nat→aH} {i:Nat} {x:aH} (h1:g i=x) (h2:∀j,j≠i→f j=g j):∀id,U4 f i x id=g id:=fun id=>by
 by_cases h:id=i
 ·subst h;rw [V9,h1]
 ·rw [VX _ _ h,h2 id h]
theorem I5 {A B:Prop} {i:Nat} {xs:List Nat} (h:¬i∈xs) (b:B):if i∈xs then A else B:=by rw [if_neg h];exact b
theorem gZ {A B:Prop} {i:Nat} {xs:List Nat} (h:i∈xs) (a:A):if i∈xs then A else B:=by rw [if_pos h];exact a
theorem Fq {Q:Exit→Act→World→Prop} {K:St→Prop} {m:Nat} {env:Nat→AV} {VY:(Nat→Bool)→Nat→aH} {bI:Nat→aH} {xs:List Nat} (jI:∀b b':Nat→Bool,(∀x,x∈xs→b x=b' x)→VY b=VY b') (hfin:∀b:Nat→Bool,(∀i,i<m→b i=true)→VY b=bI) (hq:∀st' a' w',Wm E st' a' w'→K st'→Q .normal a' w') (hm:m≤ops.size)
  (acF:(List.range m).all (aa8 ops m)=true) (hsc:m=ops.size∨(Region.sinkB .any ops m=true∧Region.chainB .any ops m=true)) (hT:lH ops (ops.size-m) m=true)
  (hst:adv P E ops env VY xs 0 (ops.toList.take m)) (htail:VL P E ops (ops.toList.drop m) ⟨env,bI⟩ K) (u:Nat):
  ∀(listed:Array Bool) (a:Act) (w:World),HeadInv .any ops m listed→cnt listed m=u→Wm E ⟨V7 ops m listed env,VY fun i=>listed.getD i false⟩ a w→wpAny P .any ops Q (u+(ops.size-m)) listed a w:=by
 have lU:∀i,i<m→∃o,ops[i]? =some o∧(∀e∈o.after,Region.binds .any e=true→e.on<i)∧∀t,t∈o.looksAt ops→∀j oj,j<m→ops[j]? =some oj→oj.dst=some t→∃e∈o.after,Region.binds .any e=true∧e.on=j:=by
  intro i hi;have h:=List.all_eq_true.1 acF i (List.mem_range.2 hi);unfold aa8 at h
  split at h
  ·rename_i o ho;simp only [Bool.and_eq_true] at h;refine ⟨o,ho,fun e he hb=>?_,fun t ht j oj hj hoj hdt=>?_⟩
   ·have:=Array.all_eq_true'.1 h.1 e he;simpa [hb] using this
   ·have h2:=List.all_eq_true.1 (List.all_eq_true.1 h.2 t ht) j (List.mem_range.2 hj);simp only [hoj,hdt] at h2;have h3:(o.after.any fun e=>Region.binds .any e&&e.on==j)=true:=by simpa using h2
    obtain ⟨e,he,hb⟩:=Array.any_eq_true'.1 h3;simp only [Bool.and_eq_true,beq_iff_eq] at hb;exact ⟨e,he,hb.1,hb.2⟩
  ·cases h
 induction u with
 |zero=>
  intro listed a w inv hc hs;have hall:=uM hc
  have hl:listed=upTo ops.size m:=by
   apply Array.ext_getElem?;intro j;rcases Nat.lt_or_ge j ops.size with hj|hj
   ·rw [oQ hj,Array.getElem?_eq_getElem (by rw [inv.size];exact hj)];rcases Nat.lt_or_ge j m with h1|h1
    ·have:=hall j h1;simp [show j<listed.size by rw [inv.size];exact hj] at this;simp [this,h1]
    ·have:=inv.tail j h1 hj;simp [show j<listed.size by rw [inv.size];exact hj] at this;simp [this];omega
   ·rw [Array.getElem?_eq_none (by rw [inv.size];exact hj),Array.getElem?_eq_none (by rw [abC];exact hj)]
  have wF:(VY fun i=>listed.getD i false)=bI:=hfin _ hall
  have abd:Wm E ⟨env,bI⟩ a w:=by
   rw [wF] at hs;refine hs.le ⟨fun t=>.inr ?_,fun id=>.inl rfl⟩;simp only [V7];rw [if_neg];rintro ⟨j,o,h1,_,_,h2⟩;rw [hall j h1] at h2
   cases h2
  rw [hl,Nat.zero_add];have:=aeA hq (ops.toList.drop m) m ⟨env,bI⟩ a w (fun j=>by simp [List.getElem?_drop]) (by simp;omega) (by simpa using hT) abd htail;simpa using this
 |succ u ih=>
  intro listed a w inv hc hs;rw [show u+1+(ops.size-m)=(u+(ops.size-m))+1 by omega]
  have hun:∃j,j<m∧listed.getD j false=false:=by
   apply Classical.byContradiction;intro hno
   have:∀k,k≤m→cnt listed k=0:=by
    intro k
    induction k with
    |zero=>intro _;rfl
    |succ k ihk=>
     intro hk;simp only [cnt];rw [ihk (by omega)]
     cases hkv:listed.getD k false with
     |true=>simp
     |false=>exact absurd ⟨k,by omega,hkv⟩ hno
   have:=this m (Nat.le_refl _);omega
  have acC:∀n j,j<n→j<m→listed.getD j false=false→Region.ready .any ops listed≠ []:=by
   intro n
   induction n with
   |zero=>intro j h;omega
   |succ n ihn=>
    intro j hj hjm hf;obtain ⟨o,ho,he,_⟩:=lU j hjm;by_cases aaB:∀e∈o.after,Region.binds .any e=true→listed.getD e.on false=true
    ·intro hnil;have:j∈Region.ready .any ops listed:=mem_ready.2 ⟨getD_in (by rw [inv.size];omega) hf,o,ho,aaB⟩;rw [hnil] at this
     cases this
    ·have:∃e∈o.after,Region.binds .any e=true∧listed.getD e.on false=false:=by
      apply Classical.byContradiction;intro hno;apply aaB;intro e he1 he2
      cases hv:listed.getD e.on false with
      |true=>rfl
      |false=>exact absurd ⟨e,he1,he2,hv⟩ hno
     obtain ⟨e,he1,he2,jR⟩:=this;have:=he e he1 he2;exact ihn e.on (by omega) (by omega) jR
  obtain ⟨j0,hj0,hf0⟩:=hun;refine ⟨fun hnil=>absurd hnil (acC (j0+1) j0 (by omega) hj0 hf0),fun i hi=>?_⟩;obtain ⟨pU,oi,hoi,hall⟩:=mem_ready.1 hi;have hin:i<ops.size:=(Array.getElem?_eq_some_iff.1 hoi).1
  have him:i<m:=by
   rcases Nat.lt_or_ge i m with h|h
   ·exact h
   ·rcases hsc with h1|⟨h1,h2⟩
    ·omega
    ·exact absurd hi (tail_waits h1 h2 (by omega) inv _ j0 rfl hj0 (getD_in (by rw [inv.size];omega) hf0) i h)
  have hif:listed.getD i false=false:=getD_both pU;obtain ⟨o',ho',_,acG⟩:=lU i him;rw [hoi] at ho'
  cases ho'
  have hsame:∀t,t∈oi.looksAt ops→V7 ops m listed env t=env t:=by
   intro t ht;simp only [V7];rw [if_neg];rintro ⟨j,oj,h1,h2,h3,h4⟩;obtain ⟨e,he1,he2,jR⟩:=acG t ht j oj h1 h2 h3;have:=hall e he1 he2;rw [jR,h4] at this
   cases this
  have iQ:=zm _ _ hst i oi (by rw [List.getElem?_take,if_pos him];simpa using hoi);rw [Nat.zero_add] at iQ
  have hcnt:cnt (listed.setIfInBounds i true) m=u:=by
   have:=u6 (listed:=listed) (by rw [inv.size];exact hin) hif m;rw [if_pos him] at this;omega
  by_cases hix:i∈xs
  ·rw [if_pos hix] at iQ;obtain ⟨hg,hdn,hop⟩:=iQ;unfold wpOp;simp only [hoi];have hw:Region.wanted oi (yielded ops a.tmps)=true:=by simp [Region.wanted,hg]
   rw [if_pos hw];refine .inl (Oper.wp_mono ?_ (hop (fun j=>listed.getD j false) hif ⟨V7 ops m listed env,VY fun j=>listed.getD j false⟩ rfl (fun t ht=>hsame t (List.elem_iff.1 ht)) a w Q hs));rintro a' w' ⟨s,h1,he1,he2⟩;refine ih _ a' w' (inv.set hi him) hcnt (h1.le ⟨fun t=>?_,fun id=>.inl ?_⟩)
   ·refine .inr ?_;rw [he1];simp only [V7];by_cases hex:∃j o,j<m∧ops[j]? =some o∧o.dst=some t∧listed.getD j false=false
    ·rw [if_pos hex,if_pos];obtain ⟨j,o,k1,k2,k3,k4⟩:=hex;refine ⟨j,o,k1,k2,k3,?_⟩
     have hij:i≠j:=fun e=>by
      subst e;rw [hoi] at k2
      cases k2
      rw [hdn] at k3
      cases k3
     rw [getD_set_ne false hij];exact k4
    ·rw [if_neg hex,if_neg];rintro ⟨j,o,k1,k2,k3,k4⟩;refine hex ⟨j,o,k1,k2,k3,?_⟩
     have hij:i≠j:=fun e=>by
      subst e;rw [hoi] at k2
      cases k2
      rw [hdn] at k3
      cases k3
     rw [getD_set_ne false hij] at k4;exact k4
   ·rw [he2 id];refine congrFun (jI _ _ fun x _=>?_) id;show _=(x==i||listed.getD x false)
    by_cases hxi:i=x
    ·subst hxi;have:=inv.size;simp [show i<listed.size by omega]
    ·rw [getD_set_ne false hxi];simp [show ¬x=i from fun e=>hxi e.symm]
  rw [if_neg hix] at iQ;have wG:(VY fun j=>(listed.setIfInBounds i true).getD j false)=VY fun j=>listed.getD j false:=jI _ _ fun x hx=>by rw [getD_set_ne false (fun e=>by subst e;exact hix hx)]
  have hstill:Still P E ops env (VY fun j=>listed.getD j false) oi:=iQ _
  clear iQ
  generalize hog:(VY fun j=>listed.getD j false)=iY at hs hstill;have ih':∀(a:Act) (w:World),Wm E ⟨V7 ops m (listed.setIfInBounds i true) env,iY⟩ a w→wpAny P .any ops Q (u+(ops.size-m)) (listed.setIfInBounds i true) a w:=fun a w h=>ih _ a w (inv.set hi him) hcnt (by rw [wG,hog];exact h)
  have hnext:∀(d:Nat) (s:St),oi.dst=some d→s.ob=iY→(∀t,t≠d→s.env t=V7 ops m listed env t)→(env d=.any∨s.env d=env d)→Le s ⟨V7 ops m (listed.setIfInBounds i true) env,iY⟩:=by
   intro d s hdd h1 h2 h3;refine ⟨fun t=>?_,fun id=>.inl (by rw [h1])⟩;simp only [V7];by_cases hex:∃j o,j<m∧ops[j]? =some o∧o.dst=some t∧(listed.setIfInBounds i true).getD j false=false
   ·rw [if_pos hex];exact .inl rfl
   ·rw [if_neg hex];by_cases htd:t=d
    ·subst htd;rcases h3 with h3|h3
     ·exact .inl h3
     ·exact .inr h3.symm
    ·refine .inr ?_;rw [h2 t htd];simp only [V7];rw [if_neg];rintro ⟨j,o,k1,k2,k3,k4⟩;refine hex ⟨j,o,k1,k2,k3,?_⟩
     have hij:i≠j:=fun e=>by
      subst e;rw [hoi] at k2
      cases k2
      rw [hdd] at k3
      cases k3
      exact htd rfl
     rw [getD_set_ne false hij];exact k4
  have hgo:∀(d:Nat),oi.dst=some d→fu P E ops env iY oi→oi.wp P a w (wpAny P .any ops Q (u+(ops.size-m)) (listed.setIfInBounds i true)) Q:=by
   rintro d hdd ⟨d',hd',_,hop⟩;rw [hdd] at hd'
   cases hd'
   refine Oper.wp_mono ?_ (hop ⟨V7 ops m listed env,iY⟩ rfl (fun t ht=>hsame t (List.elem_iff.1 ht)) a w Q hs);rintro a' w' ⟨s,h1,rfl⟩;refine ih' a' w' (h1.le (hnext d _ hdd rfl (fun t ht=>upd_ne _ _ ht) (.inr (upd_same _ _ _))))
  unfold wpOp;simp only [hoi];unfold Still at hstill
  cases hg:oi.guard with
  |none=>
   rw [hg] at hstill;obtain ⟨d,hd,h1,h2⟩:=hstill;have hw:Region.wanted oi (yielded ops a.tmps)=true:=by simp [Region.wanted,hg]
   rw [if_pos hw];exact .inl (hgo d hd ⟨d,hd,h1,h2⟩)
  |some jw=>
   obtain ⟨j,want⟩:=jw;rw [hg] at hstill;obtain ⟨t,uv,hj,ht,he,hyes,hno⟩:=hstill
   have htl:t∈oi.looksAt ops:=by
    unfold Oper.looksAt;rw [hg];simp [hj]
   obtain ⟨C,hs'⟩:=hs;have hy:=oF hs' hj ht (by show V7 ops m listed env t=_;rw [hsame t htl];exact he);by_cases hb:yv uv=some want
   ·have hw:Region.wanted oi (yielded ops a.tmps)=true:=by simp [Region.wanted,hg,hy,hb]
    rw [if_pos hw];obtain ⟨d,hd,h1,h2⟩:=hyes hb;exact .inl (hgo d hd ⟨d,hd,h1,h2⟩)
   ·have hw:Region.wanted oi (yielded ops a.tmps)=false:=by simp [Region.wanted,hg,hy,hb]
    rw [if_neg (by simp [hw])];obtain ⟨d,hd,hdN,hany⟩:=hno hb
    have hs2:Wm E ⟨upd (V7 ops m listed env) d (.v undef),iY⟩ (a.put oi.dst undef) w:=by
     have:=hs'.set oi.dst (fun d' hd'=>by rw [hd] at hd';cases hd';exact hdN) (.v undef) undef (fun _=>.v _);rw [hd] at this ⊢;exact ⟨C,this⟩
    exact ih' _ w (hs2.le (hnext d _ hd rfl (fun t ht=>upd_ne _ _ ht) (hany.imp id (fun h=>by rw [h];exact upd_same _ _ _))))
theorem F5 {id m:Nat} {st:St} (VY:(Nat→Bool)→Nat→aH) (bI:Nat→aH) (xs:List Nat) (wH:VY (fun _=>false)=st.ob) (jI:∀b b':Nat→Bool,(∀x,x∈xs→b x=b' x)→VY b=VY b') (hfin:∀b:Nat→Bool,(∀i,i<m→b i=true)→VY b=bI) {Q:Exit→St→Prop} (vs:List (Nat×AV)) (hm:P.follows .mixedOrders=true) (hB:mo ops m (vs.map (·.1))=true)
  (hst:adv P E ops (iD vs st.env) VY xs 0 (ops.toList.take m)) (htail:VL P E ops (ops.toList.drop m) ⟨iD vs st.env,bI⟩ (fun s=>Q .normal s)):VD P E (.region id ops true) st Q:=by
 intro a w hs;simp only [mo,Bool.and_eq_true,Bool.or_eq_true,beq_iff_eq,decide_eq_true_eq] at hB;obtain ⟨⟨⟨⟨h1,h2⟩,h3⟩,h4⟩,h5⟩:=hB;refine wp_region_any hm ?_
 have inv:HeadInv .any ops m (Array.replicate ops.size false):=
  ⟨by simp,fun j oj _ hl=>(by rw [getD_replicate_false] at hl;cases hl),fun t _ ht=>getD_in (by simpa using ht) (getD_replicate_false _ _)⟩
 have hcnt:∀k,cnt (Array.replicate ops.size false) k=k:=by
  intro k
  induction k with
  |zero=>rfl
  |succ k ih=>simp only [cnt];rw [ih,getD_replicate_false];simp
 have hs1:Wm E st a { w with drawn:=w.drawn+1 }:=by
  obtain ⟨C,hs⟩:=hs;have hext:Ext w C { w with drawn:=w.drawn+1 } C:=⟨fun _ h=>⟨h,rfl,rfl,rfl⟩,fun _ _ h=>h,fun _ _ _=>rfl⟩
  have:=hs.put hext st.ob ⟨hs.obj.nil,fun id o b h1 h2=>?_,hs.obj.inj,hs.obj.dom,hs.obj.bnd⟩ ⟨hs.fr.os,hs.fr.tape,hs.fr.output,hs.fr.size,hs.fr.block⟩ hs.fresh hs.keep hs.WE none (fun d h=>by cases h) .any undef (fun h=>absurd rfl h)
  ·exact ⟨C,this⟩
  ·obtain ⟨k1,cur,k2,k3,k4,k5⟩:=hs.obj.live id o b h1 h2;refine ⟨k1,cur,k2,k3,k4,fun j av hj=>?_⟩;obtain ⟨u,hu,k6,k7⟩:=k5 j av hj;exact ⟨u,hu,k6,k7.ext hext⟩
 have hs2:Wm E ⟨V7 ops m (Array.replicate ops.size false) (iD vs st.env),st.ob⟩ a { w with drawn:=w.drawn+1 }:=by
  refine hs1.le ⟨fun t=>?_,fun id=>.inl rfl⟩;simp only [V7];by_cases hex:∃j o,j<m∧ops[j]? =some o∧o.dst=some t∧(Array.replicate ops.size false).getD j false=false
  ·rw [if_pos hex];exact .inl rfl
  ·rw [if_neg hex];refine .inr (aeO fun hmem=>?_);have:=List.all_eq_true.1 h2 t hmem;obtain ⟨o,ho,hd⟩:=List.any_eq_true.1 this;simp only [beq_iff_eq] at hd;obtain ⟨j,hj⟩:=List.mem_iff_getElem?.1 ho;rw [List.getElem?_take] at hj
   split at hj
   ·rename_i hjm;exact hex ⟨j,o,hjm,by simpa using hj,hd,getD_replicate_false _ _⟩
   ·cases hj
 have wI:(VY fun i=>(Array.replicate ops.size false).getD i false)=st.ob:=by rw [←wH];exact jI _ _ fun x _=>getD_replicate_false _ _
 rw [←wI] at hs2;have:=Fq (P:=P) jI hfin (Q:=fun e a' w'=>∃st',Wm E st' a' w'∧Q e st') (K:=fun s=>Q .normal s) (fun st' a' w' k1 k2=>⟨st',k1,k2⟩) h1 h3 h4 h5 hst htail m _ a _ inv (hcnt m) hs2
 rwa [show m+(ops.size-m)=ops.size by omega] at this
end
structure Need where
 point:Int
 right:Bool
 deriving DecidableEq
def dN:Need:=⟨0,false⟩
def eB (b:Bool):List AV:=[.v (.bool b)]
def eI (n:Int):List AV:=[.v (.int .i64 n)]
def aI (n:Int):List AV:=[.v (.int .u8 n)]
def eN (n:Need):List AV:=[.v (.int .i64 n.point),.v (.bool n.right)]
instance (b:Bool):VB (eB b):=by unfold eB;infer_instance
instance (b:Int):VB (eI b):=by unfold eI;infer_instance
instance (b:Int):VB (aI b):=by unfold aI;infer_instance
instance (b:Need):VB (eN b):=by unfold eN;infer_instance
instance (b:Bool):XA (eB b):=by unfold eB;infer_instance
instance (b:Int):XA (eI b):=by unfold eI;infer_instance
instance (b:Int):XA (aI b):=by unfold aI;infer_instance
instance (b:Need):XA (eN b):=by unfold eN;infer_instance
def hasB (l:List Bool) (p:Int):Bool:=decide (p≥0)&&decide (p<(l.length:Int))&&l.getD p.toNat false
theorem GX {α:Type} {l:List α} {k:Nat} {d n:α} (hk:k<l.length) (inv:n∉l.take k) (h:l.getD k d≠n):n∉l.take (k+1):=by
 rw [List.take_succ_eq_append_getElem hk];have:l.getD k d=l[k]:=by simp [hk]
 rw [this] at h;simp only [List.mem_append,List.mem_singleton,not_or];exact ⟨inv,fun e=>h e.symm⟩
section
variable {α:Type} [DecidableEq α]
theorem GV {l:List α} {k:Nat} {d n:α} (hk:k<l.length) (h:l.getD k d=n):decide (n∈l)=true:=by
 simp only [decide_eq_true_eq];have:l.getD k d=l[k]:=by simp [hk]
 rw [this] at h;rw [←h];exact List.getElem_mem hk
theorem aj5 {l:List α} {k:Nat} {n:α} (hk:l.length≤k) (inv:n∉l.take k):decide (n∈l)=false:=by
 rw [List.take_of_length_le hk] at inv;simp [inv]
end
theorem X1 {α:Type} (d:α) {l:List α} {k:Nat} (h:k<l.length):l.take (k+1)=l.take k++[l.getD k d]:=by
 rw [List.take_succ_eq_append_getElem h];simp [h]
def jK (out:List Bool) (n:Need):List Bool:=if n.point<0∨n.point≥8 then out else (out++List.replicate (n.point.toNat+1-out.length) false).set n.point.toNat n.right
def bP (right:List Bool) (needs:List Need):List Bool:=needs.foldl jK right
theorem ajK (out:List Bool) (n:Need):(jK out n).length≤out.length+8:=by
 unfold jK
 split
 ·omega
 ·simp;omega
theorem Gp (right:List Bool) (needs:List Need):(bP right needs).length≤right.length+8*needs.length:=by
 induction needs generalizing right with
 |nil=>simp [bP]
 |cons n l ih=>
  have:=ih (jK right n);have:=ajK right n;simp only [bP,List.foldl_cons,List.length_cons] at*;omega
theorem af9 {right:List Bool} {needs:List Need} {k:Nat} (h:k<needs.length):bP right (needs.take (k+1))=jK (bP right (needs.take k)) (needs.getD k dN):=by
 rw [X1 dN h];simp only [bP,List.foldl_append,List.foldl_cons,List.foldl_nil]
theorem Gq {right:List Bool} {needs:List Need} {k:Nat} (h:k<needs.length) (hp:((decide ((needs.getD k dN).point<0))||(decide ((needs.getD k dN).point≥8)))=true):bP right (needs.take k)=bP right (needs.take (k+1)):=by
 rw [af9 h,jK,if_pos (by simpa using hp)]
theorem Hl {right:List Bool} {needs:List Need} {k j:Nat} (h:k<needs.length) (h0:0≤(needs.getD k dN).point) (h8:(needs.getD k dN).point<8) (hj:j=(needs.getD k dN).point.toNat+1-(bP right (needs.take k)).length):
  bP right (needs.take (k+1))=(bP right (needs.take k)++List.replicate j false).set (needs.getD k dN).point.toNat (needs.getD k dN).right:=by
 rw [af9 h,jK,if_neg (by omega),hj]
def Lg (right:List Bool) (needs:List Need) (i:Nat):Bool:=needs.foldl (fun b d=>if d.point=(i:Int)∧(i:Int)<8 then d.right else b) (hasB right (i:Int))
def Bo (right:List Bool) (needs:List Need) (N i:Nat):List Bool:=(List.range N).map fun j=>if j<i then Lg right needs j else false
@[simp] theorem Oe (right:List Bool) (needs:List Need) (N i:Nat):(Bo right needs N i).length=N:=by simp [Bo]
def idxFrom {α:Type} (f:α→Bool):Nat→List α→Int
 |_,[]=> -1
 |i,a::l=>if f a=true then (i:Int) else idxFrom f (i+1) l
def bX {α:Type} (f:α→Bool) (l:List α):Int:=idxFrom f 0 l
theorem Fe {α:Type} {f:α→Bool} (d:α):∀(l:List α) (i k:Nat),k<l.length→(l.take k).any f=false→f (l.getD k d)=true→idxFrom f i l=((i+k:Nat):Int):=by
 intro l
 induction l with
 |nil=>intro i k h;simp at h
 |cons a l ih=>
  intro i k h h1 h2
  cases k with
  |zero=>
   simp only [List.getD_cons_zero] at h2;simp [idxFrom,h2]
  |succ k=>
   simp only [List.take_succ_cons,List.any_cons,Bool.or_eq_false_iff] at h1;simp only [List.getD_cons_succ] at h2;rw [idxFrom,if_neg (by rw [h1.1];simp),ih (i+1) k (by simpa using h) h1.2 h2];omega
theorem fO {α:Type} {f:α→Bool} (d:α) {l:List α} {k:Nat} (h:k<l.length) (h1:(l.take k).any f=false) (h2:f (l.getD k d)=true):bX f l=(k:Int):=by
 have:=Fe d l 0 k h h1 h2;rw [Nat.zero_add] at this;exact this
theorem aeu {α:Type} {f:α→Bool}:∀(l:List α) (i:Nat),l.any f=false→idxFrom f i l= -1:=by
 intro l
 induction l with
 |nil=>intro i _;rfl
 |cons a l ih=>
  intro i h;simp only [List.any_cons,Bool.or_eq_false_iff] at h;rw [idxFrom,if_neg (by rw [h.1];simp),ih _ h.2]
theorem X2 {α:Type} {f:α→Bool} {l:List α} {k:Nat} (hk:l.length≤k) (h:(l.take k).any f=false):bX f l= -1:=by
 rw [List.take_of_length_le hk] at h;exact aeu l 0 h
theorem fQ {α:Type} {f:α→Bool} (d:α) {l:List α} {k:Nat} (hk:k<l.length) (inv:(l.take k).any f=false) (h:f (l.getD k d)=false):(l.take (k+1)).any f=false:=by
 rw [X1 d hk,List.any_append,inv];simpa using h
theorem PN {α:Type} {f:α→Bool} (d:α) (l:List α) (h:l.any f=true):∃k,k<l.length∧(l.take k).any f=false∧f (l.getD k d)=true:=by
 induction l with
 |nil=>simp at h
 |cons a l ih=>
  cases ha:f a with
  |true=>exact ⟨0,by simp,by simp,by simpa using ha⟩
  |false=>
   rw [List.any_cons,ha,Bool.false_or] at h;obtain ⟨k,h1,h2,h3⟩:=ih h;exact ⟨k+1,by simpa using h1,by simp [ha,h2],by simpa using h3⟩
theorem oC {α:Type} {f:α→Bool} (d:α) {l:List α} (h:¬bX f l= -1):∃k:Nat,bX f l=(k:Int)∧k<l.length∧(l.take k).any f=false∧f (l.getD k d)=true:=by
 cases ha:l.any f with
 |false=>exact absurd (aeu l 0 ha) h
 |true=>
  obtain ⟨k,h1,h2,h3⟩:=PN d l ha;exact ⟨k,fO d h1 h2 h3,h1,h2,h3⟩
theorem jW {α:Type} {f:α→Bool} (d:α) (l:List α):decide (bX f l≥0)=l.any f:=by
 cases ha:l.any f with
 |false=>rw [show bX f l= -1 from aeu l 0 ha];rfl
 |true=>
  obtain ⟨k,h1,h2,h3⟩:=PN d l ha;rw [fO d h1 h2 h3];simp
def ZS (right:List Bool) (n:Need):Bool:=hasB right n.point != n.right
def WX (right:List Bool) (n:Need):Bool:= !(hasB right n.point != n.right)
def bF (needs:List Need) (right:List Bool):List Need:=needs.filter (ZS right)
theorem af4 {needs:List Need} {right:List Bool} {k:Nat} (h:k<needs.length):bF (needs.take (k+1)) right=bF (needs.take k) right++(if ZS right (needs.getD k dN)=true then [needs.getD k dN] else []):=by
 rw [X1 dN h];simp only [bF,List.filter_append,List.filter_cons,List.filter_nil]
theorem zD {needs:List Need} {right:List Bool} {k:Nat} (h:k<needs.length) (hc:ZS right (needs.getD k dN)=true):bF (needs.take k) right++[needs.getD k dN]=bF (needs.take (k+1)) right:=by rw [af4 h,if_pos hc]
theorem af_ {needs:List Need} {right:List Bool} {k:Nat} (h:k<needs.length) (hc:ZS right (needs.getD k dN)=false):bF (needs.take k) right=bF (needs.take (k+1)) right:=by rw [af4 h,if_neg (by rw [hc];simp),List.append_nil]
theorem FH (needs:List Need) (right:List Bool):(bF needs right).length≤needs.length:=List.length_filter_le _ _
def lG (right:List Bool) (s:List Need×Nat) (n:Need):List Need×Nat:=if WX right n=true then s else (s.1.set s.2 n,s.2+1)
def bH (right:List Bool) (l:List Need) (j:Nat):List Need×Nat:=(l.take j).foldl (lG right) (l,0)
theorem abA (right:List Bool) {l:List Need} {j:Nat} (h:j<l.length):bH right l (j+1)=lG right (bH right l j) (l.getD j dN):=by
 unfold bH;rw [X1 dN h,List.foldl_append];rfl
theorem yJ {α:Type} (l:List α) (n:Nat) (x:α):(l.set n x).take n=l.take n:=by
 refine List.ext_getElem? (fun i=>?_);rw [List.getElem?_take,List.getElem?_take]
 split
 ·rw [List.getElem?_set_ne (by omega)]
 ·rfl
theorem agl (right:List Bool) (l:List Need):∀(j:Nat),j≤l.length→(bH right l j).1.length=l.length∧(bH right l j).2≤j∧(∀i,j≤i→(bH right l j).1[i]? =l[i]?)∧(bH right l j).1.take (bH right l j).2=bF (l.take j) right∧(bH right l j).2=(bF (l.take j) right).length:=by
 intro j
 induction j with
 |zero=>intro _;exact ⟨by simp [bH],by simp [bH],fun i _=>by simp [bH],by simp [bH,bF],by simp [bH,bF]⟩
 |succ j ih=>
  intro hj;obtain ⟨h1,h2,h3,h4,h5⟩:=ih (by omega);rw [abA right (by omega)];unfold lG;by_cases hd:WX right (l.getD j dN)=true
  ·have hw:ZS right (l.getD j dN)=false:=by simpa [WX,ZS] using hd
   rw [if_pos hd];exact ⟨h1,by omega,fun i hi=>h3 i (by omega),by rw [h4,af_ (by omega) hw],by rw [h5,af_ (by omega) hw]⟩
  ·have hw:ZS right (l.getD j dN)=true:=by simpa [WX,ZS] using hd
   rw [if_neg hd];refine ⟨by simp [h1],by simp;omega,fun i hi=>?_,?_,?_⟩
   ·simp only;rw [List.getElem?_set_ne (by omega)];exact h3 i (by omega)
   ·rw [←zD (by omega) hw, ←h4];simp only;rw [X1 dN (by simp;omega)];rw [yJ];simp [show (bH right l j).2<(bH right l j).1.length by omega]
   ·rw [←zD (by omega) hw];simp [h5]
theorem AJ (right:List Bool) {l:List Need} {j:Nat} (h:j<l.length):(bH right l j).1.getD j dN=l.getD j dN:=by
 have:=(agl right l j (by omega)).2.2.1 j (Nat.le_refl _);simp only [List.getD_eq_getElem?_getD,this]
theorem ajm (right:List Bool) {l:List Need} {j:Nat} (h:j<l.length) (hc:WX right ((bH right l j).1.getD j dN)=false):bH right l (j+1)=((bH right l j).1.set (bH right l j).2 ((bH right l j).1.getD j dN),(bH right l j).2+1):=by
 rw [abA right h,AJ right h] at*;unfold lG;rw [if_neg (by rw [hc];simp)]
theorem Gl (right:List Bool) {l:List Need} {j:Nat} (h:j<l.length) (hc:WX right ((bH right l j).1.getD j dN)=true):bH right l (j+1)=bH right l j:=by
 rw [AJ right h] at hc;rw [abA right h];unfold lG;rw [if_pos hc]
theorem aji (right:List Bool) {l:List Need}:∀(i:Nat),i<l.length→(l.take i).any (WX right)=false→bH right l i=(l,i):=by
 intro i
 induction i with
 |zero=>intro _ _;simp [bH]
 |succ i ih=>
  intro hi h;rw [X1 dN (by omega),List.any_append,Bool.or_eq_false_iff] at h;rw [abA right (by omega),ih (by omega) h.1];unfold lG;rw [if_neg (by simpa using h.2)];simp only [Prod.mk.injEq,and_true];refine List.ext_getElem? (fun k=>?_);rw [List.getElem?_set]
  split
  ·rename_i e;subst e;simp [show i<l.length by omega]
  ·rfl
theorem za (right:List Bool) {l:List Need} {i:Nat} (hi:i<l.length) (h:(l.take i).any (WX right)=false) (hd:WX right (l.getD i dN)=true):bH right l (i+1)=(l,i):=by
 rw [abA right hi,aji right i hi h];unfold lG;rw [if_pos hd]
theorem aj8 (right:List Bool) {l:List Need} {i:Nat} (hi:i<l.length) (h:(l.take i).any (WX right)=false) (hd:WX right (l.getD i dN)=true):∀k,i+1+k≤l.length→(bH right l (i+1+k)).2<i+1+k:=by
 intro k
 induction k with
 |zero=>intro _;rw [Nat.add_zero,za right hi h hd];simp
 |succ k ih=>
  intro hk;have:=ih (by omega);rw [show i+1+(k+1)=(i+1+k)+1 by omega,abA right (by omega)];unfold lG
  split
  ·omega
  ·simp;omega
theorem IU (n:Nat):(Builtin.zeroCells #[.int .i64 0,.bool false] n).toList.map AV.v=enc eN (List.replicate n dN):=by
 induction n with
 |zero=>simp [Builtin.zeroCells,enc]
 |succ n ih=>
  have e:(Builtin.zeroCells #[.int .i64 0,.bool false] (n+1)).toList=(Builtin.zeroCells #[.int .i64 0,.bool false] n).toList++[.int .i64 0,.bool false]:=by
   simp only [Builtin.zeroCells,Array.toList_map,Array.toList_range];show List.map _ (List.range ((n+1)*2))=List.map _ (List.range (n*2))++_;rw [show (n+1)*2=n*2+1+1 by omega,List.range_succ,List.range_succ,List.map_append,List.map_append,List.append_assoc]
   congr 1
   simp [Nat.add_mod]
  rw [e,List.map_append,ih,List.replicate_succ',oL];rfl
theorem Gm {l:List Need} {i n:Nat} (h:i+n=l.length):spl (enc eN l) (0+i*2) ((Builtin.zeroCells #[.int .i64 0,.bool false] n).toList.map AV.v)=enc eN (l.take i++List.replicate n dN):=by
 have hl:(enc eN (List.replicate n dN)).length=n*2:=by rw [eO (f:=eN) (s:=2) (fun _=>rfl)];simp
 rw [IU];unfold spl;rw [hl,Nat.zero_add,oP (f:=eN) (s:=2) (fun _=>rfl),jV,List.drop_of_length_le (by rw [eO (f:=eN) (s:=2) (fun _=>rfl)];omega),List.append_nil]
theorem Fh {l:List Need} {right:List Bool} (h:l.any (WX right)=false):bF l right=l:=by
 unfold bF;rw [List.filter_eq_self];intro a ha;have:=List.any_eq_false.1 h a ha;simpa [WX,ZS] using this
end Go.Lo
