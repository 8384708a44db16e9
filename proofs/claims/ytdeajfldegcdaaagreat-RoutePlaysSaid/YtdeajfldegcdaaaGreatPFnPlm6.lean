/- Part of the logic of values: what the law reaches. -/
import Derived.Test.YtdeajfldegcdaaaGreatPFnPlm5
set_option linter.unusedVariables false
set_option linter.unusedSimpArgs false
namespace Go.Lo
def xu (P:Program) (E:cZ) (fn:Func) (post:AV→List ay→Prop) (s:St):Prop:=
 ∃res,kQ res∧post res []∧∀(a:Act) (w:World) (C:Ctx),SR E C s a w→∃u,(results fn a.tmps).run P w=.ok u w∧R w C res u
def W4 (P:Program) (E:cZ) (fn:Func) (post:AV→List ay→Prop) (e:Exit) (s:St):Prop:=
 match e with
 | .normal| .ret=>xu P E fn post s
 |_=>False
theorem zx {P:Program} {f:FuncId} {fn:Func} {c:Code} {N:Nat} {args:List AV} {post:AV→List ay→Prop} (hf:P.funcs[f]? =some fn) (hb:fn.body=some c) (hN:fn.ntmps=N) (hargs:args.length≤N)
  (h:∀w0 X hL,c6 P ⟨w0,fun _=>False,X,N,0,C0 X,hL,fun _ _ h=>h⟩ c ⟨lp args,fun _=>.free⟩ (W4 P ⟨w0,fun _=>False,X,N,0,C0 X,hL,fun _ _ h=>h⟩ fn post)):pr P f args post:=by
 intro w X vs hsz hX hL hrel;refine calls_of_wp hf hb ?_
 have hs:SR ⟨w,fun _=>False,X,N,0,C0 X,hL,fun _ _ h=>h⟩ (C0 X) ⟨lp args,fun _=>.free⟩ { tmps:=vs++Array.replicate (fn.ntmps-vs.size) undef,defers:=[] } w:=by
  refine ⟨by simp;omega,rfl,fun t ht=>?_,⟨(fun id o h=>by cases h),(fun id o b h=>by cases h),(fun i i' o1 o2 b h=>by cases h),(fun id h=>h.elim),hX⟩,Fr.refl _ _,(fun id o b h=>by cases h),fun b h=>h,fun b _ h=>.inl h,fun i hi=>absurd hi (Nat.not_lt_zero i),hX⟩;show R w (C0 X) (lp args t) _;rw [z5];by_cases pu:t<args.length
  ·rw [List.getElem?_eq_getElem pu];have:=hrel t _ (List.getElem?_eq_getElem pu)
   have e:(vs++Array.replicate (fn.ntmps-vs.size) undef).getD t undef=vs.getD t undef:=by
    simp [Array.getElem?_append_left,show t<vs.size by omega]
   rw [e];exact this
  ·rw [List.getElem?_eq_none (by omega)];exact .any _
 refine wp_mono (h w X hL _ w ⟨_,hs⟩) ?_;rintro e a' w' ⟨s,⟨C,hs'⟩,hq⟩
 have key:xu P ⟨w,fun _=>False,X,N,0,C0 X,hL,fun _ _ h=>h⟩ fn post s→bodyPost P fn (Bo w X post) .ret a' w':=by
  rintro ⟨res,hno,hpost,hrun⟩;obtain ⟨u,hu,hR⟩:=hrun a' w' C hs';refine ⟨hs'.defers,_,hu,?_⟩
  let C2:Ctx:=⟨fun _=>none,fun _=>0,fun _=>0,fun _=>False,C.own⟩
  have h2:=R.map (C:=C) (C2:=C2) (σ:=id) (p:=fun _=>False) (ro:=True) (fun _ h=>h.elim) (fun _ b hb=>hb) hR hno;rw [kB hno] at h2;refine ⟨u,C2,res,[],rfl,hpost,hs'.fr,h2,⟨(fun i o h=>by cases h),(fun i o b h hb=>by cases h),(fun i i' o1 o2 b h1 h2 h3 h4=>by cases h1),(fun i hi=>hi.elim),hs'.obj.bnd⟩,(fun i b hi hb=>by cases hb),hs'.keep,fun b hb ho=>?_⟩;rcases hs'.fO b hb ho with h|h
  ·exact h
  ·exact h.elim
 cases e with
 |normal=>exact key hq
 |ret=>exact key hq
 |_=>exact hq.elim
section
variable {P:Program} {E:cZ}
theorem HB {C:Ctx} {s:St} {a:Act} {w:World} (hs:SR E C s a w) {p t n:Nat} {av:AV} {cells cs:List AV} (hp:Nat.blt p E.N=true) (hb:YV P t=some true) (hsz:(P.info? t).map (·.size)=some n) (hx:s.env p=av) (hc:gO s.ob av=some cells) (hl:n≤cells.length) (hcs:cells.take n=cs):
  ∃ad u,a.tmps.getD p undef=.pointer (some ad)∧(loadVar t ad).run P w=.ok u w∧R w C (.agg cs) u:=by
 subst hx;subst hcs;obtain ⟨ad,eu,hc⟩:=hs.cells (hs.env p (bX hp)) hc
 have hcell:∀j,j<n→w.cell? (ad.add j)=some ((w.cell? (ad.add j)).getD undef):=fun j hj=>by
  obtain ⟨u,hu,_⟩:=hc j _ (List.getElem?_eq_getElem (by omega));rw [hu];rfl
 have hrun:=run_loadCells (P:=P) w ad n (fun j=>(w.cell? (ad.add j)).getD undef) hcell;refine ⟨ad,.agg ((List.range n).map fun j=>(w.cell? (ad.add j)).getD undef).toArray,eu,?_,.agg _ _ ?_ fun j c hj=>?_⟩
 ·simp [loadVar,sV hb,run_sizeOf hsz,hrun]
 ·simp;omega
 ·have hj':j<n:=by
   have:=(List.getElem?_eq_some_iff.1 hj).1;simp at this;omega
  rw [List.getElem?_take,if_pos hj'] at hj;obtain ⟨u,hu,_,hr⟩:=hc j c hj;simpa [hj',hu] using hr
theorem I8 {fn:Func} {s:St} {p t n:Nat} {av:AV} {cells cs:List AV} {res:AV} (hres:fn.results= #[.cell p t]) (hp:Nat.blt p E.N=true) (hb:YV P t=some true) (hsz:(P.info? t).map (·.size)=some n) (hx:s.env p=av) (hc:gO s.ob av=some cells) (hl:n≤cells.length) (hcs:cells.take n=cs) (ku:AV.agg cs=res) [hno:gq res]:
  xu P E fn (fun r n=>r=res∧n=[]) s:=by
 subst ku;refine ⟨_,hno.out,⟨rfl,rfl⟩,fun a w C hs=>?_⟩;obtain ⟨ad,u,h1,h2,h3⟩:=HB (P:=P) hs hp hb hsz hx hc hl hcs;rw [Array.getD_eq_getD_getElem?] at h1;exact ⟨u,by simp [results,hres,asAddr,h1,h2],h3⟩
theorem Iv {fn:Func} {s:St} {p t n q:Nat} {av a2:AV} {cells cs:List AV} {res:AV} (hres:fn.results= #[.cell p t,.tmp q]) (hp:Nat.blt p E.N=true) (hb:YV P t=some true) (hsz:(P.info? t).map (·.size)=some n) (hx:s.env p=av) (hc:gO s.ob av=some cells) (hl:n≤cells.length) (hcs:cells.take n=cs)
  (hq:Nat.blt q E.N=true) (hx2:s.env q=a2) (ku:AV.bw [.agg cs,a2]=res) [hno:gq res]:
  xu P E fn (fun r n=>r=res∧n=[]) s:=by
 subst ku;refine ⟨_,hno.out,⟨rfl,rfl⟩,fun a w C hs=>?_⟩;obtain ⟨ad,u,h1,h2,h3⟩:=HB (P:=P) hs hp hb hsz hx hc hl hcs;rw [Array.getD_eq_getD_getElem?] at h1;have h4:=hs.env q (bX hq);rw [hx2,Array.getD_eq_getD_getElem?] at h4;refine ⟨.tuple #[u,(a.tmps[q]?).getD undef],by simp [results,hres,asAddr,h1,h2],.bw _ _ rfl fun j c hj=>?_⟩
 match j,hj with
 |0,hj=>simp at hj;subst hj;exact h3
 |1,hj=>simp at hj;subst hj;exact h4
 |j+2,hj=>simp at hj
end
def cb (n:Int):Nat:=FloatKind.f64.nearest n
def eX (op:BinOp) (x y:Nat):Option Nat:=match op with
 | .add=>FloatKind.f64.format.add x y
 | .sub=>FloatKind.f64.format.sub x y
 | .mul=>FloatKind.f64.format.mul x y
 | .quo=>FloatKind.f64.format.div x y
 |_=>none
def uc (x y:Nat):Bool:=FloatKind.f64.format.order (Op.Complex.abs x) (Op.Complex.abs y)==some .gt||FloatKind.f64.format.order (Op.Complex.abs x) (Op.Complex.abs y)==some .eq
def ja (op:BinOp) (x y:Nat×Nat):Option (Nat×Nat):=match op with
 | .add| .sub=>do
  let a ←eX op x.1 y.1
  let b ←eX op x.2 y.2
  pure (a,b)
 | .mul=>do
  let ac ←eX .mul x.1 y.1
  let bd ←eX .mul x.2 y.2
  let e ←eX .sub ac bd
  let ad ←eX .mul x.1 y.2
  let bc ←eX .mul x.2 y.1
  let f ←eX .add ad bc
  pure (e,f)
 | .quo=>do
  guard (uc y.1 y.2)
  let ratio ←eX .quo y.2 y.1
  let m ←eX .mul ratio y.2
  let denom ←eX .add y.1 m
  let e1 ←eX .mul x.2 ratio
  let e2 ←eX .add x.1 e1
  let e ←eX .quo e2 denom
  let f1 ←eX .mul x.1 ratio
  let f2 ←eX .sub x.2 f1
  let f ←eX .quo f2 denom
  if Op.Complex.isNaN e then none else pure (e,f)
 |_=>none
def cx (op:BinOp) (x y:Nat×Nat):Nat×Nat:=(ja op x y).getD (0,0)
section
variable {P:Program}
theorem jB {op:BinOp} {x y r:Nat} (h:eX op x y=some r) (w:World):(Op.Complex.arith op .f64 x y).run P w=.ok r w:=by
 cases op<;>first|(simp only [eX] at h;simp [Op.Complex.arith,Op.floatArith,h];done)|(simp [eX] at h;done)
theorem HC (x:Nat) (w:World):(Op.Complex.conv .f64 x .f64).run P w=.ok x w:=by simp [Op.Complex.conv]
theorem Ih (op:BinOp) (x y:Nat) (w:World) (b:Bool) (h:∀w,(Op.floatCmp op .f64 x y).run P w=.ok (.bool b) w):(Op.Complex.cmp op .f64 x y).run P w=.ok b w:=by simp [Op.Complex.cmp,h,asBool]
theorem GY {op:BinOp} (hop:op=.add∨op=.sub) {x1 x2 y1 y2 a b:Nat} (h1:eX op x1 y1=some a) (h2:eX op x2 y2=some b) (w:World):(Op.complexOp op .f64 x1 x2 y1 y2).run P w=.ok (.complex .f64 a b) w:=by
 rcases hop with rfl|rfl<;>simp only [Op.complexOp,Sem.run_bind,jB h1,jB h2,Result.andThen_ok]<;>rfl
theorem Pw {x1 x2 y1 y2 ac bd e ad bc f:Nat} (h1:eX .mul x1 y1=some ac) (h2:eX .mul x2 y2=some bd) (h3:eX .sub ac bd=some e) (h4:eX .mul x1 y2=some ad) (h5:eX .mul x2 y1=some bc) (h6:eX .add ad bc=some f) (w:World):
  (Op.complexOp .mul .f64 x1 x2 y1 y2).run P w=.ok (.complex .f64 e f) w:=by
 have hp:(Op.Complex.product x1 x2 y1 y2).run P w=.ok (e,f) w:=by
  simp only [Op.Complex.product,Op.Complex.mul,Op.Complex.add,Op.Complex.sub,Sem.run_bind,jB h1,jB h2,jB h3,jB h4,jB h5,jB h6,Result.andThen_ok];rfl
 simp only [Op.complexOp,Sem.run_bind,HC,Result.andThen_ok,beq_self_eq_true,if_true,hp];rfl
theorem QX {x y:Nat} (h:uc x y=true) (w:World):(Op.Complex.cmp .geq .f64 (Op.Complex.abs x) (Op.Complex.abs y)).run P w=.ok true w:=Ih .geq _ _ w true fun w=>by
 unfold uc at h;simp only [Op.floatCmp,h];rfl
theorem HD (z:Nat) (w:World):(Op.Complex.cmp .eql .f64 z 0).run P w=.ok (FloatKind.f64.format.order z 0==some .eq) w:=Ih .eql _ _ w _ fun w=>rfl
theorem Px {a b c d ra m de e1 e2 e f1 f2 f:Nat} (h0:uc c d=true) (h1:eX .quo d c=some ra) (h2:eX .mul ra d=some m) (h3:eX .add c m=some de) (h4:eX .mul b ra=some e1) (h5:eX .add a e1=some e2) (h6:eX .quo e2 de=some e) (h7:eX .mul a ra=some f1) (h8:eX .sub b f1=some f2) (h9:eX .quo f2 de=some f) (h10:Op.Complex.isNaN e=false) (w:World):
  (Op.complexOp .quo .f64 a b c d).run P w=.ok (.complex .f64 e f) w:=by
 have hp:(Op.Complex.quotient a b c d).run P w=.ok (e,f) w:=by
  unfold Op.Complex.quotient;simp only [Op.Complex.mul,Op.Complex.add,Op.Complex.sub,Op.Complex.quo,Sem.run_bind,QX h0,jB h1,jB h2,jB h3,jB h4,jB h5,jB h6,jB h7,jB h8,jB h9,Result.andThen_ok,HD,h10,Bool.false_and,Bool.not_false,if_true,Sem.run_pure]
  try (split<;>simp only [Sem.run_bind,Sem.run_pure,Result.andThen_ok,HD,h10,Bool.false_and,Bool.not_false,if_true])
 simp only [Op.complexOp,Sem.run_bind,HC,Result.andThen_ok,if_neg (show ¬((BinOp.quo==BinOp.mul)=true) from by decide),hp];rfl
theorem TJ {op:BinOp} {x y r:Nat×Nat} (h:ja op x y=some r) (w:World):(Op.complexOp op .f64 x.1 x.2 y.1 y.2).run P w=.ok (.complex .f64 r.1 r.2) w:=by
 cases op<;>first|(simp [ja] at h;done)|simp only [ja] at h
 ·obtain ⟨a,h1,h⟩:=Option.bind_eq_some_iff.1 h;obtain ⟨b,h2,h⟩:=Option.bind_eq_some_iff.1 h;obtain rfl:=Option.some.inj h;exact GY (.inl rfl) h1 h2 w
 ·obtain ⟨a,h1,h⟩:=Option.bind_eq_some_iff.1 h;obtain ⟨b,h2,h⟩:=Option.bind_eq_some_iff.1 h;obtain rfl:=Option.some.inj h;exact GY (.inr rfl) h1 h2 w
 ·obtain ⟨ac,h1,h⟩:=Option.bind_eq_some_iff.1 h;obtain ⟨bd,h2,h⟩:=Option.bind_eq_some_iff.1 h;obtain ⟨e,h3,h⟩:=Option.bind_eq_some_iff.1 h;obtain ⟨ad,h4,h⟩:=Option.bind_eq_some_iff.1 h;obtain ⟨bc,h5,h⟩:=Option.bind_eq_some_iff.1 h;obtain ⟨f,h6,h⟩:=Option.bind_eq_some_iff.1 h;obtain rfl:=Option.some.inj h;exact Pw h1 h2 h3 h4 h5 h6 w
 ·cases hg:uc y.1 y.2 with
  |false=>rw [hg] at h;cases h
  |true=>
   rw [hg] at h;obtain ⟨_,h0,h⟩:=Option.bind_eq_some_iff.1 h;obtain ⟨ra,h1,h⟩:=Option.bind_eq_some_iff.1 h;obtain ⟨m,h2,h⟩:=Option.bind_eq_some_iff.1 h;obtain ⟨de,h3,h⟩:=Option.bind_eq_some_iff.1 h;obtain ⟨e1,h4,h⟩:=Option.bind_eq_some_iff.1 h;obtain ⟨e2,h5,h⟩:=Option.bind_eq_some_iff.1 h;obtain ⟨e,h6,h⟩:=Option.bind_eq_some_iff.1 h;obtain ⟨f1,h7,h⟩:=Option.bind_eq_some_iff.1 h;obtain ⟨f2,h8,h⟩:=Option.bind_eq_some_iff.1 h;obtain ⟨f,h9,h⟩:=Option.bind_eq_some_iff.1 h
   cases hn:Op.Complex.isNaN e with
   |true=>rw [hn] at h;cases h
   |false=>
    rw [hn] at h;obtain rfl:=Option.some.inj h;exact Px hg h1 h2 h3 h4 h5 h6 h7 h8 h9 hn w
theorem run_complex (ty:Array TypeId) (t:TypeId) (a b:Nat) (w:World):(Builtin.complex_ ty t #[.float .f64 a,.float .f64 b]).run P w=.ok (.complex .f64 a b) w:=rfl
end
section
variable {P:Program} {E:cZ} {st:St} {K:St→Prop}
theorem ia {o:Oper} {op:BinOp} {t t':TypeId} {x y:Operand} {d:Nat} (X Y:Nat×Nat) (ho:o.op=.binOp op t x y t') (hd:o.dst=some d) (hN:(bh E.N x&&bh E.N y&&Nat.blt d E.N)=true)
  (hx:aU st.env x=.v (.complex .f64 X.1 X.2)) (hy:aU st.env y=.v (.complex .f64 Y.1 Y.2)) (hop:op=.add∨op=.sub∨op=.mul∨op=.quo) (hs:(ja op X Y).isSome=true)
  (h:K ⟨upd st.env d (.v (.complex .f64 (cx op X Y).1 (cx op X Y).2)),st.ob⟩):bY P E o st K:=by
 obtain ⟨r,hr⟩:=Option.isSome_iff_exists.1 hs;have hc:cx op X Y=r:=by simp [cx,hr]
 rw [hc] at h;refine rF ho hd hN hx hy (fun w=>?_) h;have:=TJ (P:=P) hr w;rcases hop with rfl|rfl|rfl|rfl<;>simpa [eqGuard,binOp] using this
theorem zy {o:Oper} {s t:TypeId} {x:Operand} {d:Nat} {k:IntKind} {n:Int} (ho:o.op=.convert s t x) (hd:o.dst=some d) (hN:(bh E.N x&&Nat.blt d E.N)=true)
  (hs0:P.underlying s=some (.int k)) (ht:P.underlying t=some (.float .f64)) (hx:aU st.env x=.v (.int k n)) (h:K ⟨upd st.env d (.v (.float .f64 (cb n))),st.ob⟩):bY P E o st K:=by
 simp only [Bool.and_eq_true] at hN;refine gu (.v (.float .f64 (cb n))) (fun d' hd'=>by rw [hd] at hd';cases hd';exact bX hN.2) (fun a w C hs=>⟨.float .f64 (cb n),?_,.v _⟩) (by rw [hd];exact h);have h1:=hs.ev x hN.1;rw [hx] at h1;simp [execOp,ho,h1.fy,convert,run_underlying hs0,run_underlying ht,Conv.intToFloat,cb]
theorem FU {o:Oper} {c:Call} {ty:Array TypeId} {x y:Operand} {d a b:Nat} (ho:o.op=.call c) (hc:c={ callee:=.builtin .complex,args:= #[x,y],argTypes:=ty }) (hd:o.dst=some d)
  (hN:(bh E.N x&&bh E.N y&&Nat.blt d E.N)=true) (hx:aU st.env x=.v (.float .f64 a)) (hy:aU st.env y=.v (.float .f64 b)) (h:K ⟨upd st.env d (.v (.complex .f64 a b)),st.ob⟩):bY P E o st K:=by
 subst hc;simp only [Bool.and_eq_true] at hN;refine gu (.v (.complex .f64 a b)) (fun d' hd'=>by rw [hd] at hd';cases hd';exact bX hN.2) (fun a' w C hs=>⟨_,?_,.v _⟩) (by rw [hd];exact h);have h1:=hs.ev x hN.1.1;have h2:=hs.ev y hN.1.2;rw [hx] at h1;rw [hy] at h2;simp [execOp,ho,resolve,invoke,builtin,run_complex,h1.fy,h2.fy]
theorem NJ {o:Oper} {c:Call} {ty:Array TypeId} {x y:Operand} {d a b:Nat} (ho:o.op=.call c) (hc:c={ callee:=.builtin .complex,args:= #[x,y],argTypes:=ty }) (hd:o.dst=some d)
  (hN:(bh E.N x&&bh E.N y&&Nat.blt d E.N)=true) (hx:aU st.env x=.v (.float .f64 a)) (hy:aU st.env y=.v (.float .f64 b)) (h:K ⟨upd st.env d .one,st.ob⟩):bY P E o st K:=by
 subst hc;simp only [Bool.and_eq_true] at hN;refine gu .one (fun d' hd'=>by rw [hd] at hd';cases hd';exact bX hN.2) (fun a' w C hs=>⟨.complex .f64 a b,?_,.one _ rfl⟩) (by rw [hd];exact h);have h1:=hs.ev x hN.1.1;have h2:=hs.ev y hN.1.2;rw [hx] at h1;rw [hy] at h2;simp [execOp,ho,resolve,invoke,builtin,run_complex,h1.fy,h2.fy]
theorem Au {o:Oper} {t t':TypeId} {x y:Operand} {d:Nat} {k k':IntKind} {a:Int} {n:Nat} (ho:o.op=.binOp .shr t x y t') (hd:o.dst=some d) (hN:(bh E.N x&&bh E.N y&&Nat.blt d E.N)=true)
  (hx:aU st.env x=.v (.int k a)) (hy:aU st.env y=.v (.int k' (n:Int))) (hn:n≤k.bits) (h:K ⟨upd st.env d (.v (.int k (a.fdiv (2 ^ n)))),st.ob⟩):bY P E o st K:=
 rF ho hd hN hx hy (fun w=>by
  have h1:¬((n:Int)<0):=by omega
  simp [eqGuard,binOp,Op.shift,h1,Nat.min_eq_left hn]) h
theorem Gu {o:Oper} {t e:TypeId} {x ix:Operand} {d n sz:Nat} {k:IntKind} {i:Nat} {cells:List AV} (ho:o.op=.indexAddr t x ix) (hd:o.dst=some d) (hN:(bh E.N x&&bh E.N ix&&Nat.blt d E.N)=true)
  (ht:P.underlying t=some (.array n e)) (hsz:(P.info? e).map (·.size)=some sz) (hx:aU st.env x=.rp cells) (hi:aU st.env ix=.v (.int k (i:Int))) (h1:i<n)
  (h:K ⟨upd st.env d (.rp (cells.drop (i*sz))),st.ob⟩):bY P E o st K:=by
 simp only [Bool.and_eq_true] at hN;refine gu _ (fun d' hd'=>by rw [hd] at hd';cases hd';exact bX hN.2) (fun a w C hs=>?_) (by rw [hd];exact h);have hx1:=hs.ev x hN.1.1;rw [hx] at hx1;have hi1:=hs.ev ix hN.1.2;rw [hi] at hi1;have hi2:=hi1.fy;generalize eu:a.eval x=ux at hx1;have h0:(0:Int)≤(i:Int):=by omega
 have h1':(i:Int)<(n:Int):=by omega
 cases hx1 with
 |rp ad cells us hcell hrel=>
  refine ⟨.pointer (some (ad.add (i*sz))),?_,.rp _ _ (fun j=>us (i*sz+j)) (fun j hj=>?_) (fun j av hj=>?_)⟩
  ·simp [execOp,ho,eu,hi2,Instr.indexAt,Instr.sureAddr,asIntOf,run_underlying ht,h1,run_sizeOf hsz]
  ·simp only [List.length_drop] at hj;obtain ⟨h2,h3,h4⟩:=hcell (i*sz+j) (by omega);exact ⟨by rw [add_block];exact h2,by rw [add_add];exact h3,h4⟩
  ·rw [List.getElem?_drop] at hj;exact hrel _ _ hj
end
end Go.Lo
set_option linter.unusedVariables false
set_option linter.unusedSimpArgs false
namespace Go.Lo
def rQ (P:Program) (t:TypeId):Option (TypeId×TypeId):=
 match P.underlying t with
 |some (.struct fs)=>match fs.toList with
  | [f,g]=>if f.name != "_" &&g.name != "_" &&f.offset==0&&g.offset==1&& !P.stoodInHeld t&& !P.eqGuardType P.depth t then some (f.type,g.type) else none
  |_=>none
 |_=>none
section
variable {P:Program} {E:cZ} {st:St} {K:St→Prop}
theorem run_program (w:World):(program).run P w=.ok P w:=rfl
theorem HE {t:TypeId} (hb:YV P t=some false) {cs:Array Value} {off:Nat} {v:Value} (h:cs[off]? =some v) (w:World):(part t cs off).run P w=.ok v w:=by
 simp [part,sV hb,h]
theorem FZ {t:TypeId} {k:IntKind} (ht:P.underlying t=some (.int k)) (d:Nat) (a b:Int) (w:World):(Op.equalIn (d+1) t (.int k a) (.int k b)).run P w=.ok (a==b) w:=by
 simp [Op.equalIn,run_underlying ht]
theorem GZ {t e1 e2:TypeId} (h:rQ P t=some (e1,e2)):∃f g,P.underlying t=some (.struct #[f,g])∧f.name≠ "_" ∧g.name≠ "_" ∧f.offset=0∧g.offset=1∧P.stoodInHeld t=false∧P.eqGuardType P.depth t=false∧f.type=e1∧g.type=e2:=by
 unfold rQ at h
 split at h
 ·rename_i fs hu
  split at h
  case h_2=>cases h
  rename_i f g hfs;have W5:fs= #[f,g]:=by rw [←hfs]
  subst W5
  split at h
  ·rename_i hc;simp only [Bool.and_eq_true,bne_iff_ne,beq_iff_eq,Bool.not_eq_true'] at hc;simp only [Option.some.injEq,Prod.mk.injEq] at h;exact ⟨f,g,hu,hc.1.1.1.1.1,hc.1.1.1.1.2,hc.1.1.1.2,hc.1.1.2,hc.1.2,hc.2,h.1,h.2⟩
  ·cases h
 ·cases h
theorem OI {t e1 e2:TypeId} {k1 k2:IntKind} (h:rQ P t=some (e1,e2)) (h1:P.underlying e1=some (.int k1)) (h2:P.underlying e2=some (.int k2)) (ha1:YV P e1=some false) (ha2:YV P e2=some false) (d:Nat) (a b a' b':Int) (w:World):
  (Op.equalIn (d+2) t (.agg #[.int k1 a,.int k2 b]) (.agg #[.int k1 a',.int k2 b'])).run P w=.ok (decide (a=a'∧b=b')) w:=by
 obtain ⟨f,g,hu,n1,n2,o1,o2,s1,s2,rfl,rfl⟩:=GZ h;have p1:∀x y w,(part f.type #[.int k1 x,.int k2 y] f.offset).run P w=.ok (.int k1 x) w:=fun x y w=>HE ha1 (by rw [o1];rfl) w;have p2:∀x y w,(part g.type #[.int k1 x,.int k2 y] g.offset).run P w=.ok (.int k2 y) w:=fun x y w=>HE ha2 (by rw [o2];rfl) w;have e1:=fun x y w=>FZ (P:=P) h1 d x y w;have e2:=fun x y w=>FZ (P:=P) h2 d x y w;rw [Op.equalIn];simp only [Sem.run_bind,run_underlying hu,Result.andThen_ok,run_program,s1];by_cases ha:a=a'<;>by_cases hb:b=b'<;>simp [n1,n2,p1,p2,e1,e2,ha,hb]
theorem QY {t e1 e2:TypeId} {k1 k2:IntKind} (h:rQ P t=some (e1,e2)) (h1:P.underlying e1=some (.int k1)) (h2:P.underlying e2=some (.int k2)) (ha1:YV P e1=some false) (ha2:YV P e2=some false) (x y:Operand) (a b a' b':Int) (w:World):
  (do eqGuard .eql t x y (.agg #[.int k1 a,.int k2 b]) (.agg #[.int k1 a',.int k2 b']);binOp .eql t (.agg #[.int k1 a,.int k2 b]) (.agg #[.int k1 a',.int k2 b']):Sem Value).run P w=.ok (.bool (decide (a=a'∧b=b'))) w∧
  (do eqGuard .neq t x y (.agg #[.int k1 a,.int k2 b]) (.agg #[.int k1 a',.int k2 b']);binOp .neq t (.agg #[.int k1 a,.int k2 b]) (.agg #[.int k1 a',.int k2 b']):Sem Value).run P w=.ok (.bool (!decide (a=a'∧b=b'))) w:=by
 obtain ⟨f,g,hu,n1,n2,o1,o2,s1,s2,_,_⟩:=GZ h;have he:∀w,(Op.equal t (.agg #[.int k1 a,.int k2 b]) (.agg #[.int k1 a',.int k2 b'])).run P w=.ok (decide (a=a'∧b=b')) w:=fun w=>OI h h1 h2 ha1 ha2 9998 a b a' b' w;constructor
 ·simp [eqGuard,binOp,run_program,s2,he]
 ·simp [eqGuard,binOp,run_program,s2,he]
theorem KC {w:World} {C:Ctx} {u:Value} {k1 k2:IntKind} {a b:Int} (h:R w C (.agg [.v (.int k1 a),.v (.int k2 b)]) u):u=.agg #[.int k1 a,.int k2 b]:=by
 cases h with
 |agg _ us hs hr=>
  have h0:=(hr 0 _ rfl).fy;have h1:=(hr 1 _ rfl).fy
  congr 1
  apply Array.ext
  ·simpa using hs
  ·intro i hi hj;have:us.size=2:=hs
   match i with
   |0=>simpa [this] using h0
   |1=>simpa [this] using h1
   |i+2=>omega
theorem G8 {o:Oper} {op:BinOp} {t t' e1 e2:TypeId} {x y:Operand} {d:Nat} {k1 k2:IntKind} {a b a' b':Int} {r:Bool} (ho:o.op=.binOp op t x y t') (hd:o.dst=some d) (hN:(bh E.N x&&bh E.N y&&Nat.blt d E.N)=true)
  (hx:aU st.env x=.agg [.v (.int k1 a),.v (.int k2 b)]) (hy:aU st.env y=.agg [.v (.int k1 a'),.v (.int k2 b')]) (h:rQ P t=some (e1,e2)) (h1:P.underlying e1=some (.int k1)) (h2:P.underlying e2=some (.int k2)) (ha1:YV P e1=some false) (ha2:YV P e2=some false)
  (hr:(op=.eql∧r=decide (a=a'∧b=b'))∨(op=.neq∧r= !decide (a=a'∧b=b'))) (hk:K ⟨upd st.env d (.v (.bool r)),st.ob⟩):bY P E o st K:=by
 simp only [Bool.and_eq_true] at hN;refine gu (.v (.bool r)) (fun d' hd'=>by rw [hd] at hd';cases hd';exact bX hN.2) (fun ac w C hs=>⟨.bool r,?_,.v _⟩) (by rw [hd];exact hk);have g1:=hs.ev x hN.1.1;have g2:=hs.ev y hN.1.2;rw [hx] at g1;rw [hy] at g2;have hrun:=QY h h1 h2 ha1 ha2 x y a b a' b' w;rw [←KC g1, ←KC g2] at hrun;rcases hr with ⟨rfl,rfl⟩|⟨rfl,rfl⟩
 ·have:=hrun.1;simp only [execOp,ho,Sem.run_bind] at this ⊢;rw [this];rfl
 ·have:=hrun.2;simp only [execOp,ho,Sem.run_bind] at this ⊢;rw [this];rfl
end
end Go.Lo
set_option linter.unusedVariables false
set_option linter.unusedSimpArgs false
namespace Go.Lo
theorem vj {E:cZ} {s:St} (i j id e z:Nat) {o:ay} (hl:s.ob i=.live o) (hj:o.cells[j]? =some (.v (.slice none 0 0))) (hf:s.ob id=.free) {cells':List AV} (hc:o.cells.set j (.sl id 0 0)=cells'):
  ck E s ⟨s.env,ah (ah s.ob i (.live ⟨cells',o.elem,o.ci⟩)) id (.live ⟨[],e,z⟩)⟩:=by
 rintro a w ⟨C,hs⟩;subst hc;have hdom:¬C.dom id:=fun h=>hs.obj.dom id h hf;have hii:i≠id:=fun h=>by subst h;rw [hf] at hl;cases hl
 have hext:Ext w C w (C.add id none 0 z):=Ext.add hdom (fun x hx=>by cases hx) (fun _ _ _=>rfl)
 have hlive:∀id' o',ah (ah s.ob i (.live ⟨o.cells.set j (.sl id 0 0),o.elem,o.ci⟩)) id (.live ⟨[],e,z⟩) id'=.live o'→(id'=id∧o'=⟨[],e,z⟩)∨(id'≠id∧∃o2,s.ob id'=.live o2∧o'.elem=o2.elem∧o'.ci=o2.ci∧o'.cells.length=o2.cells.length∧∀(k:Nat) (av:AV),o'.cells[k]? =some av→o2.cells[k]? =some av∨(av=.sl id 0 0∧o2.cells[k]? =some (.v (.slice none 0 0)))):=fun id' o' h=>by
  by_cases he:id'=id
  ·subst he;rw [ec] at h;cases h;exact .inl ⟨rfl,rfl⟩
  ·rw [dJ _ _ he] at h;refine .inr ⟨he,?_⟩;by_cases h2:id'=i
   ·subst h2;rw [ec] at h
    cases h
    refine ⟨o,hl,rfl,rfl,by simp,fun k av hk=>?_⟩;by_cases hkj:j=k
    ·subst hkj;rw [List.getElem?_set_self (List.getElem?_eq_some_iff.1 hj).1] at hk
     cases hk
     exact .inr ⟨rfl,hj⟩
    ·rw [List.getElem?_set_ne hkj] at hk;exact .inl hk
   ·rw [dJ _ _ h2] at h;exact ⟨o',h,rfl,rfl,rfl,fun k av hk=>.inl hk⟩
 refine ⟨C.add id none 0 z,hs.size,hs.defers,fun t ht=>(hs.env t ht).ext hext,⟨fun id' o' h=>?_,fun id' o' b h hb=>?_,fun i1 i2 o1 o2 b h1 h2 h3 h4=>?_,fun i1 hi=>?_,fun b hb=>?_⟩,hs.fr,fun id' o' b h hb=>?_,fun b hb=>.inr (hs.keep b hb),fun b hb ho=>?_,hext.init hs.init,hs.kf⟩
 ·rcases hlive id' o' h with ⟨rfl,rfl⟩|⟨hne,o2,h',g1,g2,g3,_⟩
  ·simp [Ctx.add]
  ·obtain ⟨h1,h2,h3⟩:=hs.obj.nil id' o2 h';simp [Ctx.add,hne,h1,h2,g2];intro hb;exact List.eq_nil_of_length_eq_zero (by rw [g3,h3 hb];rfl)
 ·rcases hlive id' o' h with ⟨rfl,rfl⟩|⟨hne,o2,h',g1,g2,g3,g4⟩
  ·simp [Ctx.add] at hb
  ·simp only [Ctx.add,hne,if_false] at hb;obtain ⟨h1,cur',h2,h3,h4,h5⟩:=hs.obj.live id' o2 b h' hb;refine ⟨.inr h1,cur',by rw [g1];exact h2,by simp [Ctx.add,hne,h3],by omega,fun k av hk=>?_⟩;rcases g4 k av hk with g|⟨rfl,g⟩
   ·obtain ⟨x,hx,h6,hr⟩:=h5 k av g;exact ⟨x,hx,h6,hr.ext hext⟩
   ·obtain ⟨x,hx,h6,hr⟩:=h5 k _ g;refine ⟨x,hx,h6,?_⟩;rw [hr.fy];exact .slnil id (.inl rfl) (by simp [Ctx.add])
 ·rcases hlive i1 o1 h1 with ⟨rfl,rfl⟩|⟨hne,p1,h1',_⟩
  ·simp [Ctx.add] at h3
  ·rcases hlive i2 o2 h2 with ⟨rfl,rfl⟩|⟨hne',p2,h2',_⟩
   ·simp [Ctx.add] at h4
   ·simp only [Ctx.add,hne,if_false] at h3;simp only [Ctx.add,hne',if_false] at h4;exact hs.obj.inj i1 i2 p1 p2 b h1' h2' h3 h4
 ·show ah _ id _ i1≠_;by_cases he:i1=id
  ·subst he;rw [ec];intro h;cases h
  ·rw [dJ _ _ he];by_cases h2:i1=i
   ·subst h2;rw [ec];intro h;cases h
   ·rw [dJ _ _ h2];rcases hi with hi|hi
    ·exact absurd hi he
    ·exact hs.obj.dom i1 hi
 ·rcases hb with hb|hb
  ·cases hb
  ·exact hs.obj.bnd b hb
 ·rcases hlive id' o' h with ⟨rfl,rfl⟩|⟨hne,o2,h',_⟩
  ·simp [Ctx.add] at hb
  ·simp only [Ctx.add,hne,if_false] at hb;exact hs.fresh id' o2 b h' hb
 ·rcases ho with ho|ho
  ·cases ho
  ·exact hs.fO b hb ho
section
variable {P:Program} {E:cZ} {st:St} {Q:Exit→St→Prop}
theorem OP {c:Code} (I:Nat→St) (Inv:Nat→Prop) (n:Nat) (h0:c6 P E c st (m8 (fun s=>Inv 0∧ck E s (I 0)) Q))
  (round:∀k,k≤n→Inv k→c6 P E c (I k) (m8 (fun s=>k<n∧Inv (k+1)∧ck E s (I (k+1))) Q)):c6 P E (.loop c) st Q:=by
 refine z6 (ι:=Option { k:Nat // k≤n∧Inv k }) (fun o=>match o with|none=>st|some k=>I k.1) (fun o=>match o with|none=>n+1|some k=>n-k.1) none (ck.refl E st) (fun o=>?_)
 cases o with
 |none=>
  refine c6.mono h0 (fun e s h=>?_)
  cases e with
  |normal=>exact ⟨some ⟨0,Nat.zero_le _,h.1⟩,by show n-0<n+1;omega,h.2⟩
  |_=>exact h
 |some k=>
  refine c6.mono (round k.1 k.2.1 k.2.2) (fun e s h=>?_)
  cases e with
  |normal=>
   obtain ⟨h1,h2,h3⟩:=h;exact ⟨some ⟨k.1+1,h1,h2⟩,by show n-(k.1+1)<n-k.1;omega,h3⟩
  |_=>exact h
end
section
variable {P:Program} {E:cZ} {st:St} {Q:Exit→St→Prop}
theorem jl {c y:Code} {Q2:Exit→St→Prop} (mid:St) (hQ:∀s,c6 P E y s Q2→Q .normal s) (h1:c6 P E c st (m8 (fun s=>ck E s mid) Q)) (h2:c6 P E y mid Q2):c6 P E c st Q:=by
 refine h1.mono fun e s h=>?_
 cases e with
 |normal=>exact hQ s (h2.imp h)
 |_=>exact h
end
theorem P0 {ob:Nat→aK} {id off e z:Nat} {pre:List AV} {x:AV} (h:ob id=.live ⟨pre++[x],e,z⟩) (ho:off=pre.length):gO ob (.pt id off)=some [x]:=by
 subst ho;simp [gO,h]
theorem P1 {pre:List AV} {x y:AV} {off:Nat} (ho:off=pre.length):spl (pre++[x]) off [y]=pre++[y]:=by
 subst ho;simp [spl]
theorem OS {ob:Nat→aK} {id j e e' z t:Nat} {pre cs:List AV} {n:Nat} (hl:ob id=.live ⟨pre++[.sl j 0 t],e,1⟩) (hj:ob j=.live ⟨cs,e',z⟩) (ht:cs.length=t*z) (hn:n=pre.length+1) [h1:cU pre] [h2:cU cs]:dL ob (.sl id 0 n) (.ro n (pre++[.ro t cs])):=by
 subst hn;refine .sl id 0 _ _ _ hl (by simp) (by simp) (fun i a b ha hb=>?_);simp only [Nat.zero_add] at ha;rcases Nat.lt_or_ge i pre.length with hi|hi
 ·rw [List.getElem?_append_left hi] at ha hb;rw [ha] at hb;cases hb;exact .same a (h1.out a (List.mem_of_getElem? ha))
 ·rw [List.getElem?_append_right hi] at ha hb
  cases hk:i-pre.length with
  |zero=>
   rw [hk] at ha hb;simp at ha hb;subst ha;subst hb;exact v3 hj ht h2.out
  |succ k=>rw [hk] at ha;simp at ha
theorem pD {σ:Nat→Nat} {a a' l l':List AV} (h:AV.dY σ a=a') (k:AV.dY σ l=l'):AV.dY σ (a++l)=a'++l':=by
 subst h;subst k;simp [fX]
theorem P2 {ob:Nat→aK} {pre l m:List AV} (h:∀(j:Nat) (a b:AV),l[j]? =some a→m[j]? =some b→gZ ob a b):∀(j:Nat) (a b:AV),(pre++l)[j]? =some a→(pre++m)[j]? =some b→gZ ob a b:=fun j a b ha hb=>by
 rcases Nat.lt_or_ge j pre.length with hj|hj
 ·rw [List.getElem?_append_left hj] at ha hb;rw [ha] at hb;cases hb;exact .inl rfl
 ·rw [List.getElem?_append_right hj] at ha hb;exact h _ a b ha hb
theorem I7 {n m:Nat} (h:n=m+1) (hb:n≤1099511627776):hY .i64 .sub (n:Int) 1=.int .i64 (m:Int):=by
 subst h;show Value.int .i64 (IntKind.i64.wrap (((m+1:Nat):Int)-1))=_;rw [IntWalk.i64_in _ (by omega)]
 congr 1
 omega
abbrev AV.i (x:Int):AV:=.v (.int .i64 x)
abbrev AV.b (x:Bool):AV:=.v (.bool x)
abbrev AV.q {α:Type} (f:α→List AV) (l:List α):AV:=.ro l.length (enc f l)
theorem lu {e e':Nat→AV} {d:Nat} {av:AV} (hd:e d=av) (h:∀t,e' t=.any∨e' t=e t):∀t,upd e' d av t=.any∨upd e' d av t=e t:=Sf d av hd h
theorem ln {e:Nat→AV}:∀t,none_ t=.any∨none_ t=e t:=QK e
section
variable {P:Program} {E:cZ} {st:St} {Q:Exit→St→Prop}
theorem Nt {c:Code} (e':Nat→AV) (o':Nat→aK) (he:∀t,e' t=.any∨e' t=st.env t) (ho:o'=st.ob) (h:c6 P E c ⟨e',o'⟩ Q):c6 P E c st Q:=cy ⟨e',o'⟩ (rI ⟨he,fun id=>.inl (by rw [ho])⟩) h
end
theorem sS {ps:List (Nat×Nat)} {e e':Nat→AV} {d:Nat} {av:AV} (hd:e d=av) (h:∀t,ga ps (e t) (e' t)) [hn:gq av]:∀t,ga ps (e t) (upd e' d av t):=Sk d av hd hn.out h
theorem sM {ps:List (Nat×Nat)} {e e':Nat→AV} {d:Nat} {av:AV} (hd:(e d).map (rn ps)=av) (h:∀t,ga ps (e t) (e' t)) (hok:Ok (· ∈ps.map (·.1)) True (e d):=by first|exact Ok.sl _ _ _ (by first|decide|simp)|exact Ok.pt _ _ (by first|decide|simp)):∀t,ga ps (e t) (upd e' d av t):=IN d av hok hd h
theorem W6 {s:St} {e':Nat→AV} (x y:Nat) {o o':ay} (hl:s.ob x=.live o) (eJ:o'=o) (he:∀t,ga [(x,y)] (s.env t) (e' t)) [hn:cU o.cells]:q7 [(x,y)] s ⟨e',ah aG y (.live o')⟩:=WZ x y o o' hl eJ hn.out he
theorem W7 {s:St} {e':Nat→AV} (x y x2 y2:Nat) {o o' o2 kV:ay} (hx:x≠x2) (hy:y≠y2) (hl:s.ob x=.live o) (hl2:s.ob x2=.live o2) (eJ:o'=o) (t_:kV=o2) (he:∀t,ga [(x,y),(x2,y2)] (s.env t) (e' t)) [hn:cU o.cells] [hn2:cU o2.cells]:
  q7 [(x,y),(x2,y2)] s ⟨e',ah (ah aG y (.live o')) y2 (.live kV)⟩:=W1 x y x2 y2 o o' o2 kV hx hy hl hl2 eJ t_ hn.out hn2.out he
end Go.Lo
set_option linter.unusedVariables false
set_option linter.unusedSimpArgs false
namespace Go.Lo
section
variable (P:Program) (E:cZ)
def v6 (ops:Array Oper) (env:Nat→AV) (dQ:(Nat→Bool)→Nat→aK) (xs:List Nat):Nat→List Oper→Prop
 |_,[]=>True
 |i,o::r=>(if i∈xs then o.guard=none∧o.dst=none∧∀b:Nat→Bool,b i=false→∀st:St,st.ob=dQ b→(∀t,(o.looksAt ops).elem t=true→st.env t=env t)→bY P E o st (fun s=>s.env=st.env∧∀id,s.ob id=dQ (fun j=>j==i||b j) id)
   else ∀b,Still P E ops env (dQ b) o)∧v6 ops env dQ xs (i+1) r
end
section
variable {P:Program} {E:cZ} {ops:Array Oper}
theorem Gl {env:Nat→AV} {dQ:(Nat→Bool)→Nat→aK} {xs:List Nat}:∀(k:Nat) (l:List Oper),v6 P E ops env dQ xs k l→∀(i:Nat) (o:Oper),l[i]? =some o→
  (if k+i∈xs then o.guard=none∧o.dst=none∧∀b:Nat→Bool,b (k+i)=false→∀st:St,st.ob=dQ b→(∀t,(o.looksAt ops).elem t=true→st.env t=env t)→bY P E o st (fun s=>s.env=st.env∧∀id,s.ob id=dQ (fun j=>j==(k+i)||b j) id)
   else ∀b,Still P E ops env (dQ b) o)
 |_,[],_,i,o,h=>by simp at h
 |k,a::r,hst,i,o,h=>by
  cases i with
  |zero=>simp at h;subst h;exact hst.1
  |succ i=>
   have:=Gl (k+1) r hst.2 i o (by simpa using h)
   rwa [show k+1+i=k+(i+1) by omega] at this
theorem bD {j i:Nat} (h:j≠i):Nat.beq j i=false:=by
 cases hb:Nat.beq j i with
 |false=>rfl
 |true=>exact absurd (Nat.eq_of_beq_eq_true hb) h
theorem vS {f g:Nat→aK} {i:Nat} {x:aK} (h1:g i=x) (h2:∀j,j≠i→f j=g j):∀id,ah f i x id=g id:=fun id=>by
 by_cases h:id=i
 ·subst h;rw [ec,h1]
 ·rw [dJ _ _ h,h2 id h]
theorem Sn {A B:Prop} {i:Nat} {xs:List Nat} (h:¬i∈xs) (b:B):if i∈xs then A else B:=by rw [if_neg h];exact b
theorem fx {A B:Prop} {i:Nat} {xs:List Nat} (h:i∈xs) (a:A):if i∈xs then A else B:=by rw [if_pos h];exact a
theorem N7 {Q:Exit→Act→World→Prop} {K:St→Prop} {m:Nat} {env:Nat→AV} {dQ:(Nat→Bool)→Nat→aK} {cg:Nat→aK} {xs:List Nat} (mr:∀b b':Nat→Bool,(∀x,x∈xs→b x=b' x)→dQ b=dQ b') (hfin:∀b:Nat→Bool,(∀i,i<m→b i=true)→dQ b=cg) (hq:∀st' a' w',ey E st' a' w'→K st'→Q .normal a' w') (hm:m≤ops.size)
  (tN:(List.range m).all (qc ops m)=true) (hsc:m=ops.size∨(Region.sinkB .any ops m=true∧Region.chainB .any ops m=true)) (hT:oS ops (ops.size-m) m=true)
  (hst:v6 P E ops env dQ xs 0 (ops.toList.take m)) (htail:db P E ops (ops.toList.drop m) ⟨env,cg⟩ K) (u:Nat):
  ∀(listed:Array Bool) (a:Act) (w:World),HeadInv .any ops m listed→cnt listed m=u→ey E ⟨d6 ops m listed env,dQ fun i=>listed.getD i false⟩ a w→wpAny P .any ops Q (u+(ops.size-m)) listed a w:=by
 have o3:∀i,i<m→∃o,ops[i]? =some o∧(∀e∈o.after,Region.binds .any e=true→e.on<i)∧∀t,t∈o.looksAt ops→∀j oj,j<m→ops[j]? =some oj→oj.dst=some t→∃e∈o.after,Region.binds .any e=true∧e.on=j:=by
  intro i hi;have h:=List.all_eq_true.1 tN i (List.mem_range.2 hi);unfold qc at h
  split at h
  ·rename_i o ho;simp only [Bool.and_eq_true] at h;refine ⟨o,ho,fun e he hb=>?_,fun t ht j oj hj hoj hdt=>?_⟩
   ·have:=Array.all_eq_true'.1 h.1 e he;simpa [hb] using this
   ·have h2:=List.all_eq_true.1 (List.all_eq_true.1 h.2 t ht) j (List.mem_range.2 hj);simp only [hoj,hdt] at h2;have h3:(o.after.any fun e=>Region.binds .any e&&e.on==j)=true:=by simpa using h2
    obtain ⟨e,he,hb⟩:=Array.any_eq_true'.1 h3;simp only [Bool.and_eq_true,beq_iff_eq] at hb;exact ⟨e,he,hb.1,hb.2⟩
  ·cases h
 induction u with
 |zero=>
  intro listed a w inv hc hs;have hall:=Al hc
  have hl:listed=upTo ops.size m:=by
   apply Array.ext_getElem?;intro j;rcases Nat.lt_or_ge j ops.size with hj|hj
   ·rw [s4 hj,Array.getElem?_eq_getElem (by rw [inv.size];exact hj)];rcases Nat.lt_or_ge j m with h1|h1
    ·have:=hall j h1;simp [show j<listed.size by rw [inv.size];exact hj] at this;simp [this,h1]
    ·have:=inv.tail j h1 hj;simp [show j<listed.size by rw [inv.size];exact hj] at this;simp [this];omega
   ·rw [Array.getElem?_eq_none (by rw [inv.size];exact hj),Array.getElem?_eq_none (by rw [rk];exact hj)]
  have Cz:(dQ fun i=>listed.getD i false)=cg:=hfin _ hall
  have qq:ey E ⟨env,cg⟩ a w:=by
   rw [Cz] at hs;refine hs.le ⟨fun t=>.inr ?_,fun id=>.inl rfl⟩;simp only [d6];rw [if_neg];rintro ⟨j,o,h1,_,_,h2⟩;rw [hall j h1] at h2
   cases h2
  rw [hl,Nat.zero_add];have:=zL hq (ops.toList.drop m) m ⟨env,cg⟩ a w (fun j=>by simp [List.getElem?_drop]) (by simp;omega) (by simpa using hT) qq htail;simpa using this
 |succ u ih=>
  intro listed a w inv hc hs;rw [show u+1+(ops.size-m)=(u+(ops.size-m))+1 by omega]
  have hun:∃j,j<m∧listed.getD j false=false:=by
   apply Classical.byContradiction;intro hno
   have:∀k,k≤m→cnt listed k=0:=by
    intro k
    induction k with
    |zero=>intro _;rfl
    |succ k ihk=>
     intro hk;simp only [cnt];rw [ihk (by omega)]
     cases hkv:listed.getD k false with
     |true=>simp
     |false=>exact absurd ⟨k,by omega,hkv⟩ hno
   have:=this m (Nat.le_refl _);omega
  have tu:∀n j,j<n→j<m→listed.getD j false=false→Region.ready .any ops listed≠ []:=by
   intro n
   induction n with
   |zero=>intro j h;omega
   |succ n ihn=>
    intro j hj hjm hf;obtain ⟨o,ho,he,_⟩:=o3 j hjm;by_cases ZV:∀e∈o.after,Region.binds .any e=true→listed.getD e.on false=true
    ·intro hnil;have:j∈Region.ready .any ops listed:=mem_ready.2 ⟨getD_in (by rw [inv.size];omega) hf,o,ho,ZV⟩;rw [hnil] at this
     cases this
    ·have:∃e∈o.after,Region.binds .any e=true∧listed.getD e.on false=false:=by
      apply Classical.byContradiction;intro hno;apply ZV;intro e he1 he2
      cases hv:listed.getD e.on false with
      |true=>rfl
      |false=>exact absurd ⟨e,he1,he2,hv⟩ hno
     obtain ⟨e,he1,he2,mN⟩:=this;have:=he e he1 he2;exact ihn e.on (by omega) (by omega) mN
  obtain ⟨j0,hj0,hf0⟩:=hun;refine ⟨fun hnil=>absurd hnil (tu (j0+1) j0 (by omega) hj0 hf0),fun i hi=>?_⟩;obtain ⟨t9,oi,hoi,hall⟩:=mem_ready.1 hi;have hin:i<ops.size:=(Array.getElem?_eq_some_iff.1 hoi).1
  have him:i<m:=by
   rcases Nat.lt_or_ge i m with h|h
   ·exact h
   ·rcases hsc with h1|⟨h1,h2⟩
    ·omega
    ·exact absurd hi (tail_waits h1 h2 (by omega) inv _ j0 rfl hj0 (getD_in (by rw [inv.size];omega) hf0) i h)
  have hif:listed.getD i false=false:=getD_both t9;obtain ⟨o',ho',_,tO⟩:=o3 i him;rw [hoi] at ho'
  cases ho'
  have hsame:∀t,t∈oi.looksAt ops→d6 ops m listed env t=env t:=by
   intro t ht;simp only [d6];rw [if_neg];rintro ⟨j,oj,h1,h2,h3,h4⟩;obtain ⟨e,he1,he2,mN⟩:=tO t ht j oj h1 h2 h3;have:=hall e he1 he2;rw [mN,h4] at this
   cases this
  have lx:=Gl _ _ hst i oi (by rw [List.getElem?_take,if_pos him];simpa using hoi);rw [Nat.zero_add] at lx
  have hcnt:cnt (listed.setIfInBounds i true) m=u:=by
   have:=AU (listed:=listed) (by rw [inv.size];exact hin) hif m;rw [if_pos him] at this;omega
  by_cases hix:i∈xs
  ·rw [if_pos hix] at lx;obtain ⟨hg,hdn,hop⟩:=lx;unfold wpOp;simp only [hoi];have hw:Region.wanted oi (yielded ops a.tmps)=true:=by simp [Region.wanted,hg]
   rw [if_pos hw];refine .inl (Oper.wp_mono ?_ (hop (fun j=>listed.getD j false) hif ⟨d6 ops m listed env,dQ fun j=>listed.getD j false⟩ rfl (fun t ht=>hsame t (List.elem_iff.1 ht)) a w Q hs));rintro a' w' ⟨s,h1,he1,he2⟩;refine ih _ a' w' (inv.set hi him) hcnt (h1.le ⟨fun t=>?_,fun id=>.inl ?_⟩)
   ·refine .inr ?_;rw [he1];simp only [d6];by_cases hex:∃j o,j<m∧ops[j]? =some o∧o.dst=some t∧listed.getD j false=false
    ·rw [if_pos hex,if_pos];obtain ⟨j,o,k1,k2,k3,k4⟩:=hex;refine ⟨j,o,k1,k2,k3,?_⟩
     have hij:i≠j:=fun e=>by
      subst e;rw [hoi] at k2
      cases k2
      rw [hdn] at k3
      cases k3
     rw [getD_set_ne false hij];exact k4
    ·rw [if_neg hex,if_neg];rintro ⟨j,o,k1,k2,k3,k4⟩;refine hex ⟨j,o,k1,k2,k3,?_⟩
     have hij:i≠j:=fun e=>by
      subst e;rw [hoi] at k2
      cases k2
      rw [hdn] at k3
      cases k3
     rw [getD_set_ne false hij] at k4;exact k4
   ·rw [he2 id];refine congrFun (mr _ _ fun x _=>?_) id;show _=(x==i||listed.getD x false)
    by_cases hxi:i=x
    ·subst hxi;have:=inv.size;simp [show i<listed.size by omega]
    ·rw [getD_set_ne false hxi];simp [show ¬x=i from fun e=>hxi e.symm]
  rw [if_neg hix] at lx;have CB:(dQ fun j=>(listed.setIfInBounds i true).getD j false)=dQ fun j=>listed.getD j false:=mr _ _ fun x hx=>by rw [getD_set_ne false (fun e=>by subst e;exact hix hx)]
  have hstill:Still P E ops env (dQ fun j=>listed.getD j false) oi:=lx _
  clear lx
  generalize hog:(dQ fun j=>listed.getD j false)=lD at hs hstill;have ih':∀(a:Act) (w:World),ey E ⟨d6 ops m (listed.setIfInBounds i true) env,lD⟩ a w→wpAny P .any ops Q (u+(ops.size-m)) (listed.setIfInBounds i true) a w:=fun a w h=>ih _ a w (inv.set hi him) hcnt (by rw [CB,hog];exact h)
  have hnext:∀(d:Nat) (s:St),oi.dst=some d→s.ob=lD→(∀t,t≠d→s.env t=d6 ops m listed env t)→(env d=.any∨s.env d=env d)→Le s ⟨d6 ops m (listed.setIfInBounds i true) env,lD⟩:=by
   intro d s hdd h1 h2 h3;refine ⟨fun t=>?_,fun id=>.inl (by rw [h1])⟩;simp only [d6];by_cases hex:∃j o,j<m∧ops[j]? =some o∧o.dst=some t∧(listed.setIfInBounds i true).getD j false=false
   ·rw [if_pos hex];exact .inl rfl
   ·rw [if_neg hex];by_cases htd:t=d
    ·subst htd;rcases h3 with h3|h3
     ·exact .inl h3
     ·exact .inr h3.symm
    ·refine .inr ?_;rw [h2 t htd];simp only [d6];rw [if_neg];rintro ⟨j,o,k1,k2,k3,k4⟩;refine hex ⟨j,o,k1,k2,k3,?_⟩
     have hij:i≠j:=fun e=>by
      subst e;rw [hoi] at k2
      cases k2
      rw [hdd] at k3
      cases k3
      exact htd rfl
     rw [getD_set_ne false hij];exact k4
  have hgo:∀(d:Nat),oi.dst=some d→iB P E ops env lD oi→oi.wp P a w (wpAny P .any ops Q (u+(ops.size-m)) (listed.setIfInBounds i true)) Q:=by
   rintro d hdd ⟨d',hd',_,hop⟩;rw [hdd] at hd'
   cases hd'
   refine Oper.wp_mono ?_ (hop ⟨d6 ops m listed env,lD⟩ rfl (fun t ht=>hsame t (List.elem_iff.1 ht)) a w Q hs);rintro a' w' ⟨s,h1,rfl⟩;refine ih' a' w' (h1.le (hnext d _ hdd rfl (fun t ht=>upd_ne _ _ ht) (.inr (upd_same _ _ _))))
  unfold wpOp;simp only [hoi];unfold Still at hstill
  cases hg:oi.guard with
  |none=>
   rw [hg] at hstill;obtain ⟨d,hd,h1,h2⟩:=hstill;have hw:Region.wanted oi (yielded ops a.tmps)=true:=by simp [Region.wanted,hg]
   rw [if_pos hw];exact .inl (hgo d hd ⟨d,hd,h1,h2⟩)
  |some ny=>
   obtain ⟨j,want⟩:=ny;rw [hg] at hstill;obtain ⟨t,uv,hj,ht,he,hyes,hno⟩:=hstill
   have htl:t∈oi.looksAt ops:=by
    unfold Oper.looksAt;rw [hg];simp [hj]
   obtain ⟨C,hs'⟩:=hs;have hy:=sT hs' hj ht (by show d6 ops m listed env t=_;rw [hsame t htl];exact he);by_cases hb:yv uv=some want
   ·have hw:Region.wanted oi (yielded ops a.tmps)=true:=by simp [Region.wanted,hg,hy,hb]
    rw [if_pos hw];obtain ⟨d,hd,h1,h2⟩:=hyes hb;exact .inl (hgo d hd ⟨d,hd,h1,h2⟩)
   ·have hw:Region.wanted oi (yielded ops a.tmps)=false:=by simp [Region.wanted,hg,hy,hb]
    rw [if_neg (by simp [hw])];obtain ⟨d,hd,hdN,hany⟩:=hno hb
    have hs2:ey E ⟨upd (d6 ops m listed env) d (.v undef),lD⟩ (a.put oi.dst undef) w:=by
     have:=hs'.set oi.dst (fun d' hd'=>by rw [hd] at hd';cases hd';exact hdN) (.v undef) undef (fun _=>.v _);rw [hd] at this ⊢;exact ⟨C,this⟩
    exact ih' _ w (hs2.le (hnext d _ hd rfl (fun t ht=>upd_ne _ _ ht) (hany.imp id (fun h=>by rw [h];exact upd_same _ _ _))))
theorem OR {id m:Nat} {st:St} (dQ:(Nat→Bool)→Nat→aK) (cg:Nat→aK) (xs:List Nat) (CF:dQ (fun _=>false)=st.ob) (mr:∀b b':Nat→Bool,(∀x,x∈xs→b x=b' x)→dQ b=dQ b') (hfin:∀b:Nat→Bool,(∀i,i<m→b i=true)→dQ b=cg) {Q:Exit→St→Prop} (vs:List (Nat×AV)) (hm:P.follows .mixedOrders=true) (hB:pY ops m (vs.map (·.1))=true)
  (hst:v6 P E ops (kW vs st.env) dQ xs 0 (ops.toList.take m)) (htail:db P E ops (ops.toList.drop m) ⟨kW vs st.env,cg⟩ (fun s=>Q .normal s)):c6 P E (.region id ops true) st Q:=by
 intro a w hs;simp only [pY,Bool.and_eq_true,Bool.or_eq_true,beq_iff_eq,decide_eq_true_eq] at hB;obtain ⟨⟨⟨⟨h1,h2⟩,h3⟩,h4⟩,h5⟩:=hB;refine wp_region_any hm ?_
 have inv:HeadInv .any ops m (Array.replicate ops.size false):=
  ⟨by simp,fun j oj _ hl=>(by rw [getD_replicate_false] at hl;cases hl),fun t _ ht=>getD_in (by simpa using ht) (getD_replicate_false _ _)⟩
 have hcnt:∀k,cnt (Array.replicate ops.size false) k=k:=by
  intro k
  induction k with
  |zero=>rfl
  |succ k ih=>simp only [cnt];rw [ih,getD_replicate_false];simp
 have hs1:ey E st a { w with drawn:=w.drawn+1 }:=by
  obtain ⟨C,hs⟩:=hs;have hext:Ext w C { w with drawn:=w.drawn+1 } C:=⟨fun _ h=>⟨h,rfl,rfl,rfl⟩,fun _ _ h=>h,fun _ _ _=>rfl⟩
  have:=hs.put hext st.ob ⟨hs.obj.nil,fun id o b h1 h2=>?_,hs.obj.inj,hs.obj.dom,hs.obj.bnd⟩ ⟨hs.fr.os,hs.fr.tape,hs.fr.output,hs.fr.size,hs.fr.block⟩ hs.fresh hs.keep hs.fO none (fun d h=>by cases h) .any undef (fun h=>absurd rfl h)
  ·exact ⟨C,this⟩
  ·obtain ⟨k1,cur,k2,k3,k4,k5⟩:=hs.obj.live id o b h1 h2;refine ⟨k1,cur,k2,k3,k4,fun j av hj=>?_⟩;obtain ⟨u,hu,k6,k7⟩:=k5 j av hj;exact ⟨u,hu,k6,k7.ext hext⟩
 have hs2:ey E ⟨d6 ops m (Array.replicate ops.size false) (kW vs st.env),st.ob⟩ a { w with drawn:=w.drawn+1 }:=by
  refine hs1.le ⟨fun t=>?_,fun id=>.inl rfl⟩;simp only [d6];by_cases hex:∃j o,j<m∧ops[j]? =some o∧o.dst=some t∧(Array.replicate ops.size false).getD j false=false
  ·rw [if_pos hex];exact .inl rfl
  ·rw [if_neg hex];refine .inr (AS fun hmem=>?_);have:=List.all_eq_true.1 h2 t hmem;obtain ⟨o,ho,hd⟩:=List.any_eq_true.1 this;simp only [beq_iff_eq] at hd;obtain ⟨j,hj⟩:=List.mem_iff_getElem?.1 ho;rw [List.getElem?_take] at hj
   split at hj
   ·rename_i hjm;exact hex ⟨j,o,hjm,by simpa using hj,hd,getD_replicate_false _ _⟩
   ·cases hj
 have CG:(dQ fun i=>(Array.replicate ops.size false).getD i false)=st.ob:=by rw [←CF];exact mr _ _ fun x _=>getD_replicate_false _ _
 rw [←CG] at hs2;have:=N7 (P:=P) mr hfin (Q:=fun e a' w'=>∃st',ey E st' a' w'∧Q e st') (K:=fun s=>Q .normal s) (fun st' a' w' k1 k2=>⟨st',k1,k2⟩) h1 h3 h4 h5 hst htail m _ a _ inv (hcnt m) hs2
 rwa [show m+(ops.size-m)=ops.size by omega] at this
end
end Go.Lo
