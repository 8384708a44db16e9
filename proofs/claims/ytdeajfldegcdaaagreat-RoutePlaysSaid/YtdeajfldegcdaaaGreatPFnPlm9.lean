/- Part of the logic of values: what the law reaches. -/
import Derived.Test.YtdeajfldegcdaaaGreatPFnPlm8
import Derived.Test.YtdeajfldegcdaaaGreatPFnPlm4
import Derived.WalkKit
import Derived.ProofKit
import Derived.OpenShut
import Derived.ChangeOld
import Derived.Below
import Derived.Carry
import Derived.Deep.Slices
import Derived.ChangeSame
import Derived.Test.YtdeajfldegcdaaaGreatPFnPlm7
set_option linter.unusedVariables false
namespace Go.Lo
section
variable {P:Program} {E:cZ} {ops:Array Oper} {env:Nat→AV} {ob:Nat→aK} {o:Oper} {j t d:Nat} {b:Bool}
theorem X0 (hb:b=false) (hg:o.guard=some (j,true)) (ht:(ops[j]?).bind (·.dst)=some t) (hl:t<E.N) (he:env t=.v (.bool b)) (hd:o.dst=some d) (hdl:d<E.N) (hx:env d=.v undef):Still P E ops env ob o:=by
 unfold Still;rw [hg];exact ⟨t,.bool b,ht,hl,he,fun h=>(by rw [hb] at h;cases h),fun _=>⟨d,hd,hdl,.inr hx⟩⟩
theorem X1 (hb:b=true) (hg:o.guard=some (j,false)) (ht:(ops[j]?).bind (·.dst)=some t) (hl:t<E.N) (he:env t=.v (.bool b)) (hd:o.dst=some d) (hdl:d<E.N) (hx:env d=.v undef):Still P E ops env ob o:=by
 unfold Still;rw [hg];exact ⟨t,.bool b,ht,hl,he,fun h=>(by rw [hb] at h;cases h),fun _=>⟨d,hd,hdl,.inr hx⟩⟩
theorem X2 (hb:b=true) (hg:o.guard=some (j,true)) (ht:(ops[j]?).bind (·.dst)=some t) (hl:t<E.N) (he:env t=.v (.bool b)) (hs:iB P E ops env ob o):Still P E ops env ob o:=by
 unfold Still;rw [hg];exact ⟨t,.bool b,ht,hl,he,fun _=>hs,fun h=>absurd (by rw [hb];rfl) h⟩
theorem X3 (hb:b=false) (hg:o.guard=some (j,false)) (ht:(ops[j]?).bind (·.dst)=some t) (hl:t<E.N) (he:env t=.v (.bool b)) (hs:iB P E ops env ob o):Still P E ops env ob o:=by
 unfold Still;rw [hg];exact ⟨t,.bool b,ht,hl,he,fun _=>hs,fun h=>absurd (by rw [hb];rfl) h⟩
end
section
variable {P:Program} {E:cZ} {st:St} {K:St→Prop} {ops:Array Oper} {o:Oper} {r:List Oper} {x:Operand} {d:Nat}
theorem mG (av:AV) (h:db P E ops r ⟨upd st.env d av,st.ob⟩ K) (hg:o.guard=none:=by rfl) (ho:o.op=.move x∨o.op=.assign x:=by first|exact .inl rfl|exact .inr rfl) (hd:o.dst=some d:=by rfl) (hN:(bh E.N x&&Nat.blt d E.N)=true:=by rfl) (hx:aU st.env x=av:=by rfl):db P E ops (o::r) st K:=
 zd hg (dz ho hd hN hx h)
theorem fG {s:TypeId} {i t off sz:Nat} {av:AV} (fC:AV) (hf:dD P s i=some (t,off)) (hsz:(P.info? t).map (·.size)=some (sz+1)) (h:db P E ops r ⟨upd st.env d fC,st.ob⟩ K) (hg:o.guard=none:=by rfl) (ho:o.op=.fieldAddr s x i:=by rfl)
  (hd:o.dst=some d:=by rfl) (hN:(bh E.N x&&Nat.blt d E.N)=true:=by rfl) (hx:aU st.env x=av:=by rfl) (hp:nZ av=true:=by rfl) (ha:tL av off=fC:=by rfl):db P E ops (o::r) st K:=
 zd hg (zt ho hd hN hf hsz hx hp ha h)
theorem bG {op:BinOp} {t t':TypeId} {y:Operand} {k:IntKind} {a b:Int} (u:Value) (h:db P E ops r ⟨upd st.env d (.v u),st.ob⟩ K) (hg:o.guard=none:=by rfl) (ho:o.op=.binOp op t x y t':=by rfl) (hd:o.dst=some d:=by rfl)
  (hN:(bh E.N x&&bh E.N y&&Nat.blt d E.N)=true:=by rfl) (hx:aU st.env x=.v (.int k a):=by rfl) (hy:aU st.env y=.v (.int k b):=by rfl) (hb:qa op b:=by trivial) (hu:hY k op a b=u:=by rfl):db P E ops (o::r) st K:=
 zd hg (ez ho hd hN hx hy hb hu h)
theorem nG {j t:Nat} {want b c:Bool} (hbc:b=c) (h:db P E ops r ⟨upd st.env d (.v undef),st.ob⟩ K) (hg:o.guard=some (j,want):=by rfl) (hj:(ops[j]?).bind (·.dst)=some t:=by rfl) (ht:Nat.blt t E.N=true:=by rfl) (he:st.env t=.v (.bool b):=by rfl)
  (hne:(c==want)=false:=by rfl) (hd:o.dst=some d:=by rfl) (hdN:Nat.blt d E.N=true:=by rfl):db P E ops (o::r) st K:=
 Y2 hg hj ht he (by subst hbc;intro h;cases h;simp at hne) hd hdN h
end
section
variable {P:Program} {E:cZ} {st:St} {Q:Exit→St→Prop}
theorem rT {c:Code} (e':Nat→AV) (o':Nat→aK) (h:c6 P E c ⟨e',o'⟩ Q) (he:∀t,e' t=.any∨e' t=st.env t:=by repeat (first|exact ln|refine lu rfl ?_)) (ho:o'=st.ob:=by rfl):c6 P E c st Q:=Nt e' o' he ho h
theorem oY {K:St→Prop} {ops:Array Oper} {o:Oper} {r:List Oper} {j t:Nat} {want b:Bool} (hbc:b=want) (h:bY P E o st fun s=>db P E ops r s K) (hg:o.guard=some (j,want):=by rfl) (hj:(ops[j]?).bind (·.dst)=some t:=by rfl) (ht:Nat.blt t E.N=true:=by rfl) (he:st.env t=.v (.bool b):=by rfl):db P E ops (o::r) st K:=
 fZ hg hj ht (by rw [he,hbc]) h
theorem iN {s:St} {e':Nat→AV} (he:∀t,ga [] (s.env t) (e' t):=by repeat (first|exact bQ|refine sS rfl ?_)) (hk:∀i,i<E.m→(i,i)∈([]:List (Nat×Nat)):=by exact v5 rfl):ck E s ⟨e',aG⟩:=rC [] (W0 he) hk
theorem iI {s:St} {e':Nat→AV} (x y:Nat) {o o':ay} (hl:s.ob x=.live o) (he:∀t,ga [(x,y)] (s.env t) (e' t):=by repeat (first|exact bQ|refine sS rfl ?_|refine sM rfl ?_)) (eJ:o'=o:=by rfl) (hk:∀i,i<E.m→(i,i)∈ [(x,y)]:=by exact v5 rfl) [hn:cU o.cells]:ck E s ⟨e',ah aG y (.live o')⟩:=rC [(x,y)] (W6 x y hl eJ he) hk
theorem zp {s:St} {e':Nat→AV} (x y x2 y2:Nat) {o o' o2 kV:ay} (hl:s.ob x=.live o) (hl2:s.ob x2=.live o2) (he:∀t,ga [(x,y),(x2,y2)] (s.env t) (e' t):=by repeat (first|exact bQ|refine sS rfl ?_|refine sM rfl ?_)) (eJ:o'=o:=by rfl) (t_:kV=o2:=by rfl) (hx:x≠x2:=by decide) (hy:y≠y2:=by decide)
  (hk:∀i,i<E.m→(i,i)∈ [(x,y),(x2,y2)]:=by exact v5 rfl) [hn:cU o.cells] [hn2:cU o2.cells]:ck E s ⟨e',ah (ah aG y (.live o')) y2 (.live kV)⟩:=rC [(x,y),(x2,y2)] (W7 x y x2 y2 hx hy hl hl2 eJ t_ he) hk
theorem iL {s:St} {e':Nat→AV} (ps:List (Nat×Nat)) (qs:List ((Nat×Nat)×aK)) (hq:rJ ps s qs) (he:∀t,ga ps (s.env t) (e' t):=by repeat (first|exact bQ|refine sS rfl ?_|refine sM rfl ?_)) (hps:qs.map (·.1)=ps:=by rfl) (hn1:(ps.map (·.1)).Nodup:=by decide) (hn2:(ps.map (·.2)).Nodup:=by decide)
  (hk:∀i,i<E.m→(i,i)∈ps:=by exact v5 rfl):ck E s ⟨e',nc qs aG⟩:=rC ps (W3 ps qs hps hn1 hn2 hq he) hk
end
section
variable {P:Program} {E:cZ} {ops:Array Oper} {env:Nat→AV} {ob:Nat→aK} {o:Oper} {j t d:Nat} {b:Bool}
theorem ef (hb:b=false) (hg:o.guard=some (j,true):=by rfl) (ht:(ops[j]?).bind (·.dst)=some t:=by rfl) (hl:Nat.blt t E.N=true:=by rfl) (he:env t=.v (.bool b):=by rfl) (hd:o.dst=some d:=by rfl) (hdl:Nat.blt d E.N=true:=by rfl) (hx:env d=.v undef:=by rfl):Still P E ops env ob o:=X0 hb hg ht (bX hl) he hd (bX hdl) hx
theorem dr (hb:b=true) (hg:o.guard=some (j,false):=by rfl) (ht:(ops[j]?).bind (·.dst)=some t:=by rfl) (hl:Nat.blt t E.N=true:=by rfl) (he:env t=.v (.bool b):=by rfl) (hd:o.dst=some d:=by rfl) (hdl:Nat.blt d E.N=true:=by rfl) (hx:env d=.v undef:=by rfl):Still P E ops env ob o:=X1 hb hg ht (bX hl) he hd (bX hdl) hx
theorem dM (hb:b=true) (hs:iB P E ops env ob o) (hg:o.guard=some (j,true):=by rfl) (ht:(ops[j]?).bind (·.dst)=some t:=by rfl) (hl:Nat.blt t E.N=true:=by rfl) (he:env t=.v (.bool b):=by rfl):Still P E ops env ob o:=X2 hb hg ht (bX hl) he hs
theorem bP (hb:b=false) (hs:iB P E ops env ob o) (hg:o.guard=some (j,false):=by rfl) (ht:(ops[j]?).bind (·.dst)=some t:=by rfl) (hl:Nat.blt t E.N=true:=by rfl) (he:env t=.v (.bool b):=by rfl):Still P E ops env ob o:=X3 hb hg ht (bX hl) he hs
theorem aM {s:Nat} (ho:o.op=.move (.tmp s)∨o.op=.assign (.tmp s):=by first|exact .inl rfl|exact .inr rfl) (hd:o.dst=some d:=by rfl) (hl:Nat.blt d E.N=true:=by rfl) (hs:Nat.blt s E.N=true:=by rfl) (hk:(o.looksAt ops).elem s=true:=by rfl) (he:env s=env d:=by rfl):iB P E ops env ob o:=
 ⟨d,hd,bX hl,fun st ap hE=>dz ho hd (by show (Nat.blt s E.N&&Nat.blt d E.N)=true;rw [hs,hl];rfl) (show aU st.env (.tmp s)=env d from (hE s hk).trans he) (by rw [ap])⟩
theorem cN {s ty:Nat} {p:AV} {rest:List AV} (hb:YV P ty=some false) (ho:o.op=.load ty (.tmp s):=by rfl) (hd:o.dst=some d:=by rfl) (hl:Nat.blt d E.N=true:=by rfl) (hs:Nat.blt s E.N=true:=by rfl) (hk:(o.looksAt ops).elem s=true:=by rfl) (he:env s=p:=by rfl) (hp:gO ob p=some (env d::rest):=by rfl):iB P E ops env ob o:=
 ⟨d,hd,bX hl,fun st ap hE=>i3 (p:=p) (rest:=rest) ho hd (by show (Nat.blt s E.N&&Nat.blt d E.N)=true;rw [hs,hl];rfl) hb (show aU st.env (.tmp s)=p from (hE s hk).trans he) (by rw [ap];exact hp) (by rw [ap])⟩
theorem d4 {s i ty e sz k n:Nat} {kk:IntKind} {α:Type} {f:α→List AV} {l:List α} (df:α) (ht:P.underlying ty=some (.slice e)) (hsz:(P.info? e).map (·.size)=some sz) (ho:o.op=.indexAddr ty (.tmp s) (.tmp i):=by rfl) (hd:o.dst=some d:=by rfl) (hl:Nat.blt d E.N=true:=by rfl) (hs:Nat.blt s E.N=true:=by rfl) (hi:Nat.blt i E.N=true:=by rfl)
  (h1:(o.looksAt ops).elem s=true:=by rfl) (h2:(o.looksAt ops).elem i=true:=by rfl) (he:env s=.ro n (enc f l):=by exact rfl) (X4:env i=.v (.int kk (k:Int)):=by exact rfl) (hf:∀x,(f x).length=sz:=by exact fun _=>rfl) (hn:n=l.length:=by rfl) (hk:k<l.length:=by first|omega|(simp;done)|decide|(simp at*;omega))
  (hd2:AV.rp (f (l.getD k df)++(enc f l).drop ((k+1)*sz))=env d:=by exact rfl):iB P E ops env ob o:=
 ⟨d,hd,bX hl,fun st ap hE=>kD df ho hd (by show (Nat.blt s E.N&&Nat.blt i E.N&&Nat.blt d E.N)=true;rw [hs,hi,hl];rfl) ht hsz (show aU st.env (.tmp s)=_ from (hE s h1).trans he) (show aU st.env (.tmp i)=_ from (hE i h2).trans X4) hf hn hk (by rw [ap,hd2])⟩
end
end Go.Lo
set_option linter.unusedVariables false
set_option linter.unusedSimpArgs false
namespace Go.Lo
theorem wd {P:Program} {E:cZ} {st:St} {K:St→Prop} {o:Oper} {c:Call} {c7:Operand} {args:List Operand} {tys:Array TypeId} {f d:Nat} {caps cW:List AV} {res res':AV} {news news':List ay} (s:Nat) (hF:jq P f cW res news)
  (ho:o.op=.call c) (hc:c={ callee:=.value c7,args:=args.toArray,argTypes:=tys }) (hd:o.dst=some d) (hN:(bh E.N c7&&args.all (bh E.N)&&Nat.blt d E.N)=true)
  (fm:aU st.env c7=.fn f caps) (hb:bO P f=true) (hl:∀ob,ew ob (args.map (aU st.env)++caps) cW) (hno:∀o,o∈news→ii o.cells)
  (hfree:∀i,i<news.length→st.ob (s+i)=.free) (hres:res.map (· +s)=res') (hnews:news=news')
  (h:K ⟨upd st.env d res',dK st.ob s news'⟩):bY P E o st K:=by
 refine zX (news':=news') s false ho hc hd hN fm hb (hl _) (fun _=>hl _) hF (fun h=>by cases h) hfree hres ?_ h;subst hnews;rw [List.map_congr_left (g:=_root_.id) (fun o ho=>?_),List.map_id];have:AV.dY (· +s) o.cells=o.cells:=rh (hno o ho);show ay.mk _ _ _=o;rw [this]
theorem wh {o:ay} [h:cU o.cells]:∀o':ay,o'∈ [o]→ii o'.cells:=fun o' ho=>by
 rw [List.mem_singleton.1 ho];exact h.out
end Go.Lo
set_option linter.unusedVariables false
set_option linter.unusedSimpArgs false
namespace Go.Lo
open Go.ChangeShapes Go.WideShapes Go.Deep Go.RowKit
abbrev Cx:Ctx:=C0 (fun _=>False)
def Dec (P:Program) (t:TypeId) {α:Type} (f:α→List AV) (s:Nat) (Q:α→Prop):Prop:=
 ∀(H:Type) (en:TypeId×Value→H) (w:World) (sp:Nat→Bool) (fuel:Nat) (cs:List Value) (x:DataW H×List MemPlace),DataW.trod en P w 0 sp true fuel t cs=some x→
  ∃a,Q a∧cs.length=s∧(f a).length=s∧∀(j:Nat) (av:AV),(f a)[j]? =some av→∃u,cs[j]? =some u∧u.oneCell'=true∧R w Cx av u
theorem Ij {P:Program} {t:TypeId} {α β:Type} {f:α→List AV} {f':β→List AV} {s:Nat} {Q:α→Prop} {Q':β→Prop} (g:α→β) (hd:Dec P t f s Q) (hf:∀a,f' (g a)=f a) (hQ:∀a,Q a→Q' (g a)):Dec P t f' s Q':=by
 intro H en w sp fuel cs x h;obtain ⟨a,h1,h2,h3,h4⟩:=hd H en w sp fuel cs x h;exact ⟨g a,hQ a h1,h2,by rw [hf];exact h3,fun j av hj=>h4 j av (by rw [←hf];exact hj)⟩
theorem one_cell {w:World} {u:Value} {av:AV} (h1:u.oneCell'=true) (hR:R w Cx av u):∀(j:Nat) (fC:AV),[av][j]? =some fC→∃u',[u][j]? =some u'∧u'.oneCell'=true∧R w Cx fC u':=fun j fC hj=>by
 cases j with
 |zero=>simp at hj;subst hj;exact ⟨u,rfl,h1,hR⟩
 |succ j=>simp at hj
theorem jQ {P:Program} {t:TypeId} {k:IntKind} (h:P.underlying t=some (.int k)):Dec P t (fun n:Int=>[.v (.int k n)]) 1 (fun n=>(Lit.int k n).wf=true):=by
 intro H en w sp fuel cs x hx;obtain ⟨n,rfl,_,hw⟩:=DataW.trod_int h hx;exact ⟨n,hw,rfl,rfl,one_cell rfl (.v _)⟩
theorem Q0 {P:Program} {t:TypeId} (h:P.underlying t=some .bool):Dec P t (fun b:Bool=>[.v (.bool b)]) 1 (fun _=>True):=by
 intro H en w sp fuel cs x hx;obtain ⟨b,rfl,_⟩:=DataW.trod_bool h hx;exact ⟨b,trivial,rfl,rfl,one_cell rfl (.v _)⟩
theorem N9 {α:Type} {p:Nat→α→Prop}:∀(n:Nat),(∀i,i<n→∃a,p i a)→∃l:List α,l.length=n∧∀i a,l[i]? =some a→p i a:=by
 intro n
 induction n with
 |zero=>intro _;exact ⟨[],rfl,fun i a h=>by simp at h⟩
 |succ n ih=>
  intro h;obtain ⟨l,h1,h2⟩:=ih (fun i hi=>h i (by omega));obtain ⟨a,ha⟩:=h n (by omega);refine ⟨l++[a],by simp [h1],fun i b hb=>?_⟩;rw [List.getElem?_append] at hb
  split at hb
  ·exact h2 i b hb
  ·rename_i hi
   have hin:i=n:=by
    have:=(List.getElem?_eq_some_iff.1 hb).1;simp at this;omega
   subst hin;simp [h1] at hb;subst hb;exact ha
theorem TP {α:Type} {f:α→List AV} {s:Nat}:∀(l:List α),(∀x∈l,(f x).length=s)→∀(j:Nat) (av:AV),(enc f l)[j]? =some av→∃a,l[j / s]? =some a∧(f a)[j % s]? =some av:=by
 intro l
 induction l with
 |nil=>intro _ j av h;simp [enc] at h
 |cons b l ih=>
  intro hf j av h;rw [nC] at h;have hb:=hf b (by simp);rw [List.getElem?_append] at h
  split at h
  ·rename_i hlt;rw [hb] at hlt;exact ⟨b,by rw [Nat.div_eq_of_lt hlt];rfl,by rw [Nat.mod_eq_of_lt hlt];exact h⟩
  ·rename_i hge;rw [hb] at hge h;obtain ⟨a,h1,h2⟩:=ih (fun x hx=>hf x (by simp [hx])) (j-s) av h;by_cases hs:s=0
   ·subst hs
    have:(f a).length=0:=by
     refine hf a ?_;exact List.mem_cons_of_mem _ (List.mem_of_getElem? h1)
    rw [List.getElem?_eq_none (by omega)] at h2
    cases h2
   ·have e1:j / s=(j-s) / s+1:=by
     have:=Nat.add_div_right (j-s) (z:=s) (by omega);rw [Nat.sub_add_cancel (by omega)] at this;exact this
    have e2:j % s=(j-s) % s:=(Nat.mod_eq_sub_mod (by omega))
    exact ⟨a,by rw [e1];simpa using h1,by rw [e2];exact h2⟩
theorem Ik {P:Program} {w:World} {t e:TypeId} {α:Type} {f:α→List AV} {s:Nat} {Q:α→Prop} (ht:P.underlying t=some (.slice e)) (hC:P.cellsOf e=s) (hd:Dec P e f s Q)
  {H:Type} {en:TypeId×Value→H} {sp:Nat→Bool} {fuel:Nat} {cs:List Value} {x:DataW H×List MemPlace} (h:DataW.trod en P w 0 sp true fuel t cs=some x):
  ∃(A:Option Addr) (n c:Nat) (l:List α),cs=[.slice A n c]∧(∀a∈l,Q a)∧n=l.length∧n≤maxLen∧R w Cx (.ro l.length (enc f l)) (.slice A n c):=by
 rcases open_slice ht h with ⟨rfl,_⟩|⟨a,len,cap,m,n,D,Pl,rfl,_,hl,hm,hmm,_,hi⟩
 ·exact ⟨none,0,0,[],rfl,fun _ h=>by simp at h,rfl,Nat.zero_le _,.ro 0 0 none [] (fun _=>undef) (Nat.le_refl _) (Nat.zero_le _) (fun _=>⟨rfl,rfl⟩) (fun j hj=>by simp at hj) (fun j av hj=>by simp at hj)⟩
 ·have hml:len≤m:=by rw [hmm];split<;>omega
  obtain ⟨l,hlen,hget⟩:=N9 (p:=fun i (b:α)=>Q b∧(f b).length=s∧∀(j:Nat) (av:AV),(f b)[j]? =some av→∃u,w.cell? (a.add (i*s+j))=some u∧u.oneCell'=true∧R w Cx av u) len (fun i hil=>by
   obtain ⟨cs',hc,ht'⟩:=hi i (by omega);rw [hC] at hc;obtain ⟨_,hcl,hat⟩:=World.cells?_some hc;obtain ⟨b,q1,q2,q3,q4⟩:=hd H en w sp _ _ _ ht';refine ⟨b,q1,q3,fun j av hj=>?_⟩;obtain ⟨u,hu,h1,hR⟩:=q4 j av hj;have hjs:j<s:=by rw [←q2];exact (List.getElem?_eq_some_iff.1 hu).1
   exact ⟨u,by rw [←add_add,hat j hjs,hu],h1,hR⟩)
  subst hlen
  have hfs:∀x∈l,(f x).length=s:=fun x hx=>by
   obtain ⟨i,hi'⟩:=List.mem_iff_getElem?.1 hx;exact (hget i x hi').2.1
  have hcell:∀(j:Nat) (av:AV),(enc f l)[j]? =some av→∃u,w.cell? (a.add j)=some u∧u.oneCell'=true∧R w Cx av u:=fun j av hj=>by
   obtain ⟨b,h1,h2⟩:=TP l hfs j av hj;obtain ⟨u,h3,h4,h5⟩:=(hget _ b h1).2.2 _ av h2;have:j / s*s+j % s=j:=by rw [Nat.mul_comm];exact Nat.div_add_mod j s
   rw [this] at h3;exact ⟨u,h3,h4,h5⟩
  refine ⟨some a,l.length,cap,l,rfl,fun b hb=>?_,rfl,Nat.le_trans hl hm,.ro _ cap (some a) _ (fun j=>(w.cell? (a.add j)).getD undef) hl hm (fun e=>by cases e) (fun j hj=>?_) (fun j av hj=>?_)⟩
  ·obtain ⟨i,hi'⟩:=List.mem_iff_getElem?.1 hb;exact (hget i b hi').1
  ·obtain ⟨u,h3,h4,h5⟩:=hcell j _ (List.getElem?_eq_getElem hj);exact ⟨a,rfl,fun h=>h.elim,by rw [h3];rfl,by rw [h3];exact h4⟩
  ·obtain ⟨u,h3,h4,h5⟩:=hcell j av hj;rw [h3];exact h5
theorem rl {P:Program} {t e:TypeId} {α:Type} {f:α→List AV} {s:Nat} {Q:α→Prop} (ht:P.underlying t=some (.slice e)) (hC:P.cellsOf e=s) (hd:Dec P e f s Q):
  Dec P t (fun l:List α=>[.ro l.length (enc f l)]) 1 (fun l=>(∀a∈l,Q a)∧l.length≤maxLen):=by
 intro H en w sp fuel cs x h;obtain ⟨A,n,c,l,rfl,h1,h2,h3,h4⟩:=Ik ht hC hd h;exact ⟨l,⟨h1,by omega⟩,rfl,rfl,one_cell rfl h4⟩
def rG (P:Program) (t:TypeId):Option (List (TypeId×Nat)):=
 match P.underlying t with
 |some (.struct fs)=>some (fs.toList.map fun f=>(f.type,f.offset))
 |_=>none
theorem FO {P:Program} {t:TypeId} {l:List (TypeId×Nat)} (h:rG P t=some l):∃fs,P.underlying t=some (.struct fs)∧l=fs.toList.map fun f=>(f.type,f.offset):=by
 unfold rG at h
 split at h
 ·rename_i fs he
  cases h
  exact ⟨fs,he,rfl⟩
 ·cases h
def xv (P:Program) (fs:List (TypeId×Nat)) (off:Nat) {α:Type} (f:α→List AV) (s:Nat) (Q:α→Prop):Prop:=
 ∀(H:Type) (en:TypeId×Value→H) (w:World) (sp:Nat→Bool) (n:Nat) (cs:List Value),(∀(i:Nat) (fl:TypeId×Nat),fs[i]? =some fl→∃y,DataW.trod en P w 0 sp true n fl.1 ((cs.drop fl.2).take (P.cellsOf fl.1))=some y)→
  ∃a,Q a∧(f a).length=s∧∀(j:Nat) (av:AV),(f a)[j]? =some av→∃u,cs[off+j]? =some u∧u.oneCell'=true∧R w Cx av u
theorem HF {P:Program} {off:Nat}:xv P [] off (fun _:Unit=>[]) 0 (fun _=>True):=fun _ _ _ _ _ _ _=>⟨(),trivial,rfl,fun j av h=>by simp at h⟩
theorem jA {P:Program} {ft:TypeId} {fo:Nat} {rest:List (TypeId×Nat)} {off s s':Nat} {α β:Type} {f:α→List AV} {f':β→List AV} {Q:α→Prop} {Q':β→Prop} (hd:Dec P ft f s Q) (ho:fo=off) (hC:P.cellsOf ft=s) (hr:xv P rest (off+s) f' s' Q'):
  xv P ((ft,fo)::rest) off (fun x:α×β=>f x.1++f' x.2) (s+s') (fun x=>Q x.1∧Q' x.2):=by
 intro H en w sp n cs h;obtain ⟨y,hy⟩:=h 0 (ft,fo) rfl;obtain ⟨a,q1,q2,q3,q4⟩:=hd H en w sp _ _ _ hy;obtain ⟨b,r1,r2,r3⟩:=hr H en w sp n cs (fun i X5 hi=>h (i+1) X5 (by simpa using hi));refine ⟨(a,b),⟨q1,r1⟩,by simp [q3,r2],fun j av hj=>?_⟩;simp only at hj;rw [List.getElem?_append] at hj
 split at hj
 ·rename_i hlt;rw [q3] at hlt;obtain ⟨u,hu,h1,hR⟩:=q4 j av hj;refine ⟨u,?_,h1,hR⟩;simp only [hC,ho] at hu;rw [List.getElem?_take_of_lt hlt,List.getElem?_drop] at hu;exact hu
 ·rename_i hge;rw [q3] at hge hj;obtain ⟨u,hu,h1,hR⟩:=r3 (j-s) av hj;exact ⟨u,by rw [←hu];congr 1;omega,h1,hR⟩
theorem Gn {P:Program} {t:TypeId} {fs:List (TypeId×Nat)} {α:Type} {f:α→List AV} {s:Nat} {Q:α→Prop} (hs:rG P t=some fs) (hd:xv P fs 0 f s Q) (hC:P.cellsOf t=s):Dec P t f s Q:=by
 intro H en w sp fuel cs x h;obtain ⟨gs,ht,rfl⟩:=FO hs;obtain ⟨xs,n,_,_,hl,hxl,hf⟩:=DataW.trod_struct ht h
 obtain ⟨a,q1,q2,q3⟩:=hd H en w sp n cs (fun i fl hi=>by
  rw [List.getElem?_map,Option.map_eq_some_iff] at hi;obtain ⟨g,hg,rfl⟩:=hi;have hg':gs[i]? =some g:=by simpa using hg
  have h1:=hf i g hg';have hlt:i<xs.length:=by rw [hxl];exact (Array.getElem?_eq_some_iff.1 hg').1
  exact ⟨_,h1.trans (List.getElem?_eq_getElem hlt)⟩)
 exact ⟨a,q1,by rw [hl,hC],q2,fun j av hj=>by simpa using q3 j av hj⟩
section
variable {P:Program} {w:World} {H:Type} {en:TypeId×Value→H} {sp:Nat→Bool} {r:Reach} {b0:Nat} {t:TypeId} {v:Value} {d:DataW H} {p:List MemPlace}
theorem PE {e:TypeId} {α:Type} {f:α→List AV} {s:Nat} {Q:α→Prop} (ht:P.underlying t=some (.slice e)) (hC:P.cellsOf e=s) (hd:Dec P e f s Q) (hv:Value.okWide P w r b0 t v) (h:DataW.Trod en P w 0 sp true t v d p):
  ∃l:List α,((∀a∈l,Q a)∧l.length≤maxLen)∧R w Cx (.ro l.length (enc f l)) v:=by
 obtain ⟨a0,len,cap,rfl⟩:=okWide_slice ht hv;obtain ⟨fuel,hf⟩:=h;obtain ⟨A,n,c,l,hcs,h1,h2,h3,h4⟩:=Ik ht hC hd hf;simp [Value.cells] at hcs;obtain ⟨rfl,rfl,rfl⟩:=hcs;exact ⟨l,⟨h1,by omega⟩,h4⟩
theorem OJ {fs:List (TypeId×Nat)} {α:Type} {f:α→List AV} {s:Nat} {Q:α→Prop} (hst:rG P t=some fs) (hd:Dec P t f s Q) (hv:Value.okWide P w r b0 t v) (h:DataW.Trod en P w 0 sp true t v d p):
  ∃a:α,Q a∧R w Cx (.agg (f a)) v:=by
 obtain ⟨gs,ht,_⟩:=FO hst;obtain ⟨us,rfl,hsz⟩:=okWide_struct ht hv;obtain ⟨fuel,hf⟩:=h;obtain ⟨a,h1,h2,h3,h4⟩:=hd H en w sp fuel _ _ hf;refine ⟨a,h1,.agg _ us ?_ (fun j av hj=>?_)⟩
 ·simp only [Value.cells] at h2;rw [h3, ←h2];simp
 ·obtain ⟨u,hu,_,hR⟩:=h4 j av hj;simp only [Value.cells,Array.getElem?_toList] at hu;simp only [Array.getD_eq_getD_getElem?,hu,Option.getD_some];exact hR
end
theorem Sv {P:Program} {f:FuncId} {args:List AV} (h:Fn P f args (.v (.bool true))) (w:World) (hL:Laid w (fun _=>False)) (vs:Array Value) (hs:vs.size=args.length) (hR:∀(j:Nat) (av:AV),args[j]? =some av→R w Cx av (vs.getD j undef)):
  Calls P f vs w fun e w'=>e=.returned (.bool true)∧Below w.heap.size w w':=
 (h w (fun _=>False) vs hs (fun _ h=>h.elim) hL hR).mono fun e w' ⟨v,C',res,news,he,⟨hres,_⟩,hfr,hRv,_⟩=>by
  subst hres
  cases hRv
  exact ⟨he,hfr.os,hfr.tape,hfr.output,hfr.size,fun k hk=>hfr.block k hk (fun h=>h.elim)⟩
theorem PF {w:World} (h:p_=[]):Laid w (fun _=>False):=fun q hq=>by rw [h] at hq;cases hq
def JG (w:World):List AV→List Value→Prop
 | [],[]=>True
 |a::as,v::vs=>R w Cx a v∧JG w as vs
 |_,_=>False
theorem JH {w:World}:∀{cW:List AV} {us:List Value},JG w cW us→∀(j:Nat) (av:AV),cW[j]? =some av→R w Cx av (us.toArray.getD j undef)
 | [],[],_,j,av,h=>by simp at h
 |a::as,v::vs,⟨h1,h2⟩,j,av,h=>by
  cases j with
  |zero=>simp at h;subst h;simpa using h1
  |succ j=>
   have:=JH h2 j av (by simpa using h);simpa using this
 | [],_::_,h,_,_,_=>h.elim
 |_::_,[],h,_,_,_=>h.elim
end Go.Lo
set_option linter.unusedVariables false
set_option linter.unusedSimpArgs false
namespace Go.Lo
structure rN where
 form:Int
 len:Int
 speed:Int
 mute:Int
 wait:Int
 cancel:Int
 stay:Int
 jn:Int
 rs:List (List Int)
def NF (d:rN):List AV:=[.v (.int .u8 d.form),.v (.int .u8 d.len),.v (.int .u8 d.speed),.v (.int .u16 d.mute),.v (.int .u16 d.wait),.v (.int .u8 d.cancel),.v (.int .u8 d.stay),.v (.int .u8 d.jn),.ro d.rs.length (enc oa d.rs)]
structure H5 (d:rN):Prop where
 form:0≤d.form∧d.form≤255
 len:0≤d.len∧d.len≤255
 speed:0≤d.speed∧d.speed≤255
 mute:0≤d.mute∧d.mute≤65535
 wait:0≤d.wait∧d.wait≤65535
 cancel:0≤d.cancel∧d.cancel≤255
 stay:0≤d.stay∧d.stay≤255
 jn:0≤d.jn∧d.jn≤255
 n:d.rs.length≤maxLen
 rs:∀x,x∈d.rs→∀y,y∈x→0≤y∧y≤255
structure View where
 id:Int
 sure:Bool
 span:List Int
def iW:View:=⟨0,false,[]⟩
def eV (v:View):List AV:=[.v (.int .i64 v.id),.v (.bool v.sure),.ro v.span.length (enc eI v.span)]
instance (x:View):cU (eV x):=by unfold eV;infer_instance
def mB (s:Int) (v:View):Bool:=decide (s∈v.span)
theorem Y5 {rs:List (List Int)} (h:jR rs=true) (h2:∀x,x∈rs→∀y,y∈x→0≤y∧y≤255):rs.length≤65536∧∀x,x∈rs→x.length≤65536∧∀y,y∈x→0≤y∧y≤255:=by
 obtain ⟨h3,h4⟩:=Oz h;exact ⟨by omega,fun x hx=>⟨by have:=h4 x hx;omega,h2 x hx⟩⟩
def jX (pts:List aH) (states:List Int) (views:List View) (locked held:List Bool) (p:Int):Bool:=
 if (decide (p<0)||decide (p≥(pts.length:Int))||hasB held p)=true then false
 else if views.any (mB (pts.getD p.toNat dP).stem)=true then false
 else decide ((pts.getD p.toNat dP).stem≥0)&&decide ((pts.getD p.toNat dP).stem<(states.length:Int))&&(states.getD (pts.getD p.toNat dP).stem.toNat 0==0)&& !hasB locked (pts.getD p.toNat dP).stem
theorem IC {pts:List aH} {states:List Int} {views:List View} {locked held:List Bool} {p:Int} (h:(decide (p<0)||decide (p≥(pts.length:Int))||hasB held p)=true):jX pts states views locked held p=false:=by unfold jX;rw [if_pos h]
theorem ID {pts:List aH} {states:List Int} {views:List View} {locked held:List Bool} {p:Int} (h:(decide (p<0)||decide (p≥(pts.length:Int))||hasB held p)=false) (h2:views.any (mB (pts.getD p.toNat dP).stem)=true):jX pts states views locked held p=false:=by
 unfold jX;rw [if_neg (by rw [h];simp),if_pos h2]
theorem HP {pts:List aH} {states:List Int} {views:List View} {locked held:List Bool} {p:Int} (h:(decide (p<0)||decide (p≥(pts.length:Int))||hasB held p)=false) (h2:views.any (mB (pts.getD p.toNat dP).stem)=false):
  jX pts states views locked held p=(decide ((pts.getD p.toNat dP).stem≥0)&&decide ((pts.getD p.toNat dP).stem<(states.length:Int))&&(states.getD (pts.getD p.toNat dP).stem.toNat 0==0)&& !hasB locked (pts.getD p.toNat dP).stem):=by
 unfold jX;rw [if_neg (by rw [h];simp),if_neg (by rw [h2];simp)]
end Go.Lo
set_option linter.unusedVariables false
set_option linter.unusedSimpArgs false
namespace Go.Lo
structure zg where
 sec:Int
 kind:Int
theorem zg.Cw {x y:zg} (h1:x.sec=y.sec) (h2:x.kind=y.kind):x=y:=by
 cases x;cases y;simp_all
instance:DecidableEq zg:=fun x y=>if h:x.sec=y.sec∧x.kind=y.kind then isTrue (zg.Cw h.1 h.2) else isFalse fun e=>h (by rw [e];exact ⟨rfl,rfl⟩)
def dl (parts:List (List Int)) (s:Int):Int:=bL (fun l=>decide (s∈l)) parts
theorem N2 (parts:List (List Int)) (s:Int):dl parts s= -1∨(0≤dl parts s∧dl parts s<(parts.length:Int)):=ox _ [] _
theorem u64_in {n:Int} (h:0≤n∧n≤18446744073709551615):IntKind.u64.wrap n=n:=by rw [IntKind.wrap_u64];omega
def pw (n:Nat):Nat→Nat
 |0=>min 1 n
 |k+1=>pw n k+min (pw n k) (n-pw n k)
theorem Hg (n k:Nat) (h:1≤n):pw n k≤n∧1≤pw n k∧(pw n k<n→k+1≤pw n k):=by
 induction k with
 |zero=>simp [pw];omega
 |succ k ih=>simp only [pw];omega
end Go.Lo
set_option linter.unusedVariables false
set_option linter.unusedSimpArgs false
namespace Go.Lo
structure Lk where
 route:Int
 cX:Int
 ends:Int
 pieces:List Int
def ao:Lk:=⟨0,0,0,[]⟩
def aQ (x:Lk):List AV:=[.v (.int .i64 x.route),.v (.int .i64 x.cX),.v (.int .i64 x.ends),.ro x.pieces.length (enc aC x.pieces)]
instance (x:Lk):cU (aQ x):=by unfold aQ;infer_instance
structure za where
 id:Int
 span:List Int
 secs:List ax
 parts:List (List Int)
 pts:List aH
 routes:List (List Int)
 st:List Int
 ow:List Int
 right:List Bool
def Yf (f:za) (s:Int):Bool:=decide (f.st.getD s.toNat 0=0)||(decide (f.st.getD s.toNat 0=1)&&decide (f.ow.getD (dl f.parts s).toNat 0=f.id))
def BR (f:za) (path:List Int) (i:Nat):List Need:=(bz f.secs f.pts (path.take (i+2))).drop (min (bz f.secs f.pts (path.take (i+1))).length (bz f.secs f.pts (path.take (i+2))).length)
theorem Us {i:Nat} (h:i≤1000000):hY .i64 .add (i:Int) 2=.int .i64 ((i+2:Nat):Int):=by
 rw [gH (by omega)];congr 1
end Go.Lo
set_option linter.unusedVariables false
set_option linter.unusedSimpArgs false
namespace Go.Lo
structure kj (routes:List (List Int)) (x:Lk):Prop where
 r:0≤x.route∧x.route<(routes.length:Int)
 ps:x.pieces.length+1≤(routes.getD x.route.toNat []).length
 ln:(routes.getD x.route.toNat []).length≤65536
def d2 (ls:List Lk) (r:Int):Int:=bL (fun x=>decide (x.route=r)) ls
def kl (path ps:List Int) (s:Int) (j:Nat):Bool:=decide (path.getD (j+1) 0=s)&&decide (¬ps.getD j 0=0)
def oP (path ps:List Int) (s:Int) (k:Nat):Bool:=(List.range k).any (kl path ps s)
def ZQ (routes:List (List Int)) (s:Int) (x:Lk):Bool:=oP (routes.getD x.route.toNat []) x.pieces s x.pieces.length
def fw (routes:List (List Int)) (ls:List Lk) (s:Int):Int:=if bL (ZQ routes s) ls<0 then-1 else (ls.getD (bL (ZQ routes s) ls).toNat ao).route
section
variable {path ps:List Int} {s:Int} {k:Nat} {routes:List (List Int)} {ls:List Lk}
theorem F9 (h:oP path ps s k=false) (h2:kl path ps s k=false):oP path ps s (k+1)=false:=by
 unfold oP at*;rw [List.range_succ,List.any_append,h];simp [h2]
theorem Hl {n:Nat} (hk:k<n) (h2:kl path ps s k=true):oP path ps s n=true:=List.any_eq_true.2 ⟨k,List.mem_range.2 hk,h2⟩
theorem Hk {i:Nat} (hi:i<ls.length) (h:(ls.take i).any (ZQ routes s)=false) (h2:ZQ routes s (ls.getD i ao)=true):fw routes ls s=(ls.getD i ao).route:=by
 have e:=hJ ao hi h h2;unfold fw;rw [e,if_neg (by omega)];rfl
theorem Hm {i:Nat} (hi:ls.length≤i) (h:(ls.take i).any (ZQ routes s)=false):fw routes ls s= -1:=by
 have e:=iK hi h;unfold fw;rw [e,if_pos (by omega)]
theorem Tb (h:(path.getD (k+1) 0==s)=false):kl path ps s k=false:=by unfold kl;rw [decide_eq_false ((beq_eq_false_iff_ne).1 h)];rfl
theorem Ta (h:(ps.getD k 0 != 0)=false):kl path ps s k=false:=by
 unfold kl;rw [decide_eq_false (p:=¬ps.getD k 0=0) (fun h2=>h2 ((bne_eq_false_iff_eq).1 h)),Bool.and_false]
theorem Ux (h:(path.getD (k+1) 0==s)=true) (h2:(ps.getD k 0 != 0)=true):kl path ps s k=true:=by
 unfold kl;rw [decide_eq_true ((beq_iff_eq).1 h),decide_eq_true ((bne_iff_ne).1 h2)];rfl
end
end Go.Lo
set_option linter.unusedVariables false
set_option linter.unusedSimpArgs false
namespace Go.Lo
structure Act where
 dw:Int
 n:Int
 tr:Int
 bE:List Int
 ow:List Int
 rt:List Bool
 sp:List Int
 tk:Int
def bj:Act:=⟨0,0,0,[],[],[],[],0⟩
def fa (x:Act):List AV:=[.v (.int .u8 x.dw),.v (.int .u8 x.n),.v (.int .u8 x.tr),.ro x.bE.length (enc aC x.bE),.ro x.ow.length (enc aC x.ow),.ro x.rt.length (enc eB x.rt),.ro x.sp.length (enc aC x.sp),.v (.int .u8 x.tk)]
instance (x:Act):cU (fa x):=by unfold fa;infer_instance
structure mo (x:Act):Prop where
 dw:0≤x.dw∧x.dw≤255
 n:0≤x.n∧x.n≤255
 tr:0≤x.tr∧x.tr≤255
 bE:∀y,y∈x.bE→0≤y∧y≤255
 ow:∀y,y∈x.ow→0≤y∧y≤255
 sp:∀y,y∈x.sp→0≤y∧y≤255
 tk:0≤x.tk∧x.tk≤255
 l1:x.bE.length≤maxLen
 l2:x.ow.length≤maxLen
 l3:x.rt.length≤maxLen
 l4:x.sp.length≤maxLen
def stA (x:Act) (i:Nat):Int:=if i<x.bE.length∧x.bE.getD i 0≥128 then x.bE.getD i 0 % 4 else 0
def cd (x:Act) (k:Nat):List Int:=(List.range k).map (stA x)
def mJ (x:Act) (i:Nat):Int:=if i<x.ow.length then x.ow.getD i 0 % 5-2 else-2
def d7 (x:Act) (k:Nat):List Int:=(List.range k).map (mJ x)
def cr (x:Act) (n:Nat):List Bool:=if x.rt.length>n then x.rt.take n else x.rt
def rZ (x:Act):Bool:=decide ((x.bE.length:Int)>20)||decide ((x.ow.length:Int)>20)||decide ((x.rt.length:Int)>8)||decide ((x.sp.length:Int)>6)
def np (l:List Act):Bool:= !(l.any rZ)&&decide ((l.length:Int)≤50)
section
variable {x:Act} {k:Nat}
theorem s7:(cd x k).length=k:=by simp [cd]
theorem s8:(d7 x k).length=k:=by simp [d7]
theorem Qo:cd x (k+1)=cd x k++[stA x k]:=by simp [cd,List.range_succ]
theorem Qp:d7 x (k+1)=d7 x k++[mJ x k]:=by simp [d7,List.range_succ]
theorem Ju (h:k<x.bE.length∧x.bE.getD k 0≥128):x.bE.getD k 0 % 4=stA x k:=by unfold stA;rw [if_pos h]
theorem Jv (h:¬(k<x.bE.length∧x.bE.getD k 0≥128)):(0:Int)=stA x k:=by unfold stA;rw [if_neg h]
theorem Jw (h:k<x.ow.length):x.ow.getD k 0 % 5-2=mJ x k:=by unfold mJ;rw [if_pos h]
theorem Jx (h:¬k<x.ow.length):(-2:Int)=mJ x k:=by unfold mJ;rw [if_neg h]
theorem US {n:Nat} (h:x.rt.length>n):cr x n=x.rt.take n:=by unfold cr;rw [if_pos h]
theorem UT {n:Nat} (h:¬x.rt.length>n):cr x n=x.rt:=by unfold cr;rw [if_neg h]
end
end Go.Lo
set_option linter.unusedVariables false
set_option linter.unusedSimpArgs false
namespace Go.Lo
def Y_ (A B:ax) (z:aH):Bool:=((A.a==z.node)||(A.b==z.node))&&((B.a==z.node)||(B.b==z.node))
def kJ (A B:ax) (pts:List aH) (j:Nat):Int:=if (pts.take j).any (Y_ A B) then 1 else 0
def mc (secs:List ax) (pts:List aH) (path:List Int) (k:Nat):Int:=kJ (secs.getD (path.getD k 0).toNat dS) (secs.getD (path.getD (k+1) 0).toNat dS) pts pts.length
def iy (secs:List ax) (pts:List aH) (path:List Int) (step:Nat):Nat→Int
 |0=>0
 |k+1=>if k<step then iy secs pts path step k+mc secs pts path k else iy secs pts path step k
def stM (secs:List ax) (pts:List aH) (path:List Int) (step:Nat):Nat→Int
 |0=>0
 |k+1=>if k=step then mc secs pts path k else stM secs pts path step k
def fu (secs:List ax) (pts:List aH) (path:List Int) (step:Nat):List Need:=
 if iy secs pts path step (path.length-1)+stM secs pts path step (path.length-1)>((bz secs pts path).length:Int) then []
 else ((bz secs pts path).take (iy secs pts path step (path.length-1)+stM secs pts path step (path.length-1)).toNat).drop (iy secs pts path step (path.length-1)).toNat
section
variable {A B:ax} {secs:List ax} {pts:List aH} {path:List Int} {step k j:Nat}
theorem Kh:0≤kJ A B pts j∧kJ A B pts j≤1:=by unfold kJ;split<;>omega
theorem Ki (hj:j<pts.length) (h:Y_ A B (pts.getD j dP)=true):(1:Int)=kJ A B pts (j+1):=by
 unfold kJ;rw [iA dP hj,List.any_append,if_pos (by simp only [List.any_cons,h];simp)]
theorem Kj (hj:j<pts.length) (h:Y_ A B (pts.getD j dP)=false):kJ A B pts j=kJ A B pts (j+1):=by
 have e:(pts.take (j+1)).any (Y_ A B)=(pts.take j).any (Y_ A B):=by rw [iA dP hj,List.any_append,List.any_cons,h];simp
 unfold kJ;rw [e]
theorem KE:0≤mc secs pts path k∧mc secs pts path k≤1:=Kh
theorem Jl (h:k<step):iy secs pts path step k+mc secs pts path k=iy secs pts path step (k+1):=by
 conv=>rhs;unfold iy
 rw [if_pos h]
theorem Jm (h:¬k<step):iy secs pts path step k=iy secs pts path step (k+1):=by
 conv=>rhs;unfold iy
 rw [if_neg h]
theorem Jn (h:k=step):mc secs pts path k=stM secs pts path step (k+1):=by
 conv=>rhs;unfold stM
 rw [if_pos h]
theorem Jo (h:¬k=step):stM secs pts path step k=stM secs pts path step (k+1):=by
 conv=>rhs;unfold stM
 rw [if_neg h]
theorem Jj:∀k,0≤iy secs pts path step k∧iy secs pts path step k≤(k:Int)
 |0=>⟨Int.le_refl _,Int.le_refl _⟩
 |k+1=>by
  have h:=Jj k;have h2:=KE (secs:=secs) (pts:=pts) (path:=path) (k:=k);unfold iy;split<;>omega
theorem Jk:∀k,0≤stM secs pts path step k∧stM secs pts path step k≤1
 |0=>⟨Int.le_refl _,by show (0:Int)≤1;omega⟩
 |k+1=>by
  have h:=Jk k;have h2:=KE (secs:=secs) (pts:=pts) (path:=path) (k:=k);unfold stM;split<;>omega
end
theorem Uz {a b:Nat} (h:a+b≤1000000):hY .i64 .add (a:Int) (b:Int)=.int .i64 ((a+b:Nat):Int):=by
 rw [gH (by omega)];congr 1
end Go.Lo
set_option linter.unusedVariables false
set_option linter.unusedSimpArgs false
namespace Go.Lo
theorem Q1 {secs:List ax} {pts:List aH} {s e p:Int} {z:Need} (h:z∈fP secs pts s e p):0≤z.point∧z.point<(pts.length:Int):=by
 unfold fP at h
 split at h
 ·cases h
 ·rw [List.mem_singleton.1 h];rcases q_ pts (aF secs s e) with h1|h1
  ·omega
  ·exact h1
theorem Il {secs:List ax} {pts:List aH}:∀(l:List Int) (w:WY) (r:List Need),(∀z,z∈w.ns→0≤z.point∧z.point<(pts.length:Int))→js secs pts l w=some r→∀z,z∈r→0≤z.point∧z.point<(pts.length:Int)
 | [],w,r,hw,h=>by cases h;exact hw
 |p::l,w,r,hw,h=>by
  unfold js at h
  split at h
  ·cases h
  ·refine Il l _ r (fun z hz=>?_) h;rcases List.mem_append.1 hz with hz|hz
   ·exact hw z hz
   ·exact Q1 hz
theorem Im {secs:List ax} {pts:List aH} {path:List Int} {z:Need} (hz:z∈bz secs pts path):0≤z.point∧z.point<(pts.length:Int):=by
 unfold bz at hz
 cases h:kX secs pts path with
 |none=>rw [h] at hz;cases hz
 |some r=>
  rw [h] at hz;have key:∀e,jt secs pts (path.getD 0 0) e (path.drop 1)=some r→0≤z.point∧z.point<(pts.length:Int):=fun e hq=>Il _ _ _ (fun z hz=>by cases hz) hq z hz;unfold kX at h
  split at h
  ·cases h
  ·split at h
   ·cases h
   ·split at h
    ·exact key _ h
    ·exact key _ h
theorem RL {secs:List ax} {pts:List aH} {path:List Int} {k:Nat} {z:Need} (hz:z∈fu secs pts path k):0≤z.point∧z.point<(pts.length:Int):=by
 unfold fu at hz
 split at hz
 ·cases hz
 ·exact Im (List.mem_of_mem_take (List.mem_of_mem_drop hz))
theorem RJ {secs:List ax} {pts:List aH} {path:List Int} {k:Nat}:(fu secs pts path k).length≤path.length:=by
 have h:=nF (secs:=secs) (pts:=pts) (path:=path);unfold fu
 split
 ·exact Nat.zero_le _
 ·rw [List.length_drop,List.length_take];omega
def CH (routes:List (List Int)) (ls:List Lk) (i:Nat):Bool:=decide (fw routes ls (i:Int)≥0)
def Y7 (routes:List (List Int)) (ls:List Lk) (n:Nat):List Bool:=(List.range n).map (CH routes ls)
theorem Hn {routes:List (List Int)} {ls:List Lk} {n:Nat}:(Y7 routes ls n).length=n:=by simp [Y7]
theorem O9 {routes:List (List Int)} {ls:List Lk} {n:Nat}:Y7 routes ls (n+1)=Y7 routes ls n++[CH routes ls n]:=by simp [Y7,List.range_succ]
def hN (needs:List Need) (out:List Bool):Nat→List Bool
 |0=>out
 |j+1=>(hN needs out j).set (needs.getD j dN).point.toNat true
def nk (ps:List Int) (k:Nat):Bool:=(ps.getD k 0==0)&&(((k:Int)==0)||(ps.getD ((k:Int)-1).toNat 0==0))
def hK (secs:List ax) (pts:List aH) (path ps:List Int) (out:List Bool):Nat→List Bool
 |0=>out
 |k+1=>if nk ps k then hK secs pts path ps out k else hN (fu secs pts path k) (hK secs pts path ps out k) (fu secs pts path k).length
def hI (secs:List ax) (pts:List aH) (routes:List (List Int)) (ls:List Lk):Nat→List Bool
 |0=>List.replicate pts.length false
 |i+1=>hK secs pts (routes.getD (ls.getD i ao).route.toNat []) (ls.getD i ao).pieces (hI secs pts routes ls i) (ls.getD i ao).pieces.length
def gW (secs:List ax) (pts:List aH) (routes:List (List Int)) (ls:List Lk):List Bool:=hI secs pts routes ls ls.length
section
variable {secs:List ax} {pts:List aH} {path ps:List Int} {routes:List (List Int)} {ls:List Lk} {needs:List Need} {out:List Bool} {k:Nat}
theorem nI:∀j,(hN needs out j).length=out.length
 |0=>rfl
 |j+1=>by show ((hN needs out j).set _ _).length=_;rw [List.length_set,nI j]
theorem wc:∀k,(hK secs pts path ps out k).length=out.length
 |0=>rfl
 |k+1=>by
  unfold hK;split
  ·exact wc k
  ·rw [nI,wc k]
theorem A5:∀i,(hI secs pts routes ls i).length=pts.length
 |0=>List.length_replicate
 |i+1=>by show (hK _ _ _ _ _ _).length=_;rw [wc,A5 i]
theorem Qg:(gW secs pts routes ls).length=pts.length:=A5 _
theorem WJ (h:nk ps k=true):hK secs pts path ps out (k+1)=hK secs pts path ps out k:=by
 conv=>lhs;unfold hK
 rw [if_pos h]
theorem WK (h:nk ps k=false):hK secs pts path ps out (k+1)=hN (fu secs pts path k) (hK secs pts path ps out k) (fu secs pts path k).length:=by
 conv=>lhs;unfold hK
 rw [if_neg (by rw [h];exact Bool.false_ne_true)]
end
def kI (routes:List (List Int)) (ls:List Lk) (states path:List Int) (k:Nat):Bool:=decide (path.getD (k+1) 0≥(states.length:Int))||(states.getD (path.getD (k+1) 0).toNat 0 != 0)||decide (fw routes ls (path.getD (k+1) 0)≥0)
def ll (routes:List (List Int)) (ls:List Lk) (states path:List Int) (n:Nat):Bool:=(List.range n).any (kI routes ls states path)
def m7 (secs:List ax) (pts:List aH) (routes:List (List Int)) (ls:List Lk) (states:List Int) (views:List View) (z:Need):Bool:= !jX pts states views (Y7 routes ls secs.length) (gW secs pts routes ls) z.point
def dV (secs:List ax) (pts:List aH) (routes:List (List Int)) (ls:List Lk) (r:Int) (states:List Int) (views:List View) (right:List Bool):Int:=
 if r<0∨r≥(routes.length:Int) then 7 else if d2 ls r≥0 then 8
 else if ll routes ls states (routes.getD r.toNat []) ((routes.getD r.toNat []).length-1)=true then 9
 else if (b6 (bz secs pts (routes.getD r.toNat [])) right).any (m7 secs pts routes ls states views)=true then 9 else 0
def ke (secs:List ax) (pts:List aH) (routes:List (List Int)) (ls:List Lk) (r tr:Int) (states:List Int) (views:List View) (right:List Bool):List Lk:=
 if dV secs pts routes ls r states views right=0 then ls++[⟨r,tr, -1,List.replicate ((routes.getD r.toNat []).length-1) 1⟩] else ls
def iG (secs:List ax) (pts:List aH) (routes:List (List Int)) (ls:List Lk) (r:Int) (states:List Int) (views:List View) (right:List Bool):List Bool:=
 if dV secs pts routes ls r states views right=0 then dh right (b6 (bz secs pts (routes.getD r.toNat [])) right) else right
section
variable {secs:List ax} {pts:List aH} {routes:List (List Int)} {ls:List Lk} {r tr:Int} {states path:List Int} {views:List View} {right:List Bool} {k:Nat}
theorem O_ (h:ll routes ls states path k=false) (h2:kI routes ls states path k=false):ll routes ls states path (k+1)=false:=by
 unfold ll at*;rw [List.range_succ,List.any_append,h];simp [h2]
theorem AG {n:Nat} (hk:k<n) (h2:kI routes ls states path k=true):ll routes ls states path n=true:=List.any_eq_true.2 ⟨k,List.mem_range.2 hk,h2⟩
theorem HY (h:decide (path.getD (k+1) 0≥(states.length:Int))=true):kI routes ls states path k=true:=by unfold kI;rw [h];rfl
theorem HZ (h:(states.getD (path.getD (k+1) 0).toNat 0 != 0)=true):kI routes ls states path k=true:=by unfold kI;rw [h,Bool.or_true];rfl
theorem AH (h:decide (fw routes ls (path.getD (k+1) 0)≥0)=true):kI routes ls states path k=true:=by unfold kI;rw [h,Bool.or_true]
theorem Td (h:decide (path.getD (k+1) 0≥(states.length:Int))=false) (h2:(states.getD (path.getD (k+1) 0).toNat 0 != 0)=false) (h3:decide (fw routes ls (path.getD (k+1) 0)≥0)=false):kI routes ls states path k=false:=by unfold kI;rw [h,h2,h3];rfl
theorem mX {e:Int} (he:¬e=0) (h:dV secs pts routes ls r states views right=e):ke secs pts routes ls r tr states views right=ls∧iG secs pts routes ls r states views right=right:=by
 unfold ke iG;rw [h,if_neg he,if_neg he];exact ⟨rfl,rfl⟩
theorem UE (h:(decide (r<0)||decide (r≥(routes.length:Int)))=true):dV secs pts routes ls r states views right=7:=by
 simp only [Bool.or_eq_true,decide_eq_true_eq] at h;unfold dV;rw [if_pos h]
theorem IE (h:(decide (r<0)||decide (r≥(routes.length:Int)))=false):0≤r∧r<(routes.length:Int):=by
 simp only [Bool.or_eq_false_iff,decide_eq_false_iff_not] at h;omega
theorem Jp (h:0≤r∧r<(routes.length:Int)) (h2:d2 ls r≥0):dV secs pts routes ls r states views right=8:=by
 unfold dV;rw [if_neg (by omega),if_pos h2]
theorem wE (h:0≤r∧r<(routes.length:Int)) (h2:¬d2 ls r≥0) (h3:ll routes ls states (routes.getD r.toNat []) ((routes.getD r.toNat []).length-1)=true):dV secs pts routes ls r states views right=9:=by
 unfold dV;rw [if_neg (by omega),if_neg h2,if_pos h3]
theorem IG (h:0≤r∧r<(routes.length:Int)) (h2:¬d2 ls r≥0) (h3:ll routes ls states (routes.getD r.toNat []) ((routes.getD r.toNat []).length-1)=false)
  (h4:(b6 (bz secs pts (routes.getD r.toNat [])) right).any (m7 secs pts routes ls states views)=true):dV secs pts routes ls r states views right=9:=by
 unfold dV;rw [if_neg (by omega),if_neg h2,if_neg (by rw [h3];exact Bool.false_ne_true),if_pos h4]
theorem Jq (h:0≤r∧r<(routes.length:Int)) (h2:¬d2 ls r≥0) (h3:ll routes ls states (routes.getD r.toNat []) ((routes.getD r.toNat []).length-1)=false)
  (h4:(b6 (bz secs pts (routes.getD r.toNat [])) right).any (m7 secs pts routes ls states views)=false):dV secs pts routes ls r states views right=0:=by
 unfold dV;rw [if_neg (by omega),if_neg h2,if_neg (by rw [h3];exact Bool.false_ne_true),if_neg (by rw [h4];exact Bool.false_ne_true)]
theorem s6 (h:dV secs pts routes ls r states views right=0):ke secs pts routes ls r tr states views right=ls++[⟨r,tr, -1,List.replicate ((routes.getD r.toNat []).length-1) 1⟩]∧iG secs pts routes ls r states views right=dh right (b6 (bz secs pts (routes.getD r.toNat [])) right):=by
 unfold ke iG;rw [if_pos h,if_pos h];exact ⟨rfl,rfl⟩
end
def ZN (x:Lk) (e:Int):Lk:=if x.ends= -1 then { x with ends:=e } else x
def gy (routes:List (List Int)) (ls:List Lk) (r:Int):Int:=if r<0∨r≥(routes.length:Int) then 7 else if d2 ls r<0 then 8 else 0
def fS (routes:List (List Int)) (ls:List Lk) (r e:Int):List Lk:=if gy routes ls r=0 then ls.set (d2 ls r).toNat (ZN (ls.getD (d2 ls r).toNat ao) e) else ls
section
variable {routes:List (List Int)} {ls:List Lk} {r e:Int}
theorem UF (h:(decide (r<0)||decide (r≥(routes.length:Int)))=true):gy routes ls r=7:=by
 simp only [Bool.or_eq_true,decide_eq_true_eq] at h;unfold gy;rw [if_pos h]
theorem Jr (h:0≤r∧r<(routes.length:Int)) (h2:d2 ls r<0):gy routes ls r=8:=by
 unfold gy;rw [if_neg (by omega),if_pos h2]
theorem BP (h:0≤r∧r<(routes.length:Int)) (h2:¬d2 ls r<0):gy routes ls r=0:=by
 unfold gy;rw [if_neg (by omega),if_neg h2]
theorem A6 {x:Int} (hx:¬x=0) (h:gy routes ls r=x):fS routes ls r e=ls:=by unfold fS;rw [h,if_neg hx]
theorem AI (h:gy routes ls r=0):fS routes ls r e=ls.set (d2 ls r).toNat (ZN (ls.getD (d2 ls r).toNat ao) e):=by unfold fS;rw [if_pos h]
theorem RO {x:Lk} (h:¬x.ends= -1):ZN x e=x:=by unfold ZN;rw [if_neg h]
theorem Qj {x:Lk} (h:x.ends= -1):ZN x e=⟨x.route,x.cX,e,x.pieces⟩:=by unfold ZN;rw [if_pos h]
theorem Qh (ls:List Lk) (r:Int):d2 ls r= -1∨(0≤d2 ls r∧d2 ls r<(ls.length:Int)):=ox _ ao _
theorem set_self {α:Type} (d:α) (l:List α) (k:Nat):l.set k (l.getD k d)=l:=by
 apply List.ext_getElem? ;intro i;rw [List.getElem?_set]
 split
 ·rename_i h;subst h
  split
  ·rename_i h2;rw [List.getD_eq_getElem?_getD,List.getElem?_eq_getElem h2];rfl
  ·rename_i h2;rw [List.getElem?_eq_none (by omega)]
 ·rfl
end
structure Tu where
 routes:List (List Int)
 parts:List (List Int)
 now:Int
 st:List Int
 ow:List Int
def g9 (t:Tu) (s p:Int) (left:Bool):Int:=if ((p==2)&&(t.st.getD s.toNat 0==0)&& !left)=true then 0 else p
def jd (t:Tu) (x:Lk) (s p1:Int):Int:=if p1=1∧((t.st.getD s.toNat 0==1)&&(t.ow.getD (dl t.parts s).toNat 0==x.cX))=true then 2 else p1
def oq (t:Tu) (x:Lk) (s p1:Int):Int:=if p1=1∧((t.st.getD s.toNat 0==0)&&(x.ends != -1)&&decide (x.ends≤t.now))=true then 0 else jd t x s p1
def kT (t:Tu) (x:Lk) (s p:Int) (left:Bool):Int:=oq t x s (g9 t s p left)
def cE (t:Tu) (x:Lk) (k:Nat):Int:=(t.routes.getD x.route.toNat []).getD (k+1) 0
def bI (t:Tu) (x:Lk):Nat→List Int×Bool
 |0=>(x.pieces,false)
 |k+1=>((bI t x k).1.set k (kT t x (cE t x k) ((bI t x k).1.getD k 0) (bI t x k).2),(bI t x k).2||(kT t x (cE t x k) ((bI t x k).1.getD k 0) (bI t x k).2 != 0))
def zf (t:Tu) (x:Lk):Lk:={ x with pieces:=(bI t x x.pieces.length).1 }
def mI (t:Tu) (x:Lk):Bool:=(bI t x x.pieces.length).2
def dp (t:Tu) (ls:List Lk):List Lk:=(ls.filter (mI t)).map (zf t)
section
variable {t:Tu} {x:Lk} {ls:List Lk} {k:Nat}
theorem rA:∀k,(bI t x k).1.length=x.pieces.length
 |0=>rfl
 |k+1=>by show ((bI t x k).1.set _ _).length=_;rw [List.length_set,rA k]
theorem AJ {v:Int}:((bI t x k).1.set k v).length=x.pieces.length:=by rw [List.length_set,rA]
theorem AK {v:Int} (h:k<x.pieces.length):((bI t x k).1.set k v).getD k 0=v:=by
 rw [List.getD_eq_getElem?_getD,List.getElem?_set_self (by rw [rA];exact h)];rfl
theorem oI {v w:Int}:((bI t x k).1.set k v).set k w=(bI t x k).1.set k w:=List.set_set ..
section
variable {s p p1:Int} {left:Bool}
theorem Js (h:((p==2)&&(t.st.getD s.toNat 0==0)&& !left)=true):g9 t s p left=0:=by unfold g9;rw [if_pos h]
theorem Jt (h:((p==2)&&(t.st.getD s.toNat 0==0)&& !left)=false):g9 t s p left=p:=by unfold g9;rw [if_neg (by rw [h];exact Bool.false_ne_true)]
theorem A7 (h1:(p1==1)=true) (h:(t.st.getD s.toNat 0==1)=true) (h2:(t.ow.getD (dl t.parts s).toNat 0==x.cX)=true):jd t x s p1=2:=by unfold jd;rw [if_pos ⟨by simpa using h1,by rw [h,h2];rfl⟩]
theorem A8 (h:(t.st.getD s.toNat 0==1)=false):jd t x s p1=p1:=by unfold jd;rw [if_neg (fun h2=>by rw [h] at h2;exact Bool.false_ne_true h2.2)]
theorem A9 (h:(t.ow.getD (dl t.parts s).toNat 0==x.cX)=false):jd t x s p1=p1:=by unfold jd;rw [if_neg (fun h2=>by rw [h,Bool.and_false] at h2;exact Bool.false_ne_true h2.2)]
theorem tF (h1:(p1==1)=true) (h:((t.st.getD s.toNat 0==0)&&(x.ends != -1)&&decide (x.ends≤t.now))=true):oq t x s p1=0:=by unfold oq;rw [if_pos ⟨by simpa using h1,h⟩]
theorem tG (h:((t.st.getD s.toNat 0==0)&&(x.ends != -1)&&decide (x.ends≤t.now))=false):oq t x s p1=jd t x s p1:=by unfold oq;rw [if_neg (fun h2=>by rw [h] at h2;exact Bool.false_ne_true h2.2)]
theorem tH (h1:(p1==1)=false):oq t x s p1=p1:=by
 have h2:¬p1=1:=by simpa using h1
 unfold oq jd;rw [if_neg (fun h=>h2 h.1),if_neg (fun h=>h2 h.1)]
theorem kc:kT t x s p left=oq t x s (g9 t s p left):=rfl
end
theorem Pe (hk:k<ls.length):dp t (ls.take (k+1))=if mI t (ls.getD k ao) then dp t (ls.take k)++[zf t (ls.getD k ao)] else dp t (ls.take k):=by
 unfold dp;rw [iA ao hk,List.filter_append,List.map_append]
 cases h:mI t (ls.getD k ao) with
 |true=>rw [List.filter_cons_of_pos h,if_pos rfl];rfl
 |false=>rw [List.filter_cons_of_neg (by rw [h];exact Bool.false_ne_true),if_neg Bool.false_ne_true];simp
theorem Qm (t:Tu) (ls:List Lk):(dp t ls).length≤ls.length:=by
 unfold dp;rw [List.length_map];exact List.length_filter_le _ _
end
section
variable {routes:List (List Int)} {ls:List Lk}
theorem jg {r e:Int}:(fS routes ls r e).length=ls.length:=by unfold fS;split<;>simp
end
end Go.Lo
set_option linter.unusedVariables false
set_option linter.unusedSimpArgs false
namespace Go.Lo
theorem zD {j:Int} {i:Nat}:∀k,i<k→(i:Int)∈cv.partT j k∨∃x,x∈cv j k∧(i:Int)∈x
 |0,h=>by omega
 |k+1,h=>by
  cases hj:kG j k with
  |true=>
   obtain ⟨h1,h2⟩:=vk hj;rw [h1,h2];rcases Nat.lt_or_ge i k with hi|hi
   ·rcases zD k hi with h3|h3
    ·exact .inl (List.mem_append_left _ h3)
    ·exact .inr h3
   ·have:i=k:=by omega
    subst this;exact .inl (List.mem_append_right _ List.mem_cons_self)
  |false=>
   obtain ⟨h1,h2⟩:=zP hj;rw [h1,h2];rcases Nat.lt_or_ge i k with hi|hi
   ·right
    unfold mh;rw [if_neg (by omega)];rcases zD k hi with h3|⟨x,h3,h4⟩
    ·exact ⟨_,List.mem_append_right _ List.mem_cons_self,h3⟩
    ·exact ⟨x,List.mem_append_left _ h3,h4⟩
   ·have:i=k:=by omega
    subst this;exact .inl List.mem_cons_self
theorem Ps {form j:Int} {i:Nat} (h:i<(d5 form).length):0≤dl (ea form j) (i:Int)∧dl (ea form j) (i:Int)<((ea form j).length:Int):=by
 have hr:=N2 (ea form j) (i:Int)
 have:∃x,x∈ea form j∧(i:Int)∈x:=by
  unfold ea mh;rw [if_neg (by omega)];rcases zD (j:=j) _ h with h3|⟨x,h3,h4⟩
  ·exact ⟨_,List.mem_append_right _ List.mem_cons_self,h3⟩
  ·exact ⟨x,List.mem_append_left _ h3,h4⟩
 obtain ⟨x,h1,h2⟩:=this;have hany:(ea form j).any (fun l=>decide ((i:Int)∈l))=true:=List.any_eq_true.2 ⟨x,h1,by simpa using h2⟩;have hd:=nB (f:=fun l:List Int=>decide ((i:Int)∈l)) [] (ea form j);rw [hany] at hd;have:dl (ea form j) (i:Int)≥0:=of_decide_eq_true hd;omega
theorem zu {j:Int} {x:List Int}:∀k,x∈cv j k→x.length≤k
 |0,h=>by cases h
 |k+1,h=>by
  unfold cv at h
  split at h
  ·exact Nat.le_succ_of_le (zu k h)
  ·split at h
   ·cases h
   ·rcases List.mem_append.1 h with h|h
    ·exact Nat.le_succ_of_le (zu k h)
    ·rw [List.mem_singleton.1 h];exact Nat.le_succ_of_le (zO j k)
theorem NI (form j:Int):1≤(ea form j).length∧(ea form j).length≤8∧∀x,x∈ea form j→x.length≤65536:=by
 have hel:=rc form;have h1:=OD j (d5 form).length;refine ⟨?_,by unfold ea;omega,fun x hx=>?_⟩
 ·unfold ea mh;rw [if_neg (by omega)];simp
 ·unfold ea mh at hx;rw [if_neg (by omega)] at hx;rcases List.mem_append.1 hx with hx|hx
  ·have:=zu _ hx;omega
  ·rw [List.mem_singleton.1 hx];have:=zO j (d5 form).length;omega
structure wI (secs:List ax) (parts:List (List Int)) (pts:List aH) (routes:List (List Int)):Prop where
 h1:1≤secs.length
 hs:secs.length≤8
 hp:pts.length≤2
 hpa:parts.length≤8
 hpl:∀y,y∈parts→y.length≤65536
 hro:routes.length≤16
 hrl:∀x,x∈routes→2≤x.length∧x.length≤65536
 hrs:∀x,x∈routes→∀s,s∈x→0≤s∧s<(secs.length:Int)
 hpo:∀s:Int,0≤s→s<(secs.length:Int)→0≤dl parts s∧dl parts s<(parts.length:Int)
section
variable {secs:List ax} {pts:List aH} {turns:List Int} {s e most:Int}
theorem Bl (h1:1≤secs.length) (hs:0≤s∧s<(secs.length:Int)):∀i y,y∈(bA secs pts turns s e i).out→0≤y∧y<(secs.length:Int)
 |0,y,h=>by rw [List.mem_singleton.1 h];exact hs
 |i+1,y,h=>by
  rcases List.mem_append.1 h with h|h
  ·exact Bl h1 hs i y h
  ·rw [List.mem_singleton.1 h];unfold mj;rcases Nat.eq_zero_or_pos (bo secs pts (bA secs pts turns s e i).s (bA secs pts turns s e i).e).length with h0|h0
   ·rw [List.eq_nil_of_length_eq_zero h0];show 0≤(0:Int)∧(0:Int)<_;omega
   ·exact OB (c8 dE (As h0))
theorem Hv (h1:1≤secs.length) (hs:0≤s∧s<(secs.length:Int)):∀f i y,y∈jD secs pts turns s e most f i→0≤y∧y<(secs.length:Int)
 |0,i,y,h=>Bl h1 hs i y h
 |f+1,i,y,h=>by
  unfold jD at h
  split at h
  ·exact Bl h1 hs i y h
  ·exact Hv h1 hs f (i+1) y h
theorem vr (h1:1≤secs.length) {rs:List (List Int)}:∀k x,x∈ej secs pts rs k→(2≤x.length∧x.length≤65536)∧∀y,y∈x→0≤y∧y<(secs.length:Int)
 |0,x,h=>by cases h
 |k+1,x,h=>by
  unfold ej at h
  split at h
  ·exact vr h1 k x h
  ·rename_i hc;rcases List.mem_append.1 h with h|h
   ·exact vr h1 k x h
   ·rw [List.mem_singleton.1 h];have hw:=Gz secs pts ((rs.getD k []).getD 0 0 % (secs.length:Int)) ((rs.getD k []).getD 0 0 / 128) ((rs.getD k []).drop 2) (2+(rs.getD k []).getD 1 0 % 5);have hm:=Int.emod_nonneg ((rs.getD k []).getD 1 0) (show (5:Int)≠0 by decide);have hm2:=Int.emod_lt_of_pos ((rs.getD k []).getD 1 0) (show (0:Int)<5 by decide);refine ⟨⟨by omega,?_⟩,fun y hy=>Hv h1 ⟨Int.emod_nonneg _ (by omega),Int.emod_lt_of_pos _ (by omega)⟩ _ _ y hy⟩;have:(YL secs pts (rs.getD k [])).length≤(2+(rs.getD k []).getD 1 0 % 5).toNat+1:=hw;omega
end
theorem R7 (form len jn:Int) (rs:List (List Int)):wI (c9 form len) (ea form jn) (cz form) (YQ form len rs):=by
 have hel:=rc form;have hsl:=vm form len;obtain ⟨hp1,hp2,hp3⟩:=NI form jn;refine ⟨by omega,by omega,vw form,hp2,hp3,(FV _ _ _ _).2,fun x hx=>(vr (by omega) _ x hx).1,fun x hx=>(vr (by omega) _ x hx).2,fun s h0 h1=>?_⟩;obtain ⟨k,rfl⟩:=Int.eq_ofNat_of_zero_le h0;exact Ps (by omega)
structure YI where
 secs:List ax
 parts:List (List Int)
 pts:List aH
 routes:List (List Int)
 cn:Int
end Go.Lo
set_option linter.unusedVariables false
set_option linter.unusedSimpArgs false
namespace Go.Lo
section
variable {secs:List ax} {parts:List (List Int)} {pts:List aH} {routes:List (List Int)} {x:Act} {n k m:Nat}
theorem Tp {l:List Act} (h:np l=true):l.length≤50∧∀y,y∈l→y.bE.length≤20∧y.ow.length≤20∧y.rt.length≤8∧y.sp.length≤6:=by
 unfold np at h;simp only [Bool.and_eq_true,Bool.not_eq_true',decide_eq_true_eq] at h;refine ⟨by omega,fun y hy=>?_⟩
 have h2:rZ y=false:=by
  cases hb:rZ y with
  |false=>rfl
  |true=>have:=List.any_eq_true.2 ⟨y,hy,hb⟩;rw [h.1] at this;cases this
 unfold rZ at h2;simp only [Bool.or_eq_false_iff,decide_eq_false_iff_not] at h2;omega
end
end Go.Lo
set_option linter.unusedVariables false
set_option linter.unusedSimpArgs false
namespace Go.Lo
def core (x:Lk):Int×List Int:=(x.route,x.pieces)
section
variable {secs:List ax} {pts:List aH} {turns:List Int} {s e most:Int}
theorem Pk {i:Nat} (h:(bA secs pts turns s e i).out.Nodup) (hs:wstop secs pts turns s e most i=false):(bA secs pts turns s e (i+1)).out.Nodup:=by
 unfold wstop at hs;simp only [Bool.or_eq_false_iff,decide_eq_false_iff_not] at hs;refine List.nodup_append.2 ⟨h,List.pairwise_singleton _ _,fun a ha b hb hab=>?_⟩;rw [List.mem_singleton.1 hb] at hab;subst hab;exact hs.2 ha
theorem FW:∀f i,(bA secs pts turns s e i).out.Nodup→(jD secs pts turns s e most f i).Nodup
 |0,i,h=>h
 |f+1,i,h=>by
  unfold jD
  split
  ·exact h
  ·rename_i hc;exact FW f (i+1) (Pk h (Bool.eq_false_iff.2 hc))
theorem zr {rs:List (List Int)}:∀k x,x∈ej secs pts rs k→x.Nodup
 |0,x,h=>by cases h
 |k+1,x,h=>by
  unfold ej at h
  split at h
  ·exact zr k x h
  ·rcases List.mem_append.1 h with h|h
   ·exact zr k x h
   ·rw [List.mem_singleton.1 h];exact FW _ _ (List.pairwise_singleton _ _)
end
theorem Ow (form len:Int) (rs:List (List Int)):∀x,x∈YQ form len rs→x.Nodup:=zr _
def Pl (routes:List (List Int)) (ls:List Lk):Prop:=∀c,c∈ls.map core→c.2.length+1=(routes.getD c.1.toNat []).length
end Go.Lo
