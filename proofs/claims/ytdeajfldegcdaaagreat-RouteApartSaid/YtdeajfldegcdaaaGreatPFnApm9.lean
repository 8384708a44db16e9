/- Part of the logic of values: what the law reaches. -/
import Derived.Test.YtdeajfldegcdaaaGreatPFnApm4
import Derived.WalkKit
import Derived.ProofKit
import Derived.OpenShut
import Derived.ChangeOld
import Derived.Below
import Derived.Carry
import Derived.Deep.Slices
import Derived.ChangeSame
import Derived.Test.YtdeajfldegcdaaaGreatPFnApm7
import Derived.Test.YtdeajfldegcdaaaGreatPFnApm8
set_option linter.unusedVariables false
set_option linter.unusedSimpArgs false
namespace Go.Lo
open Go.ChangeShapes Go.WideShapes Go.Deep Go.RowKit
abbrev Cx:Ctx:=C0 (fun _=>False)
def Dec (P:Program) (t:TypeId) {α:Type} (f:α→List AV) (s:Nat) (Q:α→Prop):Prop:=
 ∀(H:Type) (en:TypeId×Value→H) (w:World) (sp:Nat→Bool) (fuel:Nat) (cs:List Value) (x:DataW H×List MemPlace),DataW.trod en P w 0 sp true fuel t cs=some x→
  ∃a,Q a∧cs.length=s∧(f a).length=s∧∀(j:Nat) (av:AV),(f a)[j]? =some av→∃u,cs[j]? =some u∧u.oneCell'=true∧R w Cx av u
theorem agE {P:Program} {t:TypeId} {α β:Type} {f:α→List AV} {f':β→List AV} {s:Nat} {Q:α→Prop} {Q':β→Prop} (g:α→β) (hd:Dec P t f s Q) (hf:∀a,f' (g a)=f a) (hQ:∀a,Q a→Q' (g a)):Dec P t f' s Q':=by
 intro H en w sp fuel cs x h;obtain ⟨a,h1,h2,h3,h4⟩:=hd H en w sp fuel cs x h;exact ⟨g a,hQ a h1,h2,by rw [hf];exact h3,fun j av hj=>h4 j av (by rw [←hf];exact hj)⟩
theorem one_cell {w:World} {u:Value} {av:AV} (h1:u.oneCell'=true) (hR:R w Cx av u):∀(j:Nat) (dA:AV),[av][j]? =some dA→∃u',[u][j]? =some u'∧u'.oneCell'=true∧R w Cx dA u':=fun j dA hj=>by
 cases j with
 |zero=>simp at hj;subst hj;exact ⟨u,rfl,h1,hR⟩
 |succ j=>simp at hj
theorem gW {P:Program} {t:TypeId} {k:IntKind} (h:P.underlying t=some (.int k)):Dec P t (fun n:Int=>[.v (.int k n)]) 1 (fun n=>(Lit.int k n).wf=true):=by
 intro H en w sp fuel cs x hx;obtain ⟨n,rfl,_,hw⟩:=DataW.trod_int h hx;exact ⟨n,hw,rfl,rfl,one_cell rfl (.v _)⟩
theorem aj1 {P:Program} {t:TypeId} (h:P.underlying t=some .bool):Dec P t (fun b:Bool=>[.v (.bool b)]) 1 (fun _=>True):=by
 intro H en w sp fuel cs x hx;obtain ⟨b,rfl,_⟩:=DataW.trod_bool h hx;exact ⟨b,trivial,rfl,rfl,one_cell rfl (.v _)⟩
theorem ajc {α:Type} {p:Nat→α→Prop}:∀(n:Nat),(∀i,i<n→∃a,p i a)→∃l:List α,l.length=n∧∀i a,l[i]? =some a→p i a:=by
 intro n
 induction n with
 |zero=>intro _;exact ⟨[],rfl,fun i a h=>by simp at h⟩
 |succ n ih=>
  intro h;obtain ⟨l,h1,h2⟩:=ih (fun i hi=>h i (by omega));obtain ⟨a,ha⟩:=h n (by omega);refine ⟨l++[a],by simp [h1],fun i b hb=>?_⟩;rw [List.getElem?_append] at hb
  split at hb
  ·exact h2 i b hb
  ·rename_i hi
   have hin:i=n:=by
    have:=(List.getElem?_eq_some_iff.1 hb).1;simp at this;omega
   subst hin;simp [h1] at hb;subst hb;exact ha
theorem Kj {α:Type} {f:α→List AV} {s:Nat}:∀(l:List α),(∀x∈l,(f x).length=s)→∀(j:Nat) (av:AV),(enc f l)[j]? =some av→∃a,l[j / s]? =some a∧(f a)[j % s]? =some av:=by
 intro l
 induction l with
 |nil=>intro _ j av h;simp [enc] at h
 |cons b l ih=>
  intro hf j av h;rw [kG] at h;have hb:=hf b (by simp);rw [List.getElem?_append] at h
  split at h
  ·rename_i hlt;rw [hb] at hlt;exact ⟨b,by rw [Nat.div_eq_of_lt hlt];rfl,by rw [Nat.mod_eq_of_lt hlt];exact h⟩
  ·rename_i hge;rw [hb] at hge h;obtain ⟨a,h1,h2⟩:=ih (fun x hx=>hf x (by simp [hx])) (j-s) av h;by_cases hs:s=0
   ·subst hs
    have:(f a).length=0:=by
     refine hf a ?_;exact List.mem_cons_of_mem _ (List.mem_of_getElem? h1)
    rw [List.getElem?_eq_none (by omega)] at h2
    cases h2
   ·have e1:j / s=(j-s) / s+1:=by
     have:=Nat.add_div_right (j-s) (z:=s) (by omega);rw [Nat.sub_add_cancel (by omega)] at this;exact this
    have e2:j % s=(j-s) % s:=(Nat.mod_eq_sub_mod (by omega))
    exact ⟨a,by rw [e1];simpa using h1,by rw [e2];exact h2⟩
theorem agF {P:Program} {w:World} {t e:TypeId} {α:Type} {f:α→List AV} {s:Nat} {Q:α→Prop} (ht:P.underlying t=some (.slice e)) (hC:P.cellsOf e=s) (hd:Dec P e f s Q)
  {H:Type} {en:TypeId×Value→H} {sp:Nat→Bool} {fuel:Nat} {cs:List Value} {x:DataW H×List MemPlace} (h:DataW.trod en P w 0 sp true fuel t cs=some x):
  ∃(A:Option Addr) (n c:Nat) (l:List α),cs=[.slice A n c]∧(∀a∈l,Q a)∧n=l.length∧n≤maxLen∧R w Cx (.ro l.length (enc f l)) (.slice A n c):=by
 rcases open_slice ht h with ⟨rfl,_⟩|⟨a,len,cap,m,n,D,Pl,rfl,_,hl,hm,hmm,_,hi⟩
 ·exact ⟨none,0,0,[],rfl,fun _ h=>by simp at h,rfl,Nat.zero_le _,.ro 0 0 none [] (fun _=>undef) (Nat.le_refl _) (Nat.zero_le _) (fun _=>⟨rfl,rfl⟩) (fun j hj=>by simp at hj) (fun j av hj=>by simp at hj)⟩
 ·have hml:len≤m:=by rw [hmm];split<;>omega
  obtain ⟨l,hlen,hget⟩:=ajc (p:=fun i (b:α)=>Q b∧(f b).length=s∧∀(j:Nat) (av:AV),(f b)[j]? =some av→∃u,w.cell? (a.add (i*s+j))=some u∧u.oneCell'=true∧R w Cx av u) len (fun i hil=>by
   obtain ⟨cs',hc,ht'⟩:=hi i (by omega);rw [hC] at hc;obtain ⟨_,hcl,hat⟩:=World.cells?_some hc;obtain ⟨b,q1,q2,q3,q4⟩:=hd H en w sp _ _ _ ht';refine ⟨b,q1,q3,fun j av hj=>?_⟩;obtain ⟨u,hu,h1,hR⟩:=q4 j av hj;have hjs:j<s:=by rw [←q2];exact (List.getElem?_eq_some_iff.1 hu).1
   exact ⟨u,by rw [←add_add,hat j hjs,hu],h1,hR⟩)
  subst hlen
  have hfs:∀x∈l,(f x).length=s:=fun x hx=>by
   obtain ⟨i,hi'⟩:=List.mem_iff_getElem?.1 hx;exact (hget i x hi').2.1
  have hcell:∀(j:Nat) (av:AV),(enc f l)[j]? =some av→∃u,w.cell? (a.add j)=some u∧u.oneCell'=true∧R w Cx av u:=fun j av hj=>by
   obtain ⟨b,h1,h2⟩:=Kj l hfs j av hj;obtain ⟨u,h3,h4,h5⟩:=(hget _ b h1).2.2 _ av h2;have:j / s*s+j % s=j:=by rw [Nat.mul_comm];exact Nat.div_add_mod j s
   rw [this] at h3;exact ⟨u,h3,h4,h5⟩
  refine ⟨some a,l.length,cap,l,rfl,fun b hb=>?_,rfl,Nat.le_trans hl hm,.ro _ cap (some a) _ (fun j=>(w.cell? (a.add j)).getD undef) hl hm (fun e=>by cases e) (fun j hj=>?_) (fun j av hj=>?_)⟩
  ·obtain ⟨i,hi'⟩:=List.mem_iff_getElem?.1 hb;exact (hget i b hi').1
  ·obtain ⟨u,h3,h4,h5⟩:=hcell j _ (List.getElem?_eq_getElem hj);exact ⟨a,rfl,fun h=>h.elim,by rw [h3];rfl,by rw [h3];exact h4⟩
  ·obtain ⟨u,h3,h4,h5⟩:=hcell j av hj;rw [h3];exact h5
theorem abD {P:Program} {t e:TypeId} {α:Type} {f:α→List AV} {s:Nat} {Q:α→Prop} (ht:P.underlying t=some (.slice e)) (hC:P.cellsOf e=s) (hd:Dec P e f s Q):
  Dec P t (fun l:List α=>[.ro l.length (enc f l)]) 1 (fun l=>(∀a∈l,Q a)∧l.length≤maxLen):=by
 intro H en w sp fuel cs x h;obtain ⟨A,n,c,l,rfl,h1,h2,h3,h4⟩:=agF ht hC hd h;exact ⟨l,⟨h1,by omega⟩,rfl,rfl,one_cell rfl h4⟩
def nC (P:Program) (t:TypeId):Option (List (TypeId×Nat)):=
 match P.underlying t with
 |some (.struct fs)=>some (fs.toList.map fun f=>(f.type,f.offset))
 |_=>none
theorem yQ {P:Program} {t:TypeId} {l:List (TypeId×Nat)} (h:nC P t=some l):∃fs,P.underlying t=some (.struct fs)∧l=fs.toList.map fun f=>(f.type,f.offset):=by
 unfold nC at h
 split at h
 ·rename_i fs he
  cases h
  exact ⟨fs,he,rfl⟩
 ·cases h
def adI (P:Program) (fs:List (TypeId×Nat)) (off:Nat) {α:Type} (f:α→List AV) (s:Nat) (Q:α→Prop):Prop:=
 ∀(H:Type) (en:TypeId×Value→H) (w:World) (sp:Nat→Bool) (n:Nat) (cs:List Value),(∀(i:Nat) (fl:TypeId×Nat),fs[i]? =some fl→∃y,DataW.trod en P w 0 sp true n fl.1 ((cs.drop fl.2).take (P.cellsOf fl.1))=some y)→
  ∃a,Q a∧(f a).length=s∧∀(j:Nat) (av:AV),(f a)[j]? =some av→∃u,cs[off+j]? =some u∧u.oneCell'=true∧R w Cx av u
theorem Ao {P:Program} {off:Nat}:adI P [] off (fun _:Unit=>[]) 0 (fun _=>True):=fun _ _ _ _ _ _ _=>⟨(),trivial,rfl,fun j av h=>by simp at h⟩
theorem gu {P:Program} {ft:TypeId} {fo:Nat} {rest:List (TypeId×Nat)} {off s s':Nat} {α β:Type} {f:α→List AV} {f':β→List AV} {Q:α→Prop} {Q':β→Prop} (hd:Dec P ft f s Q) (ho:fo=off) (hC:P.cellsOf ft=s) (hr:adI P rest (off+s) f' s' Q'):
  adI P ((ft,fo)::rest) off (fun x:α×β=>f x.1++f' x.2) (s+s') (fun x=>Q x.1∧Q' x.2):=by
 intro H en w sp n cs h;obtain ⟨y,hy⟩:=h 0 (ft,fo) rfl;obtain ⟨a,q1,q2,q3,q4⟩:=hd H en w sp _ _ _ hy;obtain ⟨b,r1,r2,r3⟩:=hr H en w sp n cs (fun i N9 hi=>h (i+1) N9 (by simpa using hi));refine ⟨(a,b),⟨q1,r1⟩,by simp [q3,r2],fun j av hj=>?_⟩;simp only at hj;rw [List.getElem?_append] at hj
 split at hj
 ·rename_i hlt;rw [q3] at hlt;obtain ⟨u,hu,h1,hR⟩:=q4 j av hj;refine ⟨u,?_,h1,hR⟩;simp only [hC,ho] at hu;rw [List.getElem?_take_of_lt hlt,List.getElem?_drop] at hu;exact hu
 ·rename_i hge;rw [q3] at hge hj;obtain ⟨u,hu,h1,hR⟩:=r3 (j-s) av hj;exact ⟨u,by rw [←hu];congr 1;omega,h1,hR⟩
theorem zo {P:Program} {t:TypeId} {fs:List (TypeId×Nat)} {α:Type} {f:α→List AV} {s:Nat} {Q:α→Prop} (hs:nC P t=some fs) (hd:adI P fs 0 f s Q) (hC:P.cellsOf t=s):Dec P t f s Q:=by
 intro H en w sp fuel cs x h;obtain ⟨gs,ht,rfl⟩:=yQ hs;obtain ⟨xs,n,_,_,hl,hxl,hf⟩:=DataW.trod_struct ht h
 obtain ⟨a,q1,q2,q3⟩:=hd H en w sp n cs (fun i fl hi=>by
  rw [List.getElem?_map,Option.map_eq_some_iff] at hi;obtain ⟨g,hg,rfl⟩:=hi;have hg':gs[i]? =some g:=by simpa using hg
  have h1:=hf i g hg';have hlt:i<xs.length:=by rw [hxl];exact (Array.getElem?_eq_some_iff.1 hg').1
  exact ⟨_,h1.trans (List.getElem?_eq_getElem hlt)⟩)
 exact ⟨a,q1,by rw [hl,hC],q2,fun j av hj=>by simpa using q3 j av hj⟩
section
variable {P:Program} {w:World} {H:Type} {en:TypeId×Value→H} {sp:Nat→Bool} {r:Reach} {b0:Nat} {t:TypeId} {v:Value} {d:DataW H} {p:List MemPlace}
theorem GL {e:TypeId} {α:Type} {f:α→List AV} {s:Nat} {Q:α→Prop} (ht:P.underlying t=some (.slice e)) (hC:P.cellsOf e=s) (hd:Dec P e f s Q) (hv:Value.okWide P w r b0 t v) (h:DataW.Trod en P w 0 sp true t v d p):
  ∃l:List α,((∀a∈l,Q a)∧l.length≤maxLen)∧R w Cx (.ro l.length (enc f l)) v:=by
 obtain ⟨a0,len,cap,rfl⟩:=okWide_slice ht hv;obtain ⟨fuel,hf⟩:=h;obtain ⟨A,n,c,l,hcs,h1,h2,h3,h4⟩:=agF ht hC hd hf;simp [Value.cells] at hcs;obtain ⟨rfl,rfl,rfl⟩:=hcs;exact ⟨l,⟨h1,by omega⟩,h4⟩
theorem FZ {fs:List (TypeId×Nat)} {α:Type} {f:α→List AV} {s:Nat} {Q:α→Prop} (hst:nC P t=some fs) (hd:Dec P t f s Q) (hv:Value.okWide P w r b0 t v) (h:DataW.Trod en P w 0 sp true t v d p):
  ∃a:α,Q a∧R w Cx (.agg (f a)) v:=by
 obtain ⟨gs,ht,_⟩:=yQ hst;obtain ⟨us,rfl,hsz⟩:=okWide_struct ht hv;obtain ⟨fuel,hf⟩:=h;obtain ⟨a,h1,h2,h3,h4⟩:=hd H en w sp fuel _ _ hf;refine ⟨a,h1,.agg _ us ?_ (fun j av hj=>?_)⟩
 ·simp only [Value.cells] at h2;rw [h3, ←h2];simp
 ·obtain ⟨u,hu,_,hR⟩:=h4 j av hj;simp only [Value.cells,Array.getElem?_toList] at hu;simp only [Array.getD_eq_getD_getElem?,hu,Option.getD_some];exact hR
end
theorem I_ {P:Program} {f:FuncId} {args:List AV} (h:Fn P f args (.v (.bool true))) (w:World) (hL:Laid w (fun _=>False)) (vs:Array Value) (hs:vs.size=args.length) (hR:∀(j:Nat) (av:AV),args[j]? =some av→R w Cx av (vs.getD j undef)):
  Calls P f vs w fun e w'=>e=.returned (.bool true)∧Below w.heap.size w w':=
 (h w (fun _=>False) vs hs (fun _ h=>h.elim) hL hR).mono fun e w' ⟨v,C',res,news,he,⟨hres,_⟩,hfr,hRv,_⟩=>by
  subst hres
  cases hRv
  exact ⟨he,hfr.os,hfr.tape,hfr.output,hfr.size,fun k hk=>hfr.block k hk (fun h=>h.elim)⟩
theorem ajt {w:World} (h:aa5=[]):Laid w (fun _=>False):=fun q hq=>by rw [h] at hq;cases hq
def agZ (w:World):List AV→List Value→Prop
 | [],[]=>True
 |a::as,v::vs=>R w Cx a v∧agZ w as vs
 |_,_=>False
theorem B_ {w:World}:∀{bU:List AV} {us:List Value},agZ w bU us→∀(j:Nat) (av:AV),bU[j]? =some av→R w Cx av (us.toArray.getD j undef)
 | [],[],_,j,av,h=>by simp at h
 |a::as,v::vs,⟨h1,h2⟩,j,av,h=>by
  cases j with
  |zero=>simp at h;subst h;simpa using h1
  |succ j=>
   have:=B_ h2 j av (by simpa using h);simpa using this
 | [],_::_,h,_,_,_=>h.elim
 |_::_,[],h,_,_,_=>h.elim
end Go.Lo
set_option linter.unusedVariables false
set_option linter.unusedSimpArgs false
namespace Go.Lo
structure nI where
 form:Int
 len:Int
 speed:Int
 mute:Int
 wait:Int
 cancel:Int
 stay:Int
 jn:Int
 rs:List (List Int)
def abQ (d:nI):List AV:=[.v (.int .u8 d.form),.v (.int .u8 d.len),.v (.int .u8 d.speed),.v (.int .u16 d.mute),.v (.int .u16 d.wait),.v (.int .u8 d.cancel),.v (.int .u8 d.stay),.v (.int .u8 d.jn),.ro d.rs.length (enc eUL d.rs)]
structure agv (d:nI):Prop where
 form:0≤d.form∧d.form≤255
 len:0≤d.len∧d.len≤255
 speed:0≤d.speed∧d.speed≤255
 mute:0≤d.mute∧d.mute≤65535
 wait:0≤d.wait∧d.wait≤65535
 cancel:0≤d.cancel∧d.cancel≤255
 stay:0≤d.stay∧d.stay≤255
 jn:0≤d.jn∧d.jn≤255
 n:d.rs.length≤maxLen
 rs:∀x,x∈d.rs→∀y,y∈x→0≤y∧y≤255
structure View where
 id:Int
 sure:Bool
 span:List Int
def ku:View:=⟨0,false,[]⟩
def eV (v:View):List AV:=[.v (.int .i64 v.id),.v (.bool v.sure),.ro v.span.length (enc eI v.span)]
instance (x:View):VB (eV x):=by unfold eV;infer_instance
def ZK (s:Int) (v:View):Bool:=decide (s∈v.span)
theorem ajG {rs:List (List Int)} (h:gX rs=true) (h2:∀x,x∈rs→∀y,y∈x→0≤y∧y≤255):rs.length≤65536∧∀x,x∈rs→x.length≤65536∧∀y,y∈x→0≤y∧y≤255:=by
 obtain ⟨h3,h4⟩:=FP h;exact ⟨by omega,fun x hx=>⟨by have:=h4 x hx;omega,h2 x hx⟩⟩
def gG (pts:List aP) (states:List Int) (views:List View) (locked held:List Bool) (p:Int):Bool:=
 if (decide (p<0)||decide (p≥(pts.length:Int))||hasB held p)=true then false
 else if views.any (ZK (pts.getD p.toNat dP).stem)=true then false
 else decide ((pts.getD p.toNat dP).stem≥0)&&decide ((pts.getD p.toNat dP).stem<(states.length:Int))&&(states.getD (pts.getD p.toNat dP).stem.toNat 0==0)&& !hasB locked (pts.getD p.toNat dP).stem
theorem JA {pts:List aP} {states:List Int} {views:List View} {locked held:List Bool} {p:Int} (h:(decide (p<0)||decide (p≥(pts.length:Int))||hasB held p)=true):gG pts states views locked held p=false:=by unfold gG;rw [if_pos h]
theorem JB {pts:List aP} {states:List Int} {views:List View} {locked held:List Bool} {p:Int} (h:(decide (p<0)||decide (p≥(pts.length:Int))||hasB held p)=false) (h2:views.any (ZK (pts.getD p.toNat dP).stem)=true):gG pts states views locked held p=false:=by
 unfold gG;rw [if_neg (by rw [h];simp),if_pos h2]
theorem Ig {pts:List aP} {states:List Int} {views:List View} {locked held:List Bool} {p:Int} (h:(decide (p<0)||decide (p≥(pts.length:Int))||hasB held p)=false) (h2:views.any (ZK (pts.getD p.toNat dP).stem)=false):
  gG pts states views locked held p=(decide ((pts.getD p.toNat dP).stem≥0)&&decide ((pts.getD p.toNat dP).stem<(states.length:Int))&&(states.getD (pts.getD p.toNat dP).stem.toNat 0==0)&& !hasB locked (pts.getD p.toNat dP).stem):=by
 unfold gG;rw [if_neg (by rw [h];simp),if_neg (by rw [h2];simp)]
end Go.Lo
set_option linter.unusedVariables false
set_option linter.unusedSimpArgs false
namespace Go.Lo
structure tL where
 sec:Int
 kind:Int
theorem tL.wD {x y:tL} (h1:x.sec=y.sec) (h2:x.kind=y.kind):x=y:=by
 cases x;cases y;simp_all
instance:DecidableEq tL:=fun x y=>if h:x.sec=y.sec∧x.kind=y.kind then isTrue (tL.wD h.1 h.2) else isFalse fun e=>h (by rw [e];exact ⟨rfl,rfl⟩)
def dG (parts:List (List Int)) (s:Int):Int:=bX (fun l=>decide (s∈l)) parts
theorem Fj (parts:List (List Int)) (s:Int):dG parts s= -1∨(0≤dG parts s∧dG parts s<(parts.length:Int)):=oD _ [] _
theorem u64_in {n:Int} (h:0≤n∧n≤18446744073709551615):IntKind.u64.wrap n=n:=by rw [IntKind.wrap_u64];omega
def pw (n:Nat):Nat→Nat
 |0=>min 1 n
 |k+1=>pw n k+min (pw n k) (n-pw n k)
theorem agn (n k:Nat) (h:1≤n):pw n k≤n∧1≤pw n k∧(pw n k<n→k+1≤pw n k):=by
 induction k with
 |zero=>simp [pw];omega
 |succ k ih=>simp only [pw];omega
end Go.Lo
set_option linter.unusedVariables false
set_option linter.unusedSimpArgs false
namespace Go.Lo
structure Lk where
 route:Int
 O_:Int
 ends:Int
 pieces:List Int
def aA:Lk:=⟨0,0,0,[]⟩
def dY (x:Lk):List AV:=[.v (.int .i64 x.route),.v (.int .i64 x.O_),.v (.int .i64 x.ends),.ro x.pieces.length (enc aI x.pieces)]
instance (x:Lk):VB (dY x):=by unfold dY;infer_instance
structure tF where
 id:Int
 span:List Int
 secs:List aD
 parts:List (List Int)
 pts:List aP
 routes:List (List Int)
 st:List Int
 ow:List Int
 right:List Bool
def Oq (f:tF) (s:Int):Bool:=decide (f.st.getD s.toNat 0=0)||(decide (f.st.getD s.toNat 0=1)&&decide (f.ow.getD (dG f.parts s).toNat 0=f.id))
def vS (f:tF) (path:List Int) (i:Nat):List Need:=(Vh f.secs f.pts (path.take (i+2))).drop (min (Vh f.secs f.pts (path.take (i+1))).length (Vh f.secs f.pts (path.take (i+2))).length)
theorem KZ {i:Nat} (h:i≤1000000):Xv .i64 .add (i:Int) 2=.int .i64 ((i+2:Nat):Int):=by
 rw [XO (by omega)];congr 1
end Go.Lo
set_option linter.unusedVariables false
set_option linter.unusedSimpArgs false
namespace Go.Lo
structure ZQ (routes:List (List Int)) (x:Lk):Prop where
 r:0≤x.route∧x.route<(routes.length:Int)
 ps:x.pieces.length+1≤(routes.getD x.route.toNat []).length
 ln:(routes.getD x.route.toNat []).length≤65536
def jd (ls:List Lk) (r:Int):Int:=bX (fun x=>decide (x.route=r)) ls
def pcB (path ps:List Int) (s:Int) (j:Nat):Bool:=decide (path.getD (j+1) 0=s)&&decide (¬ps.getD j 0=0)
def vZ (path ps:List Int) (s:Int) (k:Nat):Bool:=(List.range k).any (pcB path ps s)
def jk (routes:List (List Int)) (s:Int) (x:Lk):Bool:=vZ (routes.getD x.route.toNat []) x.pieces s x.pieces.length
def jZ (routes:List (List Int)) (ls:List Lk) (s:Int):Int:=if bX (jk routes s) ls<0 then-1 else (ls.getD (bX (jk routes s) ls).toNat aA).route
section
variable {path ps:List Int} {s:Int} {k:Nat} {routes:List (List Int)} {ls:List Lk}
theorem Hz {n:Nat} (hk:k<n) (h2:pcB path ps s k=true):vZ path ps s n=true:=List.any_eq_true.2 ⟨k,List.mem_range.2 hk,h2⟩
end
end Go.Lo
set_option linter.unusedVariables false
set_option linter.unusedSimpArgs false
namespace Go.Lo
structure Act where
 dw:Int
 n:Int
 tr:Int
 Ve:List Int
 ow:List Int
 rt:List Bool
 sp:List Int
 tk:Int
def aG:Act:=⟨0,0,0,[],[],[],[],0⟩
def fD (x:Act):List AV:=[.v (.int .u8 x.dw),.v (.int .u8 x.n),.v (.int .u8 x.tr),.ro x.Ve.length (enc aI x.Ve),.ro x.ow.length (enc aI x.ow),.ro x.rt.length (enc eB x.rt),.ro x.sp.length (enc aI x.sp),.v (.int .u8 x.tk)]
instance (x:Act):VB (fD x):=by unfold fD;infer_instance
structure rP (x:Act):Prop where
 dw:0≤x.dw∧x.dw≤255
 n:0≤x.n∧x.n≤255
 tr:0≤x.tr∧x.tr≤255
 Ve:∀y,y∈x.Ve→0≤y∧y≤255
 ow:∀y,y∈x.ow→0≤y∧y≤255
 sp:∀y,y∈x.sp→0≤y∧y≤255
 tk:0≤x.tk∧x.tk≤255
 l1:x.Ve.length≤maxLen
 l2:x.ow.length≤maxLen
 l3:x.rt.length≤maxLen
 l4:x.sp.length≤maxLen
def stA (x:Act) (i:Nat):Int:=if i<x.Ve.length∧x.Ve.getD i 0≥128 then x.Ve.getD i 0 % 4 else 0
def Vz (x:Act) (k:Nat):List Int:=(List.range k).map (stA x)
def NT (x:Act) (i:Nat):Int:=if i<x.ow.length then x.ow.getD i 0 % 5-2 else-2
def jP (x:Act) (k:Nat):List Int:=(List.range k).map (NT x)
def Qf (x:Act) (n:Nat):List Bool:=if x.rt.length>n then x.rt.take n else x.rt
def nT (x:Act):Bool:=decide ((x.Ve.length:Int)>20)||decide ((x.ow.length:Int)>20)||decide ((x.rt.length:Int)>8)||decide ((x.sp.length:Int)>6)
def ZR (l:List Act):Bool:= !(l.any nT)&&decide ((l.length:Int)≤50)
section
variable {x:Act} {k:Nat}
theorem uW:(Vz x k).length=k:=by simp [Vz]
theorem QB:(jP x k).length=k:=by simp [jP]
theorem Ho:Vz x (k+1)=Vz x k++[stA x k]:=by simp [Vz,List.range_succ]
theorem Tk:jP x (k+1)=jP x k++[NT x k]:=by simp [jP,List.range_succ]
theorem agP (h:k<x.Ve.length∧x.Ve.getD k 0≥128):x.Ve.getD k 0 % 4=stA x k:=by unfold stA;rw [if_pos h]
theorem agQ (h:¬(k<x.Ve.length∧x.Ve.getD k 0≥128)):(0:Int)=stA x k:=by unfold stA;rw [if_neg h]
theorem RO (h:k<x.ow.length):x.ow.getD k 0 % 5-2=NT x k:=by unfold NT;rw [if_pos h]
theorem RP (h:¬k<x.ow.length):(-2:Int)=NT x k:=by unfold NT;rw [if_neg h]
end
end Go.Lo
set_option linter.unusedVariables false
set_option linter.unusedSimpArgs false
namespace Go.Lo
def N_ (A B:aD) (z:aP):Bool:=((A.a==z.node)||(A.b==z.node))&&((B.a==z.node)||(B.b==z.node))
def asv (A B:aD) (pts:List aP) (j:Nat):Int:=if (pts.take j).any (N_ A B) then 1 else 0
def tT (secs:List aD) (pts:List aP) (path:List Int) (k:Nat):Int:=asv (secs.getD (path.getD k 0).toNat dS) (secs.getD (path.getD (k+1) 0).toNat dS) pts pts.length
def m_ (secs:List aD) (pts:List aP) (path:List Int) (step:Nat):Nat→Int
 |0=>0
 |k+1=>if k<step then m_ secs pts path step k+tT secs pts path k else m_ secs pts path step k
def stM (secs:List aD) (pts:List aP) (path:List Int) (step:Nat):Nat→Int
 |0=>0
 |k+1=>if k=step then tT secs pts path k else stM secs pts path step k
def stD (secs:List aD) (pts:List aP) (path:List Int) (step:Nat):List Need:=
 if m_ secs pts path step (path.length-1)+stM secs pts path step (path.length-1)>((Vh secs pts path).length:Int) then []
 else ((Vh secs pts path).take (m_ secs pts path step (path.length-1)+stM secs pts path step (path.length-1)).toNat).drop (m_ secs pts path step (path.length-1)).toNat
end Go.Lo
set_option linter.unusedVariables false
set_option linter.unusedSimpArgs false
namespace Go.Lo
theorem HV {secs:List aD} {pts:List aP} {s e p:Int} {z:Need} (h:z∈W9 secs pts s e p):0≤z.point∧z.point<(pts.length:Int):=by
 unfold W9 at h
 split at h
 ·cases h
 ·rw [List.mem_singleton.1 h];rcases PK pts (U6 secs s e) with h1|h1
  ·omega
  ·exact h1
theorem agG {secs:List aD} {pts:List aP}:∀(l:List Int) (w:WY) (r:List Need),(∀z,z∈w.ns→0≤z.point∧z.point<(pts.length:Int))→gM secs pts l w=some r→∀z,z∈r→0≤z.point∧z.point<(pts.length:Int)
 | [],w,r,hw,h=>by cases h;exact hw
 |p::l,w,r,hw,h=>by
  unfold gM at h
  split at h
  ·cases h
  ·refine agG l _ r (fun z hz=>?_) h;rcases List.mem_append.1 hz with hz|hz
   ·exact hw z hz
   ·exact HV hz
theorem Ja {secs:List aD} {pts:List aP} {path:List Int} {z:Need} (hz:z∈Vh secs pts path):0≤z.point∧z.point<(pts.length:Int):=by
 unfold Vh at hz
 cases h:iE secs pts path with
 |none=>rw [h] at hz;cases hz
 |some r=>
  rw [h] at hz;have key:∀e,gN secs pts (path.getD 0 0) e (path.drop 1)=some r→0≤z.point∧z.point<(pts.length:Int):=fun e hq=>agG _ _ _ (fun z hz=>by cases hz) hq z hz;unfold iE at h
  split at h
  ·cases h
  ·split at h
   ·cases h
   ·split at h
    ·exact key _ h
    ·exact key _ h
def C_ (routes:List (List Int)) (ls:List Lk) (i:Nat):Bool:=decide (jZ routes ls (i:Int)≥0)
def Yq (routes:List (List Int)) (ls:List Lk) (n:Nat):List Bool:=(List.range n).map (C_ routes ls)
def hN (needs:List Need) (out:List Bool):Nat→List Bool
 |0=>out
 |j+1=>(hN needs out j).set (needs.getD j dN).point.toNat true
def skB (ps:List Int) (k:Nat):Bool:=(ps.getD k 0==0)&&(((k:Int)==0)||(ps.getD ((k:Int)-1).toNat 0==0))
def hK (secs:List aD) (pts:List aP) (path ps:List Int) (out:List Bool):Nat→List Bool
 |0=>out
 |k+1=>if skB ps k then hK secs pts path ps out k else hN (stD secs pts path k) (hK secs pts path ps out k) (stD secs pts path k).length
def hI (secs:List aD) (pts:List aP) (routes:List (List Int)) (ls:List Lk):Nat→List Bool
 |0=>List.replicate pts.length false
 |i+1=>hK secs pts (routes.getD (ls.getD i aA).route.toNat []) (ls.getD i aA).pieces (hI secs pts routes ls i) (ls.getD i aA).pieces.length
def Xu (secs:List aD) (pts:List aP) (routes:List (List Int)) (ls:List Lk):List Bool:=hI secs pts routes ls ls.length
section
variable {secs:List aD} {pts:List aP} {path ps:List Int} {routes:List (List Int)} {ls:List Lk} {needs:List Need} {out:List Bool} {k:Nat}
theorem o_:∀j,(hN needs out j).length=out.length
 |0=>rfl
 |j+1=>by show ((hN needs out j).set _ _).length=_;rw [List.length_set,o_ j]
end
def rR (routes:List (List Int)) (ls:List Lk) (states path:List Int) (k:Nat):Bool:=decide (path.getD (k+1) 0≥(states.length:Int))||(states.getD (path.getD (k+1) 0).toNat 0 != 0)||decide (jZ routes ls (path.getD (k+1) 0)≥0)
def vR (routes:List (List Int)) (ls:List Lk) (states path:List Int) (n:Nat):Bool:=(List.range n).any (rR routes ls states path)
def aaC (secs:List aD) (pts:List aP) (routes:List (List Int)) (ls:List Lk) (states:List Int) (views:List View) (z:Need):Bool:= !gG pts states views (Yq routes ls secs.length) (Xu secs pts routes ls) z.point
def Wa (secs:List aD) (pts:List aP) (routes:List (List Int)) (ls:List Lk) (r:Int) (states:List Int) (views:List View) (right:List Bool):Int:=
 if r<0∨r≥(routes.length:Int) then 7 else if jd ls r≥0 then 8
 else if vR routes ls states (routes.getD r.toNat []) ((routes.getD r.toNat []).length-1)=true then 9
 else if (bF (Vh secs pts (routes.getD r.toNat [])) right).any (aaC secs pts routes ls states views)=true then 9 else 0
def kV (secs:List aD) (pts:List aP) (routes:List (List Int)) (ls:List Lk) (r tr:Int) (states:List Int) (views:List View) (right:List Bool):List Lk:=
 if Wa secs pts routes ls r states views right=0 then ls++[⟨r,tr, -1,List.replicate ((routes.getD r.toNat []).length-1) 1⟩] else ls
def kZ (secs:List aD) (pts:List aP) (routes:List (List Int)) (ls:List Lk) (r:Int) (states:List Int) (views:List View) (right:List Bool):List Bool:=
 if Wa secs pts routes ls r states views right=0 then bP right (bF (Vh secs pts (routes.getD r.toNat [])) right) else right
section
variable {secs:List aD} {pts:List aP} {routes:List (List Int)} {ls:List Lk} {r tr:Int} {states path:List Int} {views:List View} {right:List Bool} {k:Nat}
theorem agM {e:Int} (he:¬e=0) (h:Wa secs pts routes ls r states views right=e):kV secs pts routes ls r tr states views right=ls∧kZ secs pts routes ls r states views right=right:=by
 unfold kV kZ;rw [h,if_neg he,if_neg he];exact ⟨rfl,rfl⟩
theorem TV (h:(decide (r<0)||decide (r≥(routes.length:Int)))=false):0≤r∧r<(routes.length:Int):=by
 simp only [Bool.or_eq_false_iff,decide_eq_false_iff_not] at h;omega
theorem Uq (h:0≤r∧r<(routes.length:Int)) (h2:jd ls r≥0):Wa secs pts routes ls r states views right=8:=by
 unfold Wa;rw [if_neg (by omega),if_pos h2]
theorem Ur (h:0≤r∧r<(routes.length:Int)) (h2:¬jd ls r≥0) (h3:vR routes ls states (routes.getD r.toNat []) ((routes.getD r.toNat []).length-1)=true):Wa secs pts routes ls r states views right=9:=by
 unfold Wa;rw [if_neg (by omega),if_neg h2,if_pos h3]
theorem akz (h:0≤r∧r<(routes.length:Int)) (h2:¬jd ls r≥0) (h3:vR routes ls states (routes.getD r.toNat []) ((routes.getD r.toNat []).length-1)=false)
  (h4:(bF (Vh secs pts (routes.getD r.toNat [])) right).any (aaC secs pts routes ls states views)=true):Wa secs pts routes ls r states views right=9:=by
 unfold Wa;rw [if_neg (by omega),if_neg h2,if_neg (by rw [h3];exact Bool.false_ne_true),if_pos h4]
theorem Us (h:0≤r∧r<(routes.length:Int)) (h2:¬jd ls r≥0) (h3:vR routes ls states (routes.getD r.toNat []) ((routes.getD r.toNat []).length-1)=false)
  (h4:(bF (Vh secs pts (routes.getD r.toNat [])) right).any (aaC secs pts routes ls states views)=false):Wa secs pts routes ls r states views right=0:=by
 unfold Wa;rw [if_neg (by omega),if_neg h2,if_neg (by rw [h3];exact Bool.false_ne_true),if_neg (by rw [h4];exact Bool.false_ne_true)]
theorem aeP (h:Wa secs pts routes ls r states views right=0):kV secs pts routes ls r tr states views right=ls++[⟨r,tr, -1,List.replicate ((routes.getD r.toNat []).length-1) 1⟩]∧kZ secs pts routes ls r states views right=bP right (bF (Vh secs pts (routes.getD r.toNat [])) right):=by
 unfold kV kZ;rw [if_pos h,if_pos h];exact ⟨rfl,rfl⟩
end
def Yg (x:Lk) (e:Int):Lk:=if x.ends= -1 then { x with ends:=e } else x
def Wz (routes:List (List Int)) (ls:List Lk) (r:Int):Int:=if r<0∨r≥(routes.length:Int) then 7 else if jd ls r<0 then 8 else 0
def iP (routes:List (List Int)) (ls:List Lk) (r e:Int):List Lk:=if Wz routes ls r=0 then ls.set (jd ls r).toNat (Yg (ls.getD (jd ls r).toNat aA) e) else ls
section
variable {routes:List (List Int)} {ls:List Lk} {r e:Int}
theorem Ua (h:(decide (r<0)||decide (r≥(routes.length:Int)))=true):Wz routes ls r=7:=by
 simp only [Bool.or_eq_true,decide_eq_true_eq] at h;unfold Wz;rw [if_pos h]
theorem RJ (h:0≤r∧r<(routes.length:Int)) (h2:jd ls r<0):Wz routes ls r=8:=by
 unfold Wz;rw [if_neg (by omega),if_pos h2]
theorem QK (h:0≤r∧r<(routes.length:Int)) (h2:¬jd ls r<0):Wz routes ls r=0:=by
 unfold Wz;rw [if_neg (by omega),if_neg h2]
theorem QE {x:Int} (hx:¬x=0) (h:Wz routes ls r=x):iP routes ls r e=ls:=by unfold iP;rw [h,if_neg hx]
theorem Qw (h:Wz routes ls r=0):iP routes ls r e=ls.set (jd ls r).toNat (Yg (ls.getD (jd ls r).toNat aA) e):=by unfold iP;rw [if_pos h]
theorem TB {x:Lk} (h:¬x.ends= -1):Yg x e=x:=by unfold Yg;rw [if_neg h]
theorem Te {x:Lk} (h:x.ends= -1):Yg x e=⟨x.route,x.O_,e,x.pieces⟩:=by unfold Yg;rw [if_pos h]
theorem Tc (ls:List Lk) (r:Int):jd ls r= -1∨(0≤jd ls r∧jd ls r<(ls.length:Int)):=oD _ aA _
theorem set_self {α:Type} (d:α) (l:List α) (k:Nat):l.set k (l.getD k d)=l:=by
 apply List.ext_getElem? ;intro i;rw [List.getElem?_set]
 split
 ·rename_i h;subst h
  split
  ·rename_i h2;rw [List.getD_eq_getElem?_getD,List.getElem?_eq_getElem h2];rfl
  ·rename_i h2;rw [List.getElem?_eq_none (by omega)]
 ·rfl
end
structure Tu where
 routes:List (List Int)
 parts:List (List Int)
 now:Int
 st:List Int
 ow:List Int
def Xc (t:Tu) (s p:Int) (left:Bool):Int:=if ((p==2)&&(t.st.getD s.toNat 0==0)&& !left)=true then 0 else p
def XP (t:Tu) (x:Lk) (s p1:Int):Int:=if p1=1∧((t.st.getD s.toNat 0==1)&&(t.ow.getD (dG t.parts s).toNat 0==x.O_))=true then 2 else p1
def yh (t:Tu) (x:Lk) (s p1:Int):Int:=if p1=1∧((t.st.getD s.toNat 0==0)&&(x.ends != -1)&&decide (x.ends≤t.now))=true then 0 else XP t x s p1
def mY (t:Tu) (x:Lk) (s p:Int) (left:Bool):Int:=yh t x s (Xc t s p left)
def oq (t:Tu) (x:Lk) (k:Nat):Int:=(t.routes.getD x.route.toNat []).getD (k+1) 0
def fM (t:Tu) (x:Lk):Nat→List Int×Bool
 |0=>(x.pieces,false)
 |k+1=>((fM t x k).1.set k (mY t x (oq t x k) ((fM t x k).1.getD k 0) (fM t x k).2),(fM t x k).2||(mY t x (oq t x k) ((fM t x k).1.getD k 0) (fM t x k).2 != 0))
def tuX (t:Tu) (x:Lk):Lk:={ x with pieces:=(fM t x x.pieces.length).1 }
def Y3 (t:Tu) (x:Lk):Bool:=(fM t x x.pieces.length).2
def j5 (t:Tu) (ls:List Lk):List Lk:=(ls.filter (Y3 t)).map (tuX t)
section
variable {t:Tu} {x:Lk} {ls:List Lk} {k:Nat}
theorem aaX:∀k,(fM t x k).1.length=x.pieces.length
 |0=>rfl
 |k+1=>by show ((fM t x k).1.set _ _).length=_;rw [List.length_set,aaX k]
theorem Qx {v:Int}:((fM t x k).1.set k v).length=x.pieces.length:=by rw [List.length_set,aaX]
theorem Qy {v:Int} (h:k<x.pieces.length):((fM t x k).1.set k v).getD k 0=v:=by
 rw [List.getD_eq_getElem?_getD,List.getElem?_set_self (by rw [aaX];exact h)];rfl
theorem dB {v w:Int}:((fM t x k).1.set k v).set k w=(fM t x k).1.set k w:=List.set_set ..
section
variable {s p p1:Int} {left:Bool}
theorem RL (h:((p==2)&&(t.st.getD s.toNat 0==0)&& !left)=true):Xc t s p left=0:=by unfold Xc;rw [if_pos h]
theorem RN (h:((p==2)&&(t.st.getD s.toNat 0==0)&& !left)=false):Xc t s p left=p:=by unfold Xc;rw [if_neg (by rw [h];exact Bool.false_ne_true)]
theorem QF (h1:(p1==1)=true) (h:(t.st.getD s.toNat 0==1)=true) (h2:(t.ow.getD (dG t.parts s).toNat 0==x.O_)=true):XP t x s p1=2:=by unfold XP;rw [if_pos ⟨by simpa using h1,by rw [h,h2];rfl⟩]
theorem QG (h:(t.st.getD s.toNat 0==1)=false):XP t x s p1=p1:=by unfold XP;rw [if_neg (fun h2=>by rw [h] at h2;exact Bool.false_ne_true h2.2)]
theorem QH (h:(t.ow.getD (dG t.parts s).toNat 0==x.O_)=false):XP t x s p1=p1:=by unfold XP;rw [if_neg (fun h2=>by rw [h,Bool.and_false] at h2;exact Bool.false_ne_true h2.2)]
theorem yt (h1:(p1==1)=true) (h:((t.st.getD s.toNat 0==0)&&(x.ends != -1)&&decide (x.ends≤t.now))=true):yh t x s p1=0:=by unfold yh;rw [if_pos ⟨by simpa using h1,h⟩]
theorem yu (h:((t.st.getD s.toNat 0==0)&&(x.ends != -1)&&decide (x.ends≤t.now))=false):yh t x s p1=XP t x s p1:=by unfold yh;rw [if_neg (fun h2=>by rw [h] at h2;exact Bool.false_ne_true h2.2)]
theorem yw (h1:(p1==1)=false):yh t x s p1=p1:=by
 have h2:¬p1=1:=by simpa using h1
 unfold yh XP;rw [if_neg (fun h=>h2 h.1),if_neg (fun h=>h2 h.1)]
theorem bR:mY t x s p left=yh t x s (Xc t s p left):=rfl
end
theorem S9 (hk:k<ls.length):j5 t (ls.take (k+1))=if Y3 t (ls.getD k aA) then j5 t (ls.take k)++[tuX t (ls.getD k aA)] else j5 t (ls.take k):=by
 unfold j5;rw [X1 aA hk,List.filter_append,List.map_append]
 cases h:Y3 t (ls.getD k aA) with
 |true=>rw [List.filter_cons_of_pos h,if_pos rfl];rfl
 |false=>rw [List.filter_cons_of_neg (by rw [h];exact Bool.false_ne_true),if_neg Bool.false_ne_true];simp
theorem Ti (t:Tu) (ls:List Lk):(j5 t ls).length≤ls.length:=by
 unfold j5;rw [List.length_map];exact List.length_filter_le _ _
end
section
variable {routes:List (List Int)} {ls:List Lk}
theorem Xs {r e:Int}:(iP routes ls r e).length=ls.length:=by unfold iP;split<;>simp
end
end Go.Lo
set_option linter.unusedVariables false
set_option linter.unusedSimpArgs false
namespace Go.Lo
theorem aev {j:Int} {i:Nat}:∀k,i<k→(i:Int)∈bA.partT j k∨∃x,x∈bA j k∧(i:Int)∈x
 |0,h=>by omega
 |k+1,h=>by
  cases hj:Yy j k with
  |true=>
   obtain ⟨h1,h2⟩:=PO hj;rw [h1,h2];rcases Nat.lt_or_ge i k with hi|hi
   ·rcases aev k hi with h3|h3
    ·exact .inl (List.mem_append_left _ h3)
    ·exact .inr h3
   ·have:i=k:=by omega
    subst this;exact .inl (List.mem_append_right _ List.mem_cons_self)
  |false=>
   obtain ⟨h1,h2⟩:=uf hj;rw [h1,h2];rcases Nat.lt_or_ge i k with hi|hi
   ·right
    unfold jC;rw [if_neg (by omega)];rcases aev k hi with h3|⟨x,h3,h4⟩
    ·exact ⟨_,List.mem_append_right _ List.mem_cons_self,h3⟩
    ·exact ⟨x,List.mem_append_left _ h3,h4⟩
   ·have:i=k:=by omega
    subst this;exact .inl List.mem_cons_self
theorem GA {form j:Int} {i:Nat} (h:i<(V6 form).length):0≤dG (V8 form j) (i:Int)∧dG (V8 form j) (i:Int)<((V8 form j).length:Int):=by
 have hr:=Fj (V8 form j) (i:Int)
 have:∃x,x∈V8 form j∧(i:Int)∈x:=by
  unfold V8 jC;rw [if_neg (by omega)];rcases aev (j:=j) _ h with h3|⟨x,h3,h4⟩
  ·exact ⟨_,List.mem_append_right _ List.mem_cons_self,h3⟩
  ·exact ⟨x,List.mem_append_left _ h3,h4⟩
 obtain ⟨x,h1,h2⟩:=this;have hany:(V8 form j).any (fun l=>decide ((i:Int)∈l))=true:=List.any_eq_true.2 ⟨x,h1,by simpa using h2⟩;have hd:=jW (f:=fun l:List Int=>decide ((i:Int)∈l)) [] (V8 form j);rw [hany] at hd;have:dG (V8 form j) (i:Int)≥0:=of_decide_eq_true hd;omega
theorem aep {j:Int} {x:List Int}:∀k,x∈bA j k→x.length≤k
 |0,h=>by cases h
 |k+1,h=>by
  unfold bA at h
  split at h
  ·exact Nat.le_succ_of_le (aep k h)
  ·split at h
   ·cases h
   ·rcases List.mem_append.1 h with h|h
    ·exact Nat.le_succ_of_le (aep k h)
    ·rw [List.mem_singleton.1 h];exact Nat.le_succ_of_le (aeC j k)
theorem E5 (form j:Int):1≤(V8 form j).length∧(V8 form j).length≤8∧∀x,x∈V8 form j→x.length≤65536:=by
 have hel:=ni form;have h1:=FU j (V6 form).length;refine ⟨?_,by unfold V8;omega,fun x hx=>?_⟩
 ·unfold V8 jC;rw [if_neg (by omega)];simp
 ·unfold V8 jC at hx;rw [if_neg (by omega)] at hx;rcases List.mem_append.1 hx with hx|hx
  ·have:=aep _ hx;omega
  ·rw [List.mem_singleton.1 hx];have:=aeC j (V6 form).length;omega
structure rQ (secs:List aD) (parts:List (List Int)) (pts:List aP) (routes:List (List Int)):Prop where
 h1:1≤secs.length
 hs:secs.length≤8
 hp:pts.length≤2
 hpa:parts.length≤8
 hpl:∀y,y∈parts→y.length≤65536
 hro:routes.length≤16
 hrl:∀x,x∈routes→2≤x.length∧x.length≤65536
 hrs:∀x,x∈routes→∀s,s∈x→0≤s∧s<(secs.length:Int)
 hpo:∀s:Int,0≤s→s<(secs.length:Int)→0≤dG parts s∧dG parts s<(parts.length:Int)
section
variable {secs:List aD} {pts:List aP} {turns:List Int} {s e most:Int}
theorem aeZ (h1:1≤secs.length) (hs:0≤s∧s<(secs.length:Int)):∀i y,y∈(aW secs pts turns s e i).out→0≤y∧y<(secs.length:Int)
 |0,y,h=>by rw [List.mem_singleton.1 h];exact hs
 |i+1,y,h=>by
  rcases List.mem_append.1 h with h|h
  ·exact aeZ h1 hs i y h
  ·rw [List.mem_singleton.1 h];unfold jD;rcases Nat.eq_zero_or_pos (Vn secs pts (aW secs pts turns s e i).s (aW secs pts turns s e i).e).length with h0|h0
   ·rw [List.eq_nil_of_length_eq_zero h0];show 0≤(0:Int)∧(0:Int)<_;omega
   ·exact FR (VR dE (uS h0))
theorem Ac (h1:1≤secs.length) (hs:0≤s∧s<(secs.length:Int)):∀f i y,y∈X3 secs pts turns s e most f i→0≤y∧y<(secs.length:Int)
 |0,i,y,h=>aeZ h1 hs i y h
 |f+1,i,y,h=>by
  unfold X3 at h
  split at h
  ·exact aeZ h1 hs i y h
  ·exact Ac h1 hs f (i+1) y h
theorem qR (h1:1≤secs.length) {rs:List (List Int)}:∀k x,x∈dh secs pts rs k→(2≤x.length∧x.length≤65536)∧∀y,y∈x→0≤y∧y<(secs.length:Int)
 |0,x,h=>by cases h
 |k+1,x,h=>by
  unfold dh at h
  split at h
  ·exact qR h1 k x h
  ·rename_i hc;rcases List.mem_append.1 h with h|h
   ·exact qR h1 k x h
   ·rw [List.mem_singleton.1 h];have hw:=agi secs pts ((rs.getD k []).getD 0 0 % (secs.length:Int)) ((rs.getD k []).getD 0 0 / 128) ((rs.getD k []).drop 2) (2+(rs.getD k []).getD 1 0 % 5);have hm:=Int.emod_nonneg ((rs.getD k []).getD 1 0) (show (5:Int)≠0 by decide);have hm2:=Int.emod_lt_of_pos ((rs.getD k []).getD 1 0) (show (0:Int)<5 by decide);refine ⟨⟨by omega,?_⟩,fun y hy=>Ac h1 ⟨Int.emod_nonneg _ (by omega),Int.emod_lt_of_pos _ (by omega)⟩ _ _ y hy⟩;have:(aax secs pts (rs.getD k [])).length≤(2+(rs.getD k []).getD 1 0 % 5).toNat+1:=hw;omega
end
theorem ake (form len jn:Int) (rs:List (List Int)):rQ (VI form len) (V8 form jn) (bE form) (aas form len rs):=by
 have hel:=ni form;have hsl:=qO form len;obtain ⟨hp1,hp2,hp3⟩:=E5 form jn;refine ⟨by omega,by omega,qV form,hp2,hp3,(yY _ _ _ _).2,fun x hx=>(qR (by omega) _ x hx).1,fun x hx=>(qR (by omega) _ x hx).2,fun s h0 h1=>?_⟩;obtain ⟨k,rfl⟩:=Int.eq_ofNat_of_zero_le h0;exact GA (by omega)
structure OX where
 secs:List aD
 parts:List (List Int)
 pts:List aP
 routes:List (List Int)
 cn:Int
end Go.Lo
set_option linter.unusedVariables false
set_option linter.unusedSimpArgs false
namespace Go.Lo
section
variable {secs:List aD} {parts:List (List Int)} {pts:List aP} {routes:List (List Int)} {x:Act} {n k m:Nat}
theorem JR {l:List Act} (h:ZR l=true):l.length≤50∧∀y,y∈l→y.Ve.length≤20∧y.ow.length≤20∧y.rt.length≤8∧y.sp.length≤6:=by
 unfold ZR at h;simp only [Bool.and_eq_true,Bool.not_eq_true',decide_eq_true_eq] at h;refine ⟨by omega,fun y hy=>?_⟩
 have h2:nT y=false:=by
  cases hb:nT y with
  |false=>rfl
  |true=>have:=List.any_eq_true.2 ⟨y,hy,hb⟩;rw [h.1] at this;cases this
 unfold nT at h2;simp only [Bool.or_eq_false_iff,decide_eq_false_iff_not] at h2;omega
end
end Go.Lo
set_option linter.unusedVariables false
set_option linter.unusedSimpArgs false
namespace Go.Lo
def XX (path:List Int):List Int→Nat→List Int
 | [],_=>[]
 |b::l,k=>if b=0 then XX path l (k+1) else path.getD (k+1) 0::XX path l (k+1)
theorem nk (path:List Int) (b:Int) (l:List Int) (k:Nat):XX path (b::l) k=if b=0 then XX path l (k+1) else path.getD (k+1) 0::XX path l (k+1):=rfl
def core (x:Lk):Int×List Int:=(x.route,x.pieces)
def Hold (routes:List (List Int)) (c:Int×List Int) (k:Nat) (s:Int):Prop:=k<c.2.length∧¬c.2.getD k 0=0∧(routes.getD c.1.toNat []).getD (k+1) 0=s
structure Ap (routes:List (List Int)) (ls:List Lk):Prop where
 one:∀c,c∈ls.map core→∀k q s,Hold routes c k s→Hold routes c q s→k=q
 two:(ls.map core).Pairwise fun c e=>∀k q s,Hold routes c k s→Hold routes e q s→False
section
variable {routes:List (List Int)} {ls:List Lk} {path:List Int}
theorem uZ:∀(l:List Int) (k:Nat) (y:Int),y∈XX path l k↔∃j,j<l.length∧¬l.getD j 0=0∧path.getD (k+j+1) 0=y
 | [],k,y=>by simp [XX]
 |b::l,k,y=>by
  have ih:=uZ l (k+1) y
  have key:(∃j,j<(b::l).length∧¬(b::l).getD j 0=0∧path.getD (k+j+1) 0=y)↔((¬b=0∧path.getD (k+1) 0=y)∨∃j,j<l.length∧¬l.getD j 0=0∧path.getD (k+1+j+1) 0=y):=by
   constructor
   ·rintro ⟨j,h1,h2,h3⟩
    cases j with
    |zero=>exact .inl ⟨by simpa using h2,by simpa using h3⟩
    |succ j=>exact .inr ⟨j,by simpa using h1,by simpa using h2,by rw [←h3];congr 1;omega⟩
   ·rintro (⟨h2,h3⟩|⟨j,h1,h2,h3⟩)
    ·exact ⟨0,by simp,by simpa using h2,by simpa using h3⟩
    ·exact ⟨j+1,by simpa using h1,by simpa using h2,by rw [←h3];congr 1;omega⟩
  rw [key, ←ih,nk]
  split
  ·rename_i hb;simp [hb]
  ·rename_i hb;simp [hb,eq_comm]
theorem agq {x:Lk} {y:Int}:y∈XX (routes.getD x.route.toNat []) x.pieces 0↔∃k,Hold routes (core x) k y:=by
 rw [uZ];unfold Hold core;simp
theorem zC:∀(l:List Int) (k:Nat),(∀i j,i<l.length→j<l.length→¬l.getD i 0=0→¬l.getD j 0=0→path.getD (k+i+1) 0=path.getD (k+j+1) 0→i=j)→(XX path l k).Nodup
 | [],k,h=>by simp [XX]
 |b::l,k,h=>by
  have ih:=zC l (k+1) (fun i j hi hj h1 h2 h3=>by
   have:=h (i+1) (j+1) (by simpa using hi) (by simpa using hj) (by simpa using h1) (by simpa using h2) (by rw [show k+(i+1)+1=k+1+i+1 by omega,show k+(j+1)+1=k+1+j+1 by omega];exact h3);omega)
  rw [nk]
  split
  ·exact ih
  ·rename_i hb;refine List.nodup_cons.2 ⟨fun hm=>?_,ih⟩;obtain ⟨j,h1,h2,h3⟩:=(uZ _ _ _).1 hm;have:=h 0 (j+1) (by simp) (by simpa using h1) (by simpa using hb) (by simpa using h2) (by rw [show k+(j+1)+1=k+1+j+1 by omega,h3]);omega
theorem JW:Ap routes []:=⟨fun c h=>(by cases h),List.Pairwise.nil⟩
theorem z_ {r e:Int}:(iP routes ls r e).map core=ls.map core:=by
 unfold iP
 split
 ·rw [List.map_set]
  have:core (Yg (ls.getD (jd ls r).toNat aA) e)=(ls.map core).getD (jd ls r).toNat (core aA):=by
   unfold Yg core
   split<;>(simp only [List.getD_eq_getElem?_getD,List.getElem?_map];cases ls[(jd ls r).toNat]? <;>rfl)
  rw [this,set_self]
 ·rfl
theorem JX {r e:Int} (h:Ap routes ls):Ap routes (iP routes ls r e):=⟨by rw [z_];exact h.one,by rw [z_];exact h.two⟩
theorem JY {t:Tu} {x:Lk} {s p:Int} {left:Bool} (h:¬mY t x s p left=0):¬p=0:=by
 intro hp;subst hp;unfold mY at h;have h1:Xc t s 0 left=0:=by unfold Xc;simp
 rw [h1] at h;unfold yh XP at h;simp at h
theorem vo {t:Tu} {x:Lk}:∀(n j:Nat),¬(fM t x n).1.getD j 0=0→¬x.pieces.getD j 0=0
 |0,j,h=>h
 |n+1,j,h=>by
  have h2:¬((fM t x n).1.set n (mY t x (oq t x n) ((fM t x n).1.getD n 0) (fM t x n).2)).getD j 0=0:=h;rcases Nat.decEq n j with hn|hn
  ·rw [List.getD_eq_getElem?_getD,List.getElem?_set_ne hn, ←List.getD_eq_getElem?_getD] at h2;exact vo n j h2
  ·subst hn;rcases Nat.lt_or_ge n (fM t x n).1.length with hl|hl
   ·rw [List.getD_eq_getElem?_getD,List.getElem?_set_self hl] at h2;exact vo n n (JY h2)
   ·rw [List.getD_eq_getElem?_getD,List.getElem?_eq_none (by rw [List.length_set];exact hl)] at h2;exact absurd rfl h2
theorem q8 {t:Tu} {x:Lk} {k:Nat} {s:Int} (h:Hold routes (core (tuX t x)) k s):Hold routes (core x) k s:=by
 obtain ⟨h1,h2,h3⟩:=h;exact ⟨by have:(fM t x x.pieces.length).1.length=x.pieces.length:=aaX _;have h4:k<(fM t x x.pieces.length).1.length:=h1;show k<x.pieces.length;omega,vo _ _ h2,h3⟩
theorem aki {t:Tu} (h:Ap routes ls):Ap routes (j5 t ls):=by
 constructor
 ·intro c hc k q s hk hq;obtain ⟨y,hy,rfl⟩:=List.mem_map.1 hc;obtain ⟨x,hx,rfl⟩:=List.mem_map.1 hy;exact h.one (core x) (List.mem_map.2 ⟨x,(List.mem_filter.1 hx).1,rfl⟩) k q s (q8 hk) (q8 hq)
 ·unfold j5;rw [List.pairwise_map,List.pairwise_map];exact ((List.pairwise_map.1 h.two).filter _).imp (fun {a b} hab k q s hk hq=>hab k q s (q8 hk) (q8 hq))
theorem FM {x:Lk} {k:Nat} {s:Int} (hR:∀y,y∈ls→ZQ routes y) (hx:x∈ls) (h:Hold routes (core x) k s):0≤jZ routes ls s:=by
 have hp:jk routes s x=true:=Hz h.1 (by unfold pcB;rw [decide_eq_true (show (routes.getD x.route.toNat []).getD (k+1) 0=s from h.2.2),decide_eq_true (show ¬x.pieces.getD k 0=0 from h.2.1)];rfl);have hany:ls.any (jk routes s)=true:=List.any_eq_true.2 ⟨x,hx,hp⟩;have hd:=jW (f:=jk routes s) aA ls;rw [hany] at hd;have h0:bX (jk routes s) ls≥0:=of_decide_eq_true hd;rcases oD (jk routes s) aA ls with h1|h1
 ·omega
 ·unfold jZ;rw [if_neg (by omega)];exact (hR _ (VR aA (by omega))).r.1
theorem FN {l:List Int} (h:l.Nodup) {i j:Nat} (hi:i<l.length) (hj:j<l.length) (he:l.getD i 0=l.getD j 0):i=j:=by
 rw [List.getD_eq_getElem?_getD,List.getD_eq_getElem?_getD,List.getElem?_eq_getElem hi,List.getElem?_eq_getElem hj] at he;have h2:=List.pairwise_iff_getElem.1 h;rcases Nat.lt_trichotomy i j with h3|h3|h3
 ·exact absurd he (h2 i j hi hj h3)
 ·exact h3
 ·exact absurd he.symm (h2 j i hj hi h3)
theorem JZ {secs:List aD} {pts:List aP} {r tr:Int} {states:List Int} {views:List View} {right:List Bool} (hnd:∀x,x∈routes→x.Nodup) (hR:∀y,y∈ls→ZQ routes y) (h:Ap routes ls):Ap routes (kV secs pts routes ls r tr states views right):=by
 unfold kV
 split
 ·rename_i he
  have hr:0≤r∧r<(routes.length:Int)∧vR routes ls states (routes.getD r.toNat []) ((routes.getD r.toNat []).length-1)=false:=by
   unfold Wa at he
   split at he
   ·cases he
   ·split at he
    ·cases he
    ·split at he
     ·cases he
     ·rename_i hb;exact ⟨by omega,by omega,Bool.eq_false_iff.2 hb⟩
  have hno:∀k s,Hold routes (core ⟨r,tr, -1,List.replicate ((routes.getD r.toNat []).length-1) 1⟩) k s→k<(routes.getD r.toNat []).length-1∧jZ routes ls s<0:=by
   rintro k s ⟨h1,h2,h3⟩;have hk:k<(routes.getD r.toNat []).length-1:=by have h4:k<(List.replicate ((routes.getD r.toNat []).length-1) (1:Int)).length:=h1;rw [List.length_replicate] at h4;exact h4
   refine ⟨hk,?_⟩;have hb:=hr.2.2;unfold vR at hb
   have h5:rR routes ls states (routes.getD r.toNat []) k=false:=by
    cases hq:rR routes ls states (routes.getD r.toNat []) k with
    |false=>rfl
    |true=>rw [List.any_eq_true.2 ⟨k,List.mem_range.2 hk,hq⟩] at hb;cases hb
   unfold rR at h5;simp only [Bool.or_eq_false_iff,decide_eq_false_iff_not] at h5;have h6:(routes.getD r.toNat []).getD (k+1) 0=s:=h3;rw [h6] at h5;omega
  constructor
  ·intro c hc k q s hk hq;rw [List.map_append] at hc;rcases List.mem_append.1 hc with hc|hc
   ·exact h.one c hc k q s hk hq
   ·obtain rfl:=List.mem_singleton.1 hc;have h1:=(hno k s hk).1;have h2:=(hno q s hq).1;have:=FN (hnd _ (VR (l:=routes) (k:=r.toNat) [] (by omega))) (i:=k+1) (j:=q+1) (by omega) (by omega) (hk.2.2.trans hq.2.2.symm);omega
  ·rw [List.map_append,List.pairwise_append];refine ⟨h.two,List.pairwise_singleton _ _,fun a ha b hb k q s hk hq=>?_⟩;obtain ⟨x,hx,rfl⟩:=List.mem_map.1 ha;obtain rfl:=List.mem_singleton.1 hb;have h1:=FM hR hx hk;have h2:=(hno q s hq).2;omega
 ·exact h
end
section
variable {secs:List aD} {pts:List aP} {turns:List Int} {s e most:Int}
theorem Gx {i:Nat} (h:(aW secs pts turns s e i).out.Nodup) (hs:wstop secs pts turns s e most i=false):(aW secs pts turns s e (i+1)).out.Nodup:=by
 unfold wstop at hs;simp only [Bool.or_eq_false_iff,decide_eq_false_iff_not] at hs;refine List.nodup_append.2 ⟨h,List.pairwise_singleton _ _,fun a ha b hb hab=>?_⟩;rw [List.mem_singleton.1 hb] at hab;subst hab;exact hs.2 ha
theorem yZ:∀f i,(aW secs pts turns s e i).out.Nodup→(X3 secs pts turns s e most f i).Nodup
 |0,i,h=>h
 |f+1,i,h=>by
  unfold X3
  split
  ·exact h
  ·rename_i hc;exact yZ f (i+1) (Gx h (Bool.eq_false_iff.2 hc))
theorem aeo {rs:List (List Int)}:∀k x,x∈dh secs pts rs k→x.Nodup
 |0,x,h=>by cases h
 |k+1,x,h=>by
  unfold dh at h
  split at h
  ·exact aeo k x h
  ·rcases List.mem_append.1 h with h|h
   ·exact aeo k x h
   ·rw [List.mem_singleton.1 h];exact yZ _ _ (List.pairwise_singleton _ _)
end
theorem FJ (form len:Int) (rs:List (List Int)):∀x,x∈aas form len rs→x.Nodup:=aeo _
def Pl (routes:List (List Int)) (ls:List Lk):Prop:=∀c,c∈ls.map core→c.2.length+1=(routes.getD c.1.toNat []).length
end Go.Lo
