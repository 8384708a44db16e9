/- Part of the logic of values: what the law reaches. -/
import Derived.Test.YtdeajfldegcdaaaGreatPFnApm4
set_option linter.unusedVariables false
set_option linter.unusedSimpArgs false
namespace Go.Lo
def aH.map (σ:Nat→Nat):aH→aH
 | .live o=>.live (o.map σ)
 | .dead=>.dead
 | .free=>.free
def WM:Nat→List aH→(Nat→aH)→(Nat→aH)
 |_,[],f=>f
 |k,o::r,f=>WM (k+1) r (U4 f k o)
theorem abJ:∀(os:List aH) (k:Nat) (f:Nat→aH) (i:Nat),WM k os f i=if k≤i∧i<k+os.length then (os[i-k]?).getD .free else f i:=by
 intro os
 induction os with
 |nil=>intro k f i;simp [WM];omega
 |cons o r ih=>
  intro k f i;simp only [WM,ih,List.length_cons];by_cases h:i=k
  ·subst h;rw [if_neg (by omega),V9,if_pos (by omega)];simp
  ·rw [VX _ _ h];by_cases h1:k+1≤i∧i<k+1+r.length
   ·rw [if_pos h1,if_pos (by omega),show i-k=(i-(k+1))+1 by omega,List.getElem?_cons_succ]
   ·rw [if_neg h1,if_neg (by omega)]
theorem Ag {os:List aH} {i:Nat} {o:aC} (h:WM 0 os U5 i=.live o):os[i]? =some (.live o):=by
 rw [abJ] at h
 split at h
 ·rename_i hi;rw [Nat.sub_zero] at h;rw [List.getElem?_eq_getElem (by omega)] at h ⊢;simpa using h
 ·cases h
theorem Yw {os:List aH} {i:Nat} {x:aH} (h:os[i]? =some x):WM 0 os U5 i=x:=by
 have:=(List.getElem?_eq_some_iff.1 h).1;rw [abJ,if_pos (by omega),Nat.sub_zero,h];rfl
def ig (σ:Nat→Nat):List Nat→List aH→(Nat→aH)→(Nat→aH)
 |n::ns,o::os,f=>ig σ ns os (U4 f n (o.map σ))
 |_,_,f=>f
theorem aa3 {ns:List Nat} (hn:ns.Nodup) {i x:Nat} (h:ns[i]? =some x):ix ns x=i:=by
 have hm:=List.mem_of_getElem? h;have h2:=aa2 hm;obtain ⟨l1,m1⟩:=List.getElem?_eq_some_iff.1 h;obtain ⟨l2,m2⟩:=List.getElem?_eq_some_iff.1 h2;exact ((List.getElem_inj (h₀:=l1) (h₁:=l2) hn).1 (m1.trans m2.symm)).symm
theorem Pv (σ:Nat→Nat):∀(ns:List Nat) (os:List aH) (f:Nat→aH) (id:Nat),ns.Nodup→os.length=ns.length→ig σ ns os f id=if id∈ns then ((os[ix ns id]?).map (aH.map σ)).getD .free else f id:=by
 intro ns
 induction ns with
 |nil=>intro os f id _ _;simp [ig]
 |cons n ns ih=>
  intro os f id hn hl
  match os,hl with
  |o::os,hl=>
   simp only [ig];rw [ih os _ id (List.nodup_cons.1 hn).2 (by simpa using hl)];by_cases he:id=n
   ·subst he;rw [if_neg (List.nodup_cons.1 hn).1,V9];simp [ix]
   ·have hb:Nat.beq id n=false:=by
     cases hb:Nat.beq id n with
     |false=>rfl
     |true=>exact absurd (Nat.eq_of_beq_eq_true hb) he
    rw [VX _ _ he];simp [he,ix,hb]
def XI:List Nat→(Nat→aH)→(Nat→aH)
 | [],f=>f
 |g::gs,f=>XI gs (U4 f g .dead)
theorem qZ:∀(gs:List Nat) (f:Nat→aH) (id:Nat),XI gs f id=if id∈gs then .dead else f id:=by
 intro gs
 induction gs with
 |nil=>intro f id;simp [XI]
 |cons g gs ih=>
  intro f id;simp only [XI,ih];by_cases he:id=g
  ·subst he;simp [V9]
  ·rw [VX _ _ he];simp [he]
def nm (ns:List Nat) (i:Nat):Nat:=ns.getD i 0
def AU (w:World) (G X:Nat→Prop) (m:Nat) (C:Ctx) (post:AV→List aH→Prop) (e:Ending) (w':World):Prop:=
 ∃v C' res os,e=.returned v∧m≤os.length∧post res os∧Fr G w w'∧R w' C' res v∧kY w' C' (WM 0 os U5)∧(∀i,i<m→C'.dom i∧C'.blk i=C.blk i∧C'.sz i=C.sz i∧C'.bC i=C.bC i)∧
  (∀i o b,WM 0 os U5 i=.live o→C'.blk i=some b→w.heap.size≤b∨G b)∧(∀b,X b→C'.own b)∧(∀b,b<w.heap.size→C'.own b→X b∨G b)
def PS (P:Program) (f:FuncId) (dx:List aC) (args:List AV) (post:AV→List aH→Prop):Prop:=
 ∀(w:World) (C:Ctx) (vs:Array Value),vs.size=args.length→kY w C (WM 0 (dx.map .live) U5)→Laid w C.own→(∀j av,args[j]? =some av→R w C av (vs.getD j undef))→
  Calls P f vs w (AU w (fun b=>∃i,i<dx.length∧C.blk i=some b) C.own dx.length C post)
def iq (P:Program) (f:FuncId) (dx:List aC) (args:List AV) (res:AV) (os:List aH):Prop:=PS P f dx args (fun r o=>r=res∧o=os)
def ady (ts:List Nat) (m:Nat) (post:AV→List aH→Prop) (N:Nat) (s:St):Prop:=
 ∃os,(ts.all fun t=>Nat.blt t N)=true∧m≤os.length∧post (Yh (ts.map s.env)) os∧s.ob=WM 0 os U5
def vP (ts:List Nat) (m:Nat) (post:AV→List aH→Prop) (N:Nat) (e:Exit) (s:St):Prop:=
 match e with
 | .normal| .ret=>ady ts m post N s
 |_=>False
theorem kD {P:Program} {f:FuncId} {fn:Func} {c:Code} {N:Nat} {ts:List Nat} {dx:List aC} {args:List AV} {post:AV→List aH→Prop} (m:Nat) (hm:dx.length=m) (hf:P.funcs[f]? =some fn) (hb:fn.body=some c) (hN:fn.ntmps=N) (hres:abM P fn ts) (hargs:args.length≤N)
  (h:∀w0 G C hL jQ,VD P ⟨w0,G,C.own,N,m,C,hL,jQ⟩ c ⟨jf args,WM 0 (dx.map .live) U5⟩ (vP ts m post N)):PS P f dx args post:=by
 subst hm;intro w C vs hsz eZ hL hrel;refine calls_of_wp hf hb ?_;have jQ:vV (fun b=>∃i,i<dx.length∧C.blk i=some b):=fun q hq ⟨i,hi,hb⟩=>(hL q hq).2.1 (eZ.live i dx[i] q.1 (Yw (by simp [hi])) hb).1
 have hs:SR ⟨w,fun b=>∃i,i<dx.length∧C.blk i=some b,C.own,N,dx.length,C,hL,jQ⟩ C ⟨jf args,WM 0 (dx.map .live) U5⟩ { tmps:=vs++Array.replicate (fn.ntmps-vs.size) undef,defers:=[] } w:=by
  refine ⟨by simp;omega,rfl,fun t ht=>?_,eZ,Fr.refl _ _,(fun id o b h hb=>?_),fun b h=>h,fun b _ h=>.inl h,fun i hi=>?_,eZ.bnd⟩
  ·show R w C (jf args t) _;rw [aeG];by_cases l8:t<args.length
   ·rw [List.getElem?_eq_getElem l8];have:=hrel t _ (List.getElem?_eq_getElem l8)
    have e:(vs++Array.replicate (fn.ntmps-vs.size) undef).getD t undef=vs.getD t undef:=by
     simp [Array.getElem?_append_left,show t<vs.size by omega]
    rw [e];exact this
   ·rw [List.getElem?_eq_none (by omega)];exact .any _
  ·have:=Ag h;rw [List.getElem?_map,Option.map_eq_some_iff] at this;obtain ⟨o',h1,_⟩:=this;exact .inr ⟨id,(List.getElem?_eq_some_iff.1 h1).1,hb⟩
  ·have hi':i<dx.length:=hi;have:WM 0 (dx.map .live) U5 i=.live dx[i]:=Yw (by simp [hi']);exact ⟨(eZ.nil i _ this).1,rfl,rfl,rfl⟩
 refine wp_mono (h w _ C hL jQ _ w ⟨_,hs⟩) ?_;rintro e a' w' ⟨s,⟨C',hs'⟩,hq⟩
 have key:ady ts dx.length post N s→bodyPost P fn (AU w (fun b=>∃i,i<dx.length∧C.blk i=some b) C.own dx.length C post) .ret a' w':=by
  rintro ⟨os,htN,hml,hpost,au⟩;refine ⟨hs'.defers,_,hres a'.tmps w',?_⟩
  have hR:R w' C' (Yh (ts.map s.env)) (mkV (ts.map fun t=>a'.tmps.getD t undef)):=ag0 (by simp) (fun j av hj=>by
   rw [List.getElem?_map,Option.map_eq_some_iff] at hj;obtain ⟨t,hj,rfl⟩:=hj;have ht:=List.all_eq_true.1 htN t (List.mem_of_getElem? hj);have:=hs'.env t (aS ht);simpa [hj] using this)
  refine ⟨_,C',_,os,rfl,hml,hpost,hs'.fr,hR,by rw [←au];exact hs'.obj,hs'.init,fun i o b h hb=>?_,hs'.keep,fun b hb ho=>hs'.WE b hb ho⟩;exact hs'.fresh i o b (by rw [au];exact h) hb
 cases e with
 |normal=>exact key hq
 |ret=>exact key hq
 |_=>exact hq.elim
theorem SR.kill {E:VC} {C:Ctx} {st:St} {a:Act} {w:World} (h:SR E C st a w) (gs:List Nat):SR E C ⟨st.env,XI gs st.ob⟩ a w:=by
 have hlive:∀id o,XI gs st.ob id=.live o→st.ob id=.live o:=fun id o ho=>by
  rw [qZ] at ho
  split at ho
  ·cases ho
  ·exact ho
 refine ⟨h.size,h.defers,h.env,⟨fun id o ho=>h.obj.nil id o (hlive id o ho),fun id o b ho hb=>h.obj.live id o b (hlive id o ho) hb,
  fun id id' o o' b h1 h2 h3 h4=>h.obj.inj id id' o o' b (hlive _ _ h1) (hlive _ _ h2) h3 h4,fun id hd=>?_,h.obj.bnd⟩,h.fr,fun id o b ho hb=>h.fresh id o b (hlive id o ho) hb,h.keep,h.WE,h.init,h.X4⟩
 show XI gs st.ob id≠_;rw [qZ]
 split
 ·intro h;cases h
 ·exact h.obj.dom id hd
def pW (ob:Nat→aH) (gs:List Nat) (lend:Bool) (a b:AV):Prop:=(Ok (· ∈gs) True a∧a.map (ix gs)=b)∨(lend=true∧VN ob a b∧iw b)
def mq (ob:Nat→aH) (gs:List Nat) (lend:Bool):List AV→List AV→Prop
 | [],[]=>True
 |a::as,b::bs=>pW ob gs lend a b∧mq ob gs lend as bs
 |_,_=>False
theorem aeH {ob:Nat→aH} {gs:List Nat} {lend:Bool}:∀{as bs:List AV},mq ob gs lend as bs→bs.length=as.length
 | [],[],_=>rfl
 |a::as,b::bs,h=>by simp [aeH h.2]
 | [],_::_,h=>h.elim
 |_::_,[],h=>h.elim
theorem zL {ob:Nat→aH} {gs:List Nat} {lend:Bool}:∀{as bs:List AV},mq ob gs lend as bs→∀(j:Nat) (a b:AV),as[j]? =some a→bs[j]? =some b→pW ob gs lend a b
 | [],[],_,j,a,b,h1,_=>by simp at h1
 |a::as,b::bs,h,0,x,y,h1,h2=>by simp at h1 h2;subst h1;subst h2;exact h.1
 |a::as,b::bs,h,j+1,x,y,h1,h2=>zL h.2 j x y (by simpa using h1) (by simpa using h2)
 | [],_::_,h,_,_,_,_,_=>h.elim
 |_::_,[],h,_,_,_,_,_=>h.elim
section
variable {P:Program} {E:VC} {st:St} {K:St→Prop}
def eu (C C':Ctx) (ns new:List Nat):Ctx where
 blk:=fun id=>if id∈ns then C'.blk (ix ns id) else C.blk id
 sz:=fun id=>if id∈ns then C'.sz (ix ns id) else C.sz id
 bC:=fun id=>if id∈ns then C'.bC (ix ns id) else C.bC id
 dom:=fun id=>C.dom id∨(id∈new∧C'.dom (ix ns id))
 own:=fun b=>C.own b∨C'.own b
theorem SR.Ls {C C':Ctx} {a:Act} {w w':World} (hs:SR E C st a w) {G X:Nat→Prop} {gs new:List Nat} {res:AV} {os:List aH} {v:Value}
  (hnd:(gs++new).Nodup) (hlen:os.length=(gs++new).length) (ER:∀b,X b→C.own b) (hGg:∀b,G b→∃id,id∈gs∧C.blk id=some b) (hgl:∀id,id∈gs→∃o,st.ob id=.live o)
  (hfr:Fr G w w') (hR:R w' C' res v) (eZ:kY w' C' (WM 0 os U5)) (hkp:∀i id,gs[i]? =some id→C'.dom i∧C'.blk i=C.blk id∧C'.sz i=C.sz id∧C'.bC i=C.bC id)
  (hnew:∀i o b,WM 0 os U5 i=.live o→C'.blk i=some b→w.heap.size≤b∨G b) (hkeep:∀b,X b→C'.own b) (hold:∀b,b<w.heap.size→C'.own b→X b∨G b) (hfree:∀id,id∈new→st.ob id=.free)
  (hro:(∀b,C.own b→X b)∨(Ok (fun _=>True) False res∧∀(i:Nat) (o:aC),os[i]? =some (.live o)→∀c,c∈o.cells→Ok (fun _=>True) False c))
  (dst:Option Nat) (hd:∀d,dst=some d→d<E.N):
  SR E (eu C C' (gs++new) new) (St.put ⟨st.env,ig (nm (gs++new)) (gs++new) os st.ob⟩ dst (res.map (nm (gs++new)))) (a.put dst v) w':=by
 have nM:∀b,G b→∃id o,id∈gs∧st.ob id=.live o∧C.blk id=some b∧C.own b:=fun b hb=>by
  obtain ⟨id,h1,h2⟩:=hGg b hb;obtain ⟨o,h3⟩:=hgl id h1;exact ⟨id,o,h1,h3,h2,(hs.obj.live id o b h3 h2).1⟩
 have agC:∀id,C.dom id→id∉new:=fun id hid hin=>hs.obj.dom id hid (hfree id hin)
 have ag2:∀id,id∈gs→∃i,gs[i]? =some id∧ix (gs++new) id=i:=fun id hid=>by
  obtain ⟨i,hi⟩:=List.mem_iff_getElem?.1 hid;exact ⟨i,hi,aa3 hnd (by rw [List.getElem?_append_left (List.getElem?_eq_some_iff.1 hi).1];exact hi)⟩
 have hext:Ext w C w' (eu C C' (gs++new) new):=by
  refine ⟨fun id hid=>?_,fun b hb ho h=>?_,fun b hb ho=>hfr.block b hb (fun h=>?_)⟩
  ·by_cases hin:id∈gs++new
   ·have hg:id∈gs:=by
     rcases List.mem_append.1 hin with h|h
     ·exact h
     ·exact absurd h (agC id hid)
    obtain ⟨i,h1,h2⟩:=ag2 id hg;obtain ⟨k1,k2,k3,k4⟩:=hkp i id h1;simp only [eu,if_pos hin,h2];exact ⟨.inl hid,k2,k3,k4⟩
   ·exact ⟨.inl hid,if_neg hin,if_neg hin,if_neg hin⟩
  ·rcases h with h|h
   ·exact ho h
   ·rcases hold b hb h with h|h
    ·exact ho (ER b h)
    ·obtain ⟨_,_,_,_,_,h⟩:=nM b h;exact ho h
  ·obtain ⟨_,_,_,_,_,h⟩:=nM b h;exact ho h
 obtain ⟨ro,acH,hown⟩:∃ro:Prop,(Ok (fun _=>True) ro res∧∀(i:Nat) (o:aC),os[i]? =some (.live o)→∀c,c∈o.cells→Ok (fun _=>True) ro c)∧(ro→∀b,¬C'.own b→¬(eu C C' (gs++new) new).own b):=by
  rcases hro with h|h
  ·refine ⟨True,⟨adu hR trivial,fun i o ho c hc=>?_⟩,fun _ b hb h2=>?_⟩
   ·have hl:=Yw ho;obtain ⟨j,hj⟩:=List.mem_iff_getElem?.1 hc
    cases hb:C'.blk i with
    |none=>
     have:=(eZ.nil i o hl).2.2 hb;rw [this] at hc;cases hc
    |some b=>
     obtain ⟨_,cur,_,_,_,h5⟩:=eZ.live i o b hl hb;obtain ⟨u,_,_,hr⟩:=h5 j c hj;exact adu hr trivial
   ·rcases h2 with h2|h2
    ·exact hb (hkeep b (h b h2))
    ·exact hb h2
  ·exact ⟨False,h,fun h=>h.elim⟩
 have hdom:∀i,C'.dom i→i<(gs++new).length:=fun i hi=>by
  rcases Nat.lt_or_ge i (gs++new).length with h|h
  ·exact h
  ·have:=eZ.dom i hi;rw [abJ,if_neg (by omega)] at this;exact absurd rfl this
 have hid:∀i,True→C'.dom i→(eu C C' (gs++new) new).dom (nm (gs++new) i)∧(eu C C' (gs++new) new).blk (nm (gs++new) i)=C'.blk i∧(eu C C' (gs++new) new).sz (nm (gs++new) i)=C'.sz i∧(eu C C' (gs++new) new).bC (nm (gs++new) i)=C'.bC i:=fun i _ hi=>by
  have hil:=hdom i hi;have hg:(gs++new)[i]? =some (nm (gs++new) i):=by rw [nm,List.getD_eq_getElem?_getD,List.getElem?_eq_getElem hil];rfl
  have hm:=List.mem_of_getElem? hg;have hx:=aa3 hnd hg;simp only [eu,if_pos hm,hx,and_self,and_true];rcases List.mem_append.1 hm with h|h
  ·obtain ⟨o,ho⟩:=hgl _ h;exact .inl (hs.obj.nil _ o ho).1
  ·exact .inr ⟨h,hi⟩
 have hlive:∀i o,ig (nm (gs++new)) (gs++new) os st.ob i=.live o→(i∈gs++new∧∃o0,os[ix (gs++new) i]? =some (.live o0)∧o=aC.map (nm (gs++new)) o0)∨(i∉gs++new∧st.ob i=.live o):=fun i o h=>by
  rw [Pv _ _ _ _ _ hnd hlen] at h;by_cases hin:i∈gs++new
  ·rw [if_pos hin] at h;refine .inl ⟨hin,?_⟩
   cases hx:os[ix (gs++new) i]? with
   |none=>rw [hx] at h;cases h
   |some x=>
    rw [hx] at h
    cases x with
    |live o0=>simp [aH.map] at h;exact ⟨o0,rfl,h.symm⟩
    |dead=>cases h
    |free=>cases h
  ·rw [if_neg hin] at h;exact .inr ⟨hin,h⟩
 have hnG:∀i o b,i∉gs++new→st.ob i=.live o→C.blk i=some b→¬G b:=fun i o b hin ho hb hG=>by
  obtain ⟨id,o2,h1,h2,h3,_⟩:=nM b hG;have:=hs.obj.inj i id o o2 b ho h2 hb h3;subst this;exact hin (List.mem_append.2 (.inl h1))
 refine hs.put hext _ ⟨fun i o h=>?_,fun i o b h hb=>?_,fun i i' o1 o2 b h1 h2 h3 h4=>?_,fun i hi=>?_,fun b hb=>?_⟩
  ⟨hfr.os.trans hs.fr.os,hfr.tape.trans hs.fr.tape,hfr.output.trans hs.fr.output,Nat.le_trans hs.fr.size hfr.size,fun b hb hg=>?_⟩ (fun i o b h hb=>?_) (fun b hb=>.inl (hs.keep b hb)) (fun b hb ho=>?_) dst hd _ v (fun _=>R.map hid hown hR acH.1)
 ·rcases hlive i o h with ⟨hin,o0,h1,rfl⟩|⟨hin,h'⟩
  ·obtain ⟨k1,k2,k3⟩:=eZ.nil _ o0 (Yw h1);refine ⟨?_,by simp only [eu,if_pos hin,aC.map,k2],fun hb=>?_⟩
   ·rcases List.mem_append.1 hin with h|h
    ·obtain ⟨o,ho⟩:=hgl _ h;exact .inl (hs.obj.nil _ o ho).1
    ·exact .inr ⟨h,k1⟩
   ·simp only [eu,if_pos hin] at hb;simp [aC.map,k3 hb,AV.V4]
  ·obtain ⟨k1,k2,k3⟩:=hs.obj.nil i o h';exact ⟨.inl k1,by simp only [eu,if_neg hin,k2],fun hb=>k3 (by simpa only [eu,if_neg hin] using hb)⟩
 ·rcases hlive i o h with ⟨hin,o0,h1,rfl⟩|⟨hin,h'⟩
  ·simp only [eu,if_pos hin] at hb;obtain ⟨k1,cur,k2,k3,k4,k5⟩:=eZ.live _ o0 b (Yw h1) hb;refine ⟨.inr k1,cur,k2,by simp only [eu,if_pos hin,k3],by simp [aC.map,WR];exact k4,fun j av hj=>?_⟩;simp only [aC.map,WR,List.getElem?_map,Option.map_eq_some_iff] at hj;obtain ⟨c,hj,rfl⟩:=hj;obtain ⟨u,hu,k6,k7⟩:=k5 j c hj;exact ⟨u,hu,k6,R.map hid hown k7 (acH.2 _ o0 h1 c (List.mem_of_getElem? hj))⟩
  ·simp only [eu,if_neg hin] at hb;obtain ⟨k1,cur,k2,k3,k4,k5⟩:=hs.obj.live i o b h' hb;refine ⟨.inl k1,cur,(hfr.block b (hs.obj.bnd b k1) (hnG i o b hin h' hb)).trans k2,by simp only [eu,if_neg hin,k3],k4,fun j av hj=>?_⟩;obtain ⟨u,hu,k6,k7⟩:=k5 j av hj;exact ⟨u,hu,k6,k7.ext hext⟩
 ·rcases hlive i o1 h1 with ⟨hin,p1,a1,rfl⟩|⟨hin,h1'⟩<;>rcases hlive i' o2 h2 with ⟨hin',p2,b1,rfl⟩|⟨hin',h2'⟩
  ·simp only [eu,if_pos hin] at h3;simp only [eu,if_pos hin'] at h4;have:=eZ.inj _ _ p1 p2 b (Yw a1) (Yw b1) h3 h4;have e1:=aa2 hin;have e2:=aa2 hin';rw [this,e2] at e1
   cases e1
   rfl
  ·simp only [eu,if_pos hin] at h3;simp only [eu,if_neg hin'] at h4;rcases hnew _ p1 b (Yw a1) h3 with k1|k1
   ·have k2:=hs.obj.bnd b (hs.obj.live i' o2 b h2' h4).1;omega
   ·exact absurd k1 (hnG i' o2 b hin' h2' h4)
  ·simp only [eu,if_pos hin'] at h4;simp only [eu,if_neg hin] at h3;rcases hnew _ p2 b (Yw b1) h4 with k1|k1
   ·have k2:=hs.obj.bnd b (hs.obj.live i o1 b h1' h3).1;omega
   ·exact absurd k1 (hnG i o1 b hin h1' h3)
  ·simp only [eu,if_neg hin] at h3;simp only [eu,if_neg hin'] at h4;exact hs.obj.inj i i' o1 o2 b h1' h2' h3 h4
 ·rw [Pv _ _ _ _ _ hnd hlen];by_cases hin:i∈gs++new
  ·rw [if_pos hin]
   have gT:C'.dom (ix (gs++new) i):=by
    rcases hi with hi|⟨_,hi⟩
    ·have hg:i∈gs:=by
      rcases List.mem_append.1 hin with h|h
      ·exact h
      ·exact absurd h (agC i hi)
     obtain ⟨k,h1,h2⟩:=ag2 i hg;rw [h2];exact (hkp k i h1).1
    ·exact hi
   have h1:=eZ.dom _ gT;have h2:=hdom _ gT;rw [abJ,if_pos (by omega),Nat.sub_zero] at h1;rw [List.getElem?_eq_getElem (by omega)] at h1 ⊢;simp only [Option.getD_some] at h1;simp only [Option.map_some,Option.getD_some];intro h
   cases hx:os[ix (gs++new) i] with
   |live o=>rw [hx] at h;cases h
   |dead=>rw [hx] at h;cases h
   |free=>exact h1 hx
  ·rw [if_neg hin];rcases hi with hi|⟨hi,_⟩
   ·exact hs.obj.dom i hi
   ·exact absurd (List.mem_append.2 (.inr hi)) hin
 ·rcases hb with hb|hb
  ·have:=hs.obj.bnd b hb;have:=hfr.size;omega
  ·exact eZ.bnd b hb
 ·have:=hs.fr.size;refine (hfr.block b (by omega) (fun hG=>?_)).trans (hs.fr.block b hb hg);obtain ⟨id,o,h1,h2,h3,_⟩:=nM b hG;rcases hs.fresh id o b h2 h3 with h|h
  ·omega
  ·exact hg h
 ·rcases hlive i o h with ⟨hin,o0,h1,rfl⟩|⟨hin,h'⟩
  ·simp only [eu,if_pos hin] at hb;have:=hs.fr.size;rcases hnew _ o0 b (Yw h1) hb with k1|k1
   ·exact .inl (by omega)
   ·obtain ⟨id,o2,k2,k3,k4,_⟩:=nM b k1;exact hs.fresh id o2 b k3 k4
  ·simp only [eu,if_neg hin] at hb;exact hs.fresh i o b h' hb
 ·rcases ho with ho|ho
  ·exact hs.WE b hb ho
  ·have:=hs.fr.size;rcases hold b (by omega) ho with h|h
   ·exact hs.WE b hb (ER b h)
   ·obtain ⟨_,_,_,_,_,h⟩:=nM b h;exact hs.WE b hb h
theorem ze {o:Oper} {c:Call} {bZ:Operand} {args:List Operand} {tys:Array TypeId} {f:FuncId} {caps bU:List AV} {dx:List aC} {post:AV→List aH→Prop} (lend:Bool) (gs:List Nat)
  (ho:o.op=.call c) (hc:c={ callee:=.value bZ,args:=args.toArray,argTypes:=tys }) (hN:(aT E.N bZ&&args.all (aT E.N))=true) (hd:∀d,o.dst=some d→d<E.N)
  (dQ:aO st.env bZ=.fn f caps) (hb:Vp P f=true) (hnd:gs.Nodup) (hgl:dx.length=gs.length)
  (pX:∀(i id:Nat),gs[i]? =some id→∃o:aC,st.ob id=.live o∧dx[i]? =some (aC.map (ix gs) o)∧∀c,c∈o.cells→Ok (· ∈gs) True c)
  (hl:mq (XI gs st.ob) gs lend (args.map (aO st.env)++caps) bU) (hF:PS P f dx bU post)
  (h:∀res os,post res os→∃new,(gs++new).Nodup∧os.length=(gs++new).length∧(∀id,id∈new→st.ob id=.free)∧
   (lend=true→Ok (fun _=>True) False res∧∀(i:Nat) (o:aC),os[i]? =some (.live o)→∀c,c∈o.cells→Ok (fun _=>True) False c)∧
   K (St.put ⟨st.env,ig (nm (gs++new)) (gs++new) os st.ob⟩ o.dst (res.map (nm (gs++new))))):Vo P E o st K:=by
 subst hc;simp only [Bool.and_eq_true] at hN;rintro a w q ⟨C,hs⟩;have hk:=hs.kill gs;have hrc:=hs.ev bZ hN.1;rw [dQ] at hrc;obtain ⟨us,huc,wE,vX⟩:=Af hrc
 have hargs:∀j av,(args.map (aO st.env))[j]? =some av→R w C av ((args.map a.eval).getD j undef):=fun j av hj=>by
  rw [List.getElem?_map,Option.map_eq_some_iff] at hj;obtain ⟨x,hj,rfl⟩:=hj;have:=hs.ev x (List.all_eq_true.1 hN.2 x (List.mem_of_getElem? hj));simpa [hj] using this
 have hrun:(execOp a.eval o).run P w=.ok (.enter f ((args.map a.eval).toArray++us)) w:=by
  simp [execOp,ho,resolve,huc,Deferred.ofValue,invoke,yO hb]
 let X:Nat→Prop:=fun b=>C.own b∧(lend=true→∀id o,XI gs st.ob id=.live o→C.blk id≠some b)
 let C2:Ctx:=⟨fun i=>(gs[i]?).bind C.blk,fun i=>((gs[i]?).map C.sz).getD 0,fun i=>((gs[i]?).map C.bC).getD 0,fun i=>i<gs.length,X⟩
 have hX:∀b,X b→C.own b:=fun b h=>h.1;have hsz:((args.map a.eval).toArray++us).size=bU.length:=by rw [aeH hl];simp [wE]
 have hown2:True→∀b,¬C.own b→¬C2.own b:=fun _ b h h2=>h (hX b h2)
 have acI:∀id,id∈gs→C.dom id→C2.dom (ix gs id)∧C2.blk (ix gs id)=C.blk id∧C2.sz (ix gs id)=C.sz id∧C2.bC (ix gs id)=C.bC id:=fun id hm _=>by
  have hg:=aa2 hm;exact ⟨(List.getElem?_eq_some_iff.1 hg).1,by simp [C2,hg],by simp [C2,hg],by simp [C2,hg]⟩
 have hrel:∀j av,bU[j]? =some av→R w C2 av (((args.map a.eval).toArray++us).getD j undef):=fun j av hj=>by
  have hjl:j<bU.length:=(List.getElem?_eq_some_iff.1 hj).1;have aaD:j<(args.map (aO st.env)++caps).length:=by rw [←aeH hl];exact hjl
  have h1:R w C (args.map (aO st.env)++caps)[j] (((args.map a.eval).toArray++us).getD j undef):=by
   by_cases hja:j<args.length
   ·have h2:=hargs j _ (List.getElem?_eq_getElem (by simpa using hja));rw [List.getElem_append_left (by simpa using hja)]
    have:((args.map a.eval).toArray++us).getD j undef=(args.map a.eval).getD j undef:=by
     simp [Array.getElem?_append_left,hja]
    rw [this];exact h2
   ·rw [List.getElem_append_right (by simp;omega)];have hjc:j-args.length<caps.length:=by simp at aaD;omega
    have h2:=vX (j-args.length) _ (List.getElem?_eq_getElem hjc)
    have:((args.map a.eval).toArray++us).getD j undef=us.getD (j-args.length) undef:=by
     simp [Array.getElem?_append_right,Nat.not_lt.1 hja]
    rw [this];simpa using h2
  rcases zL hl j _ av (List.getElem?_eq_getElem aaD) hj with ⟨hok,he⟩|⟨akF,hle,hno⟩
  ·rw [←he];exact R.map acI hown2 h1 hok
  ·have h3:=hk.lend X (fun b hb=>⟨hb.1,hb.2 akF⟩) hle h1;have:=R.map (C:=C0 X) (C2:=C2) (σ:=id) (p:=fun _=>False) (ro:=True) (fun _ h _=>h.elim) (fun _ b hb hx=>hb hx) h3 hno
   rwa [jy hno] at this
 have hgo:∀i o',WM 0 (dx.map .live) U5 i=.live o'→∃id o,gs[i]? =some id∧st.ob id=.live o∧o'=aC.map (ix gs) o∧∀c,c∈o.cells→Ok (· ∈gs) True c:=fun i o' h=>by
  have h1:=Ag h;rw [List.getElem?_map,Option.map_eq_some_iff] at h1;obtain ⟨o2,h2,h3⟩:=h1
  cases h3
  have hil:i<gs.length:=by rw [←hgl];exact (List.getElem?_eq_some_iff.1 h2).1
  obtain ⟨o,k1,k2,k3⟩:=pX i gs[i] (List.getElem?_eq_getElem hil);rw [h2] at k2
  cases k2
  exact ⟨_,o,List.getElem?_eq_getElem hil,k1,rfl,k3⟩
 have eZ:kY w C2 (WM 0 (dx.map .live) U5):=by
  refine ⟨fun i o' h=>?_,fun i o' b h hb=>?_,fun i i' o1 o2 b h1 h2 h3 h4=>?_,fun i hi=>?_,fun b hb=>hs.obj.bnd b (hX b hb)⟩
  ·obtain ⟨id,o,h1,h2,rfl,_⟩:=hgo i o' h;obtain ⟨k1,k2,k3⟩:=hs.obj.nil id o h2;refine ⟨(List.getElem?_eq_some_iff.1 h1).1,by simp [C2,h1,aC.map,k2],fun hb=>?_⟩;have:C.blk id=none:=by simpa [C2,h1] using hb
   simp [aC.map,k3 this,AV.V4]
  ·obtain ⟨id,o,h1,h2,rfl,h3⟩:=hgo i o' h;have hb':C.blk id=some b:=by simpa [C2,h1] using hb
   obtain ⟨k1,cur,k2,k4,k5,k6⟩:=hs.obj.live id o b h2 hb';refine ⟨⟨k1,fun _ id' o2 hl2 hb2=>?_⟩,cur,k2,by simp [C2,h1,k4],by simp [aC.map,WR];exact k5,fun j av hj=>?_⟩
   ·rw [qZ] at hl2
    split at hl2
    ·cases hl2
    ·rename_i hni;have:=hs.obj.inj id' id o2 o b hl2 h2 hb2 hb';subst this;exact hni (List.mem_of_getElem? h1)
   ·simp only [aC.map,WR,List.getElem?_map,Option.map_eq_some_iff] at hj;obtain ⟨c,hj,rfl⟩:=hj;obtain ⟨u,hu,k7,k8⟩:=k6 j c hj;exact ⟨u,hu,k7,R.map acI hown2 k8 (h3 c (List.mem_of_getElem? hj))⟩
  ·obtain ⟨id,o',a1,a2,_,_⟩:=hgo i o1 h1;obtain ⟨id2,o'',b1,b2,_,_⟩:=hgo i' o2 h2;have e1:C.blk id=some b:=by simpa [C2,a1] using h3
   have e2:C.blk id2=some b:=by simpa [C2,b1] using h4
   have e3:=hs.obj.inj id id2 o' o'' b a2 b2 e1 e2;subst e3;obtain ⟨l1,m1⟩:=List.getElem?_eq_some_iff.1 a1;obtain ⟨l2,m2⟩:=List.getElem?_eq_some_iff.1 b1;exact (List.getElem_inj (h₀:=l1) (h₁:=l2) hnd).1 (m1.trans m2.symm)
  ·have hi':i<dx.length:=by rw [hgl];exact hi
   rw [Yw (x:=.live dx[i]) (by simp [hi'])];intro h;cases h
 have hcall:=hF w C2 _ hsz eZ (hs.laid.sub hX) hrel;unfold Oper.wp;rw [hrun];refine hcall.mono ?_;rintro e w' ⟨v,C',res,os,rfl,hml,hpost,hfr,hR,Lu,hkp,hnew,hkeep,hold⟩;obtain ⟨new,ae4,hlen,hfree,hro,hK⟩:=h res os hpost;refine ⟨_,⟨_,hs.Ls (X:=X) ae4 hlen hX (fun b hG=>?_) (fun id hid=>?_) hfr hR Lu (fun i id hi=>?_) hnew hkeep hold hfree ?_ o.dst hd⟩,hK⟩
 ·obtain ⟨i,hi,hbi⟩:=hG;have hil:i<gs.length:=by rw [←hgl];exact hi
  exact ⟨gs[i],List.getElem_mem hil,by simpa [C2,hil] using hbi⟩
 ·obtain ⟨i,hi⟩:=List.mem_iff_getElem?.1 hid;obtain ⟨o,k1,_⟩:=pX i id hi;exact ⟨o,k1⟩
 ·obtain ⟨k1,k2,k3,k4⟩:=hkp i (by rw [hgl];exact (List.getElem?_eq_some_iff.1 hi).1);exact ⟨k1,by rw [k2];simp [C2,hi],by rw [k3];simp [C2,hi],by rw [k4];simp [C2,hi]⟩
 ·cases lend with
  |true=>exact .inr (hro rfl)
  |false=>exact .inl fun b hb=>⟨hb,fun h=>by cases h⟩
end
end Go.Lo
set_option linter.unusedVariables false
set_option linter.unusedSimpArgs false
namespace Go.Lo
theorem jH {σ:Nat→Nat} {a:AV} [h:W6 a]:AV.map σ a=a:=jy h.out
theorem Yz {σ:Nat→Nat} {l:List AV} [h:VB l]:AV.V4 σ l=l:=oI h.out
theorem o7 {σ:Nat→Nat}:AV.V4 σ []=[]:=rfl
theorem oU {σ:Nat→Nat} {a a':AV} {l l':List AV} (h:AV.map σ a=a') (k:AV.V4 σ l=l'):AV.V4 σ (a::l)=a'::l':=by
 subst h;subst k;rfl
theorem X5 {σ:Nat→Nat} {cs cs':List AV} {e z:Nat} (h:AV.V4 σ cs=cs'):aC.map σ ⟨cs,e,z⟩=⟨cs',e,z⟩:=by subst h;rfl
theorem vQ {p:Nat→Prop} {a:AV} [h:W6 a]:Ok p True a:=h.out.mono (fun _ h=>h.elim) id
theorem aaY {p:Nat→Prop} {l:List AV} [h:VB l]:∀c,c∈l→Ok p True c:=fun c hc=>(h.out c hc).mono (fun _ h=>h.elim) id
def ZM:List ((Nat×Nat)×aH)→(Nat→aH)→(Nat→aH)
 | [],f=>f
 |q::r,f=>ZM r (U4 f q.1.2 q.2)
def kS (ps:List (Nat×Nat)) (s:St) (q:(Nat×Nat)×aH):Prop:=
 match q.2 with
 | .live o'=>∃o,s.ob q.1.1=.live o∧aC.map (rn ps) o=o'∧∀c,c∈o.cells→Ok (· ∈ps.map (·.1)) True c
 | .dead=>True
 | .free=>False
def nD (ps:List (Nat×Nat)) (s:St):List ((Nat×Nat)×aH)→Prop
 | []=>True
 |q::r=>kS ps s q∧nD ps s r
theorem acj {ps:List (Nat×Nat)} {s:St}:∀{qs:List ((Nat×Nat)×aH)},nD ps s qs→∀q,q∈qs→kS ps s q
 |q::r,h,x,hx=>by
  rcases List.mem_cons.1 hx with rfl|hx
  ·exact h.1
  ·exact acj h.2 x hx
 | [],_,x,hx=>by cases hx
theorem U9 {ps:List (Nat×Nat)} {s:St} {x y:Nat} {o o':aC} (hl:s.ob x=.live o) (ho:o'=o) [h:VB o.cells]:kS ps s ((x,y),.live o'):=by
 subst ho;exact ⟨o',hl,X5 Yz,aaY⟩
theorem Vr {ps:List (Nat×Nat)} {s:St} {x y:Nat} {o o':aC} (hl:s.ob x=.live o) (hm:aC.map (rn ps) o=o') (hok:∀c,c∈o.cells→Ok (· ∈ps.map (·.1)) True c):kS ps s ((x,y),.live o'):=⟨o,hl,hm,hok⟩
theorem adh:∀(qs:List ((Nat×Nat)×aH)) (f:Nat→aH) (i:Nat),(qs.map (·.1.2)).Nodup→(∃q,q∈qs∧q.1.2=i∧ZM qs f i=q.2)∨(i∉qs.map (·.1.2)∧ZM qs f i=f i):=by
 intro qs
 induction qs with
 |nil=>intro f i _;exact .inr ⟨by simp,rfl⟩
 |cons q r ih=>
  intro f i hn;simp only [List.map_cons,List.nodup_cons] at hn;simp only [ZM];rcases ih (U4 f q.1.2 q.2) i hn.2 with ⟨q',h1,h2,h3⟩|⟨h1,h2⟩
  ·exact .inl ⟨q',List.mem_cons_of_mem _ h1,h2,h3⟩
  ·by_cases he:i=q.1.2
   ·subst he;rw [V9] at h2;exact .inl ⟨q,by simp,rfl,h2⟩
   ·rw [VX _ _ he] at h2
    exact .inr ⟨fun hm=>by
     rcases List.mem_cons.1 hm with h3|h3
     ·exact he h3
     ·exact h1 h3,h2⟩
theorem lD {ps:List (Nat×Nat)} {x y:Nat} (hn1:(ps.map (·.1)).Nodup) (hn2:(ps.map (·.2)).Nodup) (h:(x,y)∈ps):iX ps y=some x:=by
 have hm:x∈ps.map (·.1):=List.mem_map.2 ⟨_,h,rfl⟩;have h2:=AP hn2 hm
 have:∀(l:List (Nat×Nat)),x∈l.map (·.1)→(x,rn l x)∈l:=by
  intro l
  induction l with
  |nil=>intro h;simp at h
  |cons p r ih=>
   obtain ⟨a,b⟩:=p;intro hx;simp only [rn]
   cases hb:Nat.beq x a with
   |true=>rw [Nat.eq_of_beq_eq_true hb];simp
   |false=>
    have:x∈r.map (·.1):=by
     rcases List.mem_cons.1 (by simpa using hx:x∈a::r.map (·.1)) with h1|h1
     ·subst h1;simp at hb
     ·exact h1
    exact List.mem_cons_of_mem _ (ih this)
 rw [q9 hn1 (this ps hm) h] at h2;exact h2
theorem Nn {s:St} {e':Nat→AV} (ps:List (Nat×Nat)) (qs:List ((Nat×Nat)×aH)) (hps:qs.map (·.1)=ps) (hn1:(ps.map (·.1)).Nodup) (hn2:(ps.map (·.2)).Nodup) (hq:nD ps s qs) (he:∀t,eG ps (s.env t) (e' t)):
  LeR ps s ⟨e',ZM qs U5⟩:=by
 subst hps;have ag3:(qs.map (·.1.2)).Nodup:=by rw [List.map_map] at hn2;exact hn2
 refine ⟨hn1,hn2,he,fun id' o' h=>?_,fun id' h=>?_⟩
 ·rcases adh qs U5 id' ag3 with ⟨q,h1,h2,h3⟩|⟨_,h2⟩
  ·have hr:=acj hq q h1;have h4:q.2=.live o':=by rw [←h3];exact h
   unfold kS at hr;rw [h4] at hr;obtain ⟨o,k1,k2,k3⟩:=hr;subst k2;have hp:(q.1.1,id')∈qs.map (·.1):=List.mem_map.2 ⟨q,h1,by rw [←h2]⟩;exact ⟨q.1.1,o,hp,lD hn1 hn2 hp,k1,rfl,rfl,.inr ⟨rfl,k3⟩⟩
  ·rw [show ZM qs U5 id'=aH.live o' from h] at h2
   cases h2
 ·intro hf;rcases adh qs U5 id' ag3 with ⟨q,h1,h2,h3⟩|⟨h1,_⟩
  ·have hr:=acj hq q h1;have h4:q.2=.free:=by rw [←h3];exact hf
   unfold kS at hr;rw [h4] at hr;exact hr
  ·rw [List.map_map] at h;exact h1 h
def sw (ob:Nat→aH) (gs:List Nat):List Nat→List aC→Prop
 | [],[]=>True
 |g::r,o'::r'=>(∃o,ob g=.live o∧aC.map (ix gs) o=o'∧∀c,c∈o.cells→Ok (· ∈gs) True c)∧sw ob gs r r'
 |_,_=>False
theorem aaA {ob:Nat→aH} {gs:List Nat} {g:Nat} {o o':aC} (hl:ob g=.live o) (ho:o'=o) [h:VB o.cells]:∃o,ob g=.live o∧aC.map (ix gs) o=o'∧∀c,c∈o.cells→Ok (· ∈gs) True c:=by
 subst ho;exact ⟨o',hl,X5 Yz,aaY⟩
theorem jX {ob:Nat→aH} {gs:List Nat} {g:Nat} {o o':aC} (hl:ob g=.live o) (hm:aC.map (ix gs) o=o') (hok:∀c,c∈o.cells→Ok (· ∈gs) True c):∃o,ob g=.live o∧aC.map (ix gs) o=o'∧∀c,c∈o.cells→Ok (· ∈gs) True c:=⟨o,hl,hm,hok⟩
theorem Ah {ob:Nat→aH} {gs:List Nat}:∀{l:List Nat} {dx:List aC},sw ob gs l dx→dx.length=l.length
 | [],[],_=>rfl
 |g::r,o::r',h=>by simp [Ah h.2]
 | [],_::_,h=>h.elim
 |_::_,[],h=>h.elim
theorem Ai {ob:Nat→aH} {gs:List Nat}:∀{l:List Nat} {dx:List aC},sw ob gs l dx→∀(i id:Nat),l[i]? =some id→∃o:aC,ob id=.live o∧dx[i]? =some (aC.map (ix gs) o)∧∀c,c∈o.cells→Ok (· ∈gs) True c
 | [],[],_,i,id,h=>by simp at h
 |g::r,o'::r',h,0,id,hi=>by
  simp at hi;subst hi;obtain ⟨o,h1,h2,h3⟩:=h.1;exact ⟨o,h1,by rw [h2];rfl,h3⟩
 |g::r,o'::r',h,i+1,id,hi=>by
  obtain ⟨o,h1,h2,h3⟩:=Ai h.2 i id (by simpa using hi);exact ⟨o,h1,by simpa using h2,h3⟩
 | [],_::_,h,_,_,_=>h.elim
 |_::_,[],h,_,_,_=>h.elim
def Frees (ob:Nat→aH):List Nat→Prop
 | []=>True
 |n::r=>ob n=.free∧Frees ob r
theorem aeE {ob:Nat→aH}:∀{l:List Nat},Frees ob l→∀id,id∈l→ob id=.free
 |n::r,h,x,hx=>by
  rcases List.mem_cons.1 hx with rfl|hx
  ·exact h.1
  ·exact aeE h.2 x hx
 | [],_,x,hx=>by cases hx
theorem Yx {ob:Nat→aH} {gs:List Nat} {lend:Bool} {a:AV} [h:W6 a]:pW ob gs lend a a:=.inl ⟨vQ,jH⟩
theorem aay {ob:Nat→aH} {gs:List Nat} {lend:Bool} {a b:AV} (h:Ok (· ∈gs) True a) (k:a.map (ix gs)=b):pW ob gs lend a b:=.inl ⟨h,k⟩
theorem aeI {ob:Nat→aH} {gs:List Nat} {a b:AV} (h:VN ob a b) [k:W6 b]:pW ob gs true a b:=.inr ⟨rfl,h,k.out⟩
theorem Yo {σ:Nat→Nat} {f:Nat→aH}:ig σ [] [] f=f:=rfl
theorem Xe {σ:Nat→Nat} {n:Nat} {ns:List Nat} {o o':aH} {os:List aH} {f f':Nat→aH} (h:o.map σ=o') (k:ig σ ns os (U4 f n o')=f'):ig σ (n::ns) (o::os) f=f':=by
 subst h;exact k
theorem jc {σ:Nat→Nat} {cs:List AV} {e z:Nat} [h:VB cs]:aH.map σ (.live ⟨cs,e,z⟩)=.live ⟨cs,e,z⟩:=by
 show aH.live _=_;rw [X5 Yz]
theorem agw {σ:Nat→Nat} {cs cs':List AV} {e z:Nat} (h:AV.V4 σ cs=cs'):aH.map σ (.live ⟨cs,e,z⟩)=.live ⟨cs',e,z⟩:=by
 show aH.live _=_;rw [X5 h]
def rY:List aH→Prop
 | []=>True
 | .live o::r=>(∀c,c∈o.cells→Ok (fun _=>True) False c)∧rY r
 |_::r=>rY r
theorem adb:∀{os:List aH},rY os→∀(i:Nat) (o:aC),os[i]? =some (.live o)→∀c,c∈o.cells→Ok (fun _=>True) False c
 | [],_,i,o,h=>by simp at h
 | .live x::r,h,0,o,hi=>by simp at hi;subst hi;exact h.1
 | .live x::r,h,i+1,o,hi=>adb h.2 i o (by simpa using hi)
 | .dead::r,h,0,o,hi=>by simp at hi
 | .dead::r,h,i+1,o,hi=>adb (os:=r) h i o (by simpa using hi)
 | .free::r,h,0,o,hi=>by simp at hi
 | .free::r,h,i+1,o,hi=>adb (os:=r) h i o (by simpa using hi)
section
variable {P:Program} {E:VC} {st:St} {K:St→Prop}
theorem kL {o:Oper} {c:Call} {bZ:Operand} {args:List Operand} {tys:Array TypeId} {f d:Nat} {caps bU:List AV} {dx:List aC} {res res':AV} {os:List aH} {bI:Nat→aH} (lend:Bool) (gs new:List Nat) (hF:iq P f dx bU res os)
  (ho:o.op=.call c) (hc:c={ callee:=.value bZ,args:=args.toArray,argTypes:=tys }) (hd:o.dst=some d) (hN:(aT E.N bZ&&args.all (aT E.N)&&Nat.blt d E.N)=true)
  (dQ:aO st.env bZ=.fn f caps) (hb:Vp P f=true) (hnd:(gs++new).Nodup) (pX:sw st.ob gs gs dx) (hl:mq (XI gs st.ob) gs lend (args.map (aO st.env)++caps) bU) (hlen:os.length=(gs++new).length) (hfree:Frees st.ob new)
  (hro:lend=true→Ok (fun _=>True) False res∧rY os) (hres:res.map (nm (gs++new))=res') (hos:ig (nm (gs++new)) (gs++new) os st.ob=bI) (h:K ⟨upd st.env d res',bI⟩):Vo P E o st K:=by
 rw [Bool.and_eq_true] at hN;subst hres;subst hos;refine ze lend gs ho hc hN.1 (fun d' hd'=>by rw [hd] at hd';cases hd';exact aS hN.2) dQ hb (List.nodup_append.1 hnd).1 (Ah pX) (Ai pX) hl hF ?_;rintro r n ⟨rfl,rfl⟩;refine ⟨new,hnd,hlen,aeE hfree,fun hle=>⟨(hro hle).1,adb (hro hle).2⟩,?_⟩;rw [hd];exact h
end
theorem jG {ts:List Nat} {N m:Nat} {s:St} {res:AV} {os:List aH} (hN:(ts.all fun t=>Nat.blt t N)=true) (hm:Nat.ble m os.length=true) (hr:Yh (ts.map s.env)=res) (au:s.ob=WM 0 os U5):ady ts m (fun r o=>r=res∧o=os) N s:=
 ⟨os,hN,Nat.le_of_ble_eq_true hm,⟨hr,rfl⟩,au⟩
end Go.Lo
set_option linter.unusedVariables false
set_option linter.unusedSimpArgs false
namespace Go.Lo
section
variable {P:Program} {E:VC} {st:St} {K:St→Prop}
theorem qH {o:Oper} {t e sz d id off n l:Nat} {x:Operand} {lo:Option Operand} {ob:aC} (ho:o.op=.slice t x lo none none) (hd:o.dst=some d) (hN:(aT E.N x&&okO E.N lo&&Nat.blt d E.N)=true)
  (ht:P.underlying t=some (.slice e)) (hsz:(P.info? e).map (·.size)=some sz) (hx:aO st.env x=.sl id off n) (hl:st.ob id=.live ob) (hoz:ob.bC=sz) (hlo:kX st.env lo 0 l) (h2:l<n)
  (h:K ⟨upd st.env d (.sl id (off+l*sz) (n-l)),st.ob⟩):Vo P E o st K:=by
 simp only [Bool.and_eq_true] at hN;refine W4 _ (fun d' hd'=>by rw [hd] at hd';cases hd';exact aS hN.2) (fun a w C hs=>?_) (by rw [hd];exact h);have hx1:=hs.ev x hN.1.1;rw [hx] at hx1;generalize Wd:a.eval x=ux at hx1
 cases hx1 with
 |sl _ _ _ c b gT hb hnc hm hss=>
  have hr:=oK (P:=P) (A:=some ⟨b,off,none⟩) (n:=n) (c:=c) (hgh:=n) (vh:=none) ht hsz (mh hs hN.1.2 hlo) (.inl ⟨rfl,rfl⟩) (Nat.le_of_lt h2) hnc w;refine ⟨_,by simp only [execOp,ho,Wd,Option.map_none,Sem.run_bind,hr,Result.andThen_ok];rfl,?_⟩;rw [if_neg (by omega)];simp only [Option.map_some,add_plain];refine .sl id _ (n-l) (c-l) b gT hb (by omega) (by omega) ?_;have hz:=(hs.obj.nil id ob hl).2.1;rw [hz,hoz] at hss ⊢;rw [←hss,Nat.sub_mul];have:=Nat.mul_le_mul_right sz (show l≤c by omega);omega
 |slnil _ gT hb=>omega
theorem Td {o:Oper} {t:TypeId} {x:Operand} {d id k s off:Nat} {α:Type} {f:α→List AV} {l:List α} {ob:aC} {av:AV} {r:List AV} (df:α) (ho:o.op=.load t x) (hd:o.dst=some d) (hN:(aT E.N x&&Nat.blt d E.N)=true)
  (hb:V0 P t=some false) (hx:aO st.env x=.pt id (k*s+off)) (hl:st.ob id=.live ob) (hc:ob.cells=enc f l) (hf:∀x,(f x).length=s) (hk:k<l.length) (jS:(f (l.getD k df)).drop off=av::r) (h:K ⟨upd st.env d av,st.ob⟩):Vo P E o st K:=by
 refine Yd (rest:=r++(enc f l).drop ((k+1)*s)) ho hd hN hb hx ?_ h
 have hlt:off<s:=by
  rcases Nat.lt_or_ge off s with h1|h1
  ·exact h1
  ·rw [List.drop_of_length_le (by rw [hf];exact h1)] at jS;cases jS
 simp only [aB,hl,hc];rw [←List.drop_drop,abE hf df l k hk,List.drop_append_of_le_length (by rw [hf];omega),jS];rfl
theorem Bc {ob:Nat→aH} {id n:Nat} {o:aC} {α:Type} {f:α→List AV} {l rest:List α} (hl:ob id=.live o) (hc:o.cells=enc f (l++rest)) (hn:n=l.length) (hz:∀x,(f x).length=o.bC) [h:∀x,VB (f x)]:VN ob (.sl id 0 n) (.ro n (enc f l)):=by
 subst hn;refine .sl id 0 l.length o _ hl (eO hz l) ?_ (fun j a b hx hy=>?_)
 ·rw [hc,jV,List.length_append,eO hz];omega
 ·rw [Nat.zero_add,hc,jV,List.getElem?_append_left (List.getElem?_eq_some_iff.1 hy).1,hy] at hx;have hab:b=a:=by simpa using hx
  subst hab;exact .same b ((inferInstance:VB (enc f l)).out b (List.mem_of_getElem? hy))
theorem ada {t:TypeId} {z:Value} (h:(P.info? t).bind (·.zero)=some z):∀w,(zeroValue t).run P w=.ok z w:=fun w=>by
 obtain ⟨i,hi,hz⟩:=Option.bind_eq_some_iff.1 h;simp [zeroValue,typeInfo,hi,hz]
theorem ajX (z:Array Value) (n:Nat):(Builtin.zeroCells z n).toList.length=n*z.size:=by simp [Builtin.zeroCells]
theorem zM {w:World} {C:Ctx} {cur:Array Value} {cells cs:List AV} {vals:List Value} {off s:Nat} (hvl:vals.length=s) (hcl:cs.length=s) (hfit:off+s≤cells.length) (hle:cells.length≤cur.size)
  (hcell:∀(j:Nat) (av:AV),cells[j]? =some av→∃u:Value,cur[j]? =some u∧u.oneCell'=true∧R w C av u) (hv:∀(j:Nat) (av:AV),cs[j]? =some av→∃u:Value,vals[j]? =some u∧u.oneCell'=true∧R w C av u):
  ∀(j:Nat) (c:AV),(spl cells off cs)[j]? =some c→∃u:Value,(cur.toList.take off++vals++cur.toList.drop (off+s)).toArray[j]? =some u∧u.oneCell'=true∧R w C c u:=by
 intro j c hj;unfold spl at hj
 have hjl:j<cells.length:=by
  have:=(List.getElem?_eq_some_iff.1 hj).1;simp at this;omega
 by_cases ha:j<off
 ·rw [List.getElem?_append_left (by simp;omega),List.getElem?_append_left (by simp;omega),List.getElem?_take,if_pos ha] at hj;obtain ⟨u,hu,h2,hr⟩:=hcell j c hj;refine ⟨u,?_,h2,hr⟩;rw [List.getElem?_toArray,List.getElem?_append_left (by simp;omega),List.getElem?_append_left (by simp;omega),List.getElem?_take,if_pos ha];simpa using hu
 ·by_cases hb2:j<off+s
  ·rw [List.getElem?_append_left (by simp;omega),List.getElem?_append_right (by simp;omega)] at hj;have hmin:(cells.take off).length=off:=by simp;omega
   rw [hmin] at hj;obtain ⟨u,hu,h2,hr⟩:=hv (j-off) c hj;refine ⟨u,?_,h2,hr⟩;rw [List.getElem?_toArray,List.getElem?_append_left (by simp;omega),List.getElem?_append_right (by simp;omega)];have:(cur.toList.take off).length=off:=by simp;omega
   rw [this];exact hu
  ·rw [List.getElem?_append_right (by simp;omega)] at hj;have e1:(cells.take off++cs).length=off+s:=by simp;omega
   rw [e1,List.getElem?_drop,hcl,show off+s+(j-(off+s))=j by omega] at hj;obtain ⟨u,hu,h2,hr⟩:=hcell j c hj;refine ⟨u,?_,h2,hr⟩;have e2:(cur.toList.take off++vals).length=off+s:=by simp;omega
   rw [List.getElem?_toArray,List.getElem?_append_right (by rw [e2];omega),e2,List.getElem?_drop,show off+s+(j-(off+s))=j by omega];simpa using hu
theorem uh {o:Oper} {c:Call} {t e:TypeId} {x:Operand} {id off n:Nat} {z:Value} {ob:aC} {cells':List AV} (ho:o.op=.call c) (hc:c={ callee:=.builtin .clear,args:= #[x],argTypes:= #[t] }) (hd:o.dst=none) (hN:aT E.N x=true)
  (ht:P.underlying t=some (.slice e)) (hz:∀w,(zeroValue e).run P w=.ok z w) (h1:z.cells.toList.all (·.oneCell')=true) (hx:aO st.env x=.sl id off n) (hl:st.ob id=.live ob) (hn:0<n) (hfit:off+n*z.cells.size≤ob.cells.length)
  (hsp:spl ob.cells off ((Builtin.zeroCells z.cells n).toList.map .v)=cells') (h:K ⟨st.env,U4 st.ob id (.live ⟨cells',ob.elem,ob.bC⟩)⟩):Vo P E o st K:=by
 subst hc;rintro a w q ⟨C,hs⟩;have hrx:=hs.ev x hN;rw [hx] at hrx;generalize Wd:a.eval x=ux at hrx
 cases hrx with
 |sl _ _ _ c b gT hb hnc hm hss=>
  obtain ⟨hown,cur,hh,hcs,hle,hcell⟩:=hs.obj.live id ob b hl hb
  have hone:∀v∈(Builtin.zeroCells z.cells n).toList,v.oneCell'=true:=by
   intro v hv;simp only [Builtin.zeroCells,Array.toList_map,List.mem_map] at hv;obtain ⟨i,hi,rfl⟩:=hv;have hi':i<n*z.cells.size:=by simpa using hi
   have hpos:0<z.cells.size:=by
    rcases Nat.eq_zero_or_pos z.cells.size with h0|h0
    ·rw [h0] at hi';simp at hi'
    ·exact h0
   have hlt:i % z.cells.size<z.cells.size:=Nat.mod_lt _ hpos;have:=List.all_eq_true.1 h1 (z.cells[i % z.cells.size]) (by simp);simpa [hlt] using this
  have hlen:(Builtin.zeroCells z.cells n).toList.length=n*z.cells.size:=ajX _ _;have hst:=run_storeCells_at P b off ob.elem (Builtin.zeroCells z.cells n).toList 0 cur w hh (by rw [hlen];omega) hone
  have hrun:(execOp a.eval o).run P w=.ok (.value (.tuple #[])) (w.setRow b (cur.toList.take off++(Builtin.zeroCells z.cells n).toList++cur.toList.drop (off+n*z.cells.size)).toArray):=by
   rw [hlen] at hst;simp only [Nat.add_zero] at hst;obtain ⟨m,rfl⟩:∃m,n=m+1:=⟨n-1,by omega⟩
   simp [execOp,ho,resolve,invoke,builtin,Builtin.clear_,Wd,run_underlying ht,hz,hst]
  have hnew:=hs.ae1 hl hb cells' (cur.toList.take off++(Builtin.zeroCells z.cells n).toList++cur.toList.drop (off+n*z.cells.size)).toArray (by simp [hlen];omega) (by rw [←hsp];simp [spl,hlen];omega) (by
   rw [←hsp];refine zM hlen (by simp [hlen]) hfit hle hcell (fun j av hj=>?_);rw [List.getElem?_map,Option.map_eq_some_iff] at hj;obtain ⟨u,hu,rfl⟩:=hj;exact ⟨u,hu,hone u (List.mem_of_getElem? hu),.v u⟩) o.dst (fun d' hd'=>by rw [hd] at hd';cases hd') .any (.tuple #[]) (fun _=>.any _)
  unfold Oper.wp;rw [hrun];refine ⟨_,⟨_,hnew⟩,?_⟩;rw [hd];exact h
 |slnil _ gT hb=>omega
end
end Go.Lo
set_option linter.unusedVariables false
set_option linter.unusedSimpArgs false
namespace Go.Lo
theorem Wx {E:VC} {s:St} {e':Nat→AV} (hm:E.m=0) (hG:∀b,¬E.G b) (h:∀t,VN s.ob (s.env t) (e' t)):Vv E s ⟨e',U5⟩:=by
 rintro a w ⟨C,hs⟩;refine ⟨C0 E.X,hs.size,hs.defers,fun t ht=>?_,⟨fun i o' h=>?_,fun i o' b h hb=>?_,fun i i' o1 o2 b h1 h2 h3 h4=>?_,fun i hi=>?_,fun b hb=>?_⟩,hs.fr,fun i o' b h hb=>?_,fun b hb=>hb,fun b hb ho=>.inl ho,fun i hi=>?_,hs.X4⟩
 ·exact hs.rW (fun _ _ h=>h) E.X (fun b hb=>⟨hs.keep b hb,fun id o hl hblk=>by
   rcases hs.fresh id o b hl hblk with h|h
   ·have:=hs.X4 b hb;omega
   ·exact hG b h⟩) (h t) (hs.env t ht)
 ·cases h
 ·cases h
 ·cases h1
 ·exact hi.elim
 ·exact hs.obj.bnd b (hs.keep b hb)
 ·cases h
 ·omega
theorem dJ {ob:Nat→aH} {e e':Nat→AV} (d:Nat) (av:AV) (hd:VN ob (e d) av) (h:∀t,VN ob (e t) (e' t)):∀t,VN ob (e t) (upd e' d av t):=by
 intro t;by_cases ht:t=d
 ·subst ht;rw [upd_same];exact hd
 ·rw [upd_ne _ _ ht];exact h t
theorem Wy {ob:Nat→aH} {e:Nat→AV}:∀t,VN ob (e t) (none_ t):=fun _=>.any _
def Xk (ob:Nat→aH) (a b:AV):Prop:=b=a∨VN ob a b
theorem I4 {E:VC} {s s':St} (keep:List Nat) (hm:E.m=0) (hG:∀b,¬E.G b) (he:∀t,Xk (XI keep s.ob) (s.env t) (s'.env t))
  (hk:∀id o',s'.ob id=.live o'→id∈keep∧∃o,s.ob id=.live o∧o'.elem=o.elem∧o'.bC=o.bC∧o'.cells.length=o.cells.length∧∀(j:Nat) (a b:AV),o.cells[j]? =some a→o'.cells[j]? =some b→Xk (XI keep s.ob) a b)
  (hf:∀id,s'.ob id=.free→s.ob id=.free):Vv E s s':=by
 rintro a w ⟨C,hs⟩
 let X:Nat→Prop:=fun b=>C.own b∧∀id o,XI keep s.ob id=.live o→C.blk id≠some b
 let C':Ctx:=⟨C.blk,C.sz,C.bC,C.dom,X⟩
 have hkl:∀id o,XI keep s.ob id=.live o→id∉keep∧s.ob id=.live o:=fun id o h=>by
  rw [qZ] at h
  split at h
  ·cases h
  ·rename_i hn;exact ⟨hn,h⟩
 have hext:Ext w C w C':=⟨fun _ h=>⟨h,rfl,rfl,rfl⟩,fun _ _ h h2=>h h2.1,fun _ _ _=>rfl⟩
 have hR:∀{x y:AV} {u:Value},Xk (XI keep s.ob) x y→R w C x u→R w C' y u:=fun {x y u} hxy hr=>by
  rcases hxy with h|h
  ·subst h;exact hr.ext hext
  ·have h1:R w (C0 X) y u:=hs.rW (fun id o h=>(hkl id o h).2) X (fun b hb=>hb) h hr;have h2:=R.map (C:=C0 X) (C2:=C') (σ:=id) (p:=fun _=>False) (ro:=True) (fun _ h=>h.elim) (fun _ b hb=>hb) h1 h.CY
   rwa [jy h.CY] at h2
 refine ⟨C',hs.size,hs.defers,fun t ht=>hR (he t) (hs.env t ht),⟨fun i o' h=>?_,fun i o' b h hb=>?_,fun i i' o1 o2 b h1 h2 h3 h4=>?_,fun i hi hfr=>hs.obj.dom i hi (hf i hfr),fun b hb=>hs.obj.bnd b hb.1⟩,hs.fr,fun i o' b h hb=>?_,fun b hb=>⟨hs.keep b hb,fun id o hl hblk=>?_⟩,fun b hb ho=>hs.WE b hb ho.1,fun i hi=>hs.init i hi,hs.X4⟩
 ·obtain ⟨_,o,h1,h2,h3,h4,_⟩:=hk i o' h;obtain ⟨k1,k2,k3⟩:=hs.obj.nil i o h1;refine ⟨k1,by rw [h3];exact k2,fun hn=>?_⟩;have:=k3 hn;rw [this] at h4;exact List.eq_nil_of_length_eq_zero h4
 ·obtain ⟨hin,o,h1,h2,h3,h4,h5⟩:=hk i o' h;obtain ⟨k1,cur,k2,k3,k4,k5⟩:=hs.obj.live i o b h1 hb;refine ⟨⟨k1,fun id o2 hl hblk=>?_⟩,cur,by rw [h2];exact k2,k3,by omega,fun j av hj=>?_⟩
  ·have:=hs.obj.inj id i o2 o b (hkl id o2 hl).2 h1 hblk hb;subst this;exact (hkl id o2 hl).1 hin
  ·have hjl:j<o.cells.length:=by have:=(List.getElem?_eq_some_iff.1 hj).1;omega
   obtain ⟨u,hu,h6,h7⟩:=k5 j _ (List.getElem?_eq_getElem hjl);exact ⟨u,hu,h6,hR (h5 j _ av (List.getElem?_eq_getElem hjl) hj) h7⟩
 ·obtain ⟨_,o,h5,_⟩:=hk i o1 h1;obtain ⟨_,o',h6,_⟩:=hk i' o2 h2;exact hs.obj.inj i i' o o' b h5 h6 h3 h4
 ·obtain ⟨_,o,h5,_⟩:=hk i o' h;exact hs.fresh i o b h5 hb
 ·rcases hs.fresh id o b (hkl id o hl).2 hblk with h|h
  ·have:=hs.X4 b hb;omega
  ·exact hG b h
theorem jA {ob:Nat→aH} {e:Nat→AV}:∀t,Xk ob (e t) (none_ t):=fun _=>.inr (.any _)
theorem VP {ob:Nat→aH} {e e':Nat→AV} (d:Nat) (av:AV) (hd:e d=av) (h:∀t,Xk ob (e t) (e' t)):∀t,Xk ob (e t) (upd e' d av t):=by
 intro t;by_cases ht:t=d
 ·subst ht;rw [upd_same];exact .inl hd.symm
 ·rw [upd_ne _ _ ht];exact h t
theorem adj {ob:Nat→aH} {e e':Nat→AV} (d:Nat) (av:AV) (hd:VN ob (e d) av) (h:∀t,Xk ob (e t) (e' t)):∀t,Xk ob (e t) (upd e' d av t):=by
 intro t;by_cases ht:t=d
 ·subst ht;rw [upd_same];exact .inr hd
 ·rw [upd_ne _ _ ht];exact h t
def j6:List (Nat×aC)→(Nat→aH)
 | []=>fun _=>.dead
 |q::r=>U4 (j6 r) q.1 (.live q.2)
def rJ (s:St) (keep:List Nat) (q:Nat×aC):Prop:=q.1∈keep∧∃o,s.ob q.1=.live o∧q.2.elem=o.elem∧q.2.bC=o.bC∧q.2.cells.length=o.cells.length∧∀(j:Nat) (a b:AV),o.cells[j]? =some a→q.2.cells[j]? =some b→Xk (XI keep s.ob) a b
def u7 (s:St) (keep:List Nat):List (Nat×aC)→Prop
 | []=>True
 |q::r=>rJ s keep q∧u7 s keep r
theorem zl {s:St} {keep:List Nat}:∀{qs:List (Nat×aC)},u7 s keep qs→∀id o',j6 qs id=.live o'→rJ s keep (id,o')
 | [],_,id,o',h=>by cases h
 |q::r,hq,id,o',h=>by
  by_cases hi:id=q.1
  ·subst hi;rw [show j6 (q::r) q.1=.live q.2 from V9 _ _ _] at h
   cases h
   exact hq.1
  ·rw [show j6 (q::r) id=j6 r id from VX _ _ hi] at h;exact zl hq.2 id o' h
theorem yP:∀(qs:List (Nat×aC)) (id:Nat),j6 qs id≠ .free
 | [],id,h=>by cases h
 |q::r,id,h=>by
  by_cases hi:id=q.1
  ·subst hi;rw [show j6 (q::r) q.1=.live q.2 from V9 _ _ _] at h
   cases h
  ·rw [show j6 (q::r) id=j6 r id from VX _ _ hi] at h;exact yP r id h
theorem jJ {E:VC} {s:St} {e':Nat→AV} (keep:List Nat) (qs:List (Nat×aC)) (hm:E.m=0) (hG:∀b,¬E.G b) (hq:u7 s keep qs) (he:∀t,Xk (XI keep s.ob) (s.env t) (e' t)):Vv E s ⟨e',j6 qs⟩:=
 I4 keep hm hG he (fun id o' h=>zl hq id o' h) (fun id h=>absurd h (yP qs id))
theorem zy {s:St} {keep:List Nat} {i:Nat} {o:aC} (hi:i∈keep) (h:s.ob i=.live o):rJ s keep (i,o):=⟨hi,o,h,rfl,rfl,rfl,fun j a b h1 h2=>.inl (by rw [h1] at h2;cases h2;rfl)⟩
theorem aeL {ob:Nat→aH}:∀(j:Nat) (a b:AV),([]:List AV)[j]? =some a→([]:List AV)[j]? =some b→Xk ob a b:=fun j a b h=>by simp at h
theorem gq {ob:Nat→aH} {x y:AV} {l m:List AV} (h1:Xk ob x y) (h:∀(j:Nat) (a b:AV),l[j]? =some a→m[j]? =some b→Xk ob a b):∀(j:Nat) (a b:AV),(x::l)[j]? =some a→(y::m)[j]? =some b→Xk ob a b:=fun j a b ha hb=>by
 cases j with
 |zero=>simp at ha hb;subst ha;subst hb;exact h1
 |succ j=>exact h j a b (by simpa using ha) (by simpa using hb)
theorem Xr {s:St} {keep:List Nat} {i e z:Nat} {cs cs':List AV} (hi:i∈keep) (h:s.ob i=.live ⟨cs,e,z⟩) (hl:cs'.length=cs.length) (hc:∀(j:Nat) (a b:AV),cs[j]? =some a→cs'[j]? =some b→Xk (XI keep s.ob) a b):rJ s keep (i,⟨cs',e,z⟩):=⟨hi,_,h,rfl,rfl,hl,hc⟩
section
variable {P:Program} {E:VC} {st:St} {K:St→Prop}
theorem aeT {o:Oper} {c:Call} {bZ:Operand} {args:List Operand} {tys:Array TypeId} {f d:Nat} {caps bU:List AV} {res:AV} (hF:Fn P f bU res)
  (ho:o.op=.call c) (hc:c={ callee:=.value bZ,args:=args.toArray,argTypes:=tys }) (hd:o.dst=some d) (hN:(aT E.N bZ&&args.all (aT E.N)&&Nat.blt d E.N)=true)
  (dQ:aO st.env bZ=.fn f caps) (hb:Vp P f=true) (ha:dV (fun _=>.free) (args.map (aO st.env)++caps) bU) [hres:W6 res]
  (h:K ⟨upd st.env d res,st.ob⟩):Vo P E o st K:=GD ho hc hd hN dQ hb ha hF hres.out h
end
end Go.Lo
