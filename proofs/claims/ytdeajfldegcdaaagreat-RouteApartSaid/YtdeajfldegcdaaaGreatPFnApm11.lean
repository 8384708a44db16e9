/- Part of the logic of values: what the law reaches. -/
import Derived.Test.YtdeajfldegcdaaaGreatPFnApm10
import Derived.Test.YtdeajfldegcdaaaGreatPFnApm9
set_option linter.unusedVariables false
set_option linter.unusedSimpArgs false
namespace Go.Lo
def pO:aC:=⟨[],0,1⟩
def dn (F:Nat→aC):Nat→aH:=fun i=>cond (Nat.ble 2 i&&Nat.ble i 55) (.live (F i)) .free
def nU (F:Nat→aC):List aC:=(List.range 54).map fun i=>F (i+2)
def mZ (T R:aC) (F:Nat→aC):List aC:=T::R::nU F
def l6 (T R:aH) (F:Nat→aC) (new:List aH):List aH:=T::R::((nU F).map .live++new)
def Xf (ob:Nat→aH) (F:Nat→aC):Prop:=∀i,2≤i→i<56→ob i=.live (F i)
def kW (o:aC):Prop:=∀c,c∈o.cells→Ok (· <56) True c
def jL (o:aC):Prop:=∀c,c∈o.cells→Ok (fun i=>2≤i∧i<56) True c
theorem jL.low {o:aC} (h:jL o):kW o:=fun c hc=>(h c hc).mono (fun i hi=>hi.2) id
section
variable {F F':Nat→aC} {T R T' R':aH} {new:List aH} {i n:Nat} {f:Nat→aH} {x:aH}
theorem adq (a:2≤i) (b:i<56):dn F i=.live (F i):=by
 unfold dn;rw [Nat.ble_eq_true_of_le a,Nat.ble_eq_true_of_le (show i≤55 by omega)];rfl
theorem Pz (h:i<2∨56≤i):dn F i=.free:=by
 unfold dn
 have:(Nat.ble 2 i&&Nat.ble i 55)=false:=by
  cases hb:(Nat.ble 2 i&&Nat.ble i 55) with
  |false=>rfl
  |true=>
   rw [Bool.and_eq_true] at hb;have h1:=Nat.le_of_ble_eq_true hb.1;have h2:=Nat.le_of_ble_eq_true hb.2;omega
 rw [this];rfl
theorem fb:Xf (dn F) F:=fun i a b=>adq a b
theorem fo (h:(Nat.ble n 1||Nat.ble 56 n)=true) (hf:Xf f F):Xf (U4 f n x) F:=fun i a b=>by
 rw [VX _ _ (fun e=>?_)]
 ·exact hf i a b
 ·subst e;rw [Bool.or_eq_true] at h;rcases h with h|h
  ·have:=Nat.le_of_ble_eq_true h;omega
  ·have:=Nat.le_of_ble_eq_true h;omega
theorem nu:(nU F).length=54:=by simp [nU]
theorem adr:(l6 T R F new).length=56+new.length:=by simp [l6,nu];omega
theorem Bp:(l6 T R F new)[i]? =if i=0 then some T else if i=1 then some R else if i<56 then some (.live (F i)) else new[i-56]? :=by
 unfold l6
 match i with
 |0=>rfl
 |1=>rfl
 |i+2=>
  rw [List.getElem?_cons_succ,List.getElem?_cons_succ,if_neg (by omega),if_neg (by omega)];by_cases h:i+2<56
  ·rw [if_pos h,List.getElem?_append_left (by simp [nu];omega)];simp [nU];exact ⟨i,by rw [List.getElem?_range (by omega)],rfl⟩
  ·rw [if_neg h,List.getElem?_append_right (by simp [nu];omega)];simp [nu]
theorem TK:WM 0 (l6 T R F new) U5 i=if i=0 then T else if i=1 then R else if i<56 then .live (F i) else (new[i-56]?).getD .free:=by
 rw [abJ,adr,Nat.sub_zero,Bp];by_cases h:0≤i∧i<0+(56+new.length)
 ·rw [if_pos h];by_cases h0:i=0
  ·rw [if_pos h0,if_pos h0];rfl
  rw [if_neg h0,if_neg h0];by_cases h1:i=1
  ·rw [if_pos h1,if_pos h1];rfl
  rw [if_neg h1,if_neg h1];by_cases h2:i<56
  ·rw [if_pos h2,if_pos h2];rfl
  ·rw [if_neg h2,if_neg h2]
 ·rw [if_neg h,if_neg (by omega),if_neg (by omega),if_neg (by omega),List.getElem?_eq_none (by omega)];rfl
theorem Ry:WM 0 (l6 T R F new) U5=WM 56 new (U4 (U4 (dn F) 0 T) 1 R):=by
 funext i
 rw [TK,abJ];by_cases h:56≤i∧i<56+new.length
 ·rw [if_pos h,if_neg (by omega),if_neg (by omega),if_neg (by omega)]
 ·rw [if_neg h];by_cases h1:i=1
  ·subst h1;rw [V9];rfl
  rw [VX _ _ h1];by_cases h0:i=0
  ·subst h0;rw [V9];rfl
  rw [VX _ _ h0,if_neg h0,if_neg h1];by_cases h2:i<56
  ·rw [if_pos h2,adq (by omega) h2]
  ·rw [if_neg h2,Pz (by omega),List.getElem?_eq_none (by omega)];rfl
theorem akt {T R:aC}:WM 0 ((mZ T R F).map .live) U5=U4 (U4 (dn F) 0 (.live T)) 1 (.live R):=by
 have:(mZ T R F).map aH.live=l6 (.live T) (.live R) F []:=by simp [mZ,l6]
 rw [this,Ry];rfl
theorem IV {T R:aC}:(mZ T R F).length=56:=by simp [mZ,nu]
end
theorem bJ {P:Program} {f:FuncId} {fn:Func} {c:Code} {N:Nat} {ts:List Nat} {T R:aC} {F:Nat→aC} {args:List AV} {post:AV→List aH→Prop} (hf:P.funcs[f]? =some fn) (hb:fn.body=some c) (hN:fn.ntmps=N) (hres:abM P fn ts) (hargs:args.length≤N)
  (h:∀w0 G C hL jQ,VD P ⟨w0,G,C.own,N,56,C,hL,jQ⟩ c ⟨jf args,U4 (U4 (dn F) 0 (.live T)) 1 (.live R)⟩ (vP ts 56 post N)):PS P f (mZ T R F) args post:=
 kD 56 IV hf hb hN hres hargs (fun w0 G C hL jQ=>by rw [akt];exact h w0 G C hL jQ)
theorem aM {ts:List Nat} {N:Nat} {s:St} {res:AV} {T R:aH} {F:Nat→aC} {new:List aH} (hN:(ts.all fun t=>Nat.blt t N)=true) (hr:Yh (ts.map s.env)=res) (au:s.ob=WM 56 new (U4 (U4 (dn F) 0 T) 1 R)):ady ts 56 (fun r o=>r=res∧o=l6 T R F new) N s:=
 ⟨l6 T R F new,hN,by rw [adr];omega,⟨hr,rfl⟩,au.trans Ry.symm⟩
def dg:List (Nat×Nat):=(List.range 54).map fun i=>(i+2,i+2)
theorem acy {i:Nat} (a:2≤i) (b:i<56):(i,i)∈dg:=List.mem_map.2 ⟨i-2,List.mem_range.2 (by omega),by rw [show i-2+2=i by omega]⟩
theorem Lh {x y:Nat} (h:(x,y)∈dg):x=y∧2≤x∧x<56:=by
 obtain ⟨i,h1,h2⟩:=List.mem_map.1 h;have:=List.mem_range.1 h1
 cases h2
 exact ⟨rfl,by omega,by omega⟩
theorem J4:dg.map (·.1)=(List.range 54).map (· +2):=by simp [dg,Function.comp_def]
theorem J5:dg.map (·.2)=(List.range 54).map (· +2):=by simp [dg,Function.comp_def]
theorem agT:((List.range 54).map (· +2)).Nodup:=List.nodup_range.map (f:=(· +2)) (fun a b h e=>h (by have:a+2=b+2:=e;omega))
def iB (n:Nat):Bool:=Nat.ble n 1||Nat.ble 56 n
theorem aeY {n:Nat} (h:iB n=true):n<2∨56≤n:=by
 unfold iB at h;rw [Bool.or_eq_true] at h;rcases h with h|h
 ·have:=Nat.le_of_ble_eq_true h;omega
 ·have:=Nat.le_of_ble_eq_true h;omega
theorem aeX:∀(l:List (Nat×Nat)) (x:Nat),x∈l.map (·.1)→(x,rn l x)∈l
 | [],x,h=>by simp at h
 |(a,b)::r,x,h=>by
  simp only [rn]
  cases hb:Nat.beq x a with
  |true=>rw [Nat.eq_of_beq_eq_true hb];simp
  |false=>
   have:x∈r.map (·.1):=by
    rcases List.mem_cons.1 (by simpa using h:x∈a::r.map (·.1)) with h1|h1
    ·subst h1;simp at hb
    ·exact h1
   exact List.mem_cons_of_mem _ (aeX r x this)
section
variable {E:VC} {s:St} {e':Nat→AV} {F:Nat→aC} {ps:List (Nat×Nat)}
theorem Bq (hn:(ps.all fun p=>iB p.1&&iB p.2)=true) (h:(ps.map (·.1)).Nodup):((ps++dg).map (·.1)).Nodup:=by
 rw [List.map_append,J4,List.nodup_append];refine ⟨h,agT,fun a ha b hb e=>?_⟩;obtain ⟨p,h1,rfl⟩:=List.mem_map.1 ha;obtain ⟨j,h2,rfl⟩:=List.mem_map.1 hb;have h3:=List.all_eq_true.1 hn p h1;rw [Bool.and_eq_true] at h3;have:=aeY h3.1;have:=List.mem_range.1 h2;omega
theorem J6 (hn:(ps.all fun p=>iB p.1&&iB p.2)=true) (h:(ps.map (·.2)).Nodup):((ps++dg).map (·.2)).Nodup:=by
 rw [List.map_append,J5,List.nodup_append];refine ⟨h,agT,fun a ha b hb e=>?_⟩;obtain ⟨p,h1,rfl⟩:=List.mem_map.1 ha;obtain ⟨j,h2,rfl⟩:=List.mem_map.1 hb;have h3:=List.all_eq_true.1 hn p h1;rw [Bool.and_eq_true] at h3;have:=aeY h3.2;have:=List.mem_range.1 h2;omega
theorem QL (h1:((ps++dg).map (·.1)).Nodup) {i:Nat} (a:2≤i) (b:i<56):rn (ps++dg) i=i:=by
 have hm:(i,i)∈ps++dg:=List.mem_append.2 (.inr (acy a b));exact q9 h1 (aeX _ i (List.mem_map.2 ⟨_,hm,rfl⟩)) hm
theorem NW (ps:List (Nat×Nat)) (qs:List ((Nat×Nat)×aH)) (hF:Xf s.ob F) (hl:∀i,jL (F i)) (hq:nD (ps++dg) s qs) (he:∀t,eG (ps++dg) (s.env t) (e' t)) (hps:qs.map (·.1)=ps) (hn:(ps.all fun p=>iB p.1&&iB p.2)=true) (h1:(ps.map (·.1)).Nodup) (h2:(ps.map (·.2)).Nodup)
  (hk:E.m=0∨(E.m=56∧(0,0)∈ps∧(1,1)∈ps)):Vv E s ⟨e',ZM qs (dn F)⟩:=by
 have hn1:=Bq hn h1;have hn2:=J6 hn h2;have hq2:(qs.map (·.1.2)).Nodup:=by rw [←hps,List.map_map] at h2;exact h2
 have hout:∀i,i∈qs.map (·.1.2)→i<2∨56≤i:=fun i hi=>by
  obtain ⟨q,k1,rfl⟩:=List.mem_map.1 hi;have k2:q.1∈ps:=by rw [←hps];exact List.mem_map.2 ⟨q,k1,rfl⟩
  have k3:=List.all_eq_true.1 hn _ k2;rw [Bool.and_eq_true] at k3;exact aeY k3.2
 refine abI (ps++dg) ⟨hn1,hn2,he,fun id' o' h=>?_,fun id' h=>?_⟩ (fun i hi=>?_)
 ·rcases adh qs (dn F) id' hq2 with ⟨q,k1,k2,k3⟩|⟨_,k2⟩
  ·have hr:=acj hq q k1;have h4:q.2=.live o':=by rw [←k3];exact h
   unfold kS at hr;rw [h4] at hr;obtain ⟨o,m1,m2,m3⟩:=hr;subst m2;have hp:(q.1.1,id')∈ps++dg:=List.mem_append.2 (.inl (by rw [←hps];exact List.mem_map.2 ⟨q,k1,by rw [←k2]⟩));exact ⟨q.1.1,o,hp,lD hn1 hn2 hp,m1,rfl,rfl,.inr ⟨rfl,m3⟩⟩
  ·have k3:dn F id'=.live o':=k2.symm.trans h;rcases Nat.lt_or_ge id' 2 with a|a
   ·rw [Pz (.inl a)] at k3;cases k3
   rcases Nat.lt_or_ge id' 56 with b|b
   ·rw [adq a b] at k3
    cases k3
    have hp:(id',id')∈ps++dg:=List.mem_append.2 (.inr (acy a b));refine ⟨id',F id',hp,lD hn1 hn2 hp,hF id' a b,rfl,rfl,.inr ⟨(acp (hl id') fun i hi=>QL hn1 hi.1 hi.2).symm,fun c hc=>(hl id' c hc).mono (fun i hi=>?_) id⟩⟩;exact List.mem_map.2 ⟨(i,i),List.mem_append.2 (.inr (acy hi.1 hi.2)),rfl⟩
   ·rw [Pz (.inr b)] at k3;cases k3
 ·intro hf;have hf':ZM qs (dn F) id'=.free:=hf;rcases adh qs (dn F) id' hq2 with ⟨q,k1,k2,k3⟩|⟨k1,k2⟩
  ·have hr:=acj hq q k1;have h4:q.2=.free:=by rw [←k3];exact hf'
   unfold kS at hr;rw [h4] at hr;exact hr
  ·rw [List.map_append,List.mem_append] at h;rcases h with h|h
   ·rw [←hps,List.map_map] at h;exact k1 h
   ·obtain ⟨p,m1,m2⟩:=List.mem_map.1 h;obtain ⟨m3,m4,m5⟩:=Lh (x:=p.1) (y:=p.2) m1;rw [←m2, ←m3] at k2 hf';rw [adq m4 m5] at k2;rw [k2] at hf';cases hf'
 ·rcases hk with hk|⟨hk,k0,k1⟩
  ·omega
  ·rw [List.mem_append];by_cases h0:i=0
   ·subst h0;exact .inl k0
   by_cases h1:i=1
   ·subst h1;exact .inl k1
   ·exact .inr (acy (by omega) (by omega))
end
def Yi (ns:List Nat) (i:Nat):Nat:=cond (Nat.ble i 55) i (ns.getD (i-56) 0)
def YU:List Nat:=List.range 56
theorem nE {ns:List Nat} {i:Nat} (h:i<56):Yi ns i=i:=by
 unfold Yi;rw [Nat.ble_eq_true_of_le (show i≤55 by omega)];rfl
theorem J7 {ns:List Nat} {i:Nat} (h:56≤i):Yi ns i=ns.getD (i-56) 0:=by
 unfold Yi
 cases hb:Nat.ble i 55 with
 |false=>rfl
 |true=>have:=Nat.le_of_ble_eq_true hb;omega
theorem adD {i:Nat} (h:i<56):YU[i]? =some i:=by simp [YU,List.getElem?_range h]
theorem aa1 {i:Nat}:i∈YU↔i<56:=List.mem_range
theorem ZI:YU.length=56:=by simp [YU]
theorem vU:YU.Nodup:=List.nodup_range
theorem PL {i:Nat} (h:i<56):ix YU i=i:=aa3 vU (adD h)
theorem Li (ns:List Nat):nm (YU++ns)=Yi ns:=by
 funext i
 unfold nm;rw [List.getD_eq_getElem?_getD];rcases Nat.lt_or_ge i 56 with h|h
 ·rw [nE h,List.getElem?_append_left (by rw [ZI];exact h),adD h];rfl
 ·rw [J7 h,List.getElem?_append_right (by rw [ZI];exact h),ZI,List.getD_eq_getElem?_getD]
theorem nA {o:aC} {σ:Nat→Nat} (h:kW o) (hs:∀i,i<56→σ i=i):aC.map σ o=o:=by
 show aC.mk (AV.V4 σ o.cells) o.elem o.bC=o;rw [acp h hs]
theorem J8 {T R:aC} {F:Nat→aC} {i:Nat}:(mZ T R F)[i]? =if i=0 then some T else if i=1 then some R else if i<56 then some (F i) else none:=by
 unfold mZ
 match i with
 |0=>rfl
 |1=>rfl
 |i+2=>
  rw [List.getElem?_cons_succ,List.getElem?_cons_succ,if_neg (by omega),if_neg (by omega)];by_cases h:i+2<56
  ·rw [if_pos h];simp [nU];exact ⟨i,by rw [List.getElem?_range (by omega)],rfl⟩
  ·rw [if_neg h,List.getElem?_eq_none (by rw [nu];omega)]
theorem agk {ob:Nat→aH} {gs:List Nat}:∀{as:List AV},(∀a,a∈as→Ok (· ∈gs) True a∧a.map (ix gs)=a)→mq ob gs false as as
 | [],_=>trivial
 |a::as,h=>⟨.inl (h a (List.mem_cons_self ..)),agk fun b hb=>h b (List.mem_cons_of_mem _ hb)⟩
section
variable {P:Program} {E:VC} {st:St} {K:St→Prop}
theorem zF {o:Oper} {c:Call} {bZ:Operand} {args:List Operand} {tys:Array TypeId} {f:Nat} {caps bU:List AV} {T R:aC} {F F':Nat→aC} {T' R':aH} {nw:List aH} {res res':AV} {Yt bI:Nat→aH} (ns:List Nat) (hF:iq P f (mZ T R F) bU res (l6 T' R' F' nw))
  (ho:o.op=.call c) (hc:c={ callee:=.value bZ,args:=args.toArray,argTypes:=tys }) (hN:(aT E.N bZ&&args.all (aT E.N))=true) (hd:∀d,o.dst=some d→d<E.N) (dQ:aO st.env bZ=.fn f caps) (hb:Vp P f=true)
  (hT:st.ob 0=.live T) (hR:st.ob 1=.live R) (hm:Xf st.ob F) (hl:args.map (aO st.env)++caps=bU) (hTo:kW T) (hRo:kW R) (hFo:∀i,jL (F i)) (wB:∀i,jL (F' i)) (ha:∀a,a∈bU→Ok (· <56) True a)
  (hns:ns.Nodup) (wC:ns.all (Nat.ble 56)=true) (hlen:nw.length=ns.length) (hfree:Frees st.ob ns) (hres:res.map (Yi ns)=res') (h0:T'.map (Yi ns)=Yt 0) (h1:R'.map (Yi ns)=Yt 1) (hm':Xf Yt F') (hs:∀i,56≤i→Yt i=st.ob i) (hos:ig (Yi ns) ns nw Yt=bI)
  (h:K (St.put ⟨st.env,bI⟩ o.dst res')):Vo P E o st K:=by
 subst hl;have hbig:∀n,n∈ns→56≤n:=fun n hn=>Nat.le_of_ble_eq_true (List.all_eq_true.1 wC n hn)
 have hnd:(YU++ns).Nodup:=by
  rw [List.nodup_append];exact ⟨vU,hns,fun a ha b hb e=>by have:=aa1.1 ha;have:=hbig b hb;omega⟩
 refine ze false YU ho hc hN hd dQ hb vU (by rw [IV,ZI]) (fun i id hi=>?_) (agk fun a h=>⟨(ha a h).mono (fun i hi=>aa1.2 hi) id,map_ok (ha a h) fun i hi=>PL hi⟩) hF ?_
 ·have hil:i<56:=by rw [←ZI];exact (List.getElem?_eq_some_iff.1 hi).1
  rw [adD hil] at hi
  cases hi
  rw [J8];by_cases e0:i=0
  ·subst e0;exact ⟨T,hT,by rw [if_pos rfl,nA hTo fun i hi=>PL hi],fun c hc=>(hTo c hc).mono (fun i hi=>aa1.2 hi) id⟩
  by_cases e1:i=1
  ·subst e1;exact ⟨R,hR,by rw [if_neg e0,if_pos rfl,nA hRo fun i hi=>PL hi],fun c hc=>(hRo c hc).mono (fun i hi=>aa1.2 hi) id⟩
  ·exact ⟨F i,hm i (by omega) hil,by rw [if_neg e0,if_neg e1,if_pos hil,nA (hFo i).low fun i hi=>PL hi],fun c hc=>((hFo i).low c hc).mono (fun i hi=>aa1.2 hi) id⟩
 ·rintro r n ⟨rfl,rfl⟩;refine ⟨ns,hnd,by rw [adr,List.length_append,ZI,hlen],aeE hfree,fun h=>(by cases h),?_⟩;rw [Li,hres]
  have:ig (Yi ns) (YU++ns) (l6 T' R' F' nw) st.ob=bI:=by
   rw [←hos]
   funext i
   rw [Pv _ _ _ _ _ hnd (by rw [adr,List.length_append,ZI,hlen]),Pv _ _ _ _ _ hns hlen];rcases Nat.lt_or_ge i 56 with h56|h56
   ·have hi:(YU++ns)[i]? =some i:=by rw [List.getElem?_append_left (by rw [ZI];exact h56),adD h56]
    rw [if_pos (List.mem_append.2 (.inl (aa1.2 h56))),if_neg (fun hx=>by have:=hbig i hx;omega),aa3 hnd hi,Bp];by_cases e0:i=0
    ·subst e0;rw [if_pos rfl, ←h0];rfl
    by_cases e1:i=1
    ·subst e1;rw [if_neg e0,if_pos rfl, ←h1];rfl
    ·rw [if_neg e0,if_neg e1,if_pos h56,hm' i (by omega) h56];show aH.live (aC.map _ (F' i))=_;rw [nA (wB i).low fun i hi=>nE hi]
   ·by_cases hx:i∈ns
    ·have hj:=aa2 hx;have hi:(YU++ns)[56+ix ns i]? =some i:=by rw [List.getElem?_append_right (by rw [ZI];omega),ZI,Nat.add_sub_cancel_left];exact hj
     rw [if_pos (List.mem_append.2 (.inr hx)),if_pos hx,aa3 hnd hi,Bp,if_neg (by omega),if_neg (by omega),if_neg (by omega),Nat.add_sub_cancel_left]
    ·rw [if_neg (fun hy=>(List.mem_append.1 hy).elim (fun h=>by have:=aa1.1 h;omega) hx),if_neg hx,hs i h56]
  rw [this];exact h
theorem abL {o:Oper} {c:Call} {bZ:Operand} {args:List Operand} {tys:Array TypeId} {f d:Nat} {caps bU:List AV} {T R:aC} {F F':Nat→aC} {T' R':aH} {nw:List aH} {res res':AV} {bI:Nat→aH} (ns:List Nat) (hF:iq P f (mZ T R F) bU res (l6 T' R' F' nw)) (Yt:Nat→aH)
  (ho:o.op=.call c) (hc:c={ callee:=.value bZ,args:=args.toArray,argTypes:=tys }) (hd:o.dst=some d) (hN:(aT E.N bZ&&args.all (aT E.N)&&Nat.blt d E.N)=true) (dQ:aO st.env bZ=.fn f caps) (hb:Vp P f=true)
  (hT:st.ob 0=.live T) (hR:st.ob 1=.live R) (hm:Xf st.ob F) (hl:args.map (aO st.env)++caps=bU) (hTo:kW T) (hRo:kW R) (hFo:∀i,jL (F i)) (wB:∀i,jL (F' i)) (ha:∀a,a∈bU→Ok (· <56) True a)
  (hns:ns.Nodup) (wC:ns.all (Nat.ble 56)=true) (hlen:nw.length=ns.length) (hfree:Frees st.ob ns) (hres:res.map (Yi ns)=res') (h0:T'.map (Yi ns)=Yt 0) (h1:R'.map (Yi ns)=Yt 1) (hm':Xf Yt F') (hs:∀i,56≤i→Yt i=st.ob i) (hos:ig (Yi ns) ns nw Yt=bI)
  (h:K ⟨upd st.env d res',bI⟩):Vo P E o st K:=by
 rw [Bool.and_eq_true] at hN;exact zF ns hF ho hc hN.1 (fun d' hd'=>by rw [hd] at hd';cases hd';exact aS hN.2) dQ hb hT hR hm hl hTo hRo hFo wB ha hns wC hlen hfree hres h0 h1 hm' hs hos (by rw [hd];exact h)
end
theorem IK {P:Program} {E:VC} {st:St} {K:St→Prop} {o:Oper} {c:Call} {bZ:Operand} {args:List Operand} {tys:Array TypeId} {f d:Nat} {caps bU:List AV} {T R:aC} {F:Nat→aC} {res:AV} (hF:iq P f (mZ T R F) bU res (l6 (.live T) (.live R) F []))
  (ho:o.op=.call c) (hc:c={ callee:=.value bZ,args:=args.toArray,argTypes:=tys }) (hd:o.dst=some d) (hN:(aT E.N bZ&&args.all (aT E.N)&&Nat.blt d E.N)=true) (dQ:aO st.env bZ=.fn f caps) (hb:Vp P f=true)
  (hT:st.ob 0=.live T) (hR:st.ob 1=.live R) (hm:Xf st.ob F) (hl:args.map (aO st.env)++caps=bU) (hTo:kW T) (hRo:kW R) (hFo:∀i,jL (F i)) (ha:∀a,a∈bU→Ok (· <56) True a) (hres:Ok (· <56) True res)
  (h:K ⟨upd st.env d res,st.ob⟩):Vo P E o st K:=by
 rw [Bool.and_eq_true] at hN;refine zF (Yt:=st.ob) [] hF ho hc hN.1 (fun d' hd'=>by rw [hd] at hd';cases hd';exact aS hN.2) dQ hb hT hR hm hl hTo hRo hFo hFo ha List.nodup_nil rfl rfl trivial (map_ok hres fun i hi=>nE hi) ?_ ?_ hm (fun _ _=>rfl) rfl (by rw [hd];exact h)
 ·rw [hT];show aH.live (aC.map _ T)=_;rw [nA hTo fun i hi=>nE hi]
 ·rw [hR];show aH.live (aC.map _ R)=_;rw [nA hRo fun i hi=>nE hi]
theorem VT {F F':Nat→aC}:∀i,56≤i→dn F i=dn F' i:=fun i h=>by rw [Pz (.inr h),Pz (.inr h)]
theorem tC {f g:Nat→aH} {n:Nat} {x:aH} (h:∀i,56≤i→f i=g i):∀i,56≤i→U4 f n x i=U4 g n x i:=fun i hi=>by
 by_cases e:i=n
 ·subst e;rw [V9,V9]
 ·rw [VX _ _ e,VX _ _ e,h i hi]
theorem qw {f g:Nat→aH} {n:Nat} {x:aH} (hn:Nat.ble n 1=true) (h:∀i,56≤i→f i=g i):∀i,56≤i→U4 f n x i=g i:=fun i hi=>by
 have:=Nat.le_of_ble_eq_true hn;rw [VX _ _ (by omega),h i hi]
theorem XC {f g:Nat→aH} {n:Nat} {x:aH} (hn:Nat.ble n 1=true) (h:∀i,56≤i→f i=g i):∀i,56≤i→f i=U4 g n x i:=fun i hi=>by
 have:=Nat.le_of_ble_eq_true hn;rw [VX _ _ (by omega),h i hi]
def ou (e q:Nat) (x:Lk):aC:=⟨[.v (.int .i64 x.route),.v (.int .i64 x.O_),.v (.int .i64 x.ends),.sl q 0 x.pieces.length],e,1⟩
def fam (e2 e3:Nat) (ls:List Lk):Nat→aC:=fun i=>if 8≤i∧i<8+ls.length then ou e2 (i+24) (ls.getD (i-8) aA) else if 32≤i∧i<32+ls.length then Xj e3 (ls.getD (i-32) aA) else pO
def EL:Option Nat→AV
 |none=>.v (.pointer none)
 |some k=>.pt (k+8) 0
def cK (x:Option Nat):List AV:=[EL x]
def Vf (n:Nat):List (Option Nat):=(List.range n).map some
section
variable {e1 e2 e3:Nat} {ls:List Lk} {k i:Nat} {ob:Nat→aH}
theorem AL {n:Nat}:(Vf n).length=n:=by simp [Vf]
theorem J9 {n k:Nat} (h:k<n):(Vf n).getD k none=some k:=by simp [Vf,h]
theorem rH (hn:ls.length≤24) (hk:k<ls.length):fam e2 e3 ls (k+8)=ou e2 (k+32) (ls.getD k aA):=by
 unfold fam;rw [if_pos (by omega),Nat.add_sub_cancel]
theorem aa0 (hn:ls.length≤24) (hk:k<ls.length):fam e2 e3 ls (k+32)=Xj e3 (ls.getD k aA):=by
 unfold fam;rw [if_neg (by omega),if_pos (by omega),Nat.add_sub_cancel]
theorem VW (hn:ls.length≤24) (i:Nat):jL (fam e2 e3 ls i):=by
 unfold fam
 split
 ·intro c hc;simp only [ou,List.mem_cons,List.not_mem_nil,or_false] at hc;rcases hc with rfl|rfl|rfl|rfl
  ·exact .v _
  ·exact .v _
  ·exact .v _
  ·exact .sl _ _ _ (by omega)
 ·split
  ·exact J_
  ·intro c hc;cases hc
theorem IW (hn:ls.length≤24) (hF:Xf ob (fam e2 e3 ls)) (hk:k<ls.length):VN ob (.pt (k+8) 0) (.rp [.v (.int .i64 (ls.getD k aA).route),.v (.int .i64 (ls.getD k aA).O_),.v (.int .i64 (ls.getD k aA).ends),.ro (ls.getD k aA).pieces.length (enc aI (ls.getD k aA).pieces)]):=by
 have h1:=hF (k+8) (by omega) (by omega);rw [rH hn hk] at h1;have h2:=hF (k+32) (by omega) (by omega);rw [aa0 hn hk] at h2;refine kI h1 (Vb (.same _ (.v _)) (Vb (.same _ (.v _)) (Vb (.same _ (.v _)) (Vb ?_ fP))));exact ads h2 (by show (enc aI _).length=_;rw [eO (s:=1) (fun _=>rfl)];rfl) ((inferInstance:VB (enc aI (ls.getD k aA).pieces)).out)
theorem agA {α:Type} {f:α→List AV} {g:α→AV} (hf:∀x,f x=[g x]) (d:α) {l:List α} {j:Nat} {a:AV} (h:(enc f l)[j]? =some a):j<l.length∧a=g (l.getD j d):=by
 induction l generalizing j with
 |nil=>simp [enc] at h
 |cons x l ih=>
  rw [kG,hf] at h
  cases j with
  |zero=>simp at h;exact ⟨by simp,by simp [h]⟩
  |succ j=>
   obtain ⟨h1,h2⟩:=ih (by simpa using h);exact ⟨by simpa using h1,by simpa using h2⟩
theorem uH (hn:ls.length≤24) (hF:Xf ob (fam e2 e3 ls)) (hR:ob 1=.live ⟨enc cK (Vf ls.length),e1,1⟩):VN ob (.sl 1 0 ls.length) (.ro ls.length (enc VQ ls)):=by
 refine .sl 1 0 ls.length _ _ hR (by rw [eO (s:=1) (fun _=>rfl)]) (by show _≤(enc cK (Vf ls.length)).length;rw [eO (s:=1) (fun _=>rfl),AL];show 0+ls.length*1≤_;omega) (fun j a b hx hy=>?_);rw [Nat.zero_add] at hx;obtain ⟨h1,rfl⟩:=agA (g:=EL) (fun _=>rfl) none hx;rw [AL] at h1;obtain ⟨_,rfl⟩:=agA (f:=VQ) (g:=fun x:Lk=>.rp [.v (.int .i64 x.route),.v (.int .i64 x.O_),.v (.int .i64 x.ends),.ro x.pieces.length (enc aI x.pieces)]) (fun _=>rfl) aA hy;rw [J9 h1];exact IW hn hF h1
theorem O9 {l:List (Option Nat)} (h:∀k,some k∈l→k<24):∀c,c∈enc cK l→Ok (fun i=>2≤i∧i<56) True c:=fun c hc=>by
 obtain ⟨q,hq,hc⟩:=List.mem_flatMap.1 (show c∈l.flatMap cK by simpa [enc] using hc);rw [List.mem_singleton.1 hc]
 cases q with
 |none=>exact .v _
 |some k=>have:=h k hq;exact .pt _ _ (by omega)
theorem V2 {n k:Nat} (h:some k∈Vf n):k<n:=by simpa [Vf] using h
end
section
variable {ps:List (Nat×Nat)} {s:St} {l l':List (Option Nat)} {e x y i o:Nat} {ns:List Nat}
theorem Lj {i:Nat} (h:2≤i∧i<56):i∈(ps++dg).map (·.1):=List.mem_map.2 ⟨(i,i),List.mem_append.2 (.inr (acy h.1 h.2)),rfl⟩
theorem Ll (h:∀k,some k∈l→k<24):∀c,c∈enc cK l→Ok (· ∈(ps++dg).map (·.1)) True c:=fun c hc=>(O9 h c hc).mono (fun i hi=>Lj hi) id
theorem Lm (h1:(ps.map (·.1)).Nodup) (hn:(ps.all fun p=>iB p.1&&iB p.2)=true) (h:∀k,some k∈l→k<24):AV.V4 (rn (ps++dg)) (enc cK l)=enc cK l:=acp (O9 h) fun i hi=>QL (Bq hn h1) hi.1 hi.2
theorem jY (hl:s.ob x=.live ⟨enc cK l,e,1⟩) (h1:(ps.map (·.1)).Nodup) (hn:(ps.all fun p=>iB p.1&&iB p.2)=true) {o':aC} (ho:o'=aC.mk (enc cK l) e 1) (h:∀k,some k∈l→k<24):kS (ps++dg) s ((x,y),.live o'):=by
 subst ho;exact ⟨_,hl,by show aC.mk (AV.V4 _ (enc cK l)) e 1=_;rw [Lm h1 hn h],Ll h⟩
theorem rG (h:∀k,some k∈l→k<24):kW ⟨enc cK l,e,1⟩:=jL.low (o:=⟨enc cK l,e,1⟩) (O9 h)
theorem BX (h:∀k,some k∈l→k<24):AV.V4 (Yi ns) (enc cK l)=enc cK l:=acp (O9 h) fun i hi=>nE hi.2
theorem Bl (h:∀k,some k∈l→k<24):aH.map (Yi ns) (.live ⟨enc cK l,e,1⟩)=.live ⟨enc cK l,e,1⟩:=by
 show aH.live (aC.mk (AV.V4 _ (enc cK l)) e 1)=_;rw [BX h]
theorem Ri {e e':Nat→AV} {d i o:Nat} (hd:e d=.pt i o) (h1:(ps.map (·.1)).Nodup) (hn:(ps.all fun p=>iB p.1&&iB p.2)=true) (a:2≤i) (b:i<56) (h:∀t,eG (ps++dg) (e t) (e' t)):∀t,eG (ps++dg) (e t) (upd e' d (.pt i o) t):=
 Kg d _ (by rw [hd];exact .pt _ _ (Lj ⟨a,b⟩)) (by rw [hd];show AV.pt (rn (ps++dg) i) o=_;rw [QL (Bq hn h1) a b]) h
theorem iF {E:VC} {e':Nat→AV} {F:Nat→aC} (ps:List (Nat×Nat)) (qs:List ((Nat×Nat)×aH)) (hF:Xf s.ob F) (hl:∀i,jL (F i)) (hq:nD (ps++dg) s qs) (hk:E.m=0∨(E.m=56∧(0,0)∈ps∧(1,1)∈ps)) (he:∀t,eG (ps++dg) (s.env t) (e' t):=by repeat (first|exact b_|refine sS rfl ?_|refine sM rfl ?_)) (hps:qs.map (·.1)=ps:=by rfl)
  (hn:(ps.all fun p=>iB p.1&&iB p.2)=true:=by rfl) (h1:(ps.map (·.1)).Nodup:=by decide) (h2:(ps.map (·.2)).Nodup:=by decide):Vv E s ⟨e',ZM qs (dn F)⟩:=NW ps qs hF hl hq he hps hn h1 h2 hk
end
section
variable {e2 e3:Nat} {ls:List Lk} {k:Nat} {ob:Nat→aH}
theorem Rq {cs:List AV} (hn:ls.length≤24) (hF:Xf ob (fam e2 e3 ls)) (hk:k<ls.length) (h:dV (fun _=>.free) [.v (.int .i64 (ls.getD k aA).route),.v (.int .i64 (ls.getD k aA).O_),.v (.int .i64 (ls.getD k aA).ends),.ro (ls.getD k aA).pieces.length (enc aI (ls.getD k aA).pieces)] cs):VN ob (.pt (k+8) 0) (.rp cs):=by
 have h1:=hF (k+8) (by omega) (by omega);rw [rH hn hk] at h1;have h2:=hF (k+32) (by omega) (by omega);rw [aa0 hn hk] at h2;refine kI h1 ⟨h.1,fun j a b ha hb=>?_⟩;have hh:=h.2
 match j with
 |0=>simp only [ou,List.getElem?_cons_zero,Option.some.injEq] at ha;subst ha;exact (hh 0 _ b rfl hb).more fun _ _ h=>by cases h
 |1=>simp only [ou,List.getElem?_cons_succ,List.getElem?_cons_zero,Option.some.injEq] at ha;subst ha;exact (hh 1 _ b rfl hb).more fun _ _ h=>by cases h
 |2=>simp only [ou,List.getElem?_cons_succ,List.getElem?_cons_zero,Option.some.injEq] at ha;subst ha;exact (hh 2 _ b rfl hb).more fun _ _ h=>by cases h
 |3=>
  simp only [ou,List.getElem?_cons_succ,List.getElem?_cons_zero,Option.some.injEq] at ha;subst ha;have h4:=hh 3 _ b rfl hb;have hs:=ads (n:=(ls.getD k aA).pieces.length) h2 (by show (enc aI _).length=_;rw [eO (s:=1) (fun _=>rfl)];rfl) ((inferInstance:VB (enc aI (ls.getD k aA).pieces)).out)
  cases h4 with
  |any=>exact .any _
  |one _ h=>exact .one _ rfl
  |same _ h=>exact hs
  |row _ _ cs hlen hr=>
   refine .sl _ _ _ _ cs h2 (by rw [hlen,eO (s:=1) (fun _=>rfl)];rfl) (by show 0+_≤(enc aI _).length;rw [eO (s:=1) (fun _=>rfl)];show 0+_*1≤_;omega) (fun j a b ha hb=>?_);rw [Nat.zero_add] at ha;exact (hr j a b ha hb).more fun _ _ h=>by cases h
 |j+4=>simp [ou] at ha
end
def aa_ (ls:List Lk) (k j:Nat) (v:Int):List Lk:=ls.set k { ls.getD k aA with pieces:=(ls.getD k aA).pieces.set j v }
def dI (ls:List Lk) (k:Nat) (v:Int):List Lk:=ls.set k { ls.getD k aA with ends:=v }
theorem aaV {ls:List Lk} {k m:Nat} {x:Lk} (hk:k<ls.length):(ls.set k x).getD m aA=if m=k then x else ls.getD m aA:=by
 by_cases h:m=k
 ·subst h;rw [if_pos rfl,List.getD_eq_getElem?_getD,List.getElem?_set_self hk];rfl
 ·rw [if_neg h,List.getD_eq_getElem?_getD,List.getElem?_set_ne (fun e=>h e.symm), ←List.getD_eq_getElem?_getD]
section
variable {P:Program} {E:VC} {st:St} {K:St→Prop} {e2 e3:Nat} {ls:List Lk} {k j:Nat} {ob:Nat→aH} {cs:List AV}
theorem QD {off:Nat} (hn:ls.length≤24) (hF:Xf ob (fam e2 e3 ls)) (hk:k<ls.length) (hc: [.v (.int .i64 (ls.getD k aA).route),.v (.int .i64 (ls.getD k aA).O_),.v (.int .i64 (ls.getD k aA).ends),.sl (k+32) 0 (ls.getD k aA).pieces.length].drop off=cs):aB ob (.pt (k+8) off)=some cs:=by
 have h1:=hF (k+8) (by omega) (by omega);rw [rH hn hk] at h1;subst hc;show (match ob (k+8) with| .live o=>some (o.cells.drop off)|_=>none)=_;rw [h1];rfl
theorem Tn {x:Lk} (hn:ls.length≤24) (hk:k<ls.length) (hx:∀q,ou e2 q x=ou e2 q (ls.getD k aA)) {i:Nat} (hi:i≠k+32):fam e2 e3 (ls.set k x) i=fam e2 e3 ls i:=by
 unfold fam;rw [List.length_set];by_cases h:8≤i∧i<8+ls.length
 ·rw [if_pos h,if_pos h,aaV hk]
  split
  ·rename_i e;rw [hx,e]
  ·rfl
 ·rw [if_neg h,if_neg h];by_cases h2:32≤i∧i<32+ls.length
  ·rw [if_pos h2,if_pos h2,aaV hk,if_neg (by omega)]
  ·rw [if_neg h2,if_neg h2]
theorem Tp {x:Lk} (hn:ls.length≤24) (hk:k<ls.length) (hx:x.pieces=(ls.getD k aA).pieces) {i:Nat} (hi:i≠k+8):fam e2 e3 (ls.set k x) i=fam e2 e3 ls i:=by
 unfold fam;rw [List.length_set];by_cases h:8≤i∧i<8+ls.length
 ·rw [if_pos h,if_pos h,aaV hk,if_neg (by omega)]
 ·rw [if_neg h,if_neg h];by_cases h2:32≤i∧i<32+ls.length
  ·rw [if_pos h2,if_pos h2,aaV hk]
   split
   ·rename_i e;unfold Xj;rw [hx,e]
   ·rfl
  ·rw [if_neg h2,if_neg h2]
theorem Rz {F F':Nat→aC} {bI:Nat→aH} {q:Nat} {o:aC} (h2:2≤q∧q<56) (hF:Xf ob F) (hF':Xf bI F') (h0:bI 0=ob 0) (h1:bI 1=ob 1) (hs:∀i,56≤i→bI i=ob i) (he:∀i,i≠q→F' i=F i) (hq:F' q=o):U4 ob q (.live o)=bI:=by
 funext i
 by_cases e:i=q
 ·subst e;rw [V9,hF' i h2.1 h2.2,hq]
 ·rw [VX _ _ e];by_cases e0:i=0
  ·subst e0;exact h0.symm
  by_cases e1:i=1
  ·subst e1;exact h1.symm
  rcases Nat.lt_or_ge i 56 with a|a
  ·rw [hF i (by omega) a,hF' i (by omega) a,he i e]
  ·exact (hs i a).symm
theorem aje {o:Oper} {t:TypeId} {x y:Operand} {v:Int} {bI:Nat→aH} (ho:o.op=.store t x y) (hd:o.dst=none) (hN:(aT E.N x&&aT E.N y)=true) (hsz:(P.info? t).map (·.size)=some 1) (hx:aO st.env x=.pt (k+32) (j*1)) (hF:Xf st.ob (fam e2 e3 ls)) (hn:ls.length≤24) (hk:k<ls.length)
  (hj:j<(ls.getD k aA).pieces.length) (hy:aO st.env y=.v (.int .u8 v)) (hF':Xf bI (fam e2 e3 (aa_ ls k j v))) (h0:bI 0=st.ob 0) (h1:bI 1=st.ob 1) (hs:∀i,56≤i→bI i=st.ob i) (h:K ⟨st.env,bI⟩):Vo P E o st K:=by
 have h2:=hF (k+32) (by omega) (by omega);rw [aa0 hn hk] at h2;refine l9 (f:=aI) (l:=(ls.getD k aA).pieces) v ho hd hN hsz hx h2 rfl hy rfl (fun _=>rfl) hj rfl rfl ?_
 rw [show U4 st.ob (k+32) (.live ⟨enc aI ((ls.getD k aA).pieces.set j v),(Xj e3 (ls.getD k aA)).elem,(Xj e3 (ls.getD k aA)).bC⟩)=bI from Rz ⟨by omega,by omega⟩ hF hF' h0 h1 hs (fun i hi=>Tn hn hk (fun q=>by simp [ou]) hi) (by
  have hl:(aa_ ls k j v).length=ls.length:=List.length_set;rw [aa0 (by rw [hl];exact hn) (by rw [hl];exact hk)];unfold aa_;rw [aaV hk,if_pos rfl];rfl)]
 exact h
theorem SY {o:Oper} {t:TypeId} {x y:Operand} {v:Int} {bI:Nat→aH} (ho:o.op=.store t x y) (hd:o.dst=none) (hN:(aT E.N x&&aT E.N y)=true) (hsz:(P.info? t).map (·.size)=some 1) (hx:aO st.env x=.pt (k+8) 2) (hF:Xf st.ob (fam e2 e3 ls)) (hn:ls.length≤24) (hk:k<ls.length)
  (hy:aO st.env y=.v (.int .i64 v)) (hF':Xf bI (fam e2 e3 (dI ls k v))) (h0:bI 0=st.ob 0) (h1:bI 1=st.ob 1) (hs:∀i,56≤i→bI i=st.ob i) (h:K ⟨st.env,bI⟩):Vo P E o st K:=by
 have h2:=hF (k+8) (by omega) (by omega);rw [rH hn hk] at h2;refine Z_ ho hd hN hsz hx h2 hy (cs:=[.v (.int .i64 v)]) rfl rfl (Nat.le_of_ble_eq_true rfl) rfl rfl ?_;have hl:(dI ls k v).length=ls.length:=List.length_set
 rw [show U4 st.ob (k+8) (.live ⟨_,(ou e2 (k+32) (ls.getD k aA)).elem,(ou e2 (k+32) (ls.getD k aA)).bC⟩)=bI from Rz ⟨by omega,by omega⟩ hF hF' h0 h1 hs (fun i hi=>Tp (x:={ ls.getD k aA with ends:=v }) hn hk rfl hi) (by
  rw [rH (by rw [hl];exact hn) (by rw [hl];exact hk)];unfold dI;rw [aaV hk,if_pos rfl];rfl)]
 exact h
end
end Go.Lo
set_option linter.unusedVariables false
set_option linter.unusedSimpArgs false
namespace Go.Lo
section
variable {secs:List aD} {pts:List aP} {routes:List (List Int)} {parts:List (List Int)}
theorem aj2 (s:Int):fB routes [] s= -1:=rfl
theorem GQ (n:Nat):bV routes [] n n=List.replicate n false:=by
 unfold bV;rw [Nat.sub_self,List.replicate_zero,List.append_nil,List.eq_replicate_iff];refine ⟨by simp,fun b hb=>?_⟩;obtain ⟨i,_,rfl⟩:=List.mem_map.1 hb;rfl
theorem Bt {k:Nat} (hL:rQ secs parts pts routes) (hk:k<routes.length):∀s,s∈Vg routes (k:Int)→0≤s∧s<(secs.length:Int):=fun s hs=>by
 unfold Vg at hs;rw [Int.toNat_natCast] at hs;exact hL.hrs _ (VR [] hk) s (List.mem_of_mem_drop hs)
theorem Lv {k:Nat} (hk:k<routes.length):Wh routes (k:Int)=true:=by unfold Wh;rw [Bool.and_eq_true];exact ⟨decide_eq_true (by omega),decide_eq_true (by omega)⟩
theorem GR {k n:Nat} (h:∀s,s∈Vg routes (k:Int)→0≤s∧s<(n:Int)):(!((Vg routes (k:Int)).any (fK routes [] (List.replicate n 0))))=true:=by
 cases hq:(Vg routes (k:Int)).any (fK routes [] (List.replicate n 0)) with
 |false=>rfl
 |true=>
  obtain ⟨s,hs,h2⟩:=List.any_eq_true.1 hq;have h3:=h s hs;unfold fK at h2;rw [List.length_replicate,Hy,aj2,decide_eq_false (by omega)] at h2
  cases h2
theorem aj3 {k:Nat} (hg:aa4 secs.length pts (Vh secs pts (routes.getD k []))=true):
  (bF (Vh secs pts (routes.getD (k:Int).toNat [])) []).any (Xm pts (List.replicate secs.length 0) [] (bV routes [] secs.length secs.length) (List.replicate pts.length false))=false:=by
 rw [Int.toNat_natCast]
 cases hq:(bF (Vh secs pts (routes.getD k [])) []).any (Xm pts (List.replicate secs.length 0) [] (bV routes [] secs.length secs.length) (List.replicate pts.length false)) with
 |false=>rfl
 |true=>
  obtain ⟨z,hz,hz2⟩:=List.any_eq_true.1 hq;unfold aa4 at hg;rw [Bool.and_eq_true] at hg;have h2:=List.all_eq_true.1 hg.2 z (List.mem_filter.1 hz).1;unfold Xm at hz2;rw [GQ,h2] at hz2
  cases hz2
theorem IJ {r:Int} (hL:rQ secs parts pts routes) (hT:fC secs pts=true) (hc:YY secs pts=true) (hw:nJ secs pts routes) (hnd:∀x,x∈routes→x.Nodup) (h0:0≤r∧r<(routes.length:Int)):
  Wh routes r=true∧(2≤(routes.getD r.toNat []).length∧(routes.getD r.toNat []).length≤8)∧(routes.getD r.toNat []).Nodup∧(∀s,s∈Vg routes r→0≤s∧s<(secs.length:Int))∧
  (!((Vg routes r).any (fK routes [] (List.replicate secs.length 0))))=true∧
  (bF (Vh secs pts (routes.getD r.toNat [])) []).any (Xm pts (List.replicate secs.length 0) [] (bV routes [] secs.length secs.length) (List.replicate pts.length false))=false:=by
 obtain ⟨k,rfl⟩:=Int.eq_ofNat_of_zero_le h0.1;have hk:k<routes.length:=by omega
 have hp:routes.getD k []∈routes:=VR [] hk;have h8:=aeW (hnd _ hp) (hL.hrs _ hp);have hs:=hL.hs;exact ⟨Lv hk,⟨(hL.hrl _ hp).1,by show (routes.getD k []).length≤8;omega⟩,hnd _ hp,Bt hL hk,GR (Bt hL hk),aj3 (FL hT hc hw hnd hL hp)⟩
end
def WZ:List (List Int):=[[0,1]]
theorem IG:(!((Vg WZ 0).any (fK WZ [] [0,0,0])))=true:=by decide+kernel
theorem JQ:(bF (Vh (VI 0 0) (bE 0) (WZ.getD (0:Int).toNat [])) []).any (Xm (bE 0) [0,0,0] [] (bV WZ [] (VI 0 0).length (VI 0 0).length) (List.replicate (bE 0).length false))=false:=by decide+kernel
theorem AB:∀s:Int,0≤s→s<((3:Nat):Int)→0≤dG (V8 0 0) s∧dG (V8 0 0) s<((3:Nat):Int):=by
 intro s h1 h2;have:s=0∨s=1∨s=2:=by omega
 rcases this with rfl|rfl|rfl<;>decide+kernel
abbrev iV:List Int:=bQ WZ (V8 0 0) [0,1,0] [-2,3, -2] 1 0 3 (-1) (List.replicate (Vg WZ 0).length 1) (List.replicate (Vg WZ 0).length (1:Int)).length
theorem M5:(iV.any fun b=>b != 0)=true:=by decide+kernel
theorem M6:((bQ WZ (V8 0 0) [0,0,0] [-2, -2, -2] 2 0 3 (-1) iV iV.length).any fun b=>b != 0)=false:=by decide+kernel
end Go.Lo
set_option linter.unusedVariables false
set_option linter.unusedSimpArgs false
namespace Go.Lo
def YX (cn now:Int) (i:Nat) (ls:List Lk):List Lk:=if (ls.getD i aA).ends<0 then dI ls i (now+cn) else ls
section
variable {cn now:Int} {i:Nat} {ls:List Lk}
theorem TP (h:(ls.getD i aA).ends<0):dI ls i (now+cn)=YX cn now i ls:=by unfold YX;rw [if_pos h]
theorem TQ (h:¬(ls.getD i aA).ends<0):ls=YX cn now i ls:=by unfold YX;rw [if_neg h]
theorem adg:(YX cn now i ls).length=ls.length:=by unfold YX;split<;>simp [dI]
end
def kr (ls:List Lk):Option Nat→Bool
 |some k=>iA (ls.getD k aA)
 |none=>false
theorem aci {α:Type} (f:α→Bool):∀(l:List α) (k:Nat),idxFrom f k l=idxFrom (fun b:Bool=>b) k (l.map f)
 | [],_=>rfl
 |x::l,k=>by
  simp only [idxFrom,List.map_cons];rw [aci f l]
section
variable {ls:List Lk}
theorem akA:ls.map iA=(Vf ls.length).map (kr ls):=by
 refine List.ext_getElem (by simp [Vf]) (fun i h1 h2=>?_);simp at h1;simp [Vf,kr,h1]
theorem TS:bX iA ls=bX (kr ls) (Vf ls.length):=by
 unfold bX;rw [aci,aci (kr ls),akA]
end
section
variable {α:Type} (f:α→Bool) {l:List α}
theorem Ro:∀(xs:List α) (s:List α×Nat),(∀x,x∈xs→x∈l)→(∀x,x∈s.1→x∈l)→∀x,x∈(xs.foldl (stepG f) s).1→x∈l
 | [],s,_,h,x,hx=>h x hx
 |y::xs,s,hy,h,x,hx=>by
  refine Ro xs (stepG f s y) (fun z hz=>hy z (List.mem_cons_of_mem _ hz)) (fun z hz=>?_) x hx;unfold stepG at hz
  split at hz
  ·exact h z hz
  ·rcases List.mem_or_eq_of_mem_set hz with h1|h1
   ·exact h z h1
   ·subst h1;exact hy _ (List.mem_cons_self ..)
theorem Tq {j:Nat} {x:α} (h:x∈(bG f l j).1):x∈l:=Ro f (l.take j) (l,0) (fun y hy=>List.mem_of_mem_take hy) (fun _ h=>h) x h
end
theorem TR {f:Option Nat→Bool} {n:Nat} (hn:n≤16) (j:Nat):∀k,some k∈(bG f (Vf n) j).1→k<24:=fun k h=>by
 have:=V2 (Tq f h);omega
theorem IL {f:Option Nat→Bool} {n m:Nat} (hn:n≤16):∀k,some k∈VE f (Vf n)++List.replicate m none→k<24:=fun k h=>by
 rcases List.mem_append.1 h with h|h
 ·have:=V2 ((List.mem_filter.1 h).1);omega
 ·simp at h
section
variable (routes parts:List (List Int)) (Ve ow:List Int) (now:Int)
def trn (x:Lk) (j:Nat):Lk:=⟨x.route,x.O_,x.ends,bQ routes parts Ve ow now x.route x.O_ x.ends x.pieces j⟩
def ZT (ls:List Lk) (k j i:Nat):Lk:=if i<k then trn routes parts Ve ow now (ls.getD i aA) (ls.getD i aA).pieces.length else if i=k then trn routes parts Ve ow now (ls.getD i aA) j else ls.getD i aA
def Wj (ls:List Lk) (k j:Nat):List Lk:=(List.range ls.length).map (ZT routes parts Ve ow now ls k j)
end
section
variable {routes parts:List (List Int)} {Ve ow:List Int} {now:Int} {ls:List Lk} {k j i:Nat}
theorem Xi:(Wj routes parts Ve ow now ls k j).length=ls.length:=by simp [Wj]
theorem fq (h:i<ls.length):(Wj routes parts Ve ow now ls k j).getD i aA=ZT routes parts Ve ow now ls k j i:=by simp [Wj,h]
theorem adB {l1 l2:List Lk} (hl:l1.length=l2.length) (h:∀i,i<l1.length→l1.getD i aA=l2.getD i aA):l1=l2:=by
 refine List.ext_getElem hl (fun i h1 h2=>?_);have:=h i h1;simpa [h1,h2] using this
theorem RQ (x:Lk):trn routes parts Ve ow now x 0=x:=rfl
theorem T9:Wj routes parts Ve ow now ls 0 0=ls:=by
 refine adB Xi (fun i hi=>?_);rw [Xi] at hi;rw [fq hi];unfold ZT;rw [if_neg (by omega)]
 split
 ·exact RQ _
 ·rfl
theorem QJ (h:k<ls.length):(Wj routes parts Ve ow now ls k j).getD k aA=trn routes parts Ve ow now (ls.getD k aA) j:=by
 rw [fq h];unfold ZT;rw [if_neg (by omega),if_pos rfl]
theorem Tt (h:j=(ls.getD k aA).pieces.length):Wj routes parts Ve ow now ls k j=Wj routes parts Ve ow now ls (k+1) 0:=by
 subst h;refine adB (by rw [Xi,Xi]) (fun i hi=>?_);rw [Xi] at hi;rw [fq hi,fq hi];unfold ZT;by_cases h1:i<k
 ·rw [if_pos h1,if_pos (by omega)]
 ·rw [if_neg h1];by_cases h2:i=k
  ·subst h2;rw [if_pos rfl,if_pos (by omega)]
  ·rw [if_neg h2,if_neg (by omega)]
   split
   ·exact (RQ _).symm
   ·rfl
theorem TT (h:k<ls.length):aa_ (Wj routes parts Ve ow now ls k j) k j (W5 routes parts Ve ow now ⟨((Wj routes parts Ve ow now ls k j).getD k aA).route,((Wj routes parts Ve ow now ls k j).getD k aA).O_,((Wj routes parts Ve ow now ls k j).getD k aA).ends,((Wj routes parts Ve ow now ls k j).getD k aA).pieces⟩ j)=Wj routes parts Ve ow now ls k (j+1):=by
 have hk:k<(Wj routes parts Ve ow now ls k j).length:=by rw [Xi];exact h
 unfold aa_;rw [QJ h];refine adB (by rw [List.length_set,Xi,Xi]) (fun i hi=>?_);rw [List.length_set,Xi] at hi;rw [aaV hk,show (Wj routes parts Ve ow now ls k (j+1)).getD i aA=ZT routes parts Ve ow now ls k (j+1) i from fq hi];by_cases h1:i=k
 ·rw [if_pos h1,h1];unfold ZT;rw [if_neg (by omega),if_pos rfl];rfl
 ·rw [if_neg h1,show (Wj routes parts Ve ow now ls k j).getD i aA=ZT routes parts Ve ow now ls k j i from fq hi];unfold ZT;rw [if_neg h1,if_neg h1]
def jv (routes parts:List (List Int)) (Ve ow:List Int) (now:Int) (ls:List Lk):List Lk:=ls.map fun x=>trn routes parts Ve ow now x x.pieces.length
theorem TU (h:k=ls.length):Wj routes parts Ve ow now ls k 0=jv routes parts Ve ow now ls:=by
 subst h;refine adB (by rw [Xi];simp [jv]) (fun i hi=>?_);rw [Xi] at hi;rw [fq hi];unfold ZT;rw [if_pos hi];simp [jv,hi]
theorem WK:(jv routes parts Ve ow now ls).length=ls.length:=by simp [jv]
theorem Rs {x:Lk}:(trn routes parts Ve ow now x j).pieces.length=x.pieces.length:=abH j
theorem aj_ {x:Lk} (h:x∈jv routes parts Ve ow now ls):∃y,y∈ls∧x=trn routes parts Ve ow now y y.pieces.length:=by
 obtain ⟨y,h1,h2⟩:=List.mem_map.1 h;exact ⟨y,h1,h2.symm⟩
end
def d9 (secs:List aD) (pts:List aP) (path:List Int) (i:Nat):List Need:=(Vh secs pts (path.take (i+2))).drop (min (Vh secs pts (path.take (i+1))).length (Vh secs pts (path.take (i+2))).length)
def Xn (secs:List aD) (pts:List aP) (path ps:List Int) (out:List Bool):Nat→List Bool
 |0=>out
 |k+1=>if skB ps k then Xn secs pts path ps out k else hN (d9 secs pts path k) (Xn secs pts path ps out k) (d9 secs pts path k).length
def Xg (secs:List aD) (pts:List aP) (routes:List (List Int)) (ls:List Lk):Nat→List Bool
 |0=>List.replicate pts.length false
 |i+1=>Xn secs pts (routes.getD (ls.getD i aA).route.toNat []) (ls.getD i aA).pieces (Xg secs pts routes ls i) (ls.getD i aA).pieces.length
def VF (secs:List aD) (pts:List aP) (routes:List (List Int)) (ls:List Lk):List Bool:=Xg secs pts routes ls ls.length
section
variable {secs:List aD} {pts:List aP} {path ps:List Int} {routes:List (List Int)} {ls:List Lk} {out:List Bool} {k:Nat}
theorem ado:∀k,(Xn secs pts path ps out k).length=out.length
 |0=>rfl
 |k+1=>by
  unfold Xn;split
  ·exact ado k
  ·rw [o_,ado k]
theorem uV:∀i,(Xg secs pts routes ls i).length=pts.length
 |0=>List.length_replicate
 |i+1=>by show (Xn _ _ _ _ _ _).length=_;rw [ado,uV i]
theorem abz:(VF secs pts routes ls).length=pts.length:=uV _
theorem akB (h:skB ps k=true):Xn secs pts path ps out (k+1)=Xn secs pts path ps out k:=by
 conv=>lhs;unfold Xn
 rw [if_pos h]
theorem akC (h:skB ps k=false):Xn secs pts path ps out (k+1)=hN (d9 secs pts path k) (Xn secs pts path ps out k) (d9 secs pts path k).length:=by
 conv=>lhs;unfold Xn
 rw [if_neg (by rw [h];exact Bool.false_ne_true)]
theorem HZ (h:∀i,i<k→d9 secs pts path i=stD secs pts path i):Xn secs pts path ps out k=hK secs pts path ps out k:=by
 induction k with
 |zero=>rfl
 |succ k ih=>
  have e:=ih fun i hi=>h i (by omega);unfold Xn hK;rw [e,h k (by omega)]
theorem GH (h:∀i,i<ls.length→∀k,k<(ls.getD i aA).pieces.length→d9 secs pts (routes.getD (ls.getD i aA).route.toNat []) k=stD secs pts (routes.getD (ls.getD i aA).route.toNat []) k):VF secs pts routes ls=Xu secs pts routes ls:=by
 have:∀i,i≤ls.length→Xg secs pts routes ls i=hI secs pts routes ls i:=by
  intro i
  induction i with
  |zero=>intro _;rfl
  |succ i ih=>
   intro hi;unfold Xg hI;rw [ih (by omega),HZ (h i (by omega))]
 exact this _ (Nat.le_refl _)
theorem ajD {z:Need} (hz:z∈d9 secs pts path k):0≤z.point∧z.point<(pts.length:Int):=Ja (List.mem_of_mem_drop hz)
theorem ajC:(d9 secs pts path k).length≤path.length:=by
 have h:=abG (secs:=secs) (pts:=pts) (path:=path.take (k+2));unfold d9;rw [List.length_drop];rw [List.length_take] at h;omega
end
end Go.Lo
set_option linter.unusedVariables false
set_option linter.unusedSimpArgs false
namespace Go.Lo
def spL (x:Act) (n k:Nat):List Int:=(x.sp.take k).map fun y=>y % (n:Int)
theorem Rx {x:Act} {n k:Nat} (h:k≤x.sp.length):(spL x n k).length=k:=by simp [spL];omega
theorem Jd {l:List Int} (hnd:l.Nodup) {i j:Nat} (hi:i<l.length) (hj:j<l.length) (e:l.getD i 0=l.getD j 0):i=j:=by
 have e1:l[i]=l[j]:=by simpa [hi,hj] using e
 exact (List.getElem_inj (h₀:=hi) (h₁:=hj) hnd).1 e1
section
variable {routes:List (List Int)} {ls:List Lk} {x:Lk} {s:Int}
theorem Je (hx:gP routes x) (hnd:(routes.getD x.route.toNat []).Nodup):YZ routes s x=jk routes s x:=by
 have hps:=hx.ps;have hpl:=mg (routes:=routes) (r:=x.route);have hat:∀j,(Vg routes x.route).getD j 0=(routes.getD x.route.toNat []).getD (j+1) 0:=fun j=>by unfold Vg;simp [List.getD_eq_getElem?_getD,Nat.add_comm]
 unfold YZ jk vZ;by_cases h:fZ routes s x= -1
 ·rw [h];rw [show decide ((-1:Int)≥0)=false from rfl,Bool.false_and];symm;rw [List.any_eq_false];intro j hj;have hj:=List.mem_range.1 hj;have hno:=any_none (fun y=>decide (s=y)) 0 h;unfold pcB;intro h2;rw [Bool.and_eq_true,decide_eq_true_eq] at h2;have h3:=List.any_eq_false.1 hno _ (VR (l:=Vg routes x.route) (k:=j) 0 (by omega));rw [hat] at h3;exact h3 (by simpa using h2.1.symm)
 ·obtain ⟨p,h1,h2,h3,h4⟩:=oC 0 h;rw [show fZ routes s x=(p:Int) from h1,Int.toNat_natCast,decide_eq_true (by omega:(p:Int)≥0),Bool.true_and];have hs:s=(routes.getD x.route.toNat []).getD (p+1) 0:=by have:=of_decide_eq_true h4;rw [hat] at this;exact this
  cases hb:(x.pieces.getD p 0 != 0) with
  |true=>
   symm;rw [List.any_eq_true];refine ⟨p,List.mem_range.2 (by omega),?_⟩;unfold pcB;rw [hs];simpa using hb
  |false=>
   symm;rw [List.any_eq_false];intro j hj h5;have hj:=List.mem_range.1 hj;unfold pcB at h5;rw [Bool.and_eq_true,decide_eq_true_eq,decide_eq_true_eq] at h5
   have hjp:j=p:=by
    have hj1:j+1<(routes.getD x.route.toNat []).length:=by omega
    have hp1:p+1<(routes.getD x.route.toNat []).length:=by omega
    have:=Jd hnd hj1 hp1 (h5.1.trans hs);omega
   subst hjp;have:x.pieces.getD j 0=0:=by simpa using hb
   exact h5.2 this
theorem Hu (hlk:∀x,x∈ls→gP routes x) (hnd:∀x,x∈routes→x.Nodup) (s:Int):fB routes ls s=jZ routes ls s:=by
 have:ls.map (YZ routes s)=ls.map (jk routes s):=List.map_congr_left fun x hx=>by
  have hp:=hlk x hx;refine Je hp (hnd _ (VR [] ?_));have:=hp.r;omega
 have e:bX (YZ routes s) ls=bX (jk routes s) ls:=by
  unfold bX;rw [aci,aci (jk routes s),this]
 unfold fB jZ;rw [e]
theorem GK {n:Nat} (hw:∀s,fB routes ls s=jZ routes ls s):bV routes ls n n=Yq routes ls n:=by
 unfold bV Yq;rw [Nat.sub_self];simp;intro i _;unfold wJ C_;rw [hw]
end
end Go.Lo
set_option linter.unusedVariables false
set_option linter.unusedSimpArgs false
namespace Go.Lo
theorem yg {f g:Nat→aH} {n:Nat} (hn:g n=.free) (h:∀i,56≤i→f i=g i):∀i,56≤i→f i=U4 g n .free i:=fun i hi=>by
 by_cases e:i=n
 ·subst e;rw [V9,h i hi,hn]
 ·rw [VX _ _ e,h i hi]
section
variable {secs:List aD} {pts:List aP} {routes:List (List Int)} {ls:List Lk} {r:Int} {Ve:List Int} {views:List View} {right:List Bool}
theorem RI (h:Wh routes r=false):r<0∨r≥(routes.length:Int):=by
 unfold Wh at h;by_cases h1:r≥0
 ·rw [decide_eq_true h1,Bool.true_and,decide_eq_false_iff_not] at h;omega
 ·omega
theorem acu (h:Wh routes r=true):0≤r∧r<(routes.length:Int):=by
 unfold Wh at h;rw [Bool.and_eq_true,decide_eq_true_eq,decide_eq_true_eq] at h;omega
theorem Rp (hw:∀s,fB routes ls s=jZ routes ls s):(Vg routes r).any (fK routes ls Ve)=vR routes ls Ve (routes.getD r.toNat []) ((routes.getD r.toNat []).length-1):=by
 have h:Vg routes r=(List.range ((routes.getD r.toNat []).length-1)).map fun k=>(routes.getD r.toNat []).getD (k+1) 0:=by
  refine List.ext_getElem (by simp [Vg]) (fun i h1 h2=>?_);simp [Vg] at h1 ⊢;have:i+1<(routes[r.toNat]?.getD []).length:=by omega
  simp [this,Nat.add_comm]
 unfold vR;rw [h,List.any_map]
 congr 1
 funext k
 show fK routes ls Ve ((routes.getD r.toNat []).getD (k+1) 0)=_;unfold fK rR;rw [hw]
theorem RA {n:Nat} (hw:∀s,fB routes ls s=jZ routes ls s) (hh:VF secs pts routes ls=Xu secs pts routes ls):Xm pts Ve views (bV routes ls secs.length secs.length) (VF secs pts routes ls)=aaC secs pts routes ls Ve views:=by
 funext z
 unfold Xm aaC;rw [GK hw,hh]
theorem ajg (hw:∀s,fB routes ls s=jZ routes ls s) (hh:VF secs pts routes ls=Xu secs pts routes ls) (h:¬Wa secs pts routes ls r Ve views right=0):
  (Wa secs pts routes ls r Ve views right=7∧Wh routes r=false)∨
  (Wa secs pts routes ls r Ve views right=8∧Wh routes r=true∧¬bX (fun x:Lk=>decide (x.route=r)) ls<0)∨
  (Wa secs pts routes ls r Ve views right=9∧Wh routes r=true∧bX (fun x:Lk=>decide (x.route=r)) ls<0∧(Vg routes r).any (fK routes ls Ve)=true)∨
  (Wa secs pts routes ls r Ve views right=9∧Wh routes r=true∧bX (fun x:Lk=>decide (x.route=r)) ls<0∧(Vg routes r).any (fK routes ls Ve)=false∧(bF (Vh secs pts (routes.getD r.toNat [])) right).any (Xm pts Ve views (bV routes ls secs.length secs.length) (VF secs pts routes ls))=true):=by
 rw [RA (n:=0) hw hh,Rp hw]
 cases h1:Wh routes r with
 |false=>
  have:=RI h1;exact .inl ⟨by unfold Wa;rw [if_pos this],rfl⟩
 |true=>
  have hr:=acu h1;by_cases h2:jd ls r≥0
  ·exact .inr (.inl ⟨Uq hr h2,rfl,show ¬jd ls r<0 by omega⟩)
  ·have h2':bX (fun x:Lk=>decide (x.route=r)) ls<0:=show jd ls r<0 by omega
   cases h3:vR routes ls Ve (routes.getD r.toNat []) ((routes.getD r.toNat []).length-1) with
   |true=>exact .inr (.inr (.inl ⟨Ur hr h2 h3,rfl,h2',rfl⟩))
   |false=>
    cases h4:(bF (Vh secs pts (routes.getD r.toNat [])) right).any (aaC secs pts routes ls Ve views) with
    |true=>exact .inr (.inr (.inr ⟨akz hr h2 h3 h4,rfl,h2',rfl,rfl⟩))
    |false=>exact absurd (Us hr h2 h3 h4) h
theorem ajh (hw:∀s,fB routes ls s=jZ routes ls s) (hh:VF secs pts routes ls=Xu secs pts routes ls) (h:Wa secs pts routes ls r Ve views right=0):
  Wh routes r=true∧bX (fun x:Lk=>decide (x.route=r)) ls<0∧(Vg routes r).any (fK routes ls Ve)=false∧(bF (Vh secs pts (routes.getD r.toNat [])) right).any (Xm pts Ve views (bV routes ls secs.length secs.length) (VF secs pts routes ls))=false:=by
 rw [RA (n:=0) hw hh,Rp hw];unfold Wa at h;by_cases h1:r<0∨r≥(routes.length:Int)
 ·rw [if_pos h1] at h;exact absurd h (by decide)
 rw [if_neg h1] at h;by_cases h2:jd ls r≥0
 ·rw [if_pos h2] at h;exact absurd h (by decide)
 rw [if_neg h2] at h;have h2':jd ls r<0:=by omega
 refine ⟨by unfold Wh;rw [decide_eq_true (by omega),decide_eq_true (by omega)];rfl,h2',?_⟩
 cases h3:vR routes ls Ve (routes.getD r.toNat []) ((routes.getD r.toNat []).length-1) with
 |true=>rw [if_pos h3] at h;exact absurd h (by decide)
 |false=>
  rw [if_neg (by rw [h3];exact Bool.false_ne_true)] at h
  cases h4:(bF (Vh secs pts (routes.getD r.toNat [])) right).any (aaC secs pts routes ls Ve views) with
  |true=>rw [if_pos h4] at h;exact absurd h (by decide)
  |false=>exact ⟨rfl,rfl⟩
theorem ajF {cn now:Int} (hen:∀x,x∈ls→ -1≤x.ends) (h:Wz routes ls r=0):YX cn now (bX (fun x:Lk=>decide (x.route=r)) ls).toNat ls=iP routes ls r (now+cn):=by
 have hf:¬jd ls r<0:=by
  intro h2;unfold Wz at h
  split at h
  ·exact absurd h (by decide)
  ·first|exact absurd h (by decide)|(rw [if_pos h2] at h;exact absurd h (by decide))
 rw [Qw h];show YX cn now (jd ls r).toNat ls=_;obtain ⟨p,h1,h2,_,_⟩:=oC aA (show ¬bX (fun x:Lk=>decide (x.route=r)) ls= -1 from fun e=>hf (by show bX _ ls<0;rw [e];decide));have hp:(jd ls r).toNat=p:=by show (bX _ ls).toNat=p;rw [h1];rfl
 rw [hp];have he:=hen _ (VR (l:=ls) (k:=p) aA h2);unfold YX Yg;by_cases h3:(ls.getD p aA).ends<0
 ·rw [if_pos h3,if_pos (by omega)];rfl
 ·rw [if_neg h3,if_neg (by omega)];exact (set_self aA ls p).symm
theorem ako (h:Wz routes ls r=0):Wh routes r=true∧¬bX (fun x:Lk=>decide (x.route=r)) ls<0:=by
 unfold Wz at h
 split at h
 ·exact absurd h (by decide)
 ·rename_i h1
  split at h
  ·exact absurd h (by decide)
  ·rename_i h2;exact ⟨by unfold Wh;rw [decide_eq_true (by omega),decide_eq_true (by omega)];rfl,h2⟩
theorem akp (h:¬Wz routes ls r=0):(Wz routes ls r=7∧Wh routes r=false)∨(Wz routes ls r=8∧Wh routes r=true∧bX (fun x:Lk=>decide (x.route=r)) ls<0):=by
 cases h1:Wh routes r with
 |false=>have:=RI h1;exact .inl ⟨by unfold Wz;rw [if_pos this],rfl⟩
 |true=>
  have hr:=acu h1;by_cases h2:jd ls r<0
  ·exact .inr ⟨RJ hr h2,rfl,h2⟩
  ·exact absurd (QK hr h2) h
end
section
variable {routes parts:List (List Int)} {Ve ow:List Int} {now:Int} {x:Lk} {ls:List Lk}
theorem aj4 (hen: -1≤x.ends) {ps:List Int} {k:Nat} (hs:oq ⟨routes,parts,now,Ve,ow⟩ x k=(Vg routes x.route).getD k 0):
  mY ⟨routes,parts,now,Ve,ow⟩ x (oq ⟨routes,parts,now,Ve,ow⟩ x k) (ps.getD k 0) ((ps.take k).any fun b=>b != 0)=W5 routes parts Ve ow now ⟨x.route,x.O_,x.ends,ps⟩ k:=by
 rw [hs];unfold mY yh XP Xc W5;simp only;generalize (Vg routes x.route).getD k 0=s;generalize ps.getD k 0=p;generalize ((ps.take k).any fun b=>b != 0)=left;generalize hst:Ve.getD s.toNat 0=v;generalize ow.getD (dG parts s).toNat 0=o;by_cases h2:p=2
 ·subst h2
  cases left<;>by_cases hv:v=0<;>simp [hv]
 ·by_cases h1:p=1
  ·subst h1;by_cases hv1:v=1
   ·subst hv1;by_cases ho:o=x.O_<;>simp [ho]
   ·by_cases hv0:v=0
    ·subst hv0;by_cases he:x.ends= -1
     ·simp [he]
     ·have:0≤x.ends:=by omega
      by_cases hn:x.ends≤now<;>simp [he,hn,this]
    ·simp [hv0,hv1]
  ·simp [h1,h2]
theorem aeQ (hx:gP routes x) (hen: -1≤x.ends):∀k,k≤x.pieces.length→fM ⟨routes,parts,now,Ve,ow⟩ x k=(bQ routes parts Ve ow now x.route x.O_ x.ends x.pieces k,((bQ routes parts Ve ow now x.route x.O_ x.ends x.pieces k).take k).any fun b=>b != 0)
 |0,_=>rfl
 |k+1,h=>by
  have ih:=aeQ hx hen k (by omega)
  have hs:oq ⟨routes,parts,now,Ve,ow⟩ x k=(Vg routes x.route).getD k 0:=by
   show (routes.getD x.route.toNat []).getD (k+1) 0=((routes.getD x.route.toNat []).drop 1).getD k 0;simp [List.getD_eq_getElem?_getD,Nat.add_comm]
  have hv:=aj4 (routes:=routes) (parts:=parts) (Ve:=Ve) (ow:=ow) (now:=now) (x:=x) hen (ps:=bQ routes parts Ve ow now x.route x.O_ x.ends x.pieces k) (k:=k) hs;have hl:k<(bQ routes parts Ve ow now x.route x.O_ x.ends x.pieces k).length:=by rw [abH];omega
  unfold fM;rw [ih];simp only;rw [hv];refine Prod.ext rfl ?_;show _=(((bQ routes parts Ve ow now x.route x.O_ x.ends x.pieces k).set k _).take (k+1)).any _;rw [List.take_add_one,List.take_set_of_le (Nat.le_refl _),List.getElem?_set_self hl,List.any_append];simp
theorem Gv (hlk:∀x,x∈ls→gP routes x) (hen:∀x,x∈ls→ -1≤x.ends):j5 ⟨routes,parts,now,Ve,ow⟩ ls=(jv routes parts Ve ow now ls).filter fun x=> !iA x:=by
 unfold j5 jv;rw [List.filter_map]
 have h1:∀x,x∈ls→Y3 ⟨routes,parts,now,Ve,ow⟩ x=((fun x=> !iA x)∘fun x=>trn routes parts Ve ow now x x.pieces.length) x:=fun x hx=>by
  unfold Y3;rw [aeQ (hlk x hx) (hen x hx) _ (Nat.le_refl _)];show _= !(!((bQ routes parts Ve ow now x.route x.O_ x.ends x.pieces x.pieces.length).any _));rw [Bool.not_not,List.take_of_length_le (by rw [abH];exact Nat.le_refl _)]
 rw [List.filter_congr h1];refine List.map_congr_left fun x hx=>?_;have hx:=(List.mem_filter.1 hx).1;unfold tuX trn;rw [aeQ (hlk x hx) (hen x hx) _ (Nat.le_refl _)]
end
theorem RG (x:Act) (n:Nat):(Qf x n).length≤n:=by
 unfold Qf
 split
 ·rw [List.length_take];omega
 ·omega
end Go.Lo
