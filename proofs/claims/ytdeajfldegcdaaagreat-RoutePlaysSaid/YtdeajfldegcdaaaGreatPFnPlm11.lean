/- Part of the logic of values: what the law reaches. -/
import Derived.Test.YtdeajfldegcdaaaGreatPFnPlm10
import Derived.Test.YtdeajfldegcdaaaGreatPFnPlm9
set_option linter.unusedVariables false
set_option linter.unusedSimpArgs false
namespace Go.Lo
def t5:ay:=⟨[],0,1⟩
def cA (F:Nat→ay):Nat→aK:=fun i=>cond (Nat.ble 2 i&&Nat.ble i 55) (.live (F i)) .free
def r5 (F:Nat→ay):List ay:=(List.range 54).map fun i=>F (i+2)
def fN (T R:ay) (F:Nat→ay):List ay:=T::R::r5 F
def fp (T R:aK) (F:Nat→ay) (new:List aK):List aK:=T::R::((r5 F).map .live++new)
def gK (ob:Nat→aK) (F:Nat→ay):Prop:=∀i,2≤i→i<56→ob i=.live (F i)
def nX (o:ay):Prop:=∀c,c∈o.cells→Ok (· <56) True c
def mD (o:ay):Prop:=∀c,c∈o.cells→Ok (fun i=>2≤i∧i<56) True c
theorem mD.low {o:ay} (h:mD o):nX o:=fun c hc=>(h c hc).mono (fun i hi=>hi.2) id
section
variable {F F':Nat→ay} {T R T' R':aK} {new:List aK} {i n:Nat} {f:Nat→aK} {x:aK}
theorem vZ (a:2≤i) (b:i<56):cA F i=.live (F i):=by
 unfold cA;rw [Nat.ble_eq_true_of_le a,Nat.ble_eq_true_of_le (show i≤55 by omega)];rfl
theorem rq (h:i<2∨56≤i):cA F i=.free:=by
 unfold cA
 have:(Nat.ble 2 i&&Nat.ble i 55)=false:=by
  cases hb:(Nat.ble 2 i&&Nat.ble i 55) with
  |false=>rfl
  |true=>
   rw [Bool.and_eq_true] at hb;have h1:=Nat.le_of_ble_eq_true hb.1;have h2:=Nat.le_of_ble_eq_true hb.2;omega
 rw [this];rfl
theorem fb:gK (cA F) F:=fun i a b=>vZ a b
theorem fo (h:(Nat.ble n 1||Nat.ble 56 n)=true) (hf:gK f F):gK (ah f n x) F:=fun i a b=>by
 rw [dJ _ _ (fun e=>?_)]
 ·exact hf i a b
 ·subst e;rw [Bool.or_eq_true] at h;rcases h with h|h
  ·have:=Nat.le_of_ble_eq_true h;omega
  ·have:=Nat.le_of_ble_eq_true h;omega
theorem ru:(r5 F).length=54:=by simp [r5]
theorem v2:(fp T R F new).length=56+new.length:=by simp [fp,ru];omega
theorem Bh:(fp T R F new)[i]? =if i=0 then some T else if i=1 then some R else if i<56 then some (.live (F i)) else new[i-56]? :=by
 unfold fp
 match i with
 |0=>rfl
 |1=>rfl
 |i+2=>
  rw [List.getElem?_cons_succ,List.getElem?_cons_succ,if_neg (by omega),if_neg (by omega)];by_cases h:i+2<56
  ·rw [if_pos h,List.getElem?_append_left (by simp [ru];omega)];simp [r5];exact ⟨i,by rw [List.getElem?_range (by omega)],rfl⟩
  ·rw [if_neg h,List.getElem?_append_right (by simp [ru];omega)];simp [ru]
theorem Sc:fU 0 (fp T R F new) aG i=if i=0 then T else if i=1 then R else if i<56 then .live (F i) else (new[i-56]?).getD .free:=by
 rw [rD,v2,Nat.sub_zero,Bh];by_cases h:0≤i∧i<0+(56+new.length)
 ·rw [if_pos h];by_cases h0:i=0
  ·rw [if_pos h0,if_pos h0];rfl
  rw [if_neg h0,if_neg h0];by_cases h1:i=1
  ·rw [if_pos h1,if_pos h1];rfl
  rw [if_neg h1,if_neg h1];by_cases h2:i<56
  ·rw [if_pos h2,if_pos h2];rfl
  ·rw [if_neg h2,if_neg h2]
 ·rw [if_neg h,if_neg (by omega),if_neg (by omega),if_neg (by omega),List.getElem?_eq_none (by omega)];rfl
theorem H7:fU 0 (fp T R F new) aG=fU 56 new (ah (ah (cA F) 0 T) 1 R):=by
 funext i
 rw [Sc,rD];by_cases h:56≤i∧i<56+new.length
 ·rw [if_pos h,if_neg (by omega),if_neg (by omega),if_neg (by omega)]
 ·rw [if_neg h];by_cases h1:i=1
  ·subst h1;rw [ec];rfl
  rw [dJ _ _ h1];by_cases h0:i=0
  ·subst h0;rw [ec];rfl
  rw [dJ _ _ h0,if_neg h0,if_neg h1];by_cases h2:i<56
  ·rw [if_pos h2,vZ (by omega) h2]
  ·rw [if_neg h2,rq (by omega),List.getElem?_eq_none (by omega)];rfl
theorem Tx {T R:ay}:fU 0 ((fN T R F).map .live) aG=ah (ah (cA F) 0 (.live T)) 1 (.live R):=by
 have:(fN T R F).map aK.live=fp (.live T) (.live R) F []:=by simp [fN,fp]
 rw [this,H7];rfl
theorem H8 {T R:ay}:(fN T R F).length=56:=by simp [fN,ru]
end
theorem jx {P:Program} {f:FuncId} {fn:Func} {c:Code} {N:Nat} {ts:List Nat} {T R:ay} {F:Nat→ay} {args:List AV} {post:AV→List aK→Prop} (hf:P.funcs[f]? =some fn) (hb:fn.body=some c) (hN:fn.ntmps=N) (hres:p9 P fn ts) (hargs:args.length≤N)
  (h:∀w0 G C hL j6,c6 P ⟨w0,G,C.own,N,56,C,hL,j6⟩ c ⟨lp args,ah (ah (cA F) 0 (.live T)) 1 (.live R)⟩ (tD ts 56 post N)):sH P f (fN T R F) args post:=
 ZS 56 H8 hf hb hN hres hargs (fun w0 G C hL j6=>by rw [Tx];exact h w0 G C hL j6)
theorem i6 {ts:List Nat} {N:Nat} {s:St} {res:AV} {T R:aK} {F:Nat→ay} {new:List aK} (hN:(ts.all fun t=>Nat.blt t N)=true) (hr:j9 (ts.map s.env)=res) (ap:s.ob=fU 56 new (ah (ah (cA F) 0 T) 1 R)):wu ts 56 (fun r o=>r=res∧o=fp T R F new) N s:=
 ⟨fp T R F new,hN,by rw [v2];omega,⟨hr,rfl⟩,ap.trans H7.symm⟩
def dg:List (Nat×Nat):=(List.range 54).map fun i=>(i+2,i+2)
theorem tm {i:Nat} (a:2≤i) (b:i<56):(i,i)∈dg:=List.mem_map.2 ⟨i-2,List.mem_range.2 (by omega),by rw [show i-2+2=i by omega]⟩
theorem Vd {x y:Nat} (h:(x,y)∈dg):x=y∧2≤x∧x<56:=by
 obtain ⟨i,h1,h2⟩:=List.mem_map.1 h;have:=List.mem_range.1 h1
 cases h2
 exact ⟨rfl,by omega,by omega⟩
theorem Tz:dg.map (·.1)=(List.range 54).map (· +2):=by simp [dg,Function.comp_def]
theorem TA:dg.map (·.2)=(List.range 54).map (· +2):=by simp [dg,Function.comp_def]
theorem JA:((List.range 54).map (· +2)).Nodup:=List.nodup_range.map (f:=(· +2)) (fun a b h e=>h (by have:a+2=b+2:=e;omega))
def j_ (n:Nat):Bool:=Nat.ble n 1||Nat.ble 56 n
theorem Bi {n:Nat} (h:j_ n=true):n<2∨56≤n:=by
 unfold j_ at h;rw [Bool.or_eq_true] at h;rcases h with h|h
 ·have:=Nat.le_of_ble_eq_true h;omega
 ·have:=Nat.le_of_ble_eq_true h;omega
theorem Bg:∀(l:List (Nat×Nat)) (x:Nat),x∈l.map (·.1)→(x,rn l x)∈l
 | [],x,h=>by simp at h
 |(a,b)::r,x,h=>by
  simp only [rn]
  cases hb:Nat.beq x a with
  |true=>rw [Nat.eq_of_beq_eq_true hb];simp
  |false=>
   have:x∈r.map (·.1):=by
    rcases List.mem_cons.1 (by simpa using h:x∈a::r.map (·.1)) with h1|h1
    ·subst h1;simp at hb
    ·exact h1
   exact List.mem_cons_of_mem _ (Bg r x this)
section
variable {E:cZ} {s:St} {e':Nat→AV} {F:Nat→ay} {ps:List (Nat×Nat)}
theorem Bj (hn:(ps.all fun p=>j_ p.1&&j_ p.2)=true) (h:(ps.map (·.1)).Nodup):((ps++dg).map (·.1)).Nodup:=by
 rw [List.map_append,Tz,List.nodup_append];refine ⟨h,JA,fun a ha b hb e=>?_⟩;obtain ⟨p,h1,rfl⟩:=List.mem_map.1 ha;obtain ⟨j,h2,rfl⟩:=List.mem_map.1 hb;have h3:=List.all_eq_true.1 hn p h1;rw [Bool.and_eq_true] at h3;have:=Bi h3.1;have:=List.mem_range.1 h2;omega
theorem TB (hn:(ps.all fun p=>j_ p.1&&j_ p.2)=true) (h:(ps.map (·.2)).Nodup):((ps++dg).map (·.2)).Nodup:=by
 rw [List.map_append,TA,List.nodup_append];refine ⟨h,JA,fun a ha b hb e=>?_⟩;obtain ⟨p,h1,rfl⟩:=List.mem_map.1 ha;obtain ⟨j,h2,rfl⟩:=List.mem_map.1 hb;have h3:=List.all_eq_true.1 hn p h1;rw [Bool.and_eq_true] at h3;have:=Bi h3.2;have:=List.mem_range.1 h2;omega
theorem BU (h1:((ps++dg).map (·.1)).Nodup) {i:Nat} (a:2≤i) (b:i<56):rn (ps++dg) i=i:=by
 have hm:(i,i)∈ps++dg:=List.mem_append.2 (.inr (tm a b));exact vO h1 (Bg _ i (List.mem_map.2 ⟨_,hm,rfl⟩)) hm
theorem XV (ps:List (Nat×Nat)) (qs:List ((Nat×Nat)×aK)) (hF:gK s.ob F) (hl:∀i,mD (F i)) (hq:rJ (ps++dg) s qs) (he:∀t,ga (ps++dg) (s.env t) (e' t)) (hps:qs.map (·.1)=ps) (hn:(ps.all fun p=>j_ p.1&&j_ p.2)=true) (h1:(ps.map (·.1)).Nodup) (h2:(ps.map (·.2)).Nodup)
  (hk:E.m=0∨(E.m=56∧(0,0)∈ps∧(1,1)∈ps)):ck E s ⟨e',nc qs (cA F)⟩:=by
 have hn1:=Bj hn h1;have hn2:=TB hn h2;have hq2:(qs.map (·.1.2)).Nodup:=by rw [←hps,List.map_map] at h2;exact h2
 have hout:∀i,i∈qs.map (·.1.2)→i<2∨56≤i:=fun i hi=>by
  obtain ⟨q,k1,rfl⟩:=List.mem_map.1 hi;have k2:q.1∈ps:=by rw [←hps];exact List.mem_map.2 ⟨q,k1,rfl⟩
  have k3:=List.all_eq_true.1 hn _ k2;rw [Bool.and_eq_true] at k3;exact Bi k3.2
 refine rC (ps++dg) ⟨hn1,hn2,he,fun id' o' h=>?_,fun id' h=>?_⟩ (fun i hi=>?_)
 ·rcases vP qs (cA F) id' hq2 with ⟨q,k1,k2,k3⟩|⟨_,k2⟩
  ·have hr:=YR hq q k1;have h4:q.2=.live o':=by rw [←k3];exact h
   unfold nQ at hr;rw [h4] at hr;obtain ⟨o,m1,m2,m3⟩:=hr;subst m2;have hp:(q.1.1,id')∈ps++dg:=List.mem_append.2 (.inl (by rw [←hps];exact List.mem_map.2 ⟨q,k1,by rw [←k2]⟩));exact ⟨q.1.1,o,hp,oM hn1 hn2 hp,m1,rfl,rfl,.inr ⟨rfl,m3⟩⟩
  ·have k3:cA F id'=.live o':=k2.symm.trans h;rcases Nat.lt_or_ge id' 2 with a|a
   ·rw [rq (.inl a)] at k3;cases k3
   rcases Nat.lt_or_ge id' 56 with b|b
   ·rw [vZ a b] at k3
    cases k3
    have hp:(id',id')∈ps++dg:=List.mem_append.2 (.inr (tm a b));refine ⟨id',F id',hp,oM hn1 hn2 hp,hF id' a b,rfl,rfl,.inr ⟨(s_ (hl id') fun i hi=>BU hn1 hi.1 hi.2).symm,fun c hc=>(hl id' c hc).mono (fun i hi=>?_) id⟩⟩;exact List.mem_map.2 ⟨(i,i),List.mem_append.2 (.inr (tm hi.1 hi.2)),rfl⟩
   ·rw [rq (.inr b)] at k3;cases k3
 ·intro hf;have hf':nc qs (cA F) id'=.free:=hf;rcases vP qs (cA F) id' hq2 with ⟨q,k1,k2,k3⟩|⟨k1,k2⟩
  ·have hr:=YR hq q k1;have h4:q.2=.free:=by rw [←k3];exact hf'
   unfold nQ at hr;rw [h4] at hr;exact hr
  ·rw [List.map_append,List.mem_append] at h;rcases h with h|h
   ·rw [←hps,List.map_map] at h;exact k1 h
   ·obtain ⟨p,m1,m2⟩:=List.mem_map.1 h;obtain ⟨m3,m4,m5⟩:=Vd (x:=p.1) (y:=p.2) m1;rw [←m2, ←m3] at k2 hf';rw [vZ m4 m5] at k2;rw [k2] at hf';cases hf'
 ·rcases hk with hk|⟨hk,k0,k1⟩
  ·omega
  ·rw [List.mem_append];by_cases h0:i=0
   ·subst h0;exact .inl k0
   by_cases h1:i=1
   ·subst h1;exact .inl k1
   ·exact .inr (tm (by omega) (by omega))
end
def ka (ns:List Nat) (i:Nat):Nat:=cond (Nat.ble i 55) i (ns.getD (i-56) 0)
def lE:List Nat:=List.range 56
theorem rK {ns:List Nat} {i:Nat} (h:i<56):ka ns i=i:=by
 unfold ka;rw [Nat.ble_eq_true_of_le (show i≤55 by omega)];rfl
theorem TC {ns:List Nat} {i:Nat} (h:56≤i):ka ns i=ns.getD (i-56) 0:=by
 unfold ka
 cases hb:Nat.ble i 55 with
 |false=>rfl
 |true=>have:=Nat.le_of_ble_eq_true hb;omega
theorem wJ {i:Nat} (h:i<56):lE[i]? =some i:=by simp [lE,List.getElem?_range h]
theorem pV {i:Nat}:i∈lE↔i<56:=List.mem_range
theorem mZ:lE.length=56:=by simp [lE]
theorem BV:lE.Nodup:=List.nodup_range
theorem wK {i:Nat} (h:i<56):ix lE i=i:=p6 BV (wJ h)
theorem Ve (ns:List Nat):nm (lE++ns)=ka ns:=by
 funext i
 unfold nm;rw [List.getD_eq_getElem?_getD];rcases Nat.lt_or_ge i 56 with h|h
 ·rw [rK h,List.getElem?_append_left (by rw [mZ];exact h),wJ h];rfl
 ·rw [TC h,List.getElem?_append_right (by rw [mZ];exact h),mZ,List.getD_eq_getElem?_getD]
theorem rE {o:ay} {σ:Nat→Nat} (h:nX o) (hs:∀i,i<56→σ i=i):ay.map σ o=o:=by
 show ay.mk (AV.dY σ o.cells) o.elem o.ci=o;rw [s_ h hs]
theorem TD {T R:ay} {F:Nat→ay} {i:Nat}:(fN T R F)[i]? =if i=0 then some T else if i=1 then some R else if i<56 then some (F i) else none:=by
 unfold fN
 match i with
 |0=>rfl
 |1=>rfl
 |i+2=>
  rw [List.getElem?_cons_succ,List.getElem?_cons_succ,if_neg (by omega),if_neg (by omega)];by_cases h:i+2<56
  ·rw [if_pos h];simp [r5];exact ⟨i,by rw [List.getElem?_range (by omega)],rfl⟩
  ·rw [if_neg h,List.getElem?_eq_none (by rw [ru];omega)]
theorem GL {ob:Nat→aK} {gs:List Nat}:∀{as:List AV},(∀a,a∈as→Ok (· ∈gs) True a∧a.map (ix gs)=a)→p7 ob gs false as as
 | [],_=>trivial
 |a::as,h=>⟨.inl (h a (List.mem_cons_self ..)),GL fun b hb=>h b (List.mem_cons_of_mem _ hb)⟩
section
variable {P:Program} {E:cZ} {st:St} {K:St→Prop}
theorem GM {o:Oper} {c:Call} {c7:Operand} {args:List Operand} {tys:Array TypeId} {f:Nat} {caps cW:List AV} {T R:ay} {F F':Nat→ay} {T' R':aK} {nw:List aK} {res res':AV} {kt cg:Nat→aK} (ns:List Nat) (hF:fi P f (fN T R F) cW res (fp T' R' F' nw))
  (ho:o.op=.call c) (hc:c={ callee:=.value c7,args:=args.toArray,argTypes:=tys }) (hN:(bh E.N c7&&args.all (bh E.N))=true) (hd:∀d,o.dst=some d→d<E.N) (fm:aU st.env c7=.fn f caps) (hb:bO P f=true)
  (hT:st.ob 0=.live T) (hR:st.ob 1=.live R) (hm:gK st.ob F) (hl:args.map (aU st.env)++caps=cW) (YU:nX T) (qY:nX R) (qZ:∀i,mD (F i)) (Cu:∀i,mD (F' i)) (ha:∀a,a∈cW→Ok (· <56) True a)
  (hns:ns.Nodup) (Cv:ns.all (Nat.ble 56)=true) (hlen:nw.length=ns.length) (hfree:Frees st.ob ns) (hres:res.map (ka ns)=res') (h0:T'.map (ka ns)=kt 0) (h1:R'.map (ka ns)=kt 1) (hm':gK kt F') (hs:∀i,56≤i→kt i=st.ob i) (hos:jC (ka ns) ns nw kt=cg)
  (h:K (St.put ⟨st.env,cg⟩ o.dst res')):bY P E o st K:=by
 subst hl;have hbig:∀n,n∈ns→56≤n:=fun n hn=>Nat.le_of_ble_eq_true (List.all_eq_true.1 Cv n hn)
 have hnd:(lE++ns).Nodup:=by
  rw [List.nodup_append];exact ⟨BV,hns,fun a ha b hb e=>by have:=pV.1 ha;have:=hbig b hb;omega⟩
 refine Gd false lE ho hc hN hd fm hb BV (by rw [H8,mZ]) (fun i id hi=>?_) (GL fun a h=>⟨(ha a h).mono (fun i hi=>pV.2 hi) id,map_ok (ha a h) fun i hi=>wK hi⟩) hF ?_
 ·have hil:i<56:=by rw [←mZ];exact (List.getElem?_eq_some_iff.1 hi).1
  rw [wJ hil] at hi
  cases hi
  rw [TD];by_cases e0:i=0
  ·subst e0;exact ⟨T,hT,by rw [if_pos rfl,rE YU fun i hi=>wK hi],fun c hc=>(YU c hc).mono (fun i hi=>pV.2 hi) id⟩
  by_cases e1:i=1
  ·subst e1;exact ⟨R,hR,by rw [if_neg e0,if_pos rfl,rE qY fun i hi=>wK hi],fun c hc=>(qY c hc).mono (fun i hi=>pV.2 hi) id⟩
  ·exact ⟨F i,hm i (by omega) hil,by rw [if_neg e0,if_neg e1,if_pos hil,rE (qZ i).low fun i hi=>wK hi],fun c hc=>((qZ i).low c hc).mono (fun i hi=>pV.2 hi) id⟩
 ·rintro r n ⟨rfl,rfl⟩;refine ⟨ns,hnd,by rw [v2,List.length_append,mZ,hlen],zZ hfree,fun h=>(by cases h),?_⟩;rw [Ve,hres]
  have:jC (ka ns) (lE++ns) (fp T' R' F' nw) st.ob=cg:=by
   rw [←hos]
   funext i
   rw [vp _ _ _ _ _ hnd (by rw [v2,List.length_append,mZ,hlen]),vp _ _ _ _ _ hns hlen];rcases Nat.lt_or_ge i 56 with q5|q5
   ·have hi:(lE++ns)[i]? =some i:=by rw [List.getElem?_append_left (by rw [mZ];exact q5),wJ q5]
    rw [if_pos (List.mem_append.2 (.inl (pV.2 q5))),if_neg (fun hx=>by have:=hbig i hx;omega),p6 hnd hi,Bh];by_cases e0:i=0
    ·subst e0;rw [if_pos rfl, ←h0];rfl
    by_cases e1:i=1
    ·subst e1;rw [if_neg e0,if_pos rfl, ←h1];rfl
    ·rw [if_neg e0,if_neg e1,if_pos q5,hm' i (by omega) q5];show aK.live (ay.map _ (F' i))=_;rw [rE (Cu i).low fun i hi=>rK hi]
   ·by_cases hx:i∈ns
    ·have hj:=pW hx;have hi:(lE++ns)[56+ix ns i]? =some i:=by rw [List.getElem?_append_right (by rw [mZ];omega),mZ,Nat.add_sub_cancel_left];exact hj
     rw [if_pos (List.mem_append.2 (.inr hx)),if_pos hx,p6 hnd hi,Bh,if_neg (by omega),if_neg (by omega),if_neg (by omega),Nat.add_sub_cancel_left]
    ·rw [if_neg (fun hy=>(List.mem_append.1 hy).elim (fun h=>by have:=pV.1 h;omega) hx),if_neg hx,hs i q5]
  rw [this];exact h
theorem pQ {o:Oper} {c:Call} {c7:Operand} {args:List Operand} {tys:Array TypeId} {f d:Nat} {caps cW:List AV} {T R:ay} {F F':Nat→ay} {T' R':aK} {nw:List aK} {res res':AV} {cg:Nat→aK} (ns:List Nat) (hF:fi P f (fN T R F) cW res (fp T' R' F' nw)) (kt:Nat→aK)
  (ho:o.op=.call c) (hc:c={ callee:=.value c7,args:=args.toArray,argTypes:=tys }) (hd:o.dst=some d) (hN:(bh E.N c7&&args.all (bh E.N)&&Nat.blt d E.N)=true) (fm:aU st.env c7=.fn f caps) (hb:bO P f=true)
  (hT:st.ob 0=.live T) (hR:st.ob 1=.live R) (hm:gK st.ob F) (hl:args.map (aU st.env)++caps=cW) (YU:nX T) (qY:nX R) (qZ:∀i,mD (F i)) (Cu:∀i,mD (F' i)) (ha:∀a,a∈cW→Ok (· <56) True a)
  (hns:ns.Nodup) (Cv:ns.all (Nat.ble 56)=true) (hlen:nw.length=ns.length) (hfree:Frees st.ob ns) (hres:res.map (ka ns)=res') (h0:T'.map (ka ns)=kt 0) (h1:R'.map (ka ns)=kt 1) (hm':gK kt F') (hs:∀i,56≤i→kt i=st.ob i) (hos:jC (ka ns) ns nw kt=cg)
  (h:K ⟨upd st.env d res',cg⟩):bY P E o st K:=by
 rw [Bool.and_eq_true] at hN;exact GM ns hF ho hc hN.1 (fun d' hd'=>by rw [hd] at hd';cases hd';exact bX hN.2) fm hb hT hR hm hl YU qY qZ Cu ha hns Cv hlen hfree hres h0 h1 hm' hs hos (by rw [hd];exact h)
end
theorem nE {P:Program} {E:cZ} {st:St} {K:St→Prop} {o:Oper} {c:Call} {c7:Operand} {args:List Operand} {tys:Array TypeId} {f d:Nat} {caps cW:List AV} {T R:ay} {F:Nat→ay} {res:AV} (hF:fi P f (fN T R F) cW res (fp (.live T) (.live R) F []))
  (ho:o.op=.call c) (hc:c={ callee:=.value c7,args:=args.toArray,argTypes:=tys }) (hd:o.dst=some d) (hN:(bh E.N c7&&args.all (bh E.N)&&Nat.blt d E.N)=true) (fm:aU st.env c7=.fn f caps) (hb:bO P f=true)
  (hT:st.ob 0=.live T) (hR:st.ob 1=.live R) (hm:gK st.ob F) (hl:args.map (aU st.env)++caps=cW) (YU:nX T) (qY:nX R) (qZ:∀i,mD (F i)) (ha:∀a,a∈cW→Ok (· <56) True a) (hres:Ok (· <56) True res)
  (h:K ⟨upd st.env d res,st.ob⟩):bY P E o st K:=by
 rw [Bool.and_eq_true] at hN;refine GM (kt:=st.ob) [] hF ho hc hN.1 (fun d' hd'=>by rw [hd] at hd';cases hd';exact bX hN.2) fm hb hT hR hm hl YU qY qZ qZ ha List.nodup_nil rfl rfl trivial (map_ok hres fun i hi=>rK hi) ?_ ?_ hm (fun _ _=>rfl) rfl (by rw [hd];exact h)
 ·rw [hT];show aK.live (ay.map _ T)=_;rw [rE YU fun i hi=>rK hi]
 ·rw [hR];show aK.live (ay.map _ R)=_;rw [rE qY fun i hi=>rK hi]
theorem c5 {F F':Nat→ay}:∀i,56≤i→cA F i=cA F' i:=fun i h=>by rw [rq (.inr h),rq (.inr h)]
theorem l0 {f g:Nat→aK} {n:Nat} {x:aK} (h:∀i,56≤i→f i=g i):∀i,56≤i→ah f n x i=ah g n x i:=fun i hi=>by
 by_cases e:i=n
 ·subst e;rw [ec,ec]
 ·rw [dJ _ _ e,dJ _ _ e,h i hi]
theorem fq {f g:Nat→aK} {n:Nat} {x:aK} (hn:Nat.ble n 1=true) (h:∀i,56≤i→f i=g i):∀i,56≤i→ah f n x i=g i:=fun i hi=>by
 have:=Nat.le_of_ble_eq_true hn;rw [dJ _ _ (by omega),h i hi]
theorem fT {f g:Nat→aK} {n:Nat} {x:aK} (hn:Nat.ble n 1=true) (h:∀i,56≤i→f i=g i):∀i,56≤i→f i=ah g n x i:=fun i hi=>by
 have:=Nat.le_of_ble_eq_true hn;rw [dJ _ _ (by omega),h i hi]
def j8 (e q:Nat) (x:Lk):ay:=⟨[.v (.int .i64 x.route),.v (.int .i64 x.cX),.v (.int .i64 x.ends),.sl q 0 x.pieces.length],e,1⟩
def fam (e2 e3:Nat) (ls:List Lk):Nat→ay:=fun i=>if 8≤i∧i<8+ls.length then j8 e2 (i+24) (ls.getD (i-8) ao) else if 32≤i∧i<32+ls.length then gY e3 (ls.getD (i-32) ao) else t5
def o_:Option Nat→AV
 |none=>.v (.pointer none)
 |some k=>.pt (k+8) 0
def b5 (x:Option Nat):List AV:=[o_ x]
def br (n:Nat):List (Option Nat):=(List.range n).map some
section
variable {e1 e2 e3:Nat} {ls:List Lk} {k i:Nat} {ob:Nat→aK}
theorem mg {n:Nat}:(br n).length=n:=by simp [br]
theorem wb {n k:Nat} (h:k<n):(br n).getD k none=some k:=by simp [br,h]
theorem oN (hn:ls.length≤24) (hk:k<ls.length):fam e2 e3 ls (k+8)=j8 e2 (k+32) (ls.getD k ao):=by
 unfold fam;rw [if_pos (by omega),Nat.add_sub_cancel]
theorem pU (hn:ls.length≤24) (hk:k<ls.length):fam e2 e3 ls (k+32)=gY e3 (ls.getD k ao):=by
 unfold fam;rw [if_neg (by omega),if_pos (by omega),Nat.add_sub_cancel]
theorem dv (hn:ls.length≤24) (i:Nat):mD (fam e2 e3 ls i):=by
 unfold fam
 split
 ·intro c hc;simp only [j8,List.mem_cons,List.not_mem_nil,or_false] at hc;rcases hc with rfl|rfl|rfl|rfl
  ·exact .v _
  ·exact .v _
  ·exact .v _
  ·exact .sl _ _ _ (by omega)
 ·split
  ·exact wj
  ·intro c hc;cases hc
theorem Sd (hn:ls.length≤24) (hF:gK ob (fam e2 e3 ls)) (hk:k<ls.length):dL ob (.pt (k+8) 0) (.rp [.v (.int .i64 (ls.getD k ao).route),.v (.int .i64 (ls.getD k ao).cX),.v (.int .i64 (ls.getD k ao).ends),.ro (ls.getD k ao).pieces.length (enc aC (ls.getD k ao).pieces)]):=by
 have h1:=hF (k+8) (by omega) (by omega);rw [oN hn hk] at h1;have h2:=hF (k+32) (by omega) (by omega);rw [pU hn hk] at h2;refine jf h1 (bb (.same _ (.v _)) (bb (.same _ (.v _)) (bb (.same _ (.v _)) (bb ?_ fe))));exact v3 h2 (by show (enc aC _).length=_;rw [fI (s:=1) (fun _=>rfl)];rfl) ((inferInstance:cU (enc aC (ls.getD k ao).pieces)).out)
theorem H9 {α:Type} {f:α→List AV} {g:α→AV} (hf:∀x,f x=[g x]) (d:α) {l:List α} {j:Nat} {a:AV} (h:(enc f l)[j]? =some a):j<l.length∧a=g (l.getD j d):=by
 induction l generalizing j with
 |nil=>simp [enc] at h
 |cons x l ih=>
  rw [nC,hf] at h
  cases j with
  |zero=>simp at h;exact ⟨by simp,by simp [h]⟩
  |succ j=>
   obtain ⟨h1,h2⟩:=ih (by simpa using h);exact ⟨by simpa using h1,by simpa using h2⟩
theorem kA (hn:ls.length≤24) (hF:gK ob (fam e2 e3 ls)) (hR:ob 1=.live ⟨enc b5 (br ls.length),e1,1⟩):dL ob (.sl 1 0 ls.length) (.ro ls.length (enc dm ls)):=by
 refine .sl 1 0 ls.length _ _ hR (by rw [fI (s:=1) (fun _=>rfl)]) (by show _≤(enc b5 (br ls.length)).length;rw [fI (s:=1) (fun _=>rfl),mg];show 0+ls.length*1≤_;omega) (fun j a b hx hy=>?_);rw [Nat.zero_add] at hx;obtain ⟨h1,rfl⟩:=H9 (g:=o_) (fun _=>rfl) none hx;rw [mg] at h1;obtain ⟨_,rfl⟩:=H9 (f:=dm) (g:=fun x:Lk=>.rp [.v (.int .i64 x.route),.v (.int .i64 x.cX),.v (.int .i64 x.ends),.ro x.pieces.length (enc aC x.pieces)]) (fun _=>rfl) ao hy;rw [wb h1];exact Sd hn hF h1
theorem wL {l:List (Option Nat)} (h:∀k,some k∈l→k<24):∀c,c∈enc b5 l→Ok (fun i=>2≤i∧i<56) True c:=fun c hc=>by
 obtain ⟨q,hq,hc⟩:=List.mem_flatMap.1 (show c∈l.flatMap b5 by simpa [enc] using hc);rw [List.mem_singleton.1 hc]
 cases q with
 |none=>exact .v _
 |some k=>have:=h k hq;exact .pt _ _ (by omega)
theorem dI {n k:Nat} (h:some k∈br n):k<n:=by simpa [br] using h
end
section
variable {ps:List (Nat×Nat)} {s:St} {l l':List (Option Nat)} {e x y i o:Nat} {ns:List Nat}
theorem JB {i:Nat} (h:2≤i∧i<56):i∈(ps++dg).map (·.1):=List.mem_map.2 ⟨(i,i),List.mem_append.2 (.inr (tm h.1 h.2)),rfl⟩
theorem BK (h:∀k,some k∈l→k<24):∀c,c∈enc b5 l→Ok (· ∈(ps++dg).map (·.1)) True c:=fun c hc=>(wL h c hc).mono (fun i hi=>JB hi) id
theorem BJ (h1:(ps.map (·.1)).Nodup) (hn:(ps.all fun p=>j_ p.1&&j_ p.2)=true) (h:∀k,some k∈l→k<24):AV.dY (rn (ps++dg)) (enc b5 l)=enc b5 l:=s_ (wL h) fun i hi=>BU (Bj hn h1) hi.1 hi.2
theorem eS (hl:s.ob x=.live ⟨enc b5 l,e,1⟩) (h1:(ps.map (·.1)).Nodup) (hn:(ps.all fun p=>j_ p.1&&j_ p.2)=true) {o':ay} (ho:o'=ay.mk (enc b5 l) e 1) (h:∀k,some k∈l→k<24):nQ (ps++dg) s ((x,y),.live o'):=by
 subst ho;exact ⟨_,hl,by show ay.mk (AV.dY _ (enc b5 l)) e 1=_;rw [BJ h1 hn h],BK h⟩
theorem jT (h:∀k,some k∈l→k<24):nX ⟨enc b5 l,e,1⟩:=mD.low (o:=⟨enc b5 l,e,1⟩) (wL h)
theorem BQ (h:∀k,some k∈l→k<24):AV.dY (ka ns) (enc b5 l)=enc b5 l:=s_ (wL h) fun i hi=>rK hi.2
theorem tg (h:∀k,some k∈l→k<24):aK.map (ka ns) (.live ⟨enc b5 l,e,1⟩)=.live ⟨enc b5 l,e,1⟩:=by
 show aK.live (ay.mk (AV.dY _ (enc b5 l)) e 1)=_;rw [BQ h]
theorem sK {e e':Nat→AV} {d i o:Nat} (hd:e d=.pt i o) (h1:(ps.map (·.1)).Nodup) (hn:(ps.all fun p=>j_ p.1&&j_ p.2)=true) (a:2≤i) (b:i<56) (h:∀t,ga (ps++dg) (e t) (e' t)):∀t,ga (ps++dg) (e t) (upd e' d (.pt i o) t):=
 IN d _ (by rw [hd];exact .pt _ _ (JB ⟨a,b⟩)) (by rw [hd];show AV.pt (rn (ps++dg) i) o=_;rw [BU (Bj hn h1) a b]) h
theorem iF {E:cZ} {e':Nat→AV} {F:Nat→ay} (ps:List (Nat×Nat)) (qs:List ((Nat×Nat)×aK)) (hF:gK s.ob F) (hl:∀i,mD (F i)) (hq:rJ (ps++dg) s qs) (hk:E.m=0∨(E.m=56∧(0,0)∈ps∧(1,1)∈ps)) (he:∀t,ga (ps++dg) (s.env t) (e' t):=by repeat (first|exact bQ|refine sS rfl ?_|refine sM rfl ?_)) (hps:qs.map (·.1)=ps:=by rfl)
  (hn:(ps.all fun p=>j_ p.1&&j_ p.2)=true:=by rfl) (h1:(ps.map (·.1)).Nodup:=by decide) (h2:(ps.map (·.2)).Nodup:=by decide):ck E s ⟨e',nc qs (cA F)⟩:=XV ps qs hF hl hq he hps hn h1 h2 hk
end
section
variable {e2 e3:Nat} {ls:List Lk} {k:Nat} {ob:Nat→aK}
theorem Hh {cs:List AV} (hn:ls.length≤24) (hF:gK ob (fam e2 e3 ls)) (hk:k<ls.length) (h:ew (fun _=>.free) [.v (.int .i64 (ls.getD k ao).route),.v (.int .i64 (ls.getD k ao).cX),.v (.int .i64 (ls.getD k ao).ends),.ro (ls.getD k ao).pieces.length (enc aC (ls.getD k ao).pieces)] cs):dL ob (.pt (k+8) 0) (.rp cs):=by
 have h1:=hF (k+8) (by omega) (by omega);rw [oN hn hk] at h1;have h2:=hF (k+32) (by omega) (by omega);rw [pU hn hk] at h2;refine jf h1 ⟨h.1,fun j a b ha hb=>?_⟩;have hh:=h.2
 match j with
 |0=>simp only [j8,List.getElem?_cons_zero,Option.some.injEq] at ha;subst ha;exact (hh 0 _ b rfl hb).more fun _ _ h=>by cases h
 |1=>simp only [j8,List.getElem?_cons_succ,List.getElem?_cons_zero,Option.some.injEq] at ha;subst ha;exact (hh 1 _ b rfl hb).more fun _ _ h=>by cases h
 |2=>simp only [j8,List.getElem?_cons_succ,List.getElem?_cons_zero,Option.some.injEq] at ha;subst ha;exact (hh 2 _ b rfl hb).more fun _ _ h=>by cases h
 |3=>
  simp only [j8,List.getElem?_cons_succ,List.getElem?_cons_zero,Option.some.injEq] at ha;subst ha;have h4:=hh 3 _ b rfl hb;have hs:=v3 (n:=(ls.getD k ao).pieces.length) h2 (by show (enc aC _).length=_;rw [fI (s:=1) (fun _=>rfl)];rfl) ((inferInstance:cU (enc aC (ls.getD k ao).pieces)).out)
  cases h4 with
  |any=>exact .any _
  |one _ h=>exact .one _ rfl
  |same _ h=>exact hs
  |row _ _ cs hlen hr=>
   refine .sl _ _ _ _ cs h2 (by rw [hlen,fI (s:=1) (fun _=>rfl)];rfl) (by show 0+_≤(enc aC _).length;rw [fI (s:=1) (fun _=>rfl)];show 0+_*1≤_;omega) (fun j a b ha hb=>?_);rw [Nat.zero_add] at ha;exact (hr j a b ha hb).more fun _ _ h=>by cases h
 |j+4=>simp [j8] at ha
end
def qk (ls:List Lk) (k j:Nat) (v:Int):List Lk:=ls.set k { ls.getD k ao with pieces:=(ls.getD k ao).pieces.set j v }
def oX (ls:List Lk) (k:Nat) (v:Int):List Lk:=ls.set k { ls.getD k ao with ends:=v }
theorem pE {ls:List Lk} {k m:Nat} {x:Lk} (hk:k<ls.length):(ls.set k x).getD m ao=if m=k then x else ls.getD m ao:=by
 by_cases h:m=k
 ·subst h;rw [if_pos rfl,List.getD_eq_getElem?_getD,List.getElem?_set_self hk];rfl
 ·rw [if_neg h,List.getD_eq_getElem?_getD,List.getElem?_set_ne (fun e=>h e.symm), ←List.getD_eq_getElem?_getD]
section
variable {P:Program} {E:cZ} {st:St} {K:St→Prop} {e2 e3:Nat} {ls:List Lk} {k j:Nat} {ob:Nat→aK} {cs:List AV}
theorem A3 {off:Nat} (hn:ls.length≤24) (hF:gK ob (fam e2 e3 ls)) (hk:k<ls.length) (hc: [.v (.int .i64 (ls.getD k ao).route),.v (.int .i64 (ls.getD k ao).cX),.v (.int .i64 (ls.getD k ao).ends),.sl (k+32) 0 (ls.getD k ao).pieces.length].drop off=cs):gO ob (.pt (k+8) off)=some cs:=by
 have h1:=hF (k+8) (by omega) (by omega);rw [oN hn hk] at h1;subst hc;show (match ob (k+8) with| .live o=>some (o.cells.drop off)|_=>none)=_;rw [h1];rfl
theorem QH {x:Lk} (hn:ls.length≤24) (hk:k<ls.length) (hx:∀q,j8 e2 q x=j8 e2 q (ls.getD k ao)) {i:Nat} (hi:i≠k+32):fam e2 e3 (ls.set k x) i=fam e2 e3 ls i:=by
 unfold fam;rw [List.length_set];by_cases h:8≤i∧i<8+ls.length
 ·rw [if_pos h,if_pos h,pE hk]
  split
  ·rename_i e;rw [hx,e]
  ·rfl
 ·rw [if_neg h,if_neg h];by_cases h2:32≤i∧i<32+ls.length
  ·rw [if_pos h2,if_pos h2,pE hk,if_neg (by omega)]
  ·rw [if_neg h2,if_neg h2]
theorem QI {x:Lk} (hn:ls.length≤24) (hk:k<ls.length) (hx:x.pieces=(ls.getD k ao).pieces) {i:Nat} (hi:i≠k+8):fam e2 e3 (ls.set k x) i=fam e2 e3 ls i:=by
 unfold fam;rw [List.length_set];by_cases h:8≤i∧i<8+ls.length
 ·rw [if_pos h,if_pos h,pE hk,if_neg (by omega)]
 ·rw [if_neg h,if_neg h];by_cases h2:32≤i∧i<32+ls.length
  ·rw [if_pos h2,if_pos h2,pE hk]
   split
   ·rename_i e;unfold gY;rw [hx,e]
   ·rfl
  ·rw [if_neg h2,if_neg h2]
theorem H_ {F F':Nat→ay} {cg:Nat→aK} {q:Nat} {o:ay} (h2:2≤q∧q<56) (hF:gK ob F) (hF':gK cg F') (h0:cg 0=ob 0) (h1:cg 1=ob 1) (hs:∀i,56≤i→cg i=ob i) (he:∀i,i≠q→F' i=F i) (hq:F' q=o):ah ob q (.live o)=cg:=by
 funext i
 by_cases e:i=q
 ·subst e;rw [ec,hF' i h2.1 h2.2,hq]
 ·rw [dJ _ _ e];by_cases e0:i=0
  ·subst e0;exact h0.symm
  by_cases e1:i=1
  ·subst e1;exact h1.symm
  rcases Nat.lt_or_ge i 56 with a|a
  ·rw [hF i (by omega) a,hF' i (by omega) a,he i e]
  ·exact (hs i a).symm
theorem On {o:Oper} {t:TypeId} {x y:Operand} {v:Int} {cg:Nat→aK} (ho:o.op=.store t x y) (hd:o.dst=none) (hN:(bh E.N x&&bh E.N y)=true) (hsz:(P.info? t).map (·.size)=some 1) (hx:aU st.env x=.pt (k+32) (j*1)) (hF:gK st.ob (fam e2 e3 ls)) (hn:ls.length≤24) (hk:k<ls.length)
  (hj:j<(ls.getD k ao).pieces.length) (hy:aU st.env y=.v (.int .u8 v)) (hF':gK cg (fam e2 e3 (qk ls k j v))) (h0:cg 0=st.ob 0) (h1:cg 1=st.ob 1) (hs:∀i,56≤i→cg i=st.ob i) (h:K ⟨st.env,cg⟩):bY P E o st K:=by
 have h2:=hF (k+32) (by omega) (by omega);rw [pU hn hk] at h2;refine jy (f:=aC) (l:=(ls.getD k ao).pieces) v ho hd hN hsz hx h2 rfl hy rfl (fun _=>rfl) hj rfl rfl ?_
 rw [show ah st.ob (k+32) (.live ⟨enc aC ((ls.getD k ao).pieces.set j v),(gY e3 (ls.getD k ao)).elem,(gY e3 (ls.getD k ao)).ci⟩)=cg from H_ ⟨by omega,by omega⟩ hF hF' h0 h1 hs (fun i hi=>QH hn hk (fun q=>by simp [j8]) hi) (by
  have hl:(qk ls k j v).length=ls.length:=List.length_set;rw [pU (by rw [hl];exact hn) (by rw [hl];exact hk)];unfold qk;rw [pE hk,if_pos rfl];rfl)]
 exact h
theorem Om {o:Oper} {t:TypeId} {x y:Operand} {v:Int} {cg:Nat→aK} (ho:o.op=.store t x y) (hd:o.dst=none) (hN:(bh E.N x&&bh E.N y)=true) (hsz:(P.info? t).map (·.size)=some 1) (hx:aU st.env x=.pt (k+8) 2) (hF:gK st.ob (fam e2 e3 ls)) (hn:ls.length≤24) (hk:k<ls.length)
  (hy:aU st.env y=.v (.int .i64 v)) (hF':gK cg (fam e2 e3 (oX ls k v))) (h0:cg 0=st.ob 0) (h1:cg 1=st.ob 1) (hs:∀i,56≤i→cg i=st.ob i) (h:K ⟨st.env,cg⟩):bY P E o st K:=by
 have h2:=hF (k+8) (by omega) (by omega);rw [oN hn hk] at h2;refine mQ ho hd hN hsz hx h2 hy (cs:=[.v (.int .i64 v)]) rfl rfl (Nat.le_of_ble_eq_true rfl) rfl rfl ?_;have hl:(oX ls k v).length=ls.length:=List.length_set
 rw [show ah st.ob (k+8) (.live ⟨_,(j8 e2 (k+32) (ls.getD k ao)).elem,(j8 e2 (k+32) (ls.getD k ao)).ci⟩)=cg from H_ ⟨by omega,by omega⟩ hF hF' h0 h1 hs (fun i hi=>QI (x:={ ls.getD k ao with ends:=v }) hn hk rfl hi) (by
  rw [oN (by rw [hl];exact hn) (by rw [hl];exact hk)];unfold oX;rw [pE hk,if_pos rfl];rfl)]
 exact h
end
end Go.Lo
set_option linter.unusedVariables false
set_option linter.unusedSimpArgs false
namespace Go.Lo
section
variable {secs:List ax} {pts:List aH} {routes:List (List Int)} {parts:List (List Int)}
theorem Q3 (s:Int):e8 routes [] s= -1:=rfl
theorem PH (n:Nat):c_ routes [] n n=List.replicate n false:=by
 unfold c_;rw [Nat.sub_self,List.replicate_zero,List.append_nil,List.eq_replicate_iff];refine ⟨by simp,fun b hb=>?_⟩;obtain ⟨i,_,rfl⟩:=List.mem_map.1 hb;rfl
theorem IQ {k:Nat} (hL:wI secs parts pts routes) (hk:k<routes.length):∀s,s∈bu routes (k:Int)→0≤s∧s<(secs.length:Int):=fun s hs=>by
 unfold bu at hs;rw [Int.toNat_natCast] at hs;exact hL.hrs _ (c8 [] hk) s (List.mem_of_mem_drop hs)
theorem Vk {k:Nat} (hk:k<routes.length):eo routes (k:Int)=true:=by unfold eo;rw [Bool.and_eq_true];exact ⟨decide_eq_true (by omega),decide_eq_true (by omega)⟩
theorem PI {k n:Nat} (h:∀s,s∈bu routes (k:Int)→0≤s∧s<(n:Int)):(!((bu routes (k:Int)).any (fM routes [] (List.replicate n 0))))=true:=by
 cases hq:(bu routes (k:Int)).any (fM routes [] (List.replicate n 0)) with
 |false=>rfl
 |true=>
  obtain ⟨s,hs,h2⟩:=List.any_eq_true.1 hq;have h3:=h s hs;unfold fM at h2;rw [List.length_replicate,QB,Q3,decide_eq_false (by omega)] at h2
  cases h2
theorem Q4 {k:Nat} (hg:p8 secs.length pts (bz secs pts (routes.getD k []))=true):
  (b6 (bz secs pts (routes.getD (k:Int).toNat [])) []).any (g7 pts (List.replicate secs.length 0) [] (c_ routes [] secs.length secs.length) (List.replicate pts.length false))=false:=by
 rw [Int.toNat_natCast]
 cases hq:(b6 (bz secs pts (routes.getD k [])) []).any (g7 pts (List.replicate secs.length 0) [] (c_ routes [] secs.length secs.length) (List.replicate pts.length false)) with
 |false=>rfl
 |true=>
  obtain ⟨z,hz,hz2⟩:=List.any_eq_true.1 hq;unfold p8 at hg;rw [Bool.and_eq_true] at hg;have h2:=List.all_eq_true.1 hg.2 z (List.mem_filter.1 hz).1;unfold g7 at hz2;rw [PH,h2] at hz2
  cases hz2
theorem R9 {r:Int} (hL:wI secs parts pts routes) (hT:iT secs pts=true) (hc:lV secs pts=true) (hw:tI secs pts routes) (hnd:∀x,x∈routes→x.Nodup) (h0:0≤r∧r<(routes.length:Int)):
  eo routes r=true∧(2≤(routes.getD r.toNat []).length∧(routes.getD r.toNat []).length≤8)∧(routes.getD r.toNat []).Nodup∧(∀s,s∈bu routes r→0≤s∧s<(secs.length:Int))∧
  (!((bu routes r).any (fM routes [] (List.replicate secs.length 0))))=true∧
  (b6 (bz secs pts (routes.getD r.toNat [])) []).any (g7 pts (List.replicate secs.length 0) [] (c_ routes [] secs.length secs.length) (List.replicate pts.length false))=false:=by
 obtain ⟨k,rfl⟩:=Int.eq_ofNat_of_zero_le h0.1;have hk:k<routes.length:=by omega
 have hp:routes.getD k []∈routes:=c8 [] hk;have h8:=Bf (hnd _ hp) (hL.hrs _ hp);have hs:=hL.hs;exact ⟨Vk hk,⟨(hL.hrl _ hp).1,by show (routes.getD k []).length≤8;omega⟩,hnd _ hp,IQ hL hk,PI (IQ hL hk),Q4 (Ox hT hc hw hnd hL hp)⟩
end
def f8:List (List Int):=[[0,1]]
theorem R6:(!((bu f8 0).any (fM f8 [] [0,0,0])))=true:=by decide+kernel
theorem Tm:(b6 (bz (c9 0 0) (cz 0) (f8.getD (0:Int).toNat [])) []).any (g7 (cz 0) [0,0,0] [] (c_ f8 [] (c9 0 0).length (c9 0 0).length) (List.replicate (cz 0).length false))=false:=by decide+kernel
theorem H4:∀s:Int,0≤s→s<((3:Nat):Int)→0≤dl (ea 0 0) s∧dl (ea 0 0) s<((3:Nat):Int):=by
 intro s h1 h2;have:s=0∨s=1∨s=2:=by omega
 rcases this with rfl|rfl|rfl<;>decide+kernel
abbrev lB:List Int:=cS f8 (ea 0 0) [0,1,0] [-2,3, -2] 1 0 3 (-1) (List.replicate (bu f8 0).length 1) (List.replicate (bu f8 0).length (1:Int)).length
theorem WU:(lB.any fun b=>b != 0)=true:=by decide+kernel
theorem WV:((cS f8 (ea 0 0) [0,0,0] [-2, -2, -2] 2 0 3 (-1) lB lB.length).any fun b=>b != 0)=false:=by decide+kernel
end Go.Lo
set_option linter.unusedVariables false
set_option linter.unusedSimpArgs false
namespace Go.Lo
def ZP (cn now:Int) (i:Nat) (ls:List Lk):List Lk:=if (ls.getD i ao).ends<0 then oX ls i (now+cn) else ls
section
variable {cn now:Int} {i:Nat} {ls:List Lk}
theorem S4 (h:(ls.getD i ao).ends<0):oX ls i (now+cn)=ZP cn now i ls:=by unfold ZP;rw [if_pos h]
theorem S5 (h:¬(ls.getD i ao).ends<0):ls=ZP cn now i ls:=by unfold ZP;rw [if_neg h]
theorem vL:(ZP cn now i ls).length=ls.length:=by unfold ZP;split<;>simp [oX]
end
def cw (ls:List Lk):Option Nat→Bool
 |some k=>j4 (ls.getD k ao)
 |none=>false
theorem sQ {α:Type} (f:α→Bool):∀(l:List α) (k:Nat),idxFrom f k l=idxFrom (fun b:Bool=>b) k (l.map f)
 | [],_=>rfl
 |x::l,k=>by
  simp only [idxFrom,List.map_cons];rw [sQ f l]
section
variable {ls:List Lk}
theorem TR:ls.map j4=(br ls.length).map (cw ls):=by
 refine List.ext_getElem (by simp [br]) (fun i h1 h2=>?_);simp at h1;simp [br,cw,h1]
theorem S7:bL j4 ls=bL (cw ls) (br ls.length):=by
 unfold bL;rw [sQ,sQ (cw ls),TR]
end
section
variable {α:Type} (f:α→Bool) {l:List α}
theorem G4:∀(xs:List α) (s:List α×Nat),(∀x,x∈xs→x∈l)→(∀x,x∈s.1→x∈l)→∀x,x∈(xs.foldl (stepG f) s).1→x∈l
 | [],s,_,h,x,hx=>h x hx
 |y::xs,s,hy,h,x,hx=>by
  refine G4 xs (stepG f s y) (fun z hz=>hy z (List.mem_cons_of_mem _ hz)) (fun z hz=>?_) x hx;unfold stepG at hz
  split at hz
  ·exact h z hz
  ·rcases List.mem_or_eq_of_mem_set hz with h1|h1
   ·exact h z h1
   ·subst h1;exact hy _ (List.mem_cons_self ..)
theorem Q6 {j:Nat} {x:α} (h:x∈(bM f l j).1):x∈l:=G4 f (l.take j) (l,0) (fun y hy=>List.mem_of_mem_take hy) (fun _ h=>h) x h
end
theorem S6 {f:Option Nat→Bool} {n:Nat} (hn:n≤16) (j:Nat):∀k,some k∈(bM f (br n) j).1→k<24:=fun k h=>by
 have:=dI (Q6 f h);omega
theorem rz {f:Option Nat→Bool} {n m:Nat} (hn:n≤16):∀k,some k∈cT f (br n)++List.replicate m none→k<24:=fun k h=>by
 rcases List.mem_append.1 h with h|h
 ·have:=dI ((List.mem_filter.1 h).1);omega
 ·simp at h
section
variable (routes parts:List (List Int)) (bE ow:List Int) (now:Int)
def ou (x:Lk) (j:Nat):Lk:=⟨x.route,x.cX,x.ends,cS routes parts bE ow now x.route x.cX x.ends x.pieces j⟩
def nx (ls:List Lk) (k j i:Nat):Lk:=if i<k then ou routes parts bE ow now (ls.getD i ao) (ls.getD i ao).pieces.length else if i=k then ou routes parts bE ow now (ls.getD i ao) j else ls.getD i ao
def et (ls:List Lk) (k j:Nat):List Lk:=(List.range ls.length).map (nx routes parts bE ow now ls k j)
end
section
variable {routes parts:List (List Int)} {bE ow:List Int} {now:Int} {ls:List Lk} {k j i:Nat}
theorem gV:(et routes parts bE ow now ls k j).length=ls.length:=by simp [et]
theorem qe (h:i<ls.length):(et routes parts bE ow now ls k j).getD i ao=nx routes parts bE ow now ls k j i:=by simp [et,h]
theorem wz {l1 l2:List Lk} (hl:l1.length=l2.length) (h:∀i,i<l1.length→l1.getD i ao=l2.getD i ao):l1=l2:=by
 refine List.ext_getElem hl (fun i h1 h2=>?_);have:=h i h1;simpa [h1,h2] using this
theorem JK (x:Lk):ou routes parts bE ow now x 0=x:=rfl
theorem Ur:et routes parts bE ow now ls 0 0=ls:=by
 refine wz gV (fun i hi=>?_);rw [gV] at hi;rw [qe hi];unfold nx;rw [if_neg (by omega)]
 split
 ·exact JK _
 ·rfl
theorem BH (h:k<ls.length):(et routes parts bE ow now ls k j).getD k ao=ou routes parts bE ow now (ls.getD k ao) j:=by
 rw [qe h];unfold nx;rw [if_neg (by omega),if_pos rfl]
theorem RA (h:j=(ls.getD k ao).pieces.length):et routes parts bE ow now ls k j=et routes parts bE ow now ls (k+1) 0:=by
 subst h;refine wz (by rw [gV,gV]) (fun i hi=>?_);rw [gV] at hi;rw [qe hi,qe hi];unfold nx;by_cases h1:i<k
 ·rw [if_pos h1,if_pos (by omega)]
 ·rw [if_neg h1];by_cases h2:i=k
  ·subst h2;rw [if_pos rfl,if_pos (by omega)]
  ·rw [if_neg h2,if_neg (by omega)]
   split
   ·exact (JK _).symm
   ·rfl
theorem S8 (h:k<ls.length):qk (et routes parts bE ow now ls k j) k j (gp routes parts bE ow now ⟨((et routes parts bE ow now ls k j).getD k ao).route,((et routes parts bE ow now ls k j).getD k ao).cX,((et routes parts bE ow now ls k j).getD k ao).ends,((et routes parts bE ow now ls k j).getD k ao).pieces⟩ j)=et routes parts bE ow now ls k (j+1):=by
 have hk:k<(et routes parts bE ow now ls k j).length:=by rw [gV];exact h
 unfold qk;rw [BH h];refine wz (by rw [List.length_set,gV,gV]) (fun i hi=>?_);rw [List.length_set,gV] at hi;rw [pE hk,show (et routes parts bE ow now ls k (j+1)).getD i ao=nx routes parts bE ow now ls k (j+1) i from qe hi];by_cases h1:i=k
 ·rw [if_pos h1,h1];unfold nx;rw [if_neg (by omega),if_pos rfl];rfl
 ·rw [if_neg h1,show (et routes parts bE ow now ls k j).getD i ao=nx routes parts bE ow now ls k j i from qe hi];unfold nx;rw [if_neg h1,if_neg h1]
def eK (routes parts:List (List Int)) (bE ow:List Int) (now:Int) (ls:List Lk):List Lk:=ls.map fun x=>ou routes parts bE ow now x x.pieces.length
theorem S9 (h:k=ls.length):et routes parts bE ow now ls k 0=eK routes parts bE ow now ls:=by
 subst h;refine wz (by rw [gV];simp [eK]) (fun i hi=>?_);rw [gV] at hi;rw [qe hi];unfold nx;rw [if_pos hi];simp [eK,hi]
theorem gE:(eK routes parts bE ow now ls).length=ls.length:=by simp [eK]
theorem HV {x:Lk}:(ou routes parts bE ow now x j).pieces.length=x.pieces.length:=rB j
theorem Rz {x:Lk} (h:x∈eK routes parts bE ow now ls):∃y,y∈ls∧x=ou routes parts bE ow now y y.pieces.length:=by
 obtain ⟨y,h1,h2⟩:=List.mem_map.1 h;exact ⟨y,h1,h2.symm⟩
end
def fR (secs:List ax) (pts:List aH) (path:List Int) (i:Nat):List Need:=(bz secs pts (path.take (i+2))).drop (min (bz secs pts (path.take (i+1))).length (bz secs pts (path.take (i+2))).length)
def g8 (secs:List ax) (pts:List aH) (path ps:List Int) (out:List Bool):Nat→List Bool
 |0=>out
 |k+1=>if nk ps k then g8 secs pts path ps out k else hN (fR secs pts path k) (g8 secs pts path ps out k) (fR secs pts path k).length
def gM (secs:List ax) (pts:List aH) (routes:List (List Int)) (ls:List Lk):Nat→List Bool
 |0=>List.replicate pts.length false
 |i+1=>g8 secs pts (routes.getD (ls.getD i ao).route.toNat []) (ls.getD i ao).pieces (gM secs pts routes ls i) (ls.getD i ao).pieces.length
def eE (secs:List ax) (pts:List aH) (routes:List (List Int)) (ls:List Lk):List Bool:=gM secs pts routes ls ls.length
section
variable {secs:List ax} {pts:List aH} {path ps:List Int} {routes:List (List Int)} {ls:List Lk} {out:List Bool} {k:Nat}
theorem vW:∀k,(g8 secs pts path ps out k).length=out.length
 |0=>rfl
 |k+1=>by
  unfold g8;split
  ·exact vW k
  ·rw [nI,vW k]
theorem AB:∀i,(gM secs pts routes ls i).length=pts.length
 |0=>List.length_replicate
 |i+1=>by show (g8 _ _ _ _ _ _).length=_;rw [vW,AB i]
theorem zU:(eE secs pts routes ls).length=pts.length:=AB _
theorem Ut (h:nk ps k=true):g8 secs pts path ps out (k+1)=g8 secs pts path ps out k:=by
 conv=>lhs;unfold g8
 rw [if_pos h]
theorem Uu (h:nk ps k=false):g8 secs pts path ps out (k+1)=hN (fR secs pts path k) (g8 secs pts path ps out k) (fR secs pts path k).length:=by
 conv=>lhs;unfold g8
 rw [if_neg (by rw [h];exact Bool.false_ne_true)]
theorem Q7 (h:∀i,i<k→fR secs pts path i=fu secs pts path i):g8 secs pts path ps out k=hK secs pts path ps out k:=by
 induction k with
 |zero=>rfl
 |succ k ih=>
  have e:=ih fun i hi=>h i (by omega);unfold g8 hK;rw [e,h k (by omega)]
theorem Pz (h:∀i,i<ls.length→∀k,k<(ls.getD i ao).pieces.length→fR secs pts (routes.getD (ls.getD i ao).route.toNat []) k=fu secs pts (routes.getD (ls.getD i ao).route.toNat []) k):eE secs pts routes ls=gW secs pts routes ls:=by
 have:∀i,i≤ls.length→gM secs pts routes ls i=hI secs pts routes ls i:=by
  intro i
  induction i with
  |zero=>intro _;rfl
  |succ i ih=>
   intro hi;unfold gM hI;rw [ih (by omega),Q7 (h i (by omega))]
 exact this _ (Nat.le_refl _)
theorem Qd {z:Need} (hz:z∈fR secs pts path k):0≤z.point∧z.point<(pts.length:Int):=Im (List.mem_of_mem_drop hz)
theorem Qc:(fR secs pts path k).length≤path.length:=by
 have h:=nF (secs:=secs) (pts:=pts) (path:=path.take (k+2));unfold fR;rw [List.length_drop];rw [List.length_take] at h;omega
end
end Go.Lo
set_option linter.unusedVariables false
set_option linter.unusedSimpArgs false
namespace Go.Lo
def cI (x:Act) (n k:Nat):List Int:=(x.sp.take k).map fun y=>y % (n:Int)
theorem s9 {x:Act} {n k:Nat} (h:k≤x.sp.length):(cI x n k).length=k:=by simp [cI];omega
theorem Qr {x:Act} {n k:Nat} (h:k<x.sp.length):cI x n (k+1)=cI x n k++[x.sp.getD k 0 % (n:Int)]:=by
 unfold cI;rw [List.take_add_one,List.map_append];simp [h]
theorem Sy {l:List Int} (hnd:l.Nodup) {i j:Nat} (hi:i<l.length) (hj:j<l.length) (e:l.getD i 0=l.getD j 0):i=j:=by
 have e1:l[i]=l[j]:=by simpa [hi,hj] using e
 exact (List.getElem_inj (h₀:=hi) (h₁:=hj) hnd).1 e1
section
variable {routes:List (List Int)} {ls:List Lk} {x:Lk} {s:Int}
theorem Sz (hx:gn routes x) (hnd:(routes.getD x.route.toNat []).Nodup):lZ routes s x=ZQ routes s x:=by
 have hps:=hx.ps;have hpl:=mT (routes:=routes) (r:=x.route);have hat:∀j,(bu routes x.route).getD j 0=(routes.getD x.route.toNat []).getD (j+1) 0:=fun j=>by unfold bu;simp [List.getD_eq_getElem?_getD,Nat.add_comm]
 unfold lZ ZQ oP;by_cases h:jc routes s x= -1
 ·rw [h];rw [show decide ((-1:Int)≥0)=false from rfl,Bool.false_and];symm;rw [List.any_eq_false];intro j hj;have hj:=List.mem_range.1 hj;have hno:=any_none (fun y=>decide (s=y)) 0 h;unfold kl;intro h2;rw [Bool.and_eq_true,decide_eq_true_eq] at h2;have h3:=List.any_eq_false.1 hno _ (c8 (l:=bu routes x.route) (k:=j) 0 (by omega));rw [hat] at h3;exact h3 (by simpa using h2.1.symm)
 ·obtain ⟨p,h1,h2,h3,h4⟩:=pA 0 h;rw [show jc routes s x=(p:Int) from h1,Int.toNat_natCast,decide_eq_true (by omega:(p:Int)≥0),Bool.true_and];have hs:s=(routes.getD x.route.toNat []).getD (p+1) 0:=by have:=of_decide_eq_true h4;rw [hat] at this;exact this
  cases hb:(x.pieces.getD p 0 != 0) with
  |true=>
   symm;rw [List.any_eq_true];refine ⟨p,List.mem_range.2 (by omega),?_⟩;unfold kl;rw [hs];simpa using hb
  |false=>
   symm;rw [List.any_eq_false];intro j hj h5;have hj:=List.mem_range.1 hj;unfold kl at h5;rw [Bool.and_eq_true,decide_eq_true_eq,decide_eq_true_eq] at h5
   have hjp:j=p:=by
    have hj1:j+1<(routes.getD x.route.toNat []).length:=by omega
    have hp1:p+1<(routes.getD x.route.toNat []).length:=by omega
    have:=Sy hnd hj1 hp1 (h5.1.trans hs);omega
   subst hjp;have:x.pieces.getD j 0=0:=by simpa using hb
   exact h5.2 this
theorem Hs (hlk:∀x,x∈ls→gn routes x) (hnd:∀x,x∈routes→x.Nodup) (s:Int):e8 routes ls s=fw routes ls s:=by
 have:ls.map (lZ routes s)=ls.map (ZQ routes s):=List.map_congr_left fun x hx=>by
  have hp:=hlk x hx;refine Sz hp (hnd _ (c8 [] ?_));have:=hp.r;omega
 have e:bL (lZ routes s) ls=bL (ZQ routes s) ls:=by
  unfold bL;rw [sQ,sQ (ZQ routes s),this]
 unfold e8 fw;rw [e]
theorem zY {n:Nat} (hw:∀s,e8 routes ls s=fw routes ls s):c_ routes ls n n=Y7 routes ls n:=by
 unfold c_ Y7;rw [Nat.sub_self];simp;intro i _;unfold CI CH;rw [hw]
end
end Go.Lo
set_option linter.unusedVariables false
set_option linter.unusedSimpArgs false
namespace Go.Lo
theorem og {f g:Nat→aK} {n:Nat} (hn:g n=.free) (h:∀i,56≤i→f i=g i):∀i,56≤i→f i=ah g n .free i:=fun i hi=>by
 by_cases e:i=n
 ·subst e;rw [ec,h i hi,hn]
 ·rw [dJ _ _ e,h i hi]
section
variable {secs:List ax} {pts:List aH} {routes:List (List Int)} {ls:List Lk} {r:Int} {bE:List Int} {views:List View} {right:List Bool}
theorem IY (h:eo routes r=false):r<0∨r≥(routes.length:Int):=by
 unfold eo at h;by_cases h1:r≥0
 ·rw [decide_eq_true h1,Bool.true_and,decide_eq_false_iff_not] at h;omega
 ·omega
theorem ti (h:eo routes r=true):0≤r∧r<(routes.length:Int):=by
 unfold eo at h;rw [Bool.and_eq_true,decide_eq_true_eq,decide_eq_true_eq] at h;omega
theorem G5 (hw:∀s,e8 routes ls s=fw routes ls s):(bu routes r).any (fM routes ls bE)=ll routes ls bE (routes.getD r.toNat []) ((routes.getD r.toNat []).length-1):=by
 have h:bu routes r=(List.range ((routes.getD r.toNat []).length-1)).map fun k=>(routes.getD r.toNat []).getD (k+1) 0:=by
  refine List.ext_getElem (by simp [bu]) (fun i h1 h2=>?_);simp [bu] at h1 ⊢;have:i+1<(routes[r.toNat]?.getD []).length:=by omega
  simp [this,Nat.add_comm]
 unfold ll;rw [h,List.any_map]
 congr 1
 funext k
 show fM routes ls bE ((routes.getD r.toNat []).getD (k+1) 0)=_;unfold fM kI;rw [hw]
theorem Ir {n:Nat} (hw:∀s,e8 routes ls s=fw routes ls s) (hh:eE secs pts routes ls=gW secs pts routes ls):g7 pts bE views (c_ routes ls secs.length secs.length) (eE secs pts routes ls)=m7 secs pts routes ls bE views:=by
 funext z
 unfold g7 m7;rw [zY hw,hh]
theorem Ou (hw:∀s,e8 routes ls s=fw routes ls s) (hh:eE secs pts routes ls=gW secs pts routes ls) (h:¬dV secs pts routes ls r bE views right=0):
  (dV secs pts routes ls r bE views right=7∧eo routes r=false)∨
  (dV secs pts routes ls r bE views right=8∧eo routes r=true∧¬bL (fun x:Lk=>decide (x.route=r)) ls<0)∨
  (dV secs pts routes ls r bE views right=9∧eo routes r=true∧bL (fun x:Lk=>decide (x.route=r)) ls<0∧(bu routes r).any (fM routes ls bE)=true)∨
  (dV secs pts routes ls r bE views right=9∧eo routes r=true∧bL (fun x:Lk=>decide (x.route=r)) ls<0∧(bu routes r).any (fM routes ls bE)=false∧(b6 (bz secs pts (routes.getD r.toNat [])) right).any (g7 pts bE views (c_ routes ls secs.length secs.length) (eE secs pts routes ls))=true):=by
 rw [Ir (n:=0) hw hh,G5 hw]
 cases h1:eo routes r with
 |false=>
  have:=IY h1;exact .inl ⟨by unfold dV;rw [if_pos this],rfl⟩
 |true=>
  have hr:=ti h1;by_cases h2:d2 ls r≥0
  ·exact .inr (.inl ⟨Jp hr h2,rfl,show ¬d2 ls r<0 by omega⟩)
  ·have h2':bL (fun x:Lk=>decide (x.route=r)) ls<0:=show d2 ls r<0 by omega
   cases h3:ll routes ls bE (routes.getD r.toNat []) ((routes.getD r.toNat []).length-1) with
   |true=>exact .inr (.inr (.inl ⟨wE hr h2 h3,rfl,h2',rfl⟩))
   |false=>
    cases h4:(b6 (bz secs pts (routes.getD r.toNat [])) right).any (m7 secs pts routes ls bE views) with
    |true=>exact .inr (.inr (.inr ⟨IG hr h2 h3 h4,rfl,h2',rfl,rfl⟩))
    |false=>exact absurd (Jq hr h2 h3 h4) h
theorem Ov (hw:∀s,e8 routes ls s=fw routes ls s) (hh:eE secs pts routes ls=gW secs pts routes ls) (h:dV secs pts routes ls r bE views right=0):
  eo routes r=true∧bL (fun x:Lk=>decide (x.route=r)) ls<0∧(bu routes r).any (fM routes ls bE)=false∧(b6 (bz secs pts (routes.getD r.toNat [])) right).any (g7 pts bE views (c_ routes ls secs.length secs.length) (eE secs pts routes ls))=false:=by
 rw [Ir (n:=0) hw hh,G5 hw];unfold dV at h;by_cases h1:r<0∨r≥(routes.length:Int)
 ·rw [if_pos h1] at h;exact absurd h (by decide)
 rw [if_neg h1] at h;by_cases h2:d2 ls r≥0
 ·rw [if_pos h2] at h;exact absurd h (by decide)
 rw [if_neg h2] at h;have h2':d2 ls r<0:=by omega
 refine ⟨by unfold eo;rw [decide_eq_true (by omega),decide_eq_true (by omega)];rfl,h2',?_⟩
 cases h3:ll routes ls bE (routes.getD r.toNat []) ((routes.getD r.toNat []).length-1) with
 |true=>rw [if_pos h3] at h;exact absurd h (by decide)
 |false=>
  rw [if_neg (by rw [h3];exact Bool.false_ne_true)] at h
  cases h4:(b6 (bz secs pts (routes.getD r.toNat [])) right).any (m7 secs pts routes ls bE views) with
  |true=>rw [if_pos h4] at h;exact absurd h (by decide)
  |false=>exact ⟨rfl,rfl⟩
theorem Qs {cn now:Int} (hen:∀x,x∈ls→ -1≤x.ends) (h:gy routes ls r=0):ZP cn now (bL (fun x:Lk=>decide (x.route=r)) ls).toNat ls=fS routes ls r (now+cn):=by
 have hf:¬d2 ls r<0:=by
  intro h2;unfold gy at h
  split at h
  ·exact absurd h (by decide)
  ·first|exact absurd h (by decide)|(rw [if_pos h2] at h;exact absurd h (by decide))
 rw [AI h];show ZP cn now (d2 ls r).toNat ls=_;obtain ⟨p,h1,h2,_,_⟩:=pA ao (show ¬bL (fun x:Lk=>decide (x.route=r)) ls= -1 from fun e=>hf (by show bL _ ls<0;rw [e];decide));have hp:(d2 ls r).toNat=p:=by show (bL _ ls).toNat=p;rw [h1];rfl
 rw [hp];have he:=hen _ (c8 (l:=ls) (k:=p) ao h2);unfold ZP ZN;by_cases h3:(ls.getD p ao).ends<0
 ·rw [if_pos h3,if_pos (by omega)];rfl
 ·rw [if_neg h3,if_neg (by omega)];exact (set_self ao ls p).symm
theorem Ti (h:gy routes ls r=0):eo routes r=true∧¬bL (fun x:Lk=>decide (x.route=r)) ls<0:=by
 unfold gy at h
 split at h
 ·exact absurd h (by decide)
 ·rename_i h1
  split at h
  ·exact absurd h (by decide)
  ·rename_i h2;exact ⟨by unfold eo;rw [decide_eq_true (by omega),decide_eq_true (by omega)];rfl,h2⟩
theorem Tj (h:¬gy routes ls r=0):(gy routes ls r=7∧eo routes r=false)∨(gy routes ls r=8∧eo routes r=true∧bL (fun x:Lk=>decide (x.route=r)) ls<0):=by
 cases h1:eo routes r with
 |false=>have:=IY h1;exact .inl ⟨by unfold gy;rw [if_pos this],rfl⟩
 |true=>
  have hr:=ti h1;by_cases h2:d2 ls r<0
  ·exact .inr ⟨Jr hr h2,rfl,h2⟩
  ·exact absurd (BP hr h2) h
end
section
variable {routes parts:List (List Int)} {bE ow:List Int} {now:Int} {x:Lk} {ls:List Lk}
theorem Q8 (hen: -1≤x.ends) {ps:List Int} {k:Nat} (hs:cE ⟨routes,parts,now,bE,ow⟩ x k=(bu routes x.route).getD k 0):
  kT ⟨routes,parts,now,bE,ow⟩ x (cE ⟨routes,parts,now,bE,ow⟩ x k) (ps.getD k 0) ((ps.take k).any fun b=>b != 0)=gp routes parts bE ow now ⟨x.route,x.cX,x.ends,ps⟩ k:=by
 rw [hs];unfold kT oq jd g9 gp;simp only;generalize (bu routes x.route).getD k 0=s;generalize ps.getD k 0=p;generalize ((ps.take k).any fun b=>b != 0)=left;generalize hst:bE.getD s.toNat 0=v;generalize ow.getD (dl parts s).toNat 0=o;by_cases h2:p=2
 ·subst h2
  cases left<;>by_cases hv:v=0<;>simp [hv]
 ·by_cases h1:p=1
  ·subst h1;by_cases hv1:v=1
   ·subst hv1;by_cases ho:o=x.cX<;>simp [ho]
   ·by_cases hv0:v=0
    ·subst hv0;by_cases he:x.ends= -1
     ·simp [he]
     ·have:0≤x.ends:=by omega
      by_cases hn:x.ends≤now<;>simp [he,hn,this]
    ·simp [hv0,hv1]
  ·simp [h1,h2]
theorem AY (hx:gn routes x) (hen: -1≤x.ends):∀k,k≤x.pieces.length→bI ⟨routes,parts,now,bE,ow⟩ x k=(cS routes parts bE ow now x.route x.cX x.ends x.pieces k,((cS routes parts bE ow now x.route x.cX x.ends x.pieces k).take k).any fun b=>b != 0)
 |0,_=>rfl
 |k+1,h=>by
  have ih:=AY hx hen k (by omega)
  have hs:cE ⟨routes,parts,now,bE,ow⟩ x k=(bu routes x.route).getD k 0:=by
   show (routes.getD x.route.toNat []).getD (k+1) 0=((routes.getD x.route.toNat []).drop 1).getD k 0;simp [List.getD_eq_getElem?_getD,Nat.add_comm]
  have hv:=Q8 (routes:=routes) (parts:=parts) (bE:=bE) (ow:=ow) (now:=now) (x:=x) hen (ps:=cS routes parts bE ow now x.route x.cX x.ends x.pieces k) (k:=k) hs;have hl:k<(cS routes parts bE ow now x.route x.cX x.ends x.pieces k).length:=by rw [rB];omega
  unfold bI;rw [ih];simp only;rw [hv];refine Prod.ext rfl ?_;show _=(((cS routes parts bE ow now x.route x.cX x.ends x.pieces k).set k _).take (k+1)).any _;rw [List.take_add_one,List.take_set_of_le (Nat.le_refl _),List.getElem?_set_self hl,List.any_append];simp
theorem Pj (hlk:∀x,x∈ls→gn routes x) (hen:∀x,x∈ls→ -1≤x.ends):dp ⟨routes,parts,now,bE,ow⟩ ls=(eK routes parts bE ow now ls).filter fun x=> !j4 x:=by
 unfold dp eK;rw [List.filter_map]
 have h1:∀x,x∈ls→mI ⟨routes,parts,now,bE,ow⟩ x=((fun x=> !j4 x)∘fun x=>ou routes parts bE ow now x x.pieces.length) x:=fun x hx=>by
  unfold mI;rw [AY (hlk x hx) (hen x hx) _ (Nat.le_refl _)];show _= !(!((cS routes parts bE ow now x.route x.cX x.ends x.pieces x.pieces.length).any _));rw [Bool.not_not,List.take_of_length_le (by rw [rB];exact Nat.le_refl _)]
 rw [List.filter_congr h1];refine List.map_congr_left fun x hx=>?_;have hx:=(List.mem_filter.1 hx).1;unfold zf ou;rw [AY (hlk x hx) (hen x hx) _ (Nat.le_refl _)]
end
theorem wt (x:Act) (n:Nat):(cr x n).length≤n:=by
 unfold cr
 split
 ·rw [List.length_take];omega
 ·omega
theorem XF {E:Int} {a b:List Bool} (h:b=a):((E==E)&&decide (a=b))=true:=by simp [h]
theorem WR {E:Int} {a b:List Bool} (he:E=0) (h:b=a):(((0:Int)==E)&&decide (a=b))=true:=by simp [h,he]
theorem XJ {E:Int}:(E==E)=true:=by simp
end Go.Lo
