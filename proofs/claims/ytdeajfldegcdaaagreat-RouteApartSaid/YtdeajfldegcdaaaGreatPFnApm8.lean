/- Part of the logic of values: what the law reaches. -/
import Derived.Test.YtdeajfldegcdaaaGreatPFnApm7
import Derived.Lib.AppendZerosOnto
set_option linter.unusedVariables false
set_option linter.unusedSimpArgs false
namespace Go.Lo
section
variable {P:Program} {E:VC} {st:St} {K:St→Prop}
theorem Ga {o:Oper} {t e:TypeId} {x ix:Operand} {d n sz:Nat} {b:Bool} {k:IntKind} {i:Int} {cells:List AV} {av:AV} (ho:o.op=.index t x ix) (hd:o.dst=some d) (hN:(aT E.N x&&aT E.N ix&&Nat.blt d E.N)=true)
  (ht:P.underlying t=some (.array n e)) (hb:V0 P e=some b) (hsz:(P.info? e).map (·.size)=some sz) (hx:aO st.env x=.agg cells) (hi:aO st.env ix=.v (.int k i)) (h0:0≤i) (h1:i<n)
  (hp:acD b cells (i.toNat*sz) sz=some av) (h:K ⟨upd st.env d av,st.ob⟩):Vo P E o st K:=by
 simp only [Bool.and_eq_true] at hN;refine W4 av (fun d' hd'=>by rw [hd] at hd';cases hd';exact aS hN.2) (fun a w C hs=>?_) (by rw [hd];exact h);have hx1:=hs.ev x hN.1.1;rw [hx] at hx1;have hi1:=hs.ev ix hN.1.2;rw [hi] at hi1;have hi2:=hi1.dM;generalize Wd:a.eval x=ux at hx1
 cases hx1 with
 |agg _ us hsz' hrel=>
  obtain ⟨u,hr,hR⟩:=akv (off:=i.toNat*sz) hb hsz hp hsz' hrel;refine ⟨u,?_,hR⟩;simp [execOp,ho,Wd,hi2,Instr.index,asIntOf,run_underlying ht,h0,h1,run_sizeOf hsz,hr]
theorem y9 {o:Oper} {c:Call} {t e:TypeId} {x:Operand} {d:Nat} (ho:o.op=.call c) (hc:c={ callee:=.builtin .cap,args:= #[x],argTypes:= #[t] }) (hd:o.dst=some d) (hN:(aT E.N x&&Nat.blt d E.N)=true)
  (ht:P.underlying t=some (.slice e)) (hx:aO st.env x=.v (.slice none 0 0)) (h:K ⟨upd st.env d (.v (.int .i64 0)),st.ob⟩):Vo P E o st K:=by
 subst hc;simp only [Bool.and_eq_true] at hN;refine W4 (.v (.int .i64 0)) (fun d' hd'=>by rw [hd] at hd';cases hd';exact aS hN.2) (fun a w C hs=>?_) (by rw [hd];exact h);have hx1:=hs.ev x hN.1;rw [hx] at hx1;have hx2:=hx1.dM;refine ⟨.int .i64 0,?_,.v _⟩;simp [execOp,ho,resolve,invoke,builtin,hx2,Builtin.cap_,run_underlying ht,goInt]
theorem ai8 {o:Oper} {t e sz d:Nat} {x:Operand} {lo hi:Option Operand} (ho:o.op=.slice t x lo hi none) (hd:o.dst=some d) (hN:(aT E.N x&&okO E.N lo&&okO E.N hi&&Nat.blt d E.N)=true)
  (ht:P.underlying t=some (.slice e)) (hsz:(P.info? e).map (·.size)=some sz) (hx:aO st.env x=.v (.slice none 0 0)) (hlo:kX st.env lo 0 0) (hhi:kX st.env hi 0 0)
  (h:K ⟨upd st.env d (.v (.slice none 0 0)),st.ob⟩):Vo P E o st K:=by
 simp only [Bool.and_eq_true] at hN;refine W4 _ (fun d' hd'=>by rw [hd] at hd';cases hd';exact aS hN.2) (fun a w C hs=>?_) (by rw [hd];exact h);have hx1:=hs.ev x hN.1.1.1;rw [hx] at hx1;have hx2:=hx1.dM;have hr:=oK (P:=P) (A:=none) (n:=0) (c:=0) ht hsz (mh hs hN.1.1.2 hlo) (mh hs hN.1.2 hhi) (Nat.le_refl 0) (Nat.le_refl 0) w;exact ⟨.slice none 0 0,by simp only [execOp,ho,hx2,Option.map_none,Sem.run_bind,hr,Result.andThen_ok];rfl,.v _⟩
theorem SR.drew {C:Ctx} {a:Act} {w:World} (hs:SR E C st a w):SR E C st a w.drew:=by
 have hext:Ext w C { w with drawn:=w.drawn+1 } C:=⟨fun _ h=>⟨h,rfl,rfl,rfl⟩,fun _ _ h=>h,fun _ _ _=>rfl⟩
 have:=hs.put hext st.ob ⟨hs.obj.nil,fun id o b h1 h2=>?_,hs.obj.inj,hs.obj.dom,hs.obj.bnd⟩ ⟨hs.fr.os,hs.fr.tape,hs.fr.output,hs.fr.size,hs.fr.block⟩ hs.fresh hs.keep hs.WE none (fun d h=>by cases h) .any undef (fun h=>absurd rfl h)
 ·exact this
 ·obtain ⟨k1,cur,k2,k3,k4,k5⟩:=hs.obj.live id o b h1 h2;refine ⟨k1,cur,k2,k3,k4,fun j av hj=>?_⟩;obtain ⟨u,hu,k6,k7⟩:=k5 j av hj;exact ⟨u,hu,k6,k7.ext hext⟩
theorem ajz {o:Oper} {c:Call} {t tn e:TypeId} {s x:Operand} {d size bytes n:Nat} {z:Value} {k:IntKind} (id:Nat) (ho:o.op=.call c) (hc:c={ callee:=.builtin .append,args:= #[s,x],argTypes:= #[t,tn] }) (hd:o.dst=some d)
  (hN:(aT E.N s&&aT E.N x&&Nat.blt d E.N)=true) (ht:P.underlying t=some (.slice e)) (htn:P.underlying tn=some (.int k)) (hinfo:(P.info? e).map (fun i=>(i.zero,i.size,i.bytes))=some (some z,size,bytes)) (hzs:z.cells.size=size) (hsz:0<size)
  (hs0:aO st.env s=.v (.slice none 0 0)) (hx0:aO st.env x=.v (.int k (n:Int))) (hn:0<n) (hb:n*bytes≤140737488355328) (hb0:n≤140737488355328) (hf:st.ob id=.free)
  (h:K ⟨upd st.env d (.sl id 0 n),U4 st.ob id (.live ⟨[],e,size⟩)⟩):Vo P E o st K:=by
 subst hc;simp only [Bool.and_eq_true] at hN;rintro a w q ⟨C,hs⟩;obtain ⟨i0,hi,hzz⟩:=Option.map_eq_some_iff.1 hinfo;simp only [Prod.mk.injEq] at hzz;obtain ⟨hz0,hz1,hz2⟩:=hzz;have hvs:=hs.ev s hN.1.1;rw [hs0] at hvs;have Ns:=hvs.dM;have ET:=hs.ev x hN.1.2;rw [hx0] at ET;have Nt:=ET.dM;have hfit:Builtin.nextslicecap (0+n) 0*i0.bytes≤281474976710656:=growslice_fits (by omega) (by rw [Nat.zero_add,hz2];exact hb);have hold:(Builtin.firstCells i0.size 0 (.slice none 0 0)).run P w.drew=.ok ([]:List Value).toArray w.drew:=by simp [Builtin.firstCells]
 have hrun:=Lib.run_append_grow_zeros (P:=P) w t tn o.type e i0 z k k ht htn hi hz0 none 0 0 [] hold n hn (by omega) (by omega) (by omega) (by rw [hz2];omega) hfit;have hcap:=grownCap_ge w (0+n) 0 e;have hcap2:=grownCap_le_maxLen w (0+n) 0 e (by unfold maxLen;omega);generalize hG:grownCap w (0+n) 0 e=G at hrun hcap hcap2
 have hcsz:(([]:List Value).toArray++Builtin.zeroCells z.cells n++Builtin.zeroCells z.cells (G-(0+n))).size=G*size:=by
  simp only [Builtin.zeroCells,Array.size_append,List.size_toArray,List.length_nil,Array.size_map,Array.size_range,hzs];rw [Nat.zero_add, ←Nat.add_mul]
  congr 1
  omega
 have hnew:=hs.drew.new id hf ⟨[],e,size⟩ (([]:List Value).toArray++Builtin.zeroCells z.cells n++Builtin.zeroCells z.cells (G-(0+n))) (by simp) (fun j c hj=>by simp at hj) o.dst (fun d' hd'=>by rw [hd] at hd';cases hd';exact aS hN.2) (.sl id 0 n) (.slice (some ⟨w.drew.heap.size,0,none⟩) (0+n) G) (fun _=>by
  rw [Nat.zero_add] at hcsz ⊢;exact .sl id 0 n G _ (.inl rfl) (by simp [Ctx.add]) (by omega) hcap2 (by simp only [Ctx.add,if_true];rw [Nat.zero_add];exact hcsz.symm))
 unfold Oper.wp
 have hex:(execOp a.eval o).run P w=.ok (.value (.slice (some ⟨w.drew.heap.size,0,none⟩) (0+n) G)) (w.drew.alloc (.cells (([]:List Value).toArray++Builtin.zeroCells z.cells n++Builtin.zeroCells z.cells (G-(0+n))) e)):=by
  simp only [execOp,ho,resolve,invoke,builtin,Sem.run_bind,Sem.run_pure,Result.andThen_ok,List.map_toArray,List.map_cons,List.map_nil,Ns,Nt,hrun];rfl
 rw [hex];refine ⟨_,⟨_,hnew⟩,?_⟩;rw [hd];exact h
theorem ac9 {o:Oper} {c:Call} {t e:TypeId} {s x:Operand} {d m size bytes:Nat} {z:Value} {cells:List AV} (id':Nat) (ho:o.op=.call c) (hc:c={ callee:=.builtin .append,args:= #[s,x],argTypes:= #[t,t] }) (hd:o.dst=some d)
  (hN:(aT E.N s&&aT E.N x&&Nat.blt d E.N)=true) (ht:P.underlying t=some (.slice e)) (hinfo:(P.info? e).map (fun i=>(i.zero,i.size,i.bytes))=some (some z,size,bytes)) (hzs:z.cells.size=size) (hsz:0<size)
  (hs0:aO st.env s=.v (.slice none 0 0)) (hx0:aO st.env x=.ro m cells) (hm:cells.length=m*size)
  (hb:m*bytes≤140737488355328) (hb0:m≤140737488355328) (hf:st.ob id'=.free) (h:K ⟨upd st.env d (.sl id' 0 m),U4 st.ob id' (.live ⟨cells,e,size⟩)⟩):Vo P E o st K:=by
 subst hc;simp only [Bool.and_eq_true] at hN;rintro a w q ⟨C,hs⟩;obtain ⟨i0,hi,hzz⟩:=Option.map_eq_some_iff.1 hinfo;simp only [Prod.mk.injEq] at hzz;obtain ⟨hz0,hz1,hz2⟩:=hzz;have hrs:=hs.ev s hN.1.1;rw [hs0] at hrs;have hus:=hrs.dM;have hrx:=hs.ev x hN.1.2;rw [hx0] at hrx;generalize Wd:a.eval x=ux at hrx;obtain ⟨A,cap,rfl,hA0,news,hnl,hnc,hn1,hnr⟩:=uK hrx;have hdom:¬C.dom id':=fun h=>hs.obj.dom id' h hf;have hown:w.ownsRow 0 e size (.slice none 0 0) 0 []:=⟨by simp,.inl ⟨rfl,rfl⟩⟩
 have hrun:∃v' w',(Builtin.append_ #[t,t] o.type #[.slice none 0 0,.slice A m cap]).run P w=.ok v' w'∧w'.ownsRow 0 e size v' (0+m) ([]++news)∧w.grownBy w' none∧(v'.ownBlock=none∨v'.ownBlock=some w.heap.size):=by
  cases A with
  |none=>
   obtain ⟨rfl,rfl⟩:=hA0 rfl;have hn0:news=[]:=List.eq_nil_of_length_eq_zero (by rw [hnl,hm];simp);subst hn0;exact ⟨_,w,yG w 0 t o.type e i0 size ht hi _ 0 [] hown 0,by simpa using hown,⟨rfl,rfl,rfl,Nat.le_refl _,fun _ _ _=>rfl⟩,.inl rfl⟩
  |some ad=>
   obtain ⟨v',w',h1,h2,h3,_,h5⟩:=run_append_own_at (P:=P) w 0 t o.type e i0 z size bytes ht hi hz0 hz1 hz2 hzs hsz _ 0 [] hown ad m cap news (by rw [hnl,hm]) (hnc ad rfl) hn1 (by unfold maxLen;omega) (by rw [Nat.zero_add];exact hb) (Nat.zero_le _);exact ⟨v',w',h1,h2,h3,h5⟩
 obtain ⟨v',w',hr,hown',hg,hat⟩:=hrun;rw [Nat.zero_add,List.nil_append] at hown'
 obtain ⟨nb,sz',hnb,hR,pR⟩:∃(nb:Option Nat) (sz':Nat),v'.ownBlock=nb∧R w' (C.add id' nb sz' size) (.sl id' 0 m) v'∧
   (∀g,nb=some g→∃cur:Array Value,w'.heap[g]? =some (.cells cur e (0,0))∧cur.size=sz'∧cur.toList.take (m*size)=news∧m*size≤cur.size):=by
  rcases hown'.2 with ⟨rfl,h0⟩|⟨g,cap',cur,rfl,_,hh,h1,h2,h3,h4⟩
  ·refine ⟨none,0,rfl,?_,fun g hg=>by cases hg⟩;rw [h0];exact .slnil id' (.inl rfl) (by simp [Ctx.add])
  ·refine ⟨some g,cur.size,rfl,.sl id' 0 m cap' g (.inl rfl) (by simp [Ctx.add]) h1 h2 (by simp [Ctx.add,h3]),fun g' hg'=>?_⟩
   cases hg'
   exact ⟨cur,hh,rfl,h4,by rw [h3];exact Nat.mul_le_mul_right _ h1⟩
 have mI:∀g,nb=some g→w.heap.size=g:=fun g hg'=>by
  rw [hg'] at hnb;rcases hat with h1|h1
  ·rw [hnb] at h1;cases h1
  ·rw [hnb] at h1;cases h1;rfl
 have hnn:nb=none→m=0:=fun h0=>by
  rcases hown'.2 with ⟨_,h1⟩|⟨g,cap',cur,rfl,_⟩
  ·exact h1
  ·simp [Value.ownBlock] at hnb;rw [h0] at hnb;cases hnb
 have hheap:∀b,b<w.heap.size→¬C.own b→w'.heap[b]? =w.heap[b]? :=fun b hb' ho=>hg.block b hb' (fun e=>by cases e);have hext:Ext w C w' (C.add id' nb sz' size):=Ext.add hdom (fun g hg'=>.inl (Nat.le_of_eq (mI g hg'))) hheap
 have hlive:∀i o',U4 st.ob id' (.live ⟨cells,e,size⟩) i=.live o'→(i=id'∧o'=⟨cells,e,size⟩)∨(i≠id'∧st.ob i=.live o'):=fun i o' h=>by
  by_cases he:i=id'
  ·subst he;rw [V9] at h;cases h;exact .inl ⟨rfl,rfl⟩
  ·rw [VX _ _ he] at h;exact .inr ⟨he,h⟩
 have hrel:∀(j:Nat) (av:AV),cells[j]? =some av→∃u:Value,news[j]? =some u∧u.oneCell'=true∧R w C av u:=fun j av hj=>by
  obtain ⟨y,hy,hr⟩:=hnr _ av hj;exact ⟨y,hy,hn1 y (List.mem_of_getElem? hy),hr⟩
 have hfin:=hs.put hext (U4 st.ob id' (.live ⟨cells,e,size⟩)) ⟨fun i o' h=>by
   rcases hlive i o' h with ⟨rfl,rfl⟩|⟨h1,h3⟩
   ·refine ⟨.inl rfl,by simp [Ctx.add],fun hb0=>?_⟩;simp only [Ctx.add,if_true] at hb0;exact List.eq_nil_of_length_eq_zero (by rw [hm,hnn hb0];simp)
   ·obtain ⟨k1,k2,k3⟩:=hs.obj.nil i o' h3;simp [Ctx.add,h1,k1,k2];exact k3,fun i o' b h hb'=>by
   rcases hlive i o' h with ⟨rfl,rfl⟩|⟨h1,h3⟩
   ·simp only [Ctx.add,if_true] at hb';obtain ⟨cur,k1,k2,k3,k4⟩:=pR b hb';refine ⟨.inl hb'.symm,cur,k1,by simp [Ctx.add,k2],by simp only [hm];exact k4,fun j av hj=>?_⟩;obtain ⟨u,hu,k5,k6⟩:=hrel j av hj;refine ⟨u,?_,k5,k6.ext hext⟩;rw [←k3,List.getElem?_take] at hu
    split at hu
    ·simpa using hu
    ·cases hu
   ·simp only [Ctx.add,h1,if_false] at hb';obtain ⟨k1,pQ,k2,k3,k4,k5⟩:=hs.obj.live i o' b h3 hb';refine ⟨.inr k1,pQ,(hg.block b (hs.obj.bnd b k1) (fun e=>by cases e)).trans k2,by simp [Ctx.add,h1,k3],k4,fun j av hj=>?_⟩;obtain ⟨u,hu,k6,hr⟩:=k5 j av hj;exact ⟨u,hu,k6,hr.ext hext⟩,fun i i' o1 o2 b h1 h2 h3 h4=>by
   have other:∀i o1,st.ob i=.live o1→C.blk i=some b→nb=some b→False:=fun i o1 k1 k3 k4=>by
    have k5:=mI b k4;have:=hs.obj.bnd b (hs.obj.live i o1 b k1 k3).1;omega
   rcases hlive i o1 h1 with ⟨rfl,rfl⟩|⟨k1,k3⟩<;>rcases hlive i' o2 h2 with ⟨rfl,rfl⟩|⟨l1,l3⟩
   ·rfl
   ·simp only [Ctx.add,if_true] at h3;simp only [Ctx.add,l1,if_false] at h4;exact (other i' o2 l3 h4 h3).elim
   ·simp only [Ctx.add,if_true] at h4;simp only [Ctx.add,k1,if_false] at h3;exact (other i o1 k3 h3 h4).elim
   ·simp only [Ctx.add,k1,if_false] at h3;simp only [Ctx.add,l1,if_false] at h4;exact hs.obj.inj i i' o1 o2 b k3 l3 h3 h4,fun i hi=>by
   by_cases he:i=id'
   ·subst he;rw [V9];intro h;cases h
   ·rw [VX _ _ he];rcases hi with hi|hi
    ·exact absurd hi he
    ·exact hs.obj.dom i hi,fun b hb'=>by
   rcases hb' with hb'|hb'
   ·obtain ⟨cur,k1,_⟩:=pR b hb'.symm;exact (Array.getElem?_eq_some_iff.1 k1).1
   ·have:=hs.obj.bnd b hb';have:=hg.size;omega⟩
  ⟨hg.os.trans hs.fr.os,hg.tape.trans hs.fr.tape,hg.output.trans hs.fr.output,Nat.le_trans hs.fr.size hg.size,fun b hb' hG=>by
   have hsz0:=hs.fr.size;exact (hg.block b (by omega) (fun e=>by cases e)).trans (hs.fr.block b hb' hG)⟩ (fun i o' b h hb'=>by
   rcases hlive i o' h with ⟨rfl,rfl⟩|⟨h1,h3⟩
   ·simp only [Ctx.add,if_true] at hb';have:=mI b hb';have:=hs.fr.size;exact .inl (by omega)
   ·simp only [Ctx.add,h1,if_false] at hb';exact hs.fresh i o' b h3 hb') (fun b hb'=>.inr (hs.keep b hb')) (fun b hb' ho=>by
   rcases ho with ho|ho
   ·have:=mI b ho.symm;have:=hs.fr.size;omega
   ·exact hs.WE b hb' ho) o.dst (fun d' hd'=>by rw [hd] at hd';cases hd';exact aS hN.2) (.sl id' 0 m) v' (fun _=>hR)
 have hrun':(execOp a.eval o).run P w=.ok (.value v') w':=by
  simp only [execOp,ho,resolve,invoke,builtin,Sem.run_bind,Sem.run_pure,Result.andThen_ok,List.map_toArray,List.map_cons,List.map_nil,hus,Wd,hr]
 unfold Oper.wp;rw [hrun'];refine ⟨_,⟨_,hfin⟩,?_⟩;rw [hd];exact h
end
end Go.Lo
set_option linter.unusedVariables false
set_option linter.unusedSimpArgs false
namespace Go.Lo
section
variable {α:Type} (f:α→Bool) (d:α)
def stepG (s:List α×Nat) (n:α):List α×Nat:=if f n=true then s else (s.1.set s.2 n,s.2+1)
def bG (l:List α) (j:Nat):List α×Nat:=(l.take j).foldl (stepG f) (l,0)
def VE (l:List α):List α:=l.filter (fun x=> !f x)
theorem abB {l:List α} {j:Nat} (h:j<l.length):bG f l (j+1)=stepG f (bG f l j) (l.getD j d):=by
 unfold bG;rw [X1 d h,List.foldl_append];rfl
theorem zf {l:List α} {k:Nat} (h:k<l.length):VE f (l.take (k+1))=VE f (l.take k)++(if f (l.getD k d)=true then [] else [l.getD k d]):=by
 rw [X1 d h];simp only [VE,List.filter_append,List.filter_cons,List.filter_nil]
 cases f (l.getD k d)<;>simp
theorem ajL {l:List α} {k:Nat} (h:k<l.length) (hc:f (l.getD k d)=false):VE f (l.take k)++[l.getD k d]=VE f (l.take (k+1)):=by rw [zf f d h,if_neg (by rw [hc];simp)]
theorem Gy {l:List α} {k:Nat} (h:k<l.length) (hc:f (l.getD k d)=true):VE f (l.take k)=VE f (l.take (k+1)):=by rw [zf f d h,if_pos hc,List.append_nil]
theorem zX (l:List α):∀(j:Nat),j≤l.length→(bG f l j).1.length=l.length∧(bG f l j).2≤j∧(∀i,j≤i→(bG f l j).1[i]? =l[i]?)∧(bG f l j).1.take (bG f l j).2=VE f (l.take j)∧(bG f l j).2=(VE f (l.take j)).length:=by
 intro j
 induction j with
 |zero=>intro _;exact ⟨by simp [bG],by simp [bG],fun i _=>by simp [bG],by simp [bG,VE],by simp [bG,VE]⟩
 |succ j ih=>
  intro hj;obtain ⟨h1,h2,h3,h4,h5⟩:=ih (by omega);rw [abB f (l.getD j (l[j]'(by omega))) (by omega)];generalize hx:l.getD j (l[j]'(by omega))=d;have hxd:l.getD j d=d:=by rw [←hx];simp [show j<l.length by omega]
  rw [hxd];unfold stepG;by_cases hd:f d=true
  ·have hw:=Gy f d (l:=l) (k:=j) (by omega) (by rw [hxd];exact hd);rw [if_pos hd];exact ⟨h1,by omega,fun i hi=>h3 i (by omega),by rw [h4,hw],by rw [h5,hw]⟩
  ·have hw:=ajL f d (l:=l) (k:=j) (by omega) (by rw [hxd];simpa using hd);rw [hxd] at hw;rw [if_neg hd];refine ⟨by simp [h1],by simp;omega,fun i hi=>?_,?_,?_⟩
   ·simp only;rw [List.getElem?_set_ne (by omega)];exact h3 i (by omega)
   ·rw [←hw, ←h4];simp only;rw [X1 d (by simp;omega)];rw [yJ];simp [show (bG f l j).2<(bG f l j).1.length by omega]
   ·rw [←hw];simp [h5]
theorem AO {l:List α} {j:Nat} (h:j<l.length):(bG f l j).1.getD j d=l.getD j d:=by
 have:=(zX f l j (by omega)).2.2.1 j (Nat.le_refl _);simp only [List.getD_eq_getElem?_getD,this]
theorem Gd {l:List α} {j:Nat} (h:j<l.length) (hc:f ((bG f l j).1.getD j d)=false):bG f l (j+1)=((bG f l j).1.set (bG f l j).2 ((bG f l j).1.getD j d),(bG f l j).2+1):=by
 rw [abB f d h,AO f d h] at*;unfold stepG;rw [if_neg (by rw [hc];simp)]
theorem agj {l:List α} {j:Nat} (h:j<l.length) (hc:f ((bG f l j).1.getD j d)=true):bG f l (j+1)=bG f l j:=by
 rw [AO f d h] at hc;rw [abB f d h];unfold stepG;rw [if_pos hc]
include d in
theorem FQ {l:List α}:∀(i:Nat),i<l.length→(l.take i).any f=false→bG f l i=(l,i):=by
 intro i
 induction i with
 |zero=>intro _ _;simp [bG]
 |succ i ih=>
  intro hi h;rw [X1 d (by omega),List.any_append,Bool.or_eq_false_iff] at h;rw [abB f d (by omega),ih (by omega) h.1];unfold stepG;rw [if_neg (by simpa using h.2)];simp only [Prod.mk.injEq,and_true];refine List.ext_getElem? (fun k=>?_);rw [List.getElem?_set]
  split
  ·rename_i e;subst e;simp [show i<l.length by omega]
  ·rfl
theorem y8 {l:List α} {i:Nat} (hi:i<l.length) (h:(l.take i).any f=false) (hd:f (l.getD i d)=true):bG f l (i+1)=(l,i):=by
 rw [abB f d hi,FQ f d i hi h];unfold stepG;rw [if_pos hd]
theorem H8 {l:List α} {i:Nat} (hi:i<l.length) (h:(l.take i).any f=false) (hd:f (l.getD i d)=true):∀k,i+1+k≤l.length→(bG f l (i+1+k)).2<i+1+k:=by
 intro k
 induction k with
 |zero=>intro _;rw [Nat.add_zero,y8 f d hi h hd];simp
 |succ k ih=>
  intro hk;have:=ih (by omega);rw [show i+1+(k+1)=(i+1+k)+1 by omega,abB f d (by omega)];unfold stepG
  split
  ·omega
  ·simp;omega
theorem FE {l:List α} (h:l.any f=false):VE f l=l:=by
 unfold VE;rw [List.filter_eq_self];intro a ha;have:=List.any_eq_false.1 h a ha;simpa using this
include d in
theorem any_none {l:List α} (h:bX f l= -1):l.any f=false:=by
 cases ha:l.any f with
 |false=>rfl
 |true=>obtain ⟨k,h1,h2,h3⟩:=PN d l ha;rw [fO d h1 h2 h3] at h;omega
end
theorem Gg {α:Type} {e:α→List AV} {z:Array Value} {v:α} (hv:z.toList.map AV.v=e v) (hz:0<z.size):∀n:Nat,(Builtin.zeroCells z n).toList.map AV.v=enc e (List.replicate n v):=by
 have key:∀n,(Builtin.zeroCells z (n+1)).toList=(Builtin.zeroCells z n).toList++z.toList:=by
  intro n;simp only [Builtin.zeroCells,Array.toList_map,Array.toList_range];rw [show (n+1)*z.size=n*z.size+z.size from Nat.succ_mul _ _,List.range_add,List.map_append,List.map_map]
  congr 1
  apply List.ext_getElem
  ·simp
  ·intro i h1 h2;have hi:i<z.size:=by simpa using h2
   simp only [List.getElem_map,List.getElem_range,Function.comp,Nat.mul_add_mod_self_right,Nat.mod_eq_of_lt hi];simp [hi]
 intro n
 induction n with
 |zero=>simp [Builtin.zeroCells,enc]
 |succ n ih=>rw [key n,List.map_append,ih,List.replicate_succ',oL,hv]
theorem af8 {α:Type} {e:α→List AV} {z:Array Value} {v:α} {s:Nat} (hf:∀x,(e x).length=s) (hz:∀n:Nat,(Builtin.zeroCells z n).toList.map AV.v=enc e (List.replicate n v)) {l:List α} {i n:Nat} (h:i+n=l.length):spl (enc e l) (0+i*s) ((Builtin.zeroCells z n).toList.map AV.v)=enc e (l.take i++List.replicate n v):=by
 have hl:(enc e (List.replicate n v)).length=n*s:=by rw [eO (f:=e) (s:=s) hf];simp
 rw [hz];unfold spl;rw [hl,Nat.zero_add,oP (f:=e) (s:=s) hf,jV,List.drop_of_length_le (by rw [eO (f:=e) (s:=s) hf, ←Nat.add_mul];exact Nat.mul_le_mul_right _ (by omega)),List.append_nil]
theorem Gf {α:Type} {e:α→List AV} {s i n:Nat} {l:List α} (hf:∀x,(e x).length=s) (h:i+n=l.length):0+i*s+n*s≤(enc e l).length:=by
 rw [eO (f:=e) (s:=s) hf,Nat.zero_add, ←Nat.add_mul];exact Nat.mul_le_mul_right _ (by omega)
theorem ajE {α:Type} {f:α→Bool} (d:α) {l:List α} {k:Nat} (h:k<l.length) (h2:f (l.getD k d)=true):l.any f=true:=List.any_eq_true.2 ⟨_,VR d h,h2⟩
theorem Iz {α:Type} {f:α→Bool} {l:List α} {k:Nat} (hk:l.length≤k) (h:(l.take k).any f=false):l.any f=false:=by rw [List.take_of_length_le hk] at h;exact h
theorem Gh (l:List Int) (v:Int):decide (bX (fun x=>decide (v=x)) l≥0)=decide (v∈l):=by
 rw [jW 0];by_cases h:v∈l
 ·rw [decide_eq_true h];exact List.any_eq_true.2 ⟨v,h,decide_eq_true rfl⟩
 ·rw [decide_eq_false h]
  cases ha:l.any (fun x=>decide (v=x)) with
  |false=>rfl
  |true=>obtain ⟨x,h1,h2⟩:=List.any_eq_true.1 ha;exact absurd (by rw [of_decide_eq_true h2];exact h1) h
def dL (secs:List aD) (s:Int):Bool:=decide (s<0)||decide (s≥(secs.length:Int))
def Xa (secs:List aD) (s:Int):aD:=if dL secs s then dS else secs.getD s.toNat dS
theorem aj7 {secs:List aD} {s:Int} (h:dL secs s=true):Xa secs s=dS:=by unfold Xa;rw [if_pos h]
theorem adf {secs:List aD} {s:Int} (h:dL secs s=false):Xa secs s=secs.getD s.toNat dS:=by unfold Xa;rw [if_neg (by simp [h])]
theorem aer {secs:List aD} {s:Int} (h:dL secs s=false):0≤s∧s<(secs.length:Int):=by
 simp only [dL,Bool.or_eq_false_iff,decide_eq_false_iff_not] at h;omega
theorem ug (secs:List aD) (k:Nat):dL secs (k:Int)= !decide (k<secs.length):=by
 unfold dL;rw [decide_eq_false (show ¬((k:Int)<0) by omega),Bool.false_or, ←decide_not];exact decide_eq_decide.2 (by omega)
theorem uy {secs:List aD} {k:Nat} (h:k<secs.length):Xa secs (k:Int)=secs.getD k dS:=by
 rw [adf (by rw [ug];simp [h])];rfl
theorem Jq {secs:List aD} {s e:Int} (h:dL secs s=false) (he:e=0):U6 secs s e=(Xa secs s).a∧dD secs s e=false:=by
 have hb:=aer h
 have hn:dD secs s e=false:=by
  unfold dD;subst he;simp;omega
 exact ⟨by rw [Ar hn he,adf h],hn⟩
theorem Jr {secs:List aD} {s e:Int} (h:dL secs s=false) (he:e=1):U6 secs s e=(Xa secs s).b∧dD secs s e=false:=by
 have hb:=aer h
 have hn:dD secs s e=false:=by
  unfold dD;subst he;simp;omega
 exact ⟨by rw [ags hn (by omega),adf h],hn⟩
theorem H6 {secs:List aD} {s e:Int} (h:dL secs s=true∨(¬e=0∧¬e=1)):U6 secs s e=0∧dD secs s e=true:=by
 have hn:dD secs s e=true:=by
  rcases h with h|h
  ·simp only [dL,Bool.or_eq_true,decide_eq_true_eq] at h;simp only [dD,Bool.or_eq_true,decide_eq_true_eq];omega
  ·simp only [dD,Bool.or_eq_true,decide_eq_true_eq];omega
 exact ⟨zR hn,hn⟩
def Pq (secs:List aD) (n:Int) (k j:Nat):List En:=Wg secs n k++(if 0<j∧(secs.getD k dS).a=n then [⟨(k:Int),0⟩] else [])++(if 1<j∧(secs.getD k dS).b=n then [⟨(k:Int),1⟩] else [])
def j4 (secs:List aD) (k j:Nat):Int:=if j=0 then (secs.getD k dS).a else (secs.getD k dS).b
theorem aez (secs:List aD) (n:Int) (k:Nat):Pq secs n k 0=Wg secs n k:=by
 unfold Pq;rw [if_neg (by omega),if_neg (by omega),List.append_nil,List.append_nil]
theorem Gc (secs:List aD) (n:Int) (k:Nat):Pq secs n k 2=Wg secs n (k+1):=by
 unfold Pq;rw [aaU];simp only [show (0:Nat)<2 by decide,show (1:Nat)<2 by decide,true_and]
theorem ajy {secs:List aD} {n:Int} {k j:Nat} (hj:j<2) (h:j4 secs k j=n):Pq secs n k (j+1)=Pq secs n k j++[⟨(k:Int),(j:Int)⟩]:=by
 have:j=0∨j=1:=by omega
 rcases this with rfl|rfl
 ·unfold j4 at h;rw [if_pos rfl] at h;rw [aez];unfold Pq;rw [if_pos ⟨by omega,h⟩,if_neg (by omega),List.append_nil];rfl
 ·unfold j4 at h;rw [if_neg (by omega)] at h;have h':(secs[k]?.getD dS).b=n:=by rw [←List.getD_eq_getElem?_getD];exact h
  unfold Pq;simp [h']
theorem Gb {secs:List aD} {n:Int} {k j:Nat} (hj:j<2) (h:¬j4 secs k j=n):Pq secs n k (j+1)=Pq secs n k j:=by
 have:j=0∨j=1:=by omega
 rcases this with rfl|rfl
 ·unfold j4 at h;rw [if_pos rfl] at h;rw [aez];unfold Pq;rw [if_neg (fun e=>h e.2),if_neg (by omega),List.append_nil,List.append_nil]
 ·unfold j4 at h;rw [if_neg (by omega)] at h;have h':¬(secs[k]?.getD dS).b=n:=by rw [←List.getD_eq_getElem?_getD];exact h
  unfold Pq;simp [h']
theorem ajl (secs:List aD) (n:Int) (k j:Nat):(Pq secs n k j).length≤2*k+2:=by
 have:=ac_ secs n k;unfold Pq;simp only [List.length_append]
 split<;>split<;>simp<;>omega
theorem H7 {secs:List aD} {k j:Nat} (hk:k<secs.length) (hj:j<2):acD false [.v (.int .i64 (Xa secs (k:Int)).a),.v (.int .i64 (Xa secs (k:Int)).b)] ((j:Int).toNat*1) 1=some (.v (.int .i64 (j4 secs k j))):=by
 have:j=0∨j=1:=by omega
 rcases this with rfl|rfl
 ·rw [uy hk];rfl
 ·rw [uy hk];rfl
theorem aes (secs:List aD) (n s e:Int):YW secs n s e=VE (fun x:En=>decide (x.sec=s∧x.en=e)) (bK secs n):=rfl
theorem um {secs:List aD} {n:Int} {x:En}:∀{k:Nat},x∈Wg secs n k→∃i,i<k∧x.sec=(i:Int)
 |0,h=>by cases h
 |k+1,h=>by
  rw [aaU] at h;rcases List.mem_append.1 h with h|h
  ·rcases List.mem_append.1 h with h|h
   ·obtain ⟨i,h1,h2⟩:=um h;exact ⟨i,by omega,h2⟩
   ·split at h
    ·simp at h;subst h;exact ⟨k,by omega,rfl⟩
    ·cases h
  ·split at h
   ·simp at h;subst h;exact ⟨k,by omega,rfl⟩
   ·cases h
theorem FR {secs:List aD} {pts:List aP} {s e:Int} {x:En} (h:x∈Vn secs pts s e):0≤x.sec∧x.sec<(secs.length:Int):=by
 have h1:∀{a b:Int},x∈V1 secs a b→0≤x.sec∧x.sec<(secs.length:Int):=fun hx=>by
  obtain ⟨i,h2,h3⟩:=um (aga hx);omega
 unfold Vn at h
 repeat' split at h
 ·cases h
 ·rcases List.mem_append.1 h with h|h
  ·exact h1 h
  ·exact h1 h
 ·exact h1 h
 ·cases h
 ·obtain ⟨i,h2,h3⟩:=um (List.mem_filter.1 h).1;omega
 ·cases h
theorem L8 {a:Int} (h: -9223372036854775808≤a∧a≤9223372036854775807):Xv .i64 .sub a 0=.int .i64 a:=by
 rw [mE (by omega),Int.sub_zero]
def jO (x:List En):List AV:=[.ro x.length (enc Vl x)]
instance (x:List En):VB (jO x):=by unfold jO;infer_instance
def eH {α:Type} (ls:List (List α)) (k:Nat):List α:=(ls.take k).flatten
theorem uj {α:Type} {ls:List (List α)} {k:Nat} {d:List α} (h:k<ls.length):eH ls (k+1)=eH ls k++ls.getD k d:=by
 unfold eH;rw [X1 d h,List.flatten_append,List.flatten_singleton]
theorem zY {α:Type} {ls:List (List α)} {m:Nat} (hx:∀x,x∈ls→x.length≤m) (k:Nat):(eH ls k).length≤k*m:=by
 induction k with
 |zero=>simp [eH]
 |succ k ih=>
  rcases Nat.lt_or_ge k ls.length with h|h
  ·rw [uj (d:=[]) h,List.length_append,Nat.succ_mul];have:=hx _ (VR [] h);omega
  ·have:eH ls (k+1)=eH ls k:=by unfold eH;rw [List.take_of_length_le h,List.take_of_length_le (by omega)]
   rw [this,Nat.succ_mul];omega
def fH (l out:List Int) (b:Int) (i:Nat):Bool:=(decide (out.length=0)||decide (l.getD i 0>out.getD (out.length-1) 0))&&(decide (b<0)||decide (l.getD i 0<l.getD b.toNat 0))
def bO (l out:List Int):Nat→Int
 |0=> -1
 |i+1=>if fH l out (bO l out i) i then (i:Int) else bO l out i
theorem aav {l out:List Int} {i:Nat} (h:fH l out (bO l out i) i=true):bO l out (i+1)=(i:Int):=by unfold bO;rw [if_pos h]
theorem asr {l out:List Int} {i:Nat} (h:fH l out (bO l out i) i=false):bO l out (i+1)=bO l out i:=by
 conv=>lhs;unfold bO
 rw [if_neg (by simp [h])]
theorem ach (l out:List Int) (i:Nat):bO l out i= -1∨(0≤bO l out i∧bO l out i<(i:Int)):=by
 induction i with
 |zero=>exact .inl rfl
 |succ i ih=>
  unfold bO
  split
  ·right;omega
  ·omega
def nK (out:List Int) (x:Int):Prop:=out.length=0∨x>out.getD (out.length-1) 0
theorem t_ (l out:List Int) (i:Nat):(bO l out i= -1→∀j,j<i→¬nK out (l.getD j 0))∧(∀b:Nat,bO l out i=(b:Int)→nK out (l.getD b 0)∧∀j,j<i→nK out (l.getD j 0)→l.getD b 0≤l.getD j 0):=by
 induction i with
 |zero=>exact ⟨fun _ j h=>by omega,fun b h=>by simp [bO] at h⟩
 |succ i ih=>
  have hr:=ach l out i
  cases hc:fH l out (bO l out i) i with
  |true=>
   rw [aav hc];simp only [fH,Bool.and_eq_true,Bool.or_eq_true,decide_eq_true_eq] at hc;refine ⟨fun h=>by omega,fun b h=>?_⟩;have hb:b=i:=by omega
   subst hb;refine ⟨hc.1,fun j hj ho=>?_⟩;rcases Nat.lt_or_ge j b with hlt|hge
   ·rcases hr with hr|hr
    ·exact absurd ho (ih.1 hr j hlt)
    ·have h2:=ih.2 (bO l out b).toNat (by omega);have h3:=h2.2 j hlt ho;rcases hc.2 with h4|h4<;>omega
   ·have:j=b:=by omega
    subst this;omega
  |false=>
   rw [asr hc];simp only [fH,Bool.and_eq_false_iff,Bool.or_eq_false_iff,decide_eq_false_iff_not] at hc;refine ⟨fun h j hj=>?_,fun b h=>?_⟩
   ·rcases Nat.lt_or_ge j i with hlt|hge
    ·exact ih.1 h j hlt
    ·have:j=i:=by omega
     subst this;intro ho;rcases hc with hc|hc
     ·rcases ho with ho|ho
      ·exact hc.1 ho
      ·exact hc.2 ho
     ·omega
   ·obtain ⟨h1,h2⟩:=ih.2 b h;refine ⟨h1,fun j hj ho=>?_⟩;rcases Nat.lt_or_ge j i with hlt|hge
    ·exact h2 j hlt ho
    ·have:j=i:=by omega
     subst this;rcases hc with hc|hc
     ·rcases ho with ho|ho
      ·exact absurd ho hc.1
      ·exact absurd ho hc.2
     ·rw [h,Int.toNat_natCast] at hc;omega
def aR (l:List Int):Nat→List Int
 |0=>[]
 |k+1=>if bO l (aR l k) l.length<0 then aR l k else aR l k++[l.getD (bO l (aR l k) l.length).toNat 0]
def nH (l:List Int):List Int:=aR l l.length
theorem aeJ {l:List Int} {k:Nat} (h:¬bO l (aR l k) l.length<0):aR l (k+1)=aR l k++[l.getD (bO l (aR l k) l.length).toNat 0]:=by
 conv=>lhs;unfold aR
 rw [if_neg h]
theorem qQ {l:List Int} {k:Nat} (h:bO l (aR l k) l.length<0) (j:Nat):aR l (k+j)=aR l k:=by
 induction j with
 |zero=>rfl
 |succ j ih=>
  rw [←Nat.add_assoc]
  conv=>lhs;unfold aR
  rw [ih,if_pos h]
structure acz (l out:List Int):Prop where
 sub:∀x,x∈out→x∈l
 yj:out.Pairwise (· < ·)
 all:∀x,x∈l→¬nK out x→x∈out
theorem IX {out:List Int} (h:out.Pairwise (· < ·)) (h0:0<out.length) {x:Int} (hx:x∈out):x≤out.getD (out.length-1) 0:=by
 obtain ⟨i,hi,rfl⟩:=List.getElem_of_mem hx;rw [List.getD_eq_getElem?_getD,List.getElem?_eq_getElem (by omega)];show out[i]≤out[out.length-1];rcases Nat.lt_or_ge i (out.length-1) with hlt|hge
 ·exact Int.le_of_lt (List.pairwise_iff_getElem.1 h i (out.length-1) hi (by omega) hlt)
 ·have:i=out.length-1:=by omega
  subst this;exact Int.le_refl _
theorem acA (l:List Int):∀k,acz l (aR l k)
 |0=>⟨fun x h=>(by cases h),List.Pairwise.nil,fun x _ h=>absurd (show nK [] x from Or.inl rfl) h⟩
 |k+1=>by
  have ih:=acA l k;by_cases hb:bO l (aR l k) l.length<0
  ·rw [qQ hb 1];exact ih
  ·rw [aeJ hb];have hr:=ach l (aR l k) l.length;obtain ⟨b,hbn⟩:∃b:Nat,bO l (aR l k) l.length=(b:Int):=⟨(bO l (aR l k) l.length).toNat,by omega⟩
   have hs:=(t_ l (aR l k) l.length).2 b hbn;rw [hbn,Int.toNat_natCast];have hbl:b<l.length:=by omega
   have hlast:(aR l k++[l.getD b 0]).getD ((aR l k++[l.getD b 0]).length-1) 0=l.getD b 0:=by
    simp
   refine ⟨fun x hx=>?_,?_,fun x hx ho=>?_⟩
   ·rcases List.mem_append.1 hx with hx|hx
    ·exact ih.sub x hx
    ·rw [List.mem_singleton.1 hx];exact VR 0 hbl
   ·refine List.pairwise_append.2 ⟨ih.yj,List.pairwise_singleton _ _,fun x hx y hy=>?_⟩;rw [List.mem_singleton.1 hy];rcases hs.1 with h1|h1
    ·rw [List.length_eq_zero_iff.1 h1] at hx;cases hx
    ·have:=IX ih.yj (List.length_pos_of_mem hx) hx;omega
   ·have hle:¬x>l.getD b 0:=fun h=>ho (.inr (by rw [hlast];exact h));by_cases hov:nK (aR l k) x
    ·obtain ⟨j,hj,rfl⟩:=List.getElem_of_mem hx;have hg:l.getD j 0=l[j]:=by simp [hj]
     have:=hs.2 j hj (by rw [hg];exact hov);rw [hg] at this;exact List.mem_append_right _ (List.mem_singleton.2 (by omega))
    ·exact List.mem_append_left _ (ih.all x hx hov)
theorem aeF {α:Type} [DecidableEq α]:∀(a l:List α),a.Nodup→(∀x,x∈a→x∈l)→a.length≤l.length
 | [],l,_,_=>by simp
 |x::a,l,hn,hs=>by
  have hx:=hs x List.mem_cons_self;have:=aeF a (l.erase x) (List.nodup_cons.1 hn).2 (fun y hy=>(List.mem_erase_of_ne (fun e=>(List.nodup_cons.1 hn).1 (by rw [←e];exact hy))).2 (hs y (List.mem_cons_of_mem _ hy)));rw [List.length_erase_of_mem hx] at this;have:=List.length_pos_of_mem hx;simp;omega
theorem acz.nodup {l out:List Int} (h:acz l out):out.Nodup:=h.yj.imp (fun h e=>by omega)
theorem acz.len {l out:List Int} (h:acz l out):out.length≤l.length:=aeF _ _ h.nodup h.sub
theorem aeD {l:List Int} {k:Nat} (hk:(aR l k).length=k) (hb:¬bO l (aR l k) l.length<0):(aR l (k+1)).length=k+1∧k+1≤l.length:=by
 have h1:(aR l (k+1)).length=k+1:=by rw [aeJ hb,List.length_append,hk];rfl
 exact ⟨h1,by rw [←h1];exact (acA l (k+1)).len⟩
theorem Gi {l:List Int} {k:Nat} (hk:(aR l k).length=k) (hb:bO l (aR l k) l.length<0):aR l k=nH l:=by
 have:k≤l.length:=by rw [←hk];exact (acA l k).len
 unfold nH;rw [show l.length=k+(l.length-k) by omega,qQ hb]
theorem zh (l:List Int):∀k,(aR l k).length=k∨bO l (aR l k) l.length<0
 |0=>.inl rfl
 |k+1=>by
  rcases zh l k with h|h
  ·by_cases hb:bO l (aR l k) l.length<0
   ·right;rw [qQ hb 1];exact hb
   ·left;exact (aeD h hb).1
  ·right;rw [qQ h 1];exact h
theorem Gz {l:List Int} {x:Int} (h:x∈l):x∈nH l:=by
 have hok:=acA l l.length;show x∈aR l l.length;refine hok.all x h fun ho=>?_;obtain ⟨j,hj,rfl⟩:=List.getElem_of_mem h;have hg:l.getD j 0=l[j]:=by simp [hj]
 rcases zh l l.length with h1|h1
 ·
  by_cases hb:bO l (aR l l.length) l.length<0
  ·have hr:=ach l (aR l l.length) l.length;exact (t_ l (aR l l.length) l.length).1 (by omega) j hj (by rw [hg];exact ho)
  ·have:=(aeD h1 hb).2;omega
 ·have hr:=ach l (aR l l.length) l.length;exact (t_ l (aR l l.length) l.length).1 (by omega) j hj (by rw [hg];exact ho)
end Go.Lo
set_option linter.unusedVariables false
set_option linter.unusedSimpArgs false
namespace Go.Lo
structure WY where
 s:Int
 e:Int
 ns:List Need
section
variable (secs:List aD) (pts:List aP)
def aso (s e p:Int):Int:=bX (fun x:En=>decide (x.sec=p)) (Vn secs pts s e)
def agW (s e p:Int):Bool:=decide ((pts.getD (aV pts (U6 secs s e)).toNat dP).right=(if (pts.getD (aV pts (U6 secs s e)).toNat dP).stem=p then s else p))
def W9 (s e p:Int):List Need:=if aV pts (U6 secs s e)<0 then [] else [⟨aV pts (U6 secs s e),agW secs pts s e p⟩]
def iZ (p:Int) (w:WY):En:=(Vn secs pts w.s w.e).getD (aso secs pts w.s w.e p).toNat dE
def tK (p:Int) (w:WY):WY:=⟨p,1-(iZ secs pts p w).en,w.ns++W9 secs pts w.s w.e (iZ secs pts p w).sec⟩
def Vj (path:List Int) (w:WY):Nat→WY
 |0=>w
 |k+1=>tK secs pts (path.getD k 0) (Vj path w k)
def gM:List Int→WY→Option (List Need)
 | [],w=>some w.ns
 |p::l,w=>if aso secs pts w.s w.e p<0 then none else gM l (tK secs pts p w)
def gN (s e:Int) (path:List Int):Option (List Need):=gM secs pts path ⟨s,e,[]⟩
def jq (s e:Int) (path:List Int):List Need:=(gN secs pts s e path).getD []
def XY (s e:Int) (path:List Int):Bool:=(gN secs pts s e path).isSome
def iE (path:List Int):Option (List Need):=
 if path.length<2 then none else if ¬path.Nodup then none
 else if XY secs pts (path.getD 0 0) 0 (path.drop 1) then gN secs pts (path.getD 0 0) 0 (path.drop 1) else gN secs pts (path.getD 0 0) 1 (path.drop 1)
def Vh (path:List Int):List Need:=(iE secs pts path).getD []
def Xw (path:List Int):Bool:=(iE secs pts path).isSome
end
section
variable {secs:List aD} {pts:List aP} {s e p:Int} {path:List Int}
theorem H9 (h:aV pts (U6 secs s e)<0):W9 secs pts s e p=[]:=by unfold W9;rw [if_pos h]
theorem Hf (h:¬aV pts (U6 secs s e)<0) {EU:Int} (hl:EU=if (pts.getD (aV pts (U6 secs s e)).toNat dP).stem=p then s else p) {r:Bool} (hr:r=decide ((pts.getD (aV pts (U6 secs s e)).toNat dP).right=EU)):
  W9 secs pts s e p=[⟨aV pts (U6 secs s e),r⟩]:=by unfold W9 agW;rw [if_neg h,hr,hl]
theorem aeK:(W9 secs pts s e p).length≤1:=by unfold W9;split<;>simp
theorem agt (w:WY) (hw:w.ns=[]):∀k,(Vj secs pts path w k).ns.length≤k
 |0=>by simp [Vj,hw]
 |k+1=>by
  have h1:=agt w hw k;have h2:=aeK (secs:=secs) (pts:=pts) (s:=(Vj secs pts path w k).s) (e:=(Vj secs pts path w k).e) (p:=(iZ secs pts (path.getD k 0) (Vj secs pts path w k)).sec);show ((Vj secs pts path w k).ns++_).length≤k+1;rw [List.length_append];omega
theorem drop_at {l:List Int} {k:Nat} (h:k<l.length):l.drop k=l.getD k 0::l.drop (k+1):=by
 rw [List.drop_eq_getElem_cons h];simp [h]
theorem aeR {w:WY} (h:¬aso secs pts w.s w.e p<0):((iZ secs pts p w).en=0∨(iZ secs pts p w).en=1)∧(iZ secs pts p w).sec=p∧(aso secs pts w.s w.e p).toNat<(Vn secs pts w.s w.e).length:=by
 obtain ⟨j,h1,h2,_,h4⟩:=oC dE (show ¬bX (fun x:En=>decide (x.sec=p)) (Vn secs pts w.s w.e)= -1 by unfold aso at h;omega);have hj:(aso secs pts w.s w.e p).toNat=j:=by unfold aso;rw [h1];rfl
 unfold iZ;rw [hj];exact ⟨agd (VR dE h2),of_decide_eq_true h4,h2⟩
theorem Ia {R:Option (List Need)} {w:WY} {k:Nat} (hk:k<path.length) (h:gM secs pts (path.drop k) w=R) (hi:¬aso secs pts w.s w.e (path.getD k 0)<0):gM secs pts (path.drop (k+1)) (tK secs pts (path.getD k 0) w)=R:=by
 rw [drop_at hk] at h;unfold gM at h;rw [if_neg hi] at h;exact h
theorem H_ {R:Option (List Need)} {w:WY} {k:Nat} (hk:k<path.length) (h:gM secs pts (path.drop k) w=R) (hi:aso secs pts w.s w.e (path.getD k 0)<0):R=none:=by
 rw [drop_at hk] at h;unfold gM at h;rw [if_pos hi] at h;exact h.symm
theorem Ju {R:Option (List Need)} {w:WY} {k:Nat} (hk:path.length≤k) (h:gM secs pts (path.drop k) w=R):R=some w.ns:=by
 rw [List.drop_of_length_le hk] at h;exact h.symm
theorem zZ (h:gN secs pts s e path=none):jq secs pts s e path=[]∧XY secs pts s e path=false:=by unfold jq XY;rw [h];exact ⟨rfl,rfl⟩
theorem uD {l:List Need} (h:gN secs pts s e path=some l):jq secs pts s e path=l∧XY secs pts s e path=true:=by unfold jq XY;rw [h];exact ⟨rfl,rfl⟩
theorem uN (h:iE secs pts path=none):Vh secs pts path=[]∧Xw secs pts path=false:=by unfold Vh Xw;rw [h];exact ⟨rfl,rfl⟩
theorem uE (h:path.length<2):Vh secs pts path=[]∧Xw secs pts path=false:=uN (by unfold iE;rw [if_pos h])
theorem Jv (h:¬path.Nodup):Vh secs pts path=[]∧Xw secs pts path=false:=by
 apply uN;unfold iE
 split
 ·rfl
 ·rfl
theorem KI {k:Nat} (h1:¬path.length<2) (h2:path.Nodup) (hk:k<2) (h:∀j,j<k→XY secs pts (path.getD 0 0) (j:Int) (path.drop 1)=false) (hb:XY secs pts (path.getD 0 0) (k:Int) (path.drop 1)=true):
  Vh secs pts path=jq secs pts (path.getD 0 0) (k:Int) (path.drop 1)∧Xw secs pts path=true:=by
 have hp:iE secs pts path=gN secs pts (path.getD 0 0) (k:Int) (path.drop 1):=by
  unfold iE;rw [if_neg h1,if_neg (fun h=>h h2)];rcases Nat.lt_or_ge 0 k with h0|h0
  ·obtain rfl:k=1:=by omega
   rw [if_neg (by have h9:=h 0 h0;intro h8;rw [show ((0:Nat):Int)=0 from rfl,h8] at h9;cases h9)];rfl
  ·obtain rfl:k=0:=by omega
   rw [if_pos (by exact hb)];rfl
 unfold Vh Xw;rw [hp];exact ⟨rfl,hb⟩
theorem Jw {k:Nat} (h1:¬path.length<2) (h2:path.Nodup) (hk:2≤k) (h:∀j,j<k→XY secs pts (path.getD 0 0) (j:Int) (path.drop 1)=false):Vh secs pts path=[]∧Xw secs pts path=false:=by
 have a:=h 0 (by omega);have b:=h 1 (by omega);apply uN;unfold iE;rw [if_neg h1,if_neg (fun h=>h h2),if_neg (by intro h8;rw [show ((0:Nat):Int)=0 from rfl,h8] at a;cases a)]
 cases hq:gN secs pts (path.getD 0 0) 1 (path.drop 1) with
 |none=>rfl
 |some l=>have:=(uD hq).2;rw [show (1:Int)=((1:Nat):Int) from rfl,b] at this;cases this
theorem Gj {k:Nat} (hk:k<path.length) (h:(path.take k).Nodup) (hn:¬path.getD k 0∈path.take k):(path.take (k+1)).Nodup:=by
 rw [X1 0 hk];exact List.nodup_append.2 ⟨h,List.nodup_cons.2 ⟨by simp,List.nodup_nil⟩,fun a ha b hb e=>by rw [List.mem_singleton.1 hb] at e;rw [e] at ha;exact hn ha⟩
theorem Hg {k:Nat} (hk:k<path.length) (hn:path.getD k 0∈path.take k):¬path.Nodup:=fun h=>by
 have h2:(path.take (k+1)).Nodup:=h.sublist (List.take_sublist _ _);rw [X1 0 hk] at h2;exact (List.nodup_append.1 h2).2.2 _ hn _ (List.mem_singleton.2 rfl) rfl
theorem AX:∀(l:List Int) (w:WY) (r:List Need),gM secs pts l w=some r→r.length≤w.ns.length+l.length
 | [],w,r,h=>by cases h;simp
 |p::l,w,r,h=>by
  unfold gM at h
  split at h
  ·cases h
  ·have h1:=AX l _ r h;have h2:=aeK (secs:=secs) (pts:=pts) (s:=w.s) (e:=w.e) (p:=(iZ secs pts p w).sec);simp only [tK,List.length_append,List.length_cons] at h1 ⊢;omega
theorem abG:(Vh secs pts path).length≤path.length:=by
 unfold Vh
 cases h:iE secs pts path with
 |none=>simp
 |some r=>
  unfold iE at h
  have key:∀e,gN secs pts (path.getD 0 0) e (path.drop 1)=some r→r.length≤path.length:=fun e hq=>by
   have:=AX _ _ _ hq;simp only [List.length_drop,List.length_nil] at this;omega
  split at h
  ·cases h
  ·split at h
   ·cases h
   ·split at h
    ·exact key _ h
    ·exact key _ h
end
end Go.Lo
set_option linter.unusedVariables false
namespace Go.Lo
section
variable {P:Program} {E:VC} {ops:Array Oper} {env:Nat→AV} {ob:Nat→aH} {o:Oper} {j t d:Nat} {b:Bool}
theorem gN1 (hb:b=false) (hg:o.guard=some (j,true)) (ht:(ops[j]?).bind (·.dst)=some t) (hl:t<E.N) (he:env t=.v (.bool b)) (hd:o.dst=some d) (hdl:d<E.N) (hx:env d=.v undef):Still P E ops env ob o:=by
 unfold Still;rw [hg];exact ⟨t,.bool b,ht,hl,he,fun h=>(by rw [hb] at h;cases h),fun _=>⟨d,hd,hdl,.inr hx⟩⟩
theorem gN0 (hb:b=true) (hg:o.guard=some (j,false)) (ht:(ops[j]?).bind (·.dst)=some t) (hl:t<E.N) (he:env t=.v (.bool b)) (hd:o.dst=some d) (hdl:d<E.N) (hx:env d=.v undef):Still P E ops env ob o:=by
 unfold Still;rw [hg];exact ⟨t,.bool b,ht,hl,he,fun h=>(by rw [hb] at h;cases h),fun _=>⟨d,hd,hdl,.inr hx⟩⟩
theorem gY1 (hb:b=true) (hg:o.guard=some (j,true)) (ht:(ops[j]?).bind (·.dst)=some t) (hl:t<E.N) (he:env t=.v (.bool b)) (hs:fu P E ops env ob o):Still P E ops env ob o:=by
 unfold Still;rw [hg];exact ⟨t,.bool b,ht,hl,he,fun _=>hs,fun h=>absurd (by rw [hb];rfl) h⟩
theorem gY0 (hb:b=false) (hg:o.guard=some (j,false)) (ht:(ops[j]?).bind (·.dst)=some t) (hl:t<E.N) (he:env t=.v (.bool b)) (hs:fu P E ops env ob o):Still P E ops env ob o:=by
 unfold Still;rw [hg];exact ⟨t,.bool b,ht,hl,he,fun _=>hs,fun h=>absurd (by rw [hb];rfl) h⟩
end
section
variable {P:Program} {E:VC} {st:St} {K:St→Prop} {ops:Array Oper} {o:Oper} {r:List Oper} {x:Operand} {d:Nat}
theorem mG (av:AV) (h:VL P E ops r ⟨upd st.env d av,st.ob⟩ K) (hg:o.guard=none:=by rfl) (ho:o.op=.move x∨o.op=.assign x:=by first|exact .inl rfl|exact .inr rfl) (hd:o.dst=some d:=by rfl) (hN:(aT E.N x&&Nat.blt d E.N)=true:=by rfl) (hx:aO st.env x=av:=by rfl):VL P E ops (o::r) st K:=
 tJ hg (eD ho hd hN hx h)
theorem fG {s:TypeId} {i t off sz:Nat} {av:AV} (dA:AV) (hf:VZ P s i=some (t,off)) (hsz:(P.info? t).map (·.size)=some (sz+1)) (h:VL P E ops r ⟨upd st.env d dA,st.ob⟩ K) (hg:o.guard=none:=by rfl) (ho:o.op=.fieldAddr s x i:=by rfl)
  (hd:o.dst=some d:=by rfl) (hN:(aT E.N x&&Nat.blt d E.N)=true:=by rfl) (hx:aO st.env x=av:=by rfl) (hp:ZN av=true:=by rfl) (ha:nL av off=dA:=by rfl):VL P E ops (o::r) st K:=
 tJ hg (tV ho hd hN hf hsz hx hp ha h)
theorem jU {op:BinOp} {t t':TypeId} {y:Operand} {k:IntKind} {a b:Int} (u:Value) (h:VL P E ops r ⟨upd st.env d (.v u),st.ob⟩ K) (hg:o.guard=none:=by rfl) (ho:o.op=.binOp op t x y t':=by rfl) (hd:o.dst=some d:=by rfl)
  (hN:(aT E.N x&&aT E.N y&&Nat.blt d E.N)=true:=by rfl) (hx:aO st.env x=.v (.int k a):=by rfl) (hy:aO st.env y=.v (.int k b):=by rfl) (hb:aa6 op b:=by trivial) (hu:Xv k op a b=u:=by rfl):VL P E ops (o::r) st K:=
 tJ hg (WC ho hd hN hx hy hb hu h)
theorem nG {j t:Nat} {want b c:Bool} (hbc:b=c) (h:VL P E ops r ⟨upd st.env d (.v undef),st.ob⟩ K) (hg:o.guard=some (j,want):=by rfl) (hj:(ops[j]?).bind (·.dst)=some t:=by rfl) (ht:Nat.blt t E.N=true:=by rfl) (he:st.env t=.v (.bool b):=by rfl)
  (hne:(c==want)=false:=by rfl) (hd:o.dst=some d:=by rfl) (hdN:Nat.blt d E.N=true:=by rfl):VL P E ops (o::r) st K:=
 ZP hg hj ht he (by subst hbc;intro h;cases h;simp at hne) hd hdN h
end
section
variable {P:Program} {E:VC} {st:St} {Q:Exit→St→Prop}
theorem rT {c:Code} (e':Nat→AV) (o':Nat→aH) (h:VD P E c ⟨e',o'⟩ Q) (he:∀t,e' t=.any∨e' t=st.env t:=by repeat (first|exact ln|refine lu rfl ?_)) (ho:o'=st.ob:=by rfl):VD P E c st Q:=ES e' o' he ho h
theorem oY {K:St→Prop} {ops:Array Oper} {o:Oper} {r:List Oper} {j t:Nat} {want b:Bool} (hbc:b=want) (h:Vo P E o st fun s=>VL P E ops r s K) (hg:o.guard=some (j,want):=by rfl) (hj:(ops[j]?).bind (·.dst)=some t:=by rfl) (ht:Nat.blt t E.N=true:=by rfl) (he:st.env t=.v (.bool b):=by rfl):VL P E ops (o::r) st K:=
 ZO hg hj ht (by rw [he,hbc]) h
theorem iN {s:St} {e':Nat→AV} (he:∀t,eG [] (s.env t) (e' t):=by repeat (first|exact b_|refine sS rfl ?_)) (hk:∀i,i<E.m→(i,i)∈([]:List (Nat×Nat)):=by exact ru rfl):Vv E s ⟨e',U5⟩:=abI [] (Nk he) hk
theorem iI {s:St} {e':Nat→AV} (x y:Nat) {o o':aC} (hl:s.ob x=.live o) (he:∀t,eG [(x,y)] (s.env t) (e' t):=by repeat (first|exact b_|refine sS rfl ?_|refine sM rfl ?_)) (WG:o'=o:=by rfl) (hk:∀i,i<E.m→(i,i)∈ [(x,y)]:=by exact ru rfl) [hn:VB o.cells]:Vv E s ⟨e',U4 U5 y (.live o')⟩:=abI [(x,y)] (Nq x y hl WG he) hk
theorem yE {s:St} {e':Nat→AV} (x y x2 y2:Nat) {o o' o2 iC:aC} (hl:s.ob x=.live o) (hl2:s.ob x2=.live o2) (he:∀t,eG [(x,y),(x2,y2)] (s.env t) (e' t):=by repeat (first|exact b_|refine sS rfl ?_|refine sM rfl ?_)) (WG:o'=o:=by rfl) (pV:iC=o2:=by rfl) (hx:x≠x2:=by decide) (hy:y≠y2:=by decide)
  (hk:∀i,i<E.m→(i,i)∈ [(x,y),(x2,y2)]:=by exact ru rfl) [hn:VB o.cells] [hn2:VB o2.cells]:Vv E s ⟨e',U4 (U4 U5 y (.live o')) y2 (.live iC)⟩:=abI [(x,y),(x2,y2)] (Nr x y x2 y2 hx hy hl hl2 WG pV he) hk
theorem iL {s:St} {e':Nat→AV} (ps:List (Nat×Nat)) (qs:List ((Nat×Nat)×aH)) (hq:nD ps s qs) (he:∀t,eG ps (s.env t) (e' t):=by repeat (first|exact b_|refine sS rfl ?_|refine sM rfl ?_)) (hps:qs.map (·.1)=ps:=by rfl) (hn1:(ps.map (·.1)).Nodup:=by decide) (hn2:(ps.map (·.2)).Nodup:=by decide)
  (hk:∀i,i<E.m→(i,i)∈ps:=by exact ru rfl):Vv E s ⟨e',ZM qs U5⟩:=abI ps (Nn ps qs hps hn1 hn2 hq he) hk
end
section
variable {P:Program} {E:VC} {ops:Array Oper} {env:Nat→AV} {ob:Nat→aH} {o:Oper} {j t d:Nat} {b:Bool}
theorem dX (hb:b=false) (hg:o.guard=some (j,true):=by rfl) (ht:(ops[j]?).bind (·.dst)=some t:=by rfl) (hl:Nat.blt t E.N=true:=by rfl) (he:env t=.v (.bool b):=by rfl) (hd:o.dst=some d:=by rfl) (hdl:Nat.blt d E.N=true:=by rfl) (hx:env d=.v undef:=by rfl):Still P E ops env ob o:=gN1 hb hg ht (aS hl) he hd (aS hdl) hx
theorem Wn (hb:b=true) (hg:o.guard=some (j,false):=by rfl) (ht:(ops[j]?).bind (·.dst)=some t:=by rfl) (hl:Nat.blt t E.N=true:=by rfl) (he:env t=.v (.bool b):=by rfl) (hd:o.dst=some d:=by rfl) (hdl:Nat.blt d E.N=true:=by rfl) (hx:env d=.v undef:=by rfl):Still P E ops env ob o:=gN0 hb hg ht (aS hl) he hd (aS hdl) hx
theorem dH (hb:b=true) (hs:fu P E ops env ob o) (hg:o.guard=some (j,true):=by rfl) (ht:(ops[j]?).bind (·.dst)=some t:=by rfl) (hl:Nat.blt t E.N=true:=by rfl) (he:env t=.v (.bool b):=by rfl):Still P E ops env ob o:=gY1 hb hg ht (aS hl) he hs
theorem bY (hb:b=false) (hs:fu P E ops env ob o) (hg:o.guard=some (j,false):=by rfl) (ht:(ops[j]?).bind (·.dst)=some t:=by rfl) (hl:Nat.blt t E.N=true:=by rfl) (he:env t=.v (.bool b):=by rfl):Still P E ops env ob o:=gY0 hb hg ht (aS hl) he hs
theorem aY {s:Nat} (ho:o.op=.move (.tmp s)∨o.op=.assign (.tmp s):=by first|exact .inl rfl|exact .inr rfl) (hd:o.dst=some d:=by rfl) (hl:Nat.blt d E.N=true:=by rfl) (hs:Nat.blt s E.N=true:=by rfl) (hk:(o.looksAt ops).elem s=true:=by rfl) (he:env s=env d:=by rfl):fu P E ops env ob o:=
 ⟨d,hd,aS hl,fun st au hE=>eD ho hd (by show (Nat.blt s E.N&&Nat.blt d E.N)=true;rw [hs,hl];rfl) (show aO st.env (.tmp s)=env d from (hE s hk).trans he) (by rw [au])⟩
theorem V3 {s ty:Nat} {p:AV} {rest:List AV} (hb:V0 P ty=some false) (ho:o.op=.load ty (.tmp s):=by rfl) (hd:o.dst=some d:=by rfl) (hl:Nat.blt d E.N=true:=by rfl) (hs:Nat.blt s E.N=true:=by rfl) (hk:(o.looksAt ops).elem s=true:=by rfl) (he:env s=p:=by rfl) (hp:aB ob p=some (env d::rest):=by rfl):fu P E ops env ob o:=
 ⟨d,hd,aS hl,fun st au hE=>Yd (p:=p) (rest:=rest) ho hd (by show (Nat.blt s E.N&&Nat.blt d E.N)=true;rw [hs,hl];rfl) hb (show aO st.env (.tmp s)=p from (hE s hk).trans he) (by rw [au];exact hp) (by rw [au])⟩
theorem fJ {s i ty e sz k n:Nat} {kk:IntKind} {α:Type} {f:α→List AV} {l:List α} (df:α) (ht:P.underlying ty=some (.slice e)) (hsz:(P.info? e).map (·.size)=some sz) (ho:o.op=.indexAddr ty (.tmp s) (.tmp i):=by rfl) (hd:o.dst=some d:=by rfl) (hl:Nat.blt d E.N=true:=by rfl) (hs:Nat.blt s E.N=true:=by rfl) (hi:Nat.blt i E.N=true:=by rfl)
  (h1:(o.looksAt ops).elem s=true:=by rfl) (h2:(o.looksAt ops).elem i=true:=by rfl) (he:env s=.ro n (enc f l):=by exact rfl) (N7:env i=.v (.int kk (k:Int)):=by exact rfl) (hf:∀x,(f x).length=sz:=by exact fun _=>rfl) (hn:n=l.length:=by rfl) (hk:k<l.length:=by first|omega|(simp;done)|decide|(simp at*;omega))
  (hd2:AV.rp (f (l.getD k df)++(enc f l).drop ((k+1)*sz))=env d:=by exact rfl):fu P E ops env ob o:=
 ⟨d,hd,aS hl,fun st au hE=>aaw df ho hd (by show (Nat.blt s E.N&&Nat.blt i E.N&&Nat.blt d E.N)=true;rw [hs,hi,hl];rfl) ht hsz (show aO st.env (.tmp s)=_ from (hE s h1).trans he) (show aO st.env (.tmp i)=_ from (hE i h2).trans N7) hf hn hk (by rw [au,hd2])⟩
end
end Go.Lo
set_option linter.unusedVariables false
set_option linter.unusedSimpArgs false
namespace Go.Lo
theorem aeS {P:Program} {E:VC} {st:St} {K:St→Prop} {o:Oper} {c:Call} {bZ:Operand} {args:List Operand} {tys:Array TypeId} {f d:Nat} {caps bU:List AV} {res res':AV} {news news':List aC} (s:Nat) (hF:Yr P f bU res news)
  (ho:o.op=.call c) (hc:c={ callee:=.value bZ,args:=args.toArray,argTypes:=tys }) (hd:o.dst=some d) (hN:(aT E.N bZ&&args.all (aT E.N)&&Nat.blt d E.N)=true)
  (dQ:aO st.env bZ=.fn f caps) (hb:Vp P f=true) (hl:∀ob,dV ob (args.map (aO st.env)++caps) bU) (hno:∀o,o∈news→gD o.cells)
  (hfree:∀i,i<news.length→st.ob (s+i)=.free) (hres:res.map (· +s)=res') (hnews:news=news')
  (h:K ⟨upd st.env d res',Wc st.ob s news'⟩):Vo P E o st K:=by
 refine zH (news':=news') s false ho hc hd hN dQ hb (hl _) (fun _=>hl _) hF (fun h=>by cases h) hfree hres ?_ h;subst hnews;rw [List.map_congr_left (g:=_root_.id) (fun o ho=>?_),List.map_id];have:AV.V4 (· +s) o.cells=o.cells:=oI (hno o ho);show aC.mk _ _ _=o;rw [this]
theorem Bj {o:aC} [h:VB o.cells]:∀o':aC,o'∈ [o]→gD o'.cells:=fun o' ho=>by
 rw [List.mem_singleton.1 ho];exact h.out
end Go.Lo
