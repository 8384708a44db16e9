/- Part of the logic of values: what the law reaches. -/
import Derived.Test.YtdeajfldegcdaaaGreatPFnPlm9
import Derived.KernelRfl
set_option linter.unusedVariables false
set_option linter.unusedSimpArgs false
namespace Go.Lo
def r6 (secs:List ax) (pts:List aH) (s e:Int) (x:En):Bool:=
 ((bo secs pts s (1-e)).all fun y=> !decide (y.sec=x.sec))&&((bo secs pts s e).all fun y=> !decide (y.sec=x.sec)||decide (y.en=x.en))&&
  decide ((if aX pts (aF secs s e)<0 then (0:Int) else 1)=kJ (secs.getD s.toNat dS) (secs.getD x.sec.toNat dS) pts pts.length)
def iT (secs:List ax) (pts:List aH):Bool:=(List.range secs.length).all fun s=>(bo secs pts (s:Int) 0).all (r6 secs pts (s:Int) 0)&&(bo secs pts (s:Int) 1).all (r6 secs pts (s:Int) 1)
def iC (E:List Pr) (u:Int):Nat→List ax
 |0=>[]
 |k+1=>iC E u k++[⟨u+(k:Int) % 3,(E.getD k dR).a,(E.getD k dR).b⟩]
theorem Ah (form len:Int):∀k,ff form len k=iC (d5 form) (2*JC len) k
 |0=>rfl
 |k+1=>by unfold ff iC;rw [Ah form len k]
theorem Vl (u:Int):iT (iC (hU 3) u 3) []=true:=by kernel_rfl
theorem Vm (u:Int):iT (iC (hU 4) u 4) []=true:=by kernel_rfl
theorem Vn (u:Int):iT (iC (hU 5) u 5) []=true:=by kernel_rfl
theorem Vo (u:Int):iT (iC (hU 6) u 6) []=true:=by kernel_rfl
theorem Vp (u:Int):iT (iC (hU 7) u 7) []=true:=by kernel_rfl
theorem Vq (u:Int):iT (iC (hU 8) u 8) []=true:=by kernel_rfl
theorem Vr (u:Int):iT (iC [⟨0,1⟩,⟨1,2⟩,⟨3,1⟩] u 3) [⟨1,0,1,2⟩]=true:=by kernel_rfl
theorem Vs (u:Int):iT (iC [⟨0,1⟩,⟨1,2⟩,⟨2,3⟩,⟨2,4⟩,⟨5,3⟩,⟨4,5⟩,⟨5,6⟩,⟨6,7⟩] u 8) [⟨2,1,2,3⟩,⟨5,6,4,5⟩]=true:=by kernel_rfl
theorem Vt (u:Int):iT (iC [⟨0,1⟩,⟨2,1⟩,⟨2,3⟩,⟨2,4⟩,⟨3,5⟩,⟨4,6⟩] u 6) [⟨2,1,3,2⟩]=true:=by kernel_rfl
theorem Hr (form len:Int):iT (c9 form len) (cz form)=true:=by
 unfold c9;rw [Ah];unfold d5 cz
 split
 ·have h:gw form=3∨gw form=4∨gw form=5∨gw form=6∨gw form=7∨gw form=8:=by unfold gw;omega
  rw [vG];rcases h with h|h|h|h|h|h<;>rw [h]
  ·exact Vl _
  ·exact Vm _
  ·exact Vn _
  ·exact Vo _
  ·exact Vp _
  ·exact Vq _
 ·split
  ·exact Vr _
  ·split
   ·exact Vs _
   ·exact Vt _
def pq (secs:List ax) (pts:List aH) (s e p:Int):Int:=1-(iH secs pts p ⟨s,e,[]⟩).en
def Wk (secs:List ax) (pts:List aH):Int→Int→List Int→Prop
 |_,_,[]=>True
 |s,e,p::l=>(∃x,x∈bo secs pts s e∧x.sec=p)∧Wk secs pts p (pq secs pts s e p) l
def ma (secs:List ax) (pts:List aH):Int→Int→List Int→Int×Int
 |s,e,[]=>(s,e)
 |s,e,p::l=>ma secs pts p (pq secs pts s e p) l
def iJ (secs:List ax) (pts:List aH):Int→Int→List Int→List Need
 |_,_,[]=>[]
 |s,e,p::l=>fP secs pts s e p++iJ secs pts p (pq secs pts s e p) l
def ot (secs:List ax) (pts:List aH) (s e:Int) (l:List Int) (k:Nat):List Need:=fP secs pts (ma secs pts s e (l.take k)).1 (ma secs pts s e (l.take k)).2 (l.getD k 0)
section
variable {secs:List ax} {pts:List aH}
theorem Io {x:En}:∀(l:List Int) (s e:Int),Wk secs pts s e l→x∈bo secs pts (ma secs pts s e l).1 (ma secs pts s e l).2→Wk secs pts s e (l++[x.sec])
 | [],s,e,_,hx=>⟨⟨x,hx,rfl⟩,trivial⟩
 |p::l,s,e,h,hx=>⟨h.1,Io l _ _ h.2 hx⟩
theorem HG {p:Int}:∀(l:List Int) (s e:Int),ma secs pts s e (l++[p])=(p,pq secs pts (ma secs pts s e l).1 (ma secs pts s e l).2 p)
 | [],s,e=>rfl
 |q::l,s,e=>HG l _ _
theorem Ip:∀(l:List Int) (s e:Int) (n:Nat),Wk secs pts s e l→Wk secs pts s e (l.take n)
 | [],s,e,n,h=>by rw [List.take_nil];exact h
 |p::l,s,e,0,h=>trivial
 |p::l,s,e,n+1,h=>⟨h.1,Ip l _ _ n h.2⟩
theorem JI:∀(l:List Int) (s e:Int) (k:Nat),Wk secs pts s e l→k<l.length→∃x,x∈bo secs pts (ma secs pts s e (l.take k)).1 (ma secs pts s e (l.take k)).2∧x.sec=l.getD k 0
 |p::l,s,e,0,h,_=>h.1
 |p::l,s,e,k+1,h,hk=>JI l _ _ k h.2 (by simpa using hk)
theorem Iq:∀(l:List Int) (s e:Int) (k:Nat),k≤l.length→(ma secs pts s e (l.take k)).1=(s::l).getD k 0
 |l,s,e,0,_=>by rw [List.take_zero];rfl
 |p::l,s,e,k+1,h=>by rw [List.take_succ_cons];exact Iq l p _ k (by simpa using h)
theorem ta:∀(l:List Int) (s e:Int) (k:Nat),k<l.length→iJ secs pts s e (l.take (k+1))=iJ secs pts s e (l.take k)++ot secs pts s e l k
 |p::l,s,e,0,_=>by
  rw [List.take_succ_cons,List.take_zero,List.take_zero];show fP secs pts s e p++[]=[]++fP secs pts s e p;rw [List.append_nil];rfl
 |p::l,s,e,k+1,h=>by
  rw [List.take_succ_cons,List.take_succ_cons];show fP secs pts s e p++iJ secs pts p _ (l.take (k+1))=(fP secs pts s e p++iJ secs pts p _ (l.take k))++_;rw [ta l _ _ k (by simpa using h),List.append_assoc];rfl
theorem IT (l:List Int) (s e:Int):∀j k:Nat,k+j≤l.length→∃r,iJ secs pts s e (l.take (k+j))=iJ secs pts s e (l.take k)++r
 |0,k,_=>⟨[],by simp⟩
 |j+1,k,h=>by
  obtain ⟨r,hr⟩:=IT l s e j k (by omega);exact ⟨r++ot secs pts s e l (k+j),by rw [show k+(j+1)=k+j+1 by omega,ta l s e (k+j) (by omega),hr,List.append_assoc]⟩
theorem IU {s e p:Int} (h:∃x,x∈bo secs pts s e∧x.sec=p):¬dZ secs pts s e p<0:=by
 obtain ⟨x,hx,hp⟩:=h;have hany:(bo secs pts s e).any (fun x:En=>decide (x.sec=p))=true:=List.any_eq_true.2 ⟨x,hx,by simpa using hp⟩;have hd:=nB (f:=fun x:En=>decide (x.sec=p)) dE (bo secs pts s e);rw [hany] at hd;have:bL (fun x:En=>decide (x.sec=p)) (bo secs pts s e)≥0:=of_decide_eq_true hd;unfold dZ;omega
theorem IV:∀(l:List Int) (s e:Int) (ns:List Need),Wk secs pts s e l→js secs pts l ⟨s,e,ns⟩=some (ns++iJ secs pts s e l)
 | [],s,e,ns,_=>by rw [show iJ secs pts s e []=[] from rfl,List.append_nil];rfl
 |p::l,s,e,ns,h=>by
  have hi:=IU h.1;have hx:(iH secs pts p ⟨s,e,ns⟩).sec=p:=(td (w:=⟨s,e,ns⟩) hi).2.1;unfold js;rw [if_neg hi];show js secs pts l ⟨p,1-(iH secs pts p ⟨s,e,ns⟩).en,ns++fP secs pts s e (iH secs pts p ⟨s,e,ns⟩).sec⟩=_;rw [hx];exact (IV l p (pq secs pts s e p) (ns++fP secs pts s e p) h.2).trans (by rw [List.append_assoc];rfl)
section
variable (hT:iT secs pts=true)
include hT
theorem tj {s e:Int} {x:En} (hx:x∈bo secs pts s e):(e=0∨e=1)∧(0≤s∧s<(secs.length:Int))∧r6 secs pts s e x=true:=by
 have hn:eD secs s e=false:=by
  cases h:eD secs s e with
  |false=>rfl
  |true=>unfold bo at hx;rw [h,if_pos rfl] at hx;cases hx
 obtain ⟨h0,h1,h2,h3⟩:=FI hn;unfold iT at hT;have h4:=List.all_eq_true.1 hT s.toNat (List.mem_range.2 (by omega));rw [Bool.and_eq_true,show ((s.toNat:Nat):Int)=s by omega] at h4;have he:e=0∨e=1:=by omega
 refine ⟨he,⟨h0,h1⟩,?_⟩;rcases he with rfl|rfl
 ·exact List.all_eq_true.1 h4.1 x hx
 ·exact List.all_eq_true.1 h4.2 x hx
theorem PK {s e p:Int} (h:∃x,x∈bo secs pts s e∧x.sec=p):dZ secs pts s (1-e) p<0:=by
 obtain ⟨x,hx,hp⟩:=h;have ht:=(tj hT hx).2.2;unfold r6 at ht;simp only [Bool.and_eq_true] at ht;have h1:=ht.1.1
 have hany:(bo secs pts s (1-e)).any (fun x:En=>decide (x.sec=p))=false:=by
  cases hq:(bo secs pts s (1-e)).any (fun x:En=>decide (x.sec=p)) with
  |false=>rfl
  |true=>
   obtain ⟨y,hy,hy2⟩:=List.any_eq_true.1 hq;have:=List.all_eq_true.1 h1 y hy;rw [hp] at this;simp only [Bool.not_eq_true',decide_eq_false_iff_not] at this;exact absurd (by simpa using hy2) this
 have hd:=nB (f:=fun x:En=>decide (x.sec=p)) dE (bo secs pts s (1-e));rw [hany] at hd;have:¬bL (fun x:En=>decide (x.sec=p)) (bo secs pts s (1-e))≥0:=of_decide_eq_false hd;unfold dZ;omega
theorem Be {s e:Int} {x:En} (hx:x∈bo secs pts s e):pq secs pts s e x.sec=1-x.en:=by
 have ht:=(tj hT hx).2.2;unfold r6 at ht;simp only [Bool.and_eq_true] at ht;have hw:=td (secs:=secs) (pts:=pts) (p:=x.sec) (w:=⟨s,e,[]⟩) (IU ⟨x,hx,rfl⟩);have hm:iH secs pts x.sec ⟨s,e,[]⟩∈bo secs pts s e:=c8 dE hw.2.2;have:=List.all_eq_true.1 ht.1.2 _ hm;simp only [Bool.or_eq_true,Bool.not_eq_true',decide_eq_false_iff_not,decide_eq_true_eq] at this;unfold pq;rcases this with h|h
 ·exact absurd hw.2.1 h
 ·rw [h]
theorem Q5 {s e p:Int} (h:∃x,x∈bo secs pts s e∧x.sec=p):((fP secs pts s e p).length:Int)=kJ (secs.getD s.toNat dS) (secs.getD p.toNat dS) pts pts.length:=by
 obtain ⟨x,hx,rfl⟩:=h;have ht:=(tj hT hx).2.2;unfold r6 at ht;simp only [Bool.and_eq_true,decide_eq_true_eq] at ht;rw [←ht.2];unfold fP
 split<;>rfl
theorem Jy {s e p:Int} {l:List Int} (hnd:(s::p::l).Nodup) (h:Wk secs pts s e (p::l)):bz secs pts (s::p::l)=iJ secs pts s e (p::l):=by
 obtain ⟨x,hx,hp⟩:=h.1;have he:=(tj hT hx).1
 have hw:jt secs pts s e (p::l)=some (iJ secs pts s e (p::l)):=by
  have:=IV (p::l) s e [] h;rw [List.nil_append] at this;exact this
 have hno:jt secs pts s (1-e) (p::l)=none:=by
  unfold jt js;rw [if_pos (PK hT h.1)]
 have hp2:kX secs pts (s::p::l)=some (iJ secs pts s e (p::l)):=by
  unfold kX;rw [if_neg (by simp),if_neg (fun h2=>h2 hnd)];show (if g5 secs pts s 0 (p::l)=true then jt secs pts s 0 (p::l) else jt secs pts s 1 (p::l))=_;rcases he with rfl|rfl
  ·rw [if_pos (by unfold g5;rw [hw];rfl),hw]
  ·rw [if_neg (by unfold g5;rw [show jt secs pts s 0 (p::l)=none from hno];exact Bool.false_ne_true),hw]
 unfold bz;rw [hp2];rfl
theorem AX {s e:Int} {l:List Int} (hnd:(s::l).Nodup) (h:Wk secs pts s e l):∀n,bz secs pts ((s::l).take (n+1))=iJ secs pts s e (l.take n)
 |0=>by
  rw [List.take_succ_cons,List.take_zero];exact (vJ (by simp)).1
 |n+1=>by
  rw [List.take_succ_cons]
  cases l with
  |nil=>rw [List.take_nil];exact (vJ (by simp)).1
  |cons p l=>
   rw [List.take_succ_cons];have h2:=Ip (p::l) s e (n+1) h;rw [List.take_succ_cons] at h2;refine Jy hT ?_ h2;have h3:((s::p::l).take (n+2)).Nodup:=hnd.sublist (List.take_sublist _ _);rw [List.take_succ_cons,List.take_succ_cons] at h3;exact h3
theorem Sx {f:za} (hs:f.secs=secs) (hp:f.pts=pts) {s e:Int} {l:List Int} (hnd:(s::l).Nodup) (h:Wk secs pts s e l) {i:Nat} (hi:i<l.length):BR f (s::l) i=ot secs pts s e l i:=by
 unfold BR;rw [hs,hp,AX hT hnd h (i+1),AX hT hnd h i,ta l s e i hi,List.length_append,Nat.min_eq_left (by omega),List.drop_left]
theorem JJ {s e:Int} {l:List Int} (h:Wk secs pts s e l) {k:Nat} (hk:k<l.length):mc secs pts (s::l) k=((ot secs pts s e l k).length:Int):=by
 unfold mc ot;rw [Q5 hT (JI l s e k h hk),Iq l s e k (by omega)];rfl
theorem IW {s e:Int} {l:List Int} (h:Wk secs pts s e l) {i:Nat} (hi:i<l.length):∀k,k≤l.length→iy secs pts (s::l) i k=((iJ secs pts s e (l.take (min k i))).length:Int)
 |0,_=>by rw [Nat.zero_min,List.take_zero];rfl
 |k+1,hk=>by
  have ih:=IW h hi k (by omega);unfold iy
  split
  ·rename_i hki;rw [ih,JJ hT h (by omega),Nat.min_eq_left (by omega),Nat.min_eq_left (by omega),ta l s e k (by omega),List.length_append];omega
  ·rw [ih,Nat.min_eq_right (by omega),Nat.min_eq_right (by omega)]
theorem IX {s e:Int} {l:List Int} (h:Wk secs pts s e l) {i:Nat} (hi:i<l.length):∀k,k≤l.length→stM secs pts (s::l) i k=if i<k then ((ot secs pts s e l i).length:Int) else 0
 |0,_=>by rw [if_neg (by omega)];rfl
 |k+1,hk=>by
  have ih:=IX h hi k (by omega);unfold stM
  split
  ·rename_i hki;subst hki;rw [if_pos (by omega),JJ hT h hi]
  ·rw [ih];by_cases hik:i<k
   ·rw [if_pos hik,if_pos (by omega)]
   ·rw [if_neg hik,if_neg (by omega)]
theorem TQ {s e:Int} {l:List Int} (hnd:(s::l).Nodup) (h:Wk secs pts s e l) {i:Nat} (hi:i<l.length):fu secs pts (s::l) i=ot secs pts s e l i:=by
 have hl:(s::l).length-1=l.length:=by simp
 have hall:bz secs pts (s::l)=iJ secs pts s e l:=by
  have:=AX hT hnd h l.length;rw [List.take_of_length_le (by simp),List.take_of_length_le (Nat.le_refl _)] at this;exact this
 obtain ⟨r,hr⟩:=IT (secs:=secs) (pts:=pts) l s e (l.length-(i+1)) (i+1) (by omega);rw [show i+1+(l.length-(i+1))=l.length by omega,List.take_of_length_le (Nat.le_refl _)] at hr;have hk:=ta (secs:=secs) (pts:=pts) l s e i hi;unfold fu;rw [hl,IW hT h hi _ (Nat.le_refl _),IX hT h hi _ (Nat.le_refl _),if_pos hi,Nat.min_eq_right (by omega),hall,hr,hk];rw [if_neg (by simp only [List.length_append];omega)];rw [show (((iJ secs pts s e (l.take i)).length:Int)+((ot secs pts s e l i).length:Int)).toNat=(iJ secs pts s e (l.take i)++ot secs pts s e l i).length by rw [List.length_append];omega,List.take_left,Int.toNat_natCast,List.drop_left]
end
section
variable {turns:List Int} {s e most:Int}
theorem Bq (hT:iT secs pts=true):∀i,(∀j,j<i→wstop secs pts turns s e most j=false)→∃l,(bA secs pts turns s e i).out=s::l∧Wk secs pts s e l∧ma secs pts s e l=((bA secs pts turns s e i).s,(bA secs pts turns s e i).e)
 |0,_=>⟨[],rfl,trivial,rfl⟩
 |i+1,hj=>by
  obtain ⟨l,h1,h2,h3⟩:=Bq hT i (fun j h=>hj j (by omega));have hs:=hj i (by omega);unfold wstop at hs;simp only [Bool.or_eq_false_iff,decide_eq_false_iff_not] at hs;have hx:mj secs pts turns i (bA secs pts turns s e i)∈bo secs pts (bA secs pts turns s e i).s (bA secs pts turns s e i).e:=c8 dE (As (by omega));refine ⟨l++[(mj secs pts turns i (bA secs pts turns s e i)).sec],?_,?_,?_⟩
  ·show (bA secs pts turns s e i).out++_=_;rw [h1];rfl
  ·exact Io l s e h2 (by rw [h3];exact hx)
  ·rw [HG,h3,Be hT hx];rfl
theorem HH (hT:iT secs pts=true):∀f i,(∀j,j<i→wstop secs pts turns s e most j=false)→∃l,jD secs pts turns s e most f i=s::l∧Wk secs pts s e l
 |0,i,h=>by
  obtain ⟨l,h1,h2,_⟩:=Bq hT i h;exact ⟨l,h1,h2⟩
 |f+1,i,h=>by
  unfold jD
  split
  ·obtain ⟨l,h1,h2,_⟩:=Bq hT i h;exact ⟨l,h1,h2⟩
  ·rename_i hc
   exact HH hT f (i+1) (fun j hj=>by
    rcases Nat.lt_or_ge j i with h3|h3
    ·exact h j h3
    ·rw [show j=i by omega];exact Bool.eq_false_iff.2 hc)
theorem zM (hT:iT secs pts=true) {rs:List (List Int)}:∀k x,x∈ej secs pts rs k→∃s e l,x=s::l∧Wk secs pts s e l
 |0,x,h=>by cases h
 |k+1,x,h=>by
  unfold ej at h
  split at h
  ·exact zM hT k x h
  ·rcases List.mem_append.1 h with h|h
   ·exact zM hT k x h
   ·obtain ⟨l,h1,h2⟩:=HH (turns:=(rs.getD k []).drop 2) (s:=(rs.getD k []).getD 0 0 % (secs.length:Int)) (e:=(rs.getD k []).getD 0 0 / 128) (most:=2+(rs.getD k []).getD 1 0 % 5) hT (2+(rs.getD k []).getD 1 0 % 5).toNat 0 (fun j hj=>by omega);exact ⟨_,_,l,(List.mem_singleton.1 h).trans h1,h2⟩
end
end
def tI (secs:List ax) (pts:List aH) (routes:List (List Int)):Prop:=∀x,x∈routes→∃s e l,x=s::l∧Wk secs pts s e l
theorem R8 (form len:Int) (rs:List (List Int)):tI (c9 form len) (cz form) (YQ form len rs):=fun x hx=>zM (Hr form len) _ x hx
theorem PD {f:za} (hT:iT f.secs f.pts=true) (hw:tI f.secs f.pts f.routes) (hnd:∀x,x∈f.routes→x.Nodup) {path:List Int} (hp:path∈f.routes) {i:Nat} (hi:i+1<path.length):BR f path i=fu f.secs f.pts path i:=by
 obtain ⟨s,e,l,rfl,hl⟩:=hw path hp;have hi2:i<l.length:=by simpa using hi
 rw [Sx hT rfl rfl (hnd _ hp) hl hi2,TQ hT (hnd _ hp) hl hi2]
end Go.Lo
set_option linter.unusedVariables false
set_option linter.unusedSimpArgs false
namespace Go.Lo
theorem IM:∀(l m:List Int),l.Nodup→(∀y,y∈l→y∈m)→l.length≤m.length
 | [],m,_,_=>Nat.zero_le _
 |a::l,m,h,hs=>by
  have ha:=hs a List.mem_cons_self;have h2:=List.nodup_cons.1 h;have ih:=IM l (m.erase a) h2.2 (fun y hy=>(List.mem_erase_of_ne (fun he=>h2.1 (by rw [←he];exact hy))).2 (hs y (List.mem_cons_of_mem _ hy)));rw [List.length_erase_of_mem ha] at ih;have:=List.length_pos_of_mem ha;rw [List.length_cons];omega
theorem Bf {l:List Int} {n:Nat} (h:l.Nodup) (hr:∀y,y∈l→0≤y∧y<(n:Int)):l.length≤n:=by
 have:=IM l ((List.range n).map Int.ofNat) h (fun y hy=>by
  obtain ⟨h0,h1⟩:=hr y hy;exact List.mem_map.2 ⟨y.toNat,List.mem_range.2 (by omega),by show ((y.toNat:Nat):Int)=y;omega⟩)
 simpa using this
end Go.Lo
set_option linter.unusedVariables false
set_option linter.unusedSimpArgs false
namespace Go.Lo
def p8 (n:Nat) (pts:List aH) (ns:List Need):Bool:=
 (ns.all fun z=> !nu (dh [] (b6 ns [])) z)&&ns.all fun z=>jX pts (List.replicate n 0) [] (List.replicate n false) (List.replicate pts.length false) z.point
def qn (secs:List ax) (pts:List aH):Nat→Int→Int→List Need→Bool
 |0,_,_,ns=>p8 secs.length pts ns
 |k+1,s,e,ns=>p8 secs.length pts ns&&(bo secs pts s e).all fun x=>qn secs pts k x.sec (1-x.en) (ns++fP secs pts s e x.sec)
def lV (secs:List ax) (pts:List aH):Bool:=(List.range secs.length).all fun s=>qn secs pts 8 (s:Int) 0 []&&qn secs pts 8 (s:Int) 1 []
theorem U4 (u:Int):lV (iC (hU 3) u 3) []=true:=by kernel_rfl
theorem U5 (u:Int):lV (iC (hU 4) u 4) []=true:=by kernel_rfl
theorem U6 (u:Int):lV (iC (hU 5) u 5) []=true:=by kernel_rfl
theorem U7 (u:Int):lV (iC (hU 6) u 6) []=true:=by kernel_rfl
theorem U8 (u:Int):lV (iC (hU 7) u 7) []=true:=by kernel_rfl
theorem U9 (u:Int):lV (iC (hU 8) u 8) []=true:=by kernel_rfl
theorem U_ (u:Int):lV (iC [⟨0,1⟩,⟨1,2⟩,⟨3,1⟩] u 3) [⟨1,0,1,2⟩]=true:=by kernel_rfl
theorem Va (u:Int):lV (iC [⟨0,1⟩,⟨1,2⟩,⟨2,3⟩,⟨2,4⟩,⟨5,3⟩,⟨4,5⟩,⟨5,6⟩,⟨6,7⟩] u 8) [⟨2,1,2,3⟩,⟨5,6,4,5⟩]=true:=by kernel_rfl
theorem Vb (u:Int):lV (iC [⟨0,1⟩,⟨2,1⟩,⟨2,3⟩,⟨2,4⟩,⟨3,5⟩,⟨4,6⟩] u 6) [⟨2,1,3,2⟩]=true:=by kernel_rfl
theorem QA (form len:Int):lV (c9 form len) (cz form)=true:=by
 unfold c9;rw [Ah];unfold d5 cz
 split
 ·have h:gw form=3∨gw form=4∨gw form=5∨gw form=6∨gw form=7∨gw form=8:=by unfold gw;omega
  rw [vG];rcases h with h|h|h|h|h|h<;>rw [h]
  ·exact U4 _
  ·exact U5 _
  ·exact U6 _
  ·exact U7 _
  ·exact U8 _
  ·exact U9 _
 ·split
  ·exact U_ _
  ·split
   ·exact Va _
   ·exact Vb _
section
variable {secs:List ax} {pts:List aH} {routes:List (List Int)} {parts:List (List Int)}
theorem IL (hT:iT secs pts=true):∀(n:Nat) (l:List Int) (s e:Int) (ns:List Need),qn secs pts n s e ns=true→Wk secs pts s e l→l.length≤n→p8 secs.length pts (ns++iJ secs pts s e l)=true
 |0,[],s,e,ns,h,_,_=>by rw [show iJ secs pts s e []=[] from rfl,List.append_nil];exact h
 |n+1,[],s,e,ns,h,_,_=>by
  unfold qn at h;rw [Bool.and_eq_true] at h;rw [show iJ secs pts s e []=[] from rfl,List.append_nil];exact h.1
 |n+1,p::l,s,e,ns,h,hw,hl=>by
  unfold qn at h;rw [Bool.and_eq_true] at h;obtain ⟨x,hx,hp⟩:=hw.1;subst hp;have h2:=List.all_eq_true.1 h.2 x hx;have h3:=hw.2;rw [Be hT hx] at h3;have h4:=IL hT n l x.sec (1-x.en) (ns++fP secs pts s e x.sec) h2 h3 (by simpa using hl);rw [List.append_assoc] at h4;show p8 secs.length pts (ns++(fP secs pts s e x.sec++iJ secs pts x.sec (pq secs pts s e x.sec) l))=true;rw [Be hT hx];exact h4
theorem Ox (hT:iT secs pts=true) (hc:lV secs pts=true) (hw:tI secs pts routes) (hnd:∀x,x∈routes→x.Nodup) (hL:wI secs parts pts routes) {path:List Int} (hp:path∈routes):p8 secs.length pts (bz secs pts path)=true:=by
 obtain ⟨s,e,l,rfl,hl⟩:=hw path hp;have hn:=hnd _ hp;have h8:(s::l).length≤secs.length:=Bf hn (fun y hy=>hL.hrs _ hp y hy);have hs:=hL.hs;have h2:=(hL.hrl _ hp).1
 cases l with
 |nil=>simp at h2
 |cons p l=>
  rw [Jy hT hn hl];obtain ⟨x,hx,_⟩:=hl.1;obtain ⟨he,hsr,_⟩:=tj hT hx;have h3:=List.all_eq_true.1 hc s.toNat (List.mem_range.2 (by omega));rw [Bool.and_eq_true,show ((s.toNat:Nat):Int)=s by omega] at h3
  have h4:qn secs pts 8 s e []=true:=by
   rcases he with rfl|rfl
   ·exact h3.1
   ·exact h3.2
  have:=IL hT 8 (p::l) s e [] h4 hl (by simp only [List.length_cons] at h8 ⊢;omega)
  rwa [List.nil_append] at this
theorem QB (n k:Nat):(List.replicate n (0:Int)).getD k 0=0:=by
 rw [List.getD_eq_getElem?_getD,List.getElem?_replicate]
 split<;>rfl
end
end Go.Lo
set_option linter.unusedVariables false
set_option linter.unusedSimpArgs false
namespace Go.Lo
def dm (x:Lk):List AV:=[.rp [.v (.int .i64 x.route),.v (.int .i64 x.cX),.v (.int .i64 x.ends),.ro x.pieces.length (enc aC x.pieces)]]
instance (x:Lk):cU (dm x):=by unfold dm;infer_instance
def eo (routes:List (List Int)) (r:Int):Bool:=decide (r≥0)&&decide (r<(routes.length:Int))
def bu (routes:List (List Int)) (r:Int):List Int:=(routes.getD r.toNat []).drop 1
def jc (routes:List (List Int)) (s:Int) (x:Lk):Int:=bL (fun y=>decide (s=y)) (bu routes x.route)
def lZ (routes:List (List Int)) (s:Int) (x:Lk):Bool:=decide (jc routes s x≥0)&&(x.pieces.getD (jc routes s x).toNat 0 != 0)
def e8 (routes:List (List Int)) (ls:List Lk) (s:Int):Int:=if bL (lZ routes s) ls<0 then-1 else (ls.getD (bL (lZ routes s) ls).toNat ao).route
def CI (routes:List (List Int)) (ls:List Lk) (i:Nat):Bool:=decide (e8 routes ls (i:Int)≥0)
def c_ (routes:List (List Int)) (ls:List Lk) (n k:Nat):List Bool:=(List.range k).map (CI routes ls)++List.replicate (n-k) false
structure gn (routes:List (List Int)) (x:Lk):Prop where
 r:0≤x.route∧x.route<(routes.length:Int)
 ps:x.pieces.length+1=(routes.getD x.route.toNat []).length
 ln:(routes.getD x.route.toNat []).length≤65536
section
variable {routes:List (List Int)} {ls:List Lk} {x:Lk} {s:Int} {k n:Nat}
theorem mT {r:Int}:(bu routes r).length=(routes.getD r.toNat []).length-1:=by unfold bu;rw [List.length_drop]
theorem Ug:jc routes s x= -1∨(0≤jc routes s x∧jc routes s x<((bu routes x.route).length:Int)):=ox _ 0 _
theorem Rn (hk:k<ls.length) (h:(ls.take k).any (lZ routes s)=false) (h2:lZ routes s (ls.getD k ao)=true):e8 routes ls s=(ls.getD k ao).route:=by
 have e:=hJ ao hk h h2;unfold e8;rw [e,if_neg (by omega)];rfl
theorem Ro (hk:ls.length≤k) (h:(ls.take k).any (lZ routes s)=false):e8 routes ls s= -1:=by
 have e:=iK hk h;unfold e8;rw [e,if_pos (by omega)]
theorem rm (hk:k≤n):(c_ routes ls n k).length=n:=by unfold c_;simp;omega
theorem GH (hk:k<n):(c_ routes ls n k).set k (CI routes ls k)=c_ routes ls n (k+1):=by
 unfold c_;rw [show n-k=(n-(k+1))+1 by omega,List.replicate_succ,List.range_succ,List.map_append,List.append_assoc,List.set_append_right _ _ (by simp)];simp
end
def gp (routes parts:List (List Int)) (st ow:List Int) (now:Int) (x:Lk) (i:Nat):Int:=
 if x.pieces.getD i 0=2 then (if (st.getD ((bu routes x.route).getD i 0).toNat 0==0)&& !((x.pieces.take i).any fun b=>b != 0) then 0 else 2)
 else if x.pieces.getD i 0=1 then
  (if (st.getD ((bu routes x.route).getD i 0).toNat 0==1)&&(ow.getD (dl parts ((bu routes x.route).getD i 0)).toNat 0==x.cX) then 2
  else if (st.getD ((bu routes x.route).getD i 0).toNat 0==0)&&decide (x.ends≥0)&&decide (x.ends≤now) then 0 else 1)
 else x.pieces.getD i 0
section
variable {routes parts:List (List Int)} {st ow:List Int} {now r tr en:Int} {ps:List Int} {i:Nat}
theorem Uh (h:(ps.getD i 0==2)=true) (h1:((st.getD ((bu routes r).getD i 0).toNat 0==0)&& !((ps.take i).any fun b=>b != 0))=true):0=gp routes parts st ow now ⟨r,tr,en,ps⟩ i:=by
 unfold gp;rw [if_pos (by simpa using h),if_pos h1]
theorem Ui (h:(ps.getD i 0==2)=true) (h1:((st.getD ((bu routes r).getD i 0).toNat 0==0)&& !((ps.take i).any fun b=>b != 0))=false):ps.getD i 0=gp routes parts st ow now ⟨r,tr,en,ps⟩ i:=by
 have h0:ps.getD i 0=2:=by simpa using h
 unfold gp;rw [if_pos h0,if_neg (by rw [h1];exact Bool.false_ne_true)];exact h0
theorem Uj (h:(ps.getD i 0==2)=false) (h1:(ps.getD i 0==1)=true) (h2:((st.getD ((bu routes r).getD i 0).toNat 0==1)&&(ow.getD (dl parts ((bu routes r).getD i 0)).toNat 0==tr))=true):2=gp routes parts st ow now ⟨r,tr,en,ps⟩ i:=by
 unfold gp;rw [if_neg (by simpa using h),if_pos (by simpa using h1),if_pos h2]
theorem Uk (h:(ps.getD i 0==2)=false) (h1:(ps.getD i 0==1)=true) (h2:((st.getD ((bu routes r).getD i 0).toNat 0==1)&&(ow.getD (dl parts ((bu routes r).getD i 0)).toNat 0==tr))=false)
  (h3:((st.getD ((bu routes r).getD i 0).toNat 0==0)&&decide (en≥0)&&decide (en≤now))=true):0=gp routes parts st ow now ⟨r,tr,en,ps⟩ i:=by
 unfold gp;rw [if_neg (by simpa using h),if_pos (by simpa using h1),if_neg (by rw [h2];exact Bool.false_ne_true),if_pos h3]
theorem Ul (h:(ps.getD i 0==2)=false) (h1:(ps.getD i 0==1)=true) (h2:((st.getD ((bu routes r).getD i 0).toNat 0==1)&&(ow.getD (dl parts ((bu routes r).getD i 0)).toNat 0==tr))=false)
  (h3:((st.getD ((bu routes r).getD i 0).toNat 0==0)&&decide (en≥0)&&decide (en≤now))=false):ps.getD i 0=gp routes parts st ow now ⟨r,tr,en,ps⟩ i:=by
 have h0:ps.getD i 0=1:=by simpa using h1
 unfold gp;rw [if_neg (by simpa using h),if_pos h0,if_neg (by rw [h2];exact Bool.false_ne_true),if_neg (by rw [h3];exact Bool.false_ne_true)];exact h0
theorem Wp (h:(ps.getD i 0==2)=false) (h1:(ps.getD i 0==1)=false):ps.getD i 0=gp routes parts st ow now ⟨r,tr,en,ps⟩ i:=by
 unfold gp;rw [if_neg (by simpa using h),if_neg (by simpa using h1)]
end
def fM (routes:List (List Int)) (ls:List Lk) (bE:List Int) (s:Int):Bool:=(decide (s≥(bE.length:Int))||(bE.getD s.toNat 0 != 0))||decide (e8 routes ls s≥0)
def g7 (pts:List aH) (bE:List Int) (views:List View) (locked held:List Bool) (n:Need):Bool:= !(jX pts bE views locked held n.point)
theorem Uo {t N:Nat} {s:St} {o o':ay} (id:Nat) (hN:Nat.blt t N=true) (hr:s.env t=.pt id 0) (hl:s.ob id=.live o) (ho:o=o') [hno:cU o.cells]:qb [t] (fun r ns=>r=.pt 0 0∧ns=[o']) N s:=by
 subst ho;exact Kz id o (by simpa using hN) (by simp [j9,hr,AV.map,ix]) (by simp only [List.map_cons,List.map_nil,j9,hr];exact .pt _ _ (by simp)) hl hno.out ⟨rfl,rfl⟩
theorem PG {ob:Nat→aK} {id n:Nat} {o:ay} {cs:List AV} (hl:ob id=.live o) (h:ew ob o.cells cs) (hn:o.cells.length=n*o.ci):dL ob (.sl id 0 n) (.ro n cs):=
 .sl id 0 n o cs hl (by rw [h.1,hn]) (by omega) (fun j a b hx hy=>h.2 j a b (by rw [Nat.zero_add] at hx;exact hx) hy)
def cS (routes parts:List (List Int)) (st ow:List Int) (now r tr en:Int) (ps:List Int):Nat→List Int
 |0=>ps
 |i+1=>(cS routes parts st ow now r tr en ps i).set i (gp routes parts st ow now ⟨r,tr,en,cS routes parts st ow now r tr en ps i⟩ i)
theorem rB {routes parts:List (List Int)} {st ow:List Int} {now r tr en:Int} {ps:List Int}:∀k,(cS routes parts st ow now r tr en ps k).length=ps.length
 |0=>rfl
 |k+1=>by show ((cS routes parts st ow now r tr en ps k).set _ _).length=_;rw [List.length_set,rB k]
def j4 (x:Lk):Bool:= !(x.pieces.any fun b=>b != 0)
def jv (v:Int) (n k:Nat):List Int:=List.replicate k v++List.replicate (n-k) 0
theorem Rw {v:Int} {n k:Nat} (h:k≤n):(jv v n k).length=n:=by simp [jv];omega
theorem Rx (v:Int) (n:Nat):jv v n n=List.replicate n v:=by simp [jv]
theorem P_ (v:Int) (n:Nat):jv v n 0=List.replicate n 0:=by simp [jv]
theorem oz {k:Nat} {v:Int}:enc aC (List.replicate k v)=List.replicate k (.v (.int .u8 v)):=Ic k v _ rfl
theorem HS {v:Int} {n j i:Nat} (h:j+i≤n):spl (enc aC (jv v n j)) (j*1) (enc aC (List.replicate i v))=enc aC (jv v n (j+i)):=by
 unfold spl jv;rw [me,me,oz,oz,oz,oz,oz,Nat.mul_one,List.length_replicate];rw [List.take_append_of_le_length (by simp),List.take_of_length_le (by simp),List.drop_append,List.drop_of_length_le (by simp),List.nil_append,List.length_replicate,List.drop_replicate];rw [←List.replicate_append_replicate,show n-j-(j+i-j)=n-(j+i) by omega]
theorem Qa {v:Int} {n j i:Nat} (h:i≤j):(enc aC (jv v n j)).take (i*1)=enc aC (List.replicate i v):=by
 unfold jv;rw [me,oz,oz,oz,Nat.mul_one,List.take_append_of_le_length (by simp;exact h),List.take_replicate,Nat.min_eq_left h]
theorem HW {ops:Array Oper} {b:Nat→Bool} {i j:Nat} (h:((ops[i]?).any fun o=>o.after.any fun e=>Region.binds .any e&&e.on==j)=true) (hcl:∀j oj,ops[j]? =some oj→b j=true→∀e∈oj.after,Region.binds .any e=true→b e.on=true) (hb:b i=true):b j=true:=by
 obtain ⟨o,ho,h1⟩:=(Option.any_eq_true _ _).1 h;exact nJ h1 (hcl i _ ho hb)
theorem Ph {ob:Nat→aK} {id:Nat} {o:ay} (hl:ob id=.live o):dL ob (.sl id 0 0) (.ro 0 []):=
 .sl id 0 0 o [] hl (by simp) (by omega) (fun j a b hx hy=>by simp at hy)
theorem Vu {w:World} {C:Ctx} {u:Value} (h:R w C (.v (.slice none 0 0)) u):R w C (.ro 0 []) u:=by
 have:=h.fy;subst this;exact .ro 0 0 none [] (fun _=>undef) (Nat.le_refl _) (by decide) (fun _=>⟨rfl,rfl⟩) (by simp) (by simp)
def wQ:List AV→List AV→Prop
 | [],[]=>True
 |a::as,b::bs=>(b=a∨(a=.ro 0 []∧b=.v (.slice none 0 0)))∧wQ as bs
 |_,_=>False
theorem G2:∀{as bs:List AV},wQ as bs→as.length=bs.length
 | [],[],_=>rfl
 |_::_,_::_,h=>by simp [G2 h.2]
 | [],_::_,h=>h.elim
 |_::_,[],h=>h.elim
theorem G3:∀{as bs:List AV},wQ as bs→∀(j:Nat) (a:AV),as[j]? =some a→bs[j]? =some a∨(a=.ro 0 []∧bs[j]? =some (.v (.slice none 0 0)))
 | [],[],_,j,a,h1=>by simp at h1
 |a::as,b::bs,h,0,x,h1=>by simp at h1;subst h1;exact h.1.elim (fun e=>.inl (by simp [e])) (fun e=>.inr ⟨e.1,by simp [e.2]⟩)
 |a::as,b::bs,h,j+1,x,h1=>by have:=G3 h.2 j x (by simpa using h1);simpa using this
 | [],_::_,h,_,_,_=>h.elim
 |_::_,[],h,_,_,_=>h.elim
theorem R5 {P:Program} {f:FuncId} {Y4:List ay} {args args':List AV} {post:AV→List aK→Prop} (h:sH P f Y4 args post) (hn:wQ args args'):sH P f Y4 args' post:=
 fun w C vs hsz ap hL hR=>h w C vs (hsz.trans (G2 hn).symm) ap hL (fun j av hj=>(G3 hn j av hj).elim (fun h2=>hR j av h2) (fun h2=>by rw [h2.1];exact Vu (hR j _ h2.2)))
end Go.Lo
set_option linter.unusedVariables false
set_option linter.unusedSimpArgs false
namespace Go.Lo
theorem Sp {A B D cs:List AV} {o:Nat} (h:o+cs.length≤B.length):spl (A++(B++D)) (A.length+o) cs=A++(spl B o cs++D):=by
 unfold spl;rw [List.take_length_add_append,Nat.add_assoc,List.drop_length_add_append,List.take_append_of_le_length (by omega),List.drop_append_of_le_length (by omega)];simp [List.append_assoc]
theorem G0 {α:Type} {f:α→List AV} (d:α) {l:List α} {k:Nat} (h:k<l.length):enc f l=enc f (l.take k)++(f (l.getD k d)++enc f (l.drop (k+1))):=by
 conv=>lhs;rw [←List.take_append_drop k l,me,List.drop_eq_getElem_cons h]
 rw [show l.getD k d=l[k] by simp [h]];rfl
theorem Sq {α:Type} {f:α→List AV} {s:Nat} (hf:∀x,(f x).length=s) (d v:α) {l:List α} {k o:Nat} {cs:List AV} (h:k<l.length) (ho:o+cs.length≤s) (hv:spl (f (l.getD k d)) o cs=f v):spl (enc f l) (k*s+o) cs=enc f (l.set k v):=by
 have hl:(enc f (l.take k)).length=k*s:=by rw [fI hf,List.length_take,Nat.min_eq_left (by omega)]
 rw [G0 d h, ←hl,Sp (by rw [hf];exact ho),hv]
 conv=>rhs;rw [G0 d (l:=l.set k v) (k:=k) (by simpa using h)]
 rw [List.take_set_of_le (Nat.le_refl _),List.drop_set_of_lt (by omega)];simp [h]
section
variable {P:Program} {E:cZ} {st:St} {K:St→Prop}
theorem Oq {o:Oper} {t:TypeId} {x y:Operand} {id k s z fo:Nat} {av:AV} {α:Type} {f:α→List AV} {l l':List α} {cs:List AV} {ob:ay} (d v:α) (ho:o.op=.store t x y) (hd:o.dst=none) (hN:(bh E.N x&&bh E.N y)=true)
  (hsz:(P.info? t).map (·.size)=some z) (hx:aU st.env x=.pt id (k*s+fo)) (hl:st.ob id=.live ob) (hc:ob.cells=enc f l) (hy:aU st.env y=av) (hcv:ZM av=some cs) (hcl:cs.length=z) (hf:∀x,(f x).length=s) (hk:k<l.length) (h1:cs.all lq=true)
  (hfit:fo+z≤s) (hv:spl (f (l.getD k d)) fo cs=f v) (hl':l.set k v=l') (h:K ⟨st.env,ah st.ob id (.live ⟨enc f l',ob.elem,ob.ci⟩)⟩):bY P E o st K:=by
 subst hl';refine mQ ho hd hN hsz hx hl hy hcv hcl ?_ h1 ?_ h
 ·have:=fI hf l;rw [hc,this];have h2:(k+1)*s≤l.length*s:=Nat.mul_le_mul_right s hk;rw [Nat.add_mul] at h2;omega
 ·rw [hc];exact Sq hf d v hk (by rw [hcl];exact hfit) hv
end
def nW (rows:Nat→aK):Nat→aK:=fun id=>cond (Nat.ble 8 id) (rows (id-8)) .free
theorem IP {rows:Nat→aK} {id:Nat} (h:id<8):nW rows id=.free:=by
 unfold nW
 have:Nat.ble 8 id=false:=by
  cases hb:Nat.ble 8 id with
  |false=>rfl
  |true=>have:=Nat.le_of_ble_eq_true hb;omega
 rw [this];rfl
theorem wx {rows:Nat→aK} (j:Nat):nW rows (j+8)=rows j:=by
 unfold nW;rw [Nat.ble_eq_true_of_le (by omega:8≤j+8)];show rows (j+8-8)=_;rw [Nat.add_sub_cancel]
theorem lg {f:Nat→aK} {i j:Nat} {x:aK} (h:i<8):ah f i x (j+8)=f (j+8):=dJ _ _ (by omega)
theorem H0 {E:cZ} {s s':St} (σ τ:Nat→Nat) (D:Nat→Prop) (hm:E.m=0) (hst:∀id,D id→τ (σ id)=id) (he:∀t,s'.env t=.any∨(Ok D True (s.env t)∧(s.env t).map σ=s'.env t))
  (ap:∀id' o',s'.ob id'=.live o'→∃o,D (τ id')∧σ (τ id')=id'∧s.ob (τ id')=.live o∧o'=ay.map σ o∧∀c,c∈o.cells→Ok D True c) (hf:∀id,D id→s.ob id≠ .free→s'.ob (σ id)≠ .free):ck E s s':=by
 rintro a w ⟨C,hs⟩
 let C2:Ctx:=⟨fun i=>C.blk (τ i),fun i=>C.sz (τ i),fun i=>C.ci (τ i),fun i=>D (τ i)∧σ (τ i)=i∧C.dom (τ i),C.own⟩
 have hid:∀id,D id→C.dom id→C2.dom (σ id)∧C2.blk (σ id)=C.blk id∧C2.sz (σ id)=C.sz id∧C2.ci (σ id)=C.ci id:=fun id hd hc=>by
  have e:=hst id hd;exact ⟨⟨by rw [e];exact hd,by rw [e],by rw [e];exact hc⟩,by show C.blk (τ (σ id))=_;rw [e],by show C.sz (τ (σ id))=_;rw [e],by show C.ci (τ (σ id))=_;rw [e]⟩
 have hmap:∀{av:AV} {u:Value},R w C av u→Ok D True av→R w C2 (av.map σ) u:=fun hr hok=>R.map hid (fun _ b h=>h) hr hok;refine ⟨C2,hs.size,hs.defers,fun t ht=>?_,⟨fun i o hl=>?_,fun i o b hl hb=>?_,fun i i' o1 o2 b h1 h2 h3 h4=>?_,fun i hi=>?_,hs.obj.bnd⟩,hs.fr,fun i o b hl hb=>?_,hs.keep,hs.fO,fun i hi=>?_,hs.kf⟩
 ·rcases he t with h1|⟨h1,h2⟩
  ·rw [h1];exact .any _
  ·rw [←h2];exact hmap (hs.env t ht) h1
 ·obtain ⟨o0,h1,h2,h3,h4,h5⟩:=ap i o hl;obtain ⟨k1,k2,k3⟩:=hs.obj.nil _ o0 h3;subst h4;exact ⟨⟨h1,h2,k1⟩,k2,fun hb=>by show AV.dY σ o0.cells=[];rw [k3 hb];rfl⟩
 ·obtain ⟨o0,h1,h2,h3,h4,h5⟩:=ap i o hl;obtain ⟨k1,cur,k2,k3,k4,k5⟩:=hs.obj.live _ o0 b h3 hb;subst h4;refine ⟨k1,cur,k2,k3,by show (AV.dY σ o0.cells).length≤_;rw [fX,List.length_map];exact k4,fun j av hj=>?_⟩;have hj':(AV.dY σ o0.cells)[j]? =some av:=hj;rw [fX,List.getElem?_map,Option.map_eq_some_iff] at hj';obtain ⟨c,hj2,rfl⟩:=hj';obtain ⟨u,hu,k6,k7⟩:=k5 j c hj2;exact ⟨u,hu,k6,hmap k7 (h5 c (List.mem_of_getElem? hj2))⟩
 ·obtain ⟨p1,_,a2,a3,_⟩:=ap i o1 h1;obtain ⟨p2,_,b2,b3,_⟩:=ap i' o2 h2;have:=hs.obj.inj _ _ p1 p2 b a3 b3 h3 h4;rw [←a2, ←b2,this]
 ·obtain ⟨h1,h2,h3⟩:=hi;have:=hf _ h1 (hs.obj.dom _ h3);rw [h2] at this;exact this
 ·obtain ⟨o0,h1,h2,h3,_⟩:=ap i o hl;exact hs.fresh _ o0 b h3 hb
 ·omega
def W_ (gs:List Nat) (d:Nat) (e:Nat→AV) (e1:Value→Nat→AV):Prop:=∀u t,t≠d→e1 u t=.any∨(Ok (· ∈gs) True (e t)∧(e t).map (ix gs)=e1 u t)
theorem RR {P:Program} {E:cZ} {c:Code} {st:St} {Q:Exit→St→Prop} (gs:List Nat) (Y4:List ay) (d:Nat) (e1:Value→Nat→AV) (post:Value→St→Prop) (hd:d<E.N) (hdv:∀u,e1 u d=.v u) (hnd:gs.Nodup) (hgl:Y4.length=gs.length)
  (o4:∀(i id:Nat),gs[i]? =some id→∃o:ay,st.ob id=.live o∧Y4[i]? =some (ay.map (ix gs) o)∧∀c,c∈o.cells→Ok (· ∈gs) True c) (qq:W_ gs d st.env e1)
  (h:∀u w0 G C hL j6,c6 P ⟨w0,G,C.own,E.N,Y4.length,C,hL,j6⟩ c ⟨e1 u,fU 0 (Y4.map .live) aG⟩ (m8 (fun s=>∃s2,ck ⟨w0,G,C.own,E.N,Y4.length,C,hL,j6⟩ s s2∧post u s2) (fun _ _=>False)))
  (hp:∀u s,post u s→s.env d=.v u∧∃os new,s.ob=fU 0 os aG∧(gs++new).Nodup∧os.length=(gs++new).length∧(∀id,id∈new→st.ob id=.free)∧
   Q .normal ⟨fun t=>cond (Nat.beq t d) (st.env d) ((s.env t).map (nm (gs++new))),jC (nm (gs++new)) (gs++new) os st.ob⟩):c6 P E c st Q:=by
 rintro a w ⟨C,hs⟩
 let C2:Ctx:=⟨fun i=>(gs[i]?).bind C.blk,fun i=>((gs[i]?).map C.sz).getD 0,fun i=>((gs[i]?).map C.ci).getD 0,fun i=>i<gs.length,C.own⟩
 have hown2:True→∀b,¬C.own b→¬C2.own b:=fun _ b h=>h
 have ub:∀id,id∈gs→C.dom id→C2.dom (ix gs id)∧C2.blk (ix gs id)=C.blk id∧C2.sz (ix gs id)=C.sz id∧C2.ci (ix gs id)=C.ci id:=fun id hm _=>by
  have hg:=pW hm;exact ⟨(List.getElem?_eq_some_iff.1 hg).1,by simp [C2,hg],by simp [C2,hg],by simp [C2,hg]⟩
 have hgo:∀i o',fU 0 (Y4.map .live) aG i=.live o'→∃id o,gs[i]? =some id∧st.ob id=.live o∧o'=ay.map (ix gs) o∧∀c,c∈o.cells→Ok (· ∈gs) True c:=fun i o' h=>by
  have h1:=Am h;rw [List.getElem?_map,Option.map_eq_some_iff] at h1;obtain ⟨o2,h2,h3⟩:=h1
  cases h3
  have hil:i<gs.length:=by rw [←hgl];exact (List.getElem?_eq_some_iff.1 h2).1
  obtain ⟨o,k1,k2,k3⟩:=o4 i gs[i] (List.getElem?_eq_getElem hil);rw [h2] at k2
  cases k2
  exact ⟨_,o,List.getElem?_eq_getElem hil,k1,rfl,k3⟩
 have gk:mE w C2 (fU 0 (Y4.map .live) aG):=by
  refine ⟨fun i o' h=>?_,fun i o' b h hb=>?_,fun i i' o1 o2 b h1 h2 h3 h4=>?_,fun i hi=>?_,hs.obj.bnd⟩
  ·obtain ⟨id,o,h1,h2,rfl,_⟩:=hgo i o' h;obtain ⟨k1,k2,k3⟩:=hs.obj.nil id o h2;refine ⟨(List.getElem?_eq_some_iff.1 h1).1,by simp [C2,h1,ay.map,k2],fun hb=>?_⟩;have:C.blk id=none:=by simpa [C2,h1] using hb
   simp [ay.map,k3 this,AV.dY]
  ·obtain ⟨id,o,h1,h2,rfl,h3⟩:=hgo i o' h;have hb':C.blk id=some b:=by simpa [C2,h1] using hb
   obtain ⟨k1,cur,k2,k4,k5,k6⟩:=hs.obj.live id o b h2 hb';refine ⟨k1,cur,k2,by simp [C2,h1,k4],by simp [ay.map,fX];exact k5,fun j av hj=>?_⟩;simp only [ay.map,fX,List.getElem?_map,Option.map_eq_some_iff] at hj;obtain ⟨c,hj,rfl⟩:=hj;obtain ⟨u,hu,k7,k8⟩:=k6 j c hj;exact ⟨u,hu,k7,R.map ub hown2 k8 (h3 c (List.mem_of_getElem? hj))⟩
  ·obtain ⟨id,o',a1,a2,_,_⟩:=hgo i o1 h1;obtain ⟨id2,o'',b1,b2,_,_⟩:=hgo i' o2 h2;have e1:C.blk id=some b:=by simpa [C2,a1] using h3
   have e2:C.blk id2=some b:=by simpa [C2,b1] using h4
   have e3:=hs.obj.inj id id2 o' o'' b a2 b2 e1 e2;subst e3;obtain ⟨l1,m1⟩:=List.getElem?_eq_some_iff.1 a1;obtain ⟨l2,m2⟩:=List.getElem?_eq_some_iff.1 b1;exact (List.getElem_inj (h₀:=l1) (h₁:=l2) hnd).1 (m1.trans m2.symm)
  ·have hi':i<Y4.length:=by rw [hgl];exact hi
   rw [kC (x:=.live Y4[i]) (by simp [hi'])];intro h;cases h
 let G:Nat→Prop:=fun b=>∃i,i<Y4.length∧C2.blk i=some b
 have hL:Laid w C2.own:=hs.laid;have j6:wF G:=fun q hq ⟨i,hi,hb⟩=>(hL q hq).2.1 (gk.live i Y4[i] q.1 (kC (by simp [hi])) hb).1
 have hsub:SR ⟨w,G,C2.own,E.N,Y4.length,C2,hL,j6⟩ C2 ⟨e1 (a.tmps.getD d undef),fU 0 (Y4.map .live) aG⟩ a w:=by
  refine ⟨hs.size,hs.defers,fun t ht=>?_,gk,Fr.refl _ _,fun id o b h hb=>?_,fun b h=>h,fun b _ h=>.inl h,fun i hi=>?_,hs.obj.bnd⟩
  ·show R w C2 (e1 _ t) _;by_cases htd:t=d
   ·rw [htd,hdv];exact .v _
   ·rcases qq (a.tmps.getD d undef) t htd with h1|⟨h1,h2⟩
    ·rw [h1];exact .any _
    ·rw [←h2];exact R.map ub hown2 (hs.env t ht) h1
  ·obtain ⟨id',o',h1,_⟩:=hgo id o h;exact .inr ⟨id,by rw [hgl];exact (List.getElem?_eq_some_iff.1 h1).1,hb⟩
  ·have hi':i<Y4.length:=hi;have:fU 0 (Y4.map .live) aG i=.live Y4[i]:=kC (by simp [hi']);exact ⟨(gk.nil i _ this).1,rfl,rfl,rfl⟩
 refine wp_mono (h (a.tmps.getD d undef) w G C2 hL j6 a w ⟨_,hsub⟩) ?_;rintro e a' w' ⟨s,h1,h2⟩
 cases e with
 |normal=>
  obtain ⟨s2,h3,h4⟩:=h2;obtain ⟨C',hs'⟩:=h3 a' w' h1;obtain ⟨hv,os,new,ap,Cy,hlen,hfree,hq⟩:=hp _ s2 h4;have BY:mE w' C' (fU 0 os aG):=by rw [←ap];exact hs'.obj
  have hback:∀(av:AV) (v:Value) (dst:Option Nat),(∀d,dst=some d→d<E.N)→R w' C' av v→SR E (f4 C C' (gs++new) new) (St.put ⟨st.env,jC (nm (gs++new)) (gs++new) os st.ob⟩ dst (av.map (nm (gs++new)))) (a.put dst v) w':=fun av v dst hdst hR=>by
   refine hs.JE (G:=G) (X:=C2.own) Cy hlen (fun b h=>h) (fun b hG=>?_) (fun id hid=>?_) hs'.fr hR BY (fun i id hi=>?_) (fun i o b h hb=>hs'.fresh i o b (by rw [ap];exact h) hb) hs'.keep (fun b hb ho=>hs'.fO b hb ho) hfree (.inl fun b h=>h) dst hdst
   ·obtain ⟨i,hi,hbi⟩:=hG;have hil:i<gs.length:=by rw [←hgl];exact hi
    exact ⟨gs[i],List.getElem_mem hil,by simpa [C2,hil] using hbi⟩
   ·obtain ⟨i,hi⟩:=List.mem_iff_getElem?.1 hid;obtain ⟨o,k1,_⟩:=o4 i id hi;exact ⟨o,k1⟩
   ·obtain ⟨k1,k2,k3,k4⟩:=hs'.init i (by show i<Y4.length;rw [hgl];exact (List.getElem?_eq_some_iff.1 hi).1);exact ⟨k1,by rw [k2];simp [C2,hi],by rw [k3];simp [C2,hi],by rw [k4];simp [C2,hi]⟩
  have hb0:=hback .any undef none (fun d h=>by cases h) (.any _);refine ⟨⟨fun t=>cond (Nat.beq t d) (st.env d) ((s2.env t).map (nm (gs++new))),jC (nm (gs++new)) (gs++new) os st.ob⟩,⟨f4 C C' (gs++new) new,hs'.size,hs'.defers,fun t ht=>?_,hb0.obj,hb0.fr,hb0.fresh,hb0.keep,hb0.fO,hb0.init,hb0.kf⟩,hq⟩;show R w' _ (cond (Nat.beq t d) (st.env d) ((s2.env t).map (nm (gs++new)))) _
  cases hb:Nat.beq t d with
  |true=>
   obtain rfl:=Nat.eq_of_beq_eq_true hb;have h5:=hs'.env t ht;rw [hv] at h5;have h6:=h5.fy;rw [h6];exact hb0.env t ht
  |false=>
   have h5:=(hback (s2.env t) (a'.tmps.getD t undef) (some t) (fun d h=>by cases h;exact ht) (hs'.env t ht)).env t ht;simp only [St.put,Act.put,upd_same] at h5;rw [FG (by rw [hs.size];exact ht)] at h5;exact h5
 |_=>exact h2.elim
end Go.Lo
set_option linter.unusedVariables false
set_option linter.unusedSimpArgs false
namespace Go.Lo
def fV (q:Lk×Nat):List AV:=[.i q.1.route,.i q.1.cX,.i q.1.ends,.sl q.2 0 q.1.pieces.length]
def ow (b:Nat) (l:List Lk):List (Lk×Nat):=l.zipIdx b
def Mm:Lk×Nat:=(ao,0)
def gY (e:Nat) (x:Lk):ay:=⟨enc aC x.pieces,e,1⟩
def lw (e:Nat) (ls:List Lk) (k j:Nat):aK:=if j<k then .live (gY e (ls.getD j ao)) else .free
def j1 (e:Nat) (ls:List Lk) (i j:Nat):aK:=if j<ls.length then (if j<i then .dead else .live (gY e (ls.getD j ao))) else .free
section
variable {b e k j:Nat} {l ls:List Lk}
theorem A_:(ow b l).length=l.length:=by simp [ow]
theorem RP (x:Lk):ow b (l++[x])=ow b l++[(x,b+l.length)]:=by simp [ow,List.zipIdx_append,Nat.add_comm]
theorem Te (h:j<l.length):(ow b l).getD j Mm=(l.getD j ao,b+j):=by
 have h2:j<(ow b l).length:=by rw [A_];exact h
 rw [List.getD_eq_getElem?_getD,List.getElem?_eq_getElem h2,List.getD_eq_getElem?_getD,List.getElem?_eq_getElem h];simp [ow]
theorem TK {q:Lk×Nat} (h:q∈ow b l):b≤q.2∧q.2<b+l.length:=by
 obtain ⟨x,i⟩:=q;have:=List.mem_zipIdx h;exact ⟨this.1,this.2.1⟩
theorem wG {p:Nat→Prop} (h:∀i,b≤i→i<b+l.length→p i):∀c,c∈enc fV (ow b l)→Ok p True c:=fun c hc=>by
 obtain ⟨q,hq,hc⟩:=List.mem_flatMap.1 (show c∈(ow b l).flatMap fV by simpa [enc] using hc);obtain ⟨h1,h2⟩:=TK hq;simp only [fV,List.mem_cons,List.not_mem_nil,or_false] at hc;rcases hc with rfl|rfl|rfl|rfl
 ·exact .v _
 ·exact .v _
 ·exact .v _
 ·exact .sl _ _ _ (h _ h1 h2)
theorem vg {σ:Nat→Nat} {x y:List AV}:AV.dY σ (x++y)=AV.dY σ x++AV.dY σ y:=by simp [fX]
theorem wi {σ:Nat→Nat}:∀(l:List Lk) (b c:Nat),(∀i,i<l.length→σ (b+i)=c+i)→AV.dY σ (enc fV (ow b l))=enc fV (ow c l)
 | [],b,c,_=>rfl
 |x::l,b,c,h=>by
  have ih:=wi (σ:=σ) l (b+1) (c+1) (fun i hi=>by have:=h (i+1) (by simpa using hi);rw [show b+1+i=b+(i+1) by omega,this];omega);show AV.dY σ (fV (x,b)++enc fV (ow (b+1) l))=fV (x,c)++enc fV (ow (c+1) l);rw [vg,ih]
  congr 1
  show [AV.map σ _,AV.map σ _,AV.map σ _,AV.sl (σ b) 0 _]=_;have:=h 0 (by simp);rw [Nat.add_zero,Nat.add_zero] at this;rw [this];rfl
theorem Py:lw e ls k k=.free:=by unfold lw;rw [if_neg (by omega)]
theorem TL:lw e ls 0 j=.free:=by unfold lw;rw [if_neg (by omega)]
theorem UQ {id:Nat}:nW (lw e ls 0) id=.free:=by
 unfold nW
 cases Nat.ble 8 id with
 |true=>exact TL
 |false=>rfl
theorem vX {p:Nat→Prop} {σ:Nat→Nat} {e:Nat→AV}:∀t,none_ t=.any∨(Ok p True (e t)∧(e t).map σ=none_ t):=fun t=>.inl rfl
theorem mY {p:Nat→Prop} {σ:Nat→Nat} {e e':Nat→AV} {d:Nat} {av:AV} (hok:Ok p True (e d)) (hd:(e d).map σ=av) (h:∀t,e' t=.any∨(Ok p True (e t)∧(e t).map σ=e' t)):∀t,upd e' d av t=.any∨(Ok p True (e t)∧(e t).map σ=upd e' d av t):=fun t=>by
 by_cases ht:t=d
 ·subst ht;rw [upd_same];exact .inr ⟨hok,hd⟩
 ·rw [upd_ne _ _ ht];exact h t
theorem ZC {p:Nat→Prop} {σ:Nat→Nat} {e e':Nat→AV} {d:Nat} {av:AV} (hd:e d=av) (h:∀t,e' t=.any∨(Ok p True (e t)∧(e t).map σ=e' t)) [hn:gq av]:∀t,upd e' d av t=.any∨(Ok p True (e t)∧(e t).map σ=upd e' d av t):=
 mY (by rw [hd];exact hn.out.mono (fun _ h=>h.elim) id) (by rw [hd];exact kB hn.out) h
end
def na (e5 eL:Nat) (ls:List Lk) (k:Nat):Nat→aK:=ah (nW (lw e5 ls k)) 1 (.live ⟨enc fV (ow 8 (ls.take k)),eL,4⟩)
theorem Pb {e5 eL:Nat} {ls:List Lk} {k:Nat} {A B:aK}:ah (ah (na e5 eL ls k) 2 A) 2 B (k+8)=.free:=by
 unfold na;rw [lg (by decide),lg (by decide),lg (by decide),wx];exact Py
theorem vC {e:Nat} {ls:List Lk} {k j:Nat} (h:j<k):lw e ls k j=.live (gY e (ls.getD j ao)):=by unfold lw;rw [if_pos h]
theorem vY {σ:Nat→Nat} {e:Nat} {x:Lk}:ay.map σ (gY e x)=gY e x:=by
 show ay.mk (AV.dY σ (enc aC x.pieces)) e 1=ay.mk _ _ _;rw [rh ((inferInstance:cU (enc aC x.pieces)).out)]
theorem wj {p:Nat→Prop} {e:Nat} {x:Lk}:∀c,c∈(gY e x).cells→Ok p True c:=fun c hc=>(((inferInstance:cU (enc aC x.pieces)).out) c hc).mono (fun _ h=>h.elim) id
theorem AL {e5 eL:Nat} {ls:List Lk} {k j:Nat}:na e5 eL ls k (j+8)=lw e5 ls k j:=by
 unfold na;rw [lg (by decide),wx]
theorem Pd {e5 eL:Nat} {ls:List Lk} {k i:Nat} {o:ay} (h:na e5 eL ls k i=.live o):(i=1∧o=⟨enc fV (ow 8 (ls.take k)),eL,4⟩)∨∃j,i=j+8∧j<k∧o=gY e5 (ls.getD j ao):=by
 unfold na at h;by_cases hi:i=1
 ·subst hi;rw [ec] at h;cases h;exact .inl ⟨rfl,rfl⟩
 ·rw [dJ _ _ hi] at h;rcases Nat.lt_or_ge i 8 with h8|h8
  ·rw [IP h8] at h;cases h
  ·obtain ⟨j,rfl⟩:∃j,i=j+8:=⟨i-8,by omega⟩
   rw [wx] at h;unfold lw at h
   split at h
   ·cases h;exact .inr ⟨j,rfl,by assumption,rfl⟩
   ·cases h
theorem RQ {e5 eL:Nat} {ls:List Lk} {k:Nat} {A B B2 X:aK} (j:Nat):ah (ah (ah (ah (ah (ah (na e5 eL ls k) 2 A) 2 B) (k+8) (.live (gY e5 (ls.getD k ao)))) 2 B2) 1 .dead) 3 X (j+8)=lw e5 ls (k+1) j:=by
 rw [lg (by decide),lg (by decide),lg (by decide)];by_cases h:j=k
 ·subst h;rw [ec];exact (vC (Nat.lt_succ_self j)).symm
 ·rw [dJ _ _ (by omega:j+8≠k+8)];rw [lg (by decide),lg (by decide),AL];unfold lw;rcases Nat.lt_or_ge j k with h1|h1
  ·rw [if_pos h1,if_pos (by omega)]
  ·rw [if_neg (by omega),if_neg (by omega)]
theorem rx {σ:AV→AV} {l:List AV} (h:∀c,c∈l→σ c=c):l.map σ=l:=(List.map_congr_left (g:=_root_.id) h).trans (List.map_id l)
theorem map_ok {p:Nat→Prop} {σ:Nat→Nat} {av:AV} (h:Ok p True av) (hs:∀i,p i→σ i=i):av.map σ=av:=by
 induction h with
 |any|one|v=>simp [AV.map]
 |ro n cells _ _ ih=>simp only [AV.map,fX];rw [rx ih]
 |rp cells _ _ ih=>simp only [AV.map,fX];rw [rx ih]
 |sl id off n h=>simp only [AV.map];rw [hs _ h]
 |pt id off h=>simp only [AV.map];rw [hs _ h]
 |agg cells _ ih=>simp only [AV.map,fX];rw [rx ih]
 |bw cells _ ih=>simp only [AV.map,fX];rw [rx ih]
 |fn f cells _ ih=>simp only [AV.map,fX];rw [rx ih]
theorem s_ {p:Nat→Prop} {σ:Nat→Nat} {l:List AV} (h:∀c,c∈l→Ok p True c) (hs:∀i,p i→σ i=i):AV.dY σ l=l:=by
 rw [fX,rx fun c hc=>map_ok (h c hc) hs]
def j2 (e:Nat) (ls:List Lk) (i:Nat) (r:ay) (j:Nat):aK:=if j<ls.length then (if j<i then .dead else if j=i then .live r else .live (gY e (ls.getD j ao))) else .free
def iS (rows:Nat→aK) (b4 b7 out:ay):Nat→aK:=ah (ah (ah (nW rows) 4 (.live b4)) 7 (.live b7)) 1 (.live out)
theorem YX {rows:Nat→aK} {b4 b7 out:ay} {j:Nat}:iS rows b4 b7 out (j+8)=rows j:=by
 unfold iS;rw [lg (by decide),lg (by decide),lg (by decide),wx]
theorem AW {rows:Nat→aK} {b4 b7 out:ay} {i:Nat} (h:i<8) (h1:i≠1) (h4:i≠4) (h7:i≠7):iS rows b4 b7 out i=.free:=by
 unfold iS;rw [dJ _ _ h1,dJ _ _ h7,dJ _ _ h4,IP h]
theorem G1 {rows:Nat→aK} {b4 b7 out o:ay} {i:Nat} (h:iS rows b4 b7 out i=.live o):(i=1∧o=out)∨(i=4∧o=b4)∨(i=7∧o=b7)∨∃j,i=j+8∧rows j=.live o:=by
 rcases Nat.lt_or_ge i 8 with h8|h8
 ·by_cases h1:i=1
  ·subst h1;exact .inl ⟨rfl,(by cases h;rfl)⟩
  ·by_cases h4:i=4
   ·subst h4;exact .inr (.inl ⟨rfl,(by cases h;rfl)⟩)
   ·by_cases h7:i=7
    ·subst h7;exact .inr (.inr (.inl ⟨rfl,(by cases h;rfl)⟩))
    ·rw [AW h8 h1 h4 h7] at h;cases h
 ·obtain ⟨j,rfl⟩:∃j,i=j+8:=⟨i-8,by omega⟩
  rw [YX] at h;exact .inr (.inr (.inr ⟨j,rfl,h⟩))
theorem IJ {E:cZ} {s:St} {e1:Nat→AV} {rows:Nat→aK} {b4 b7 out:ay} (q:Nat) (hq:q=1∨q=3) (hm:E.m=0) (h4:s.ob 4=.live b4) (h7:s.ob 7=.live b7) (ho:s.ob q=.live out) (hr:∀j,s.ob (j+8)=rows j)
  (k4:ii b4.cells) (k7:∀c,c∈b7.cells→Ok (8≤ ·) True c) (NG:∀c,c∈out.cells→Ok (8≤ ·) True c) (NH:∀j o,rows j=.live o→ii o.cells)
  (he:∀t,e1 t=.any∨(Ok (fun i=>i=q∨i=4∨i=7∨8≤i) True (s.env t)∧(s.env t).map (fun i=>cond (Nat.beq i q) 1 i)=e1 t)):ck E s ⟨e1,iS rows b4 b7 out⟩:=by
 have hσ:∀i,8≤i→(fun i=>cond (Nat.beq i q) 1 i) i=i:=fun i hi=>by
  show cond (Nat.beq i q) 1 i=i
  cases hb:Nat.beq i q with
  |false=>rfl
  |true=>have:=Nat.eq_of_beq_eq_true hb;omega
 have hD:∀{l:List AV},(∀c,c∈l→Ok (8≤ ·) True c)→∀c,c∈l→Ok (fun i=>i=q∨i=4∨i=7∨8≤i) True c:=fun h c hc=>(h c hc).mono (fun i hi=>.inr (.inr (.inr hi))) id;have hN:∀{l:List AV},ii l→∀c,c∈l→Ok (8≤ ·) True c:=fun h c hc=>(h c hc).mono (fun _ h=>h.elim) id
 have hmap:∀{o:ay},(∀c,c∈o.cells→Ok (8≤ ·) True c)→o=ay.map (fun i=>cond (Nat.beq i q) 1 i) o:=fun {o} h=>by
  show o=ay.mk (AV.dY _ o.cells) o.elem o.ci;rw [s_ h hσ]
 refine H0 (fun i=>cond (Nat.beq i q) 1 i) (fun i=>cond (Nat.beq i 1) q i) (fun i=>i=q∨i=4∨i=7∨8≤i) hm (fun i hi=>?_) he (fun i o' hl=>?_) (fun i hi hf=>?_)
 ·rcases hq with rfl|rfl<;>rcases hi with rfl|rfl|rfl|hi
  ·rfl
  ·rfl
  ·rfl
  ·obtain ⟨j,rfl⟩:∃j,i=j+8:=⟨i-8,by omega⟩
   rfl
  ·rfl
  ·rfl
  ·rfl
  ·obtain ⟨j,rfl⟩:∃j,i=j+8:=⟨i-8,by omega⟩
   rfl
 ·rcases G1 hl with ⟨rfl,rfl⟩|⟨rfl,rfl⟩|⟨rfl,rfl⟩|⟨j,rfl,hj⟩
  ·exact ⟨o',.inl rfl,by rcases hq with rfl|rfl<;>rfl,ho,hmap NG,hD NG⟩
  ·exact ⟨o',.inr (.inl rfl),by rcases hq with rfl|rfl<;>rfl,h4,hmap (hN k4),hD (hN k4)⟩
  ·exact ⟨o',.inr (.inr (.inl rfl)),by rcases hq with rfl|rfl<;>rfl,h7,hmap k7,hD k7⟩
  ·exact ⟨o',.inr (.inr (.inr (by show 8≤j+8;omega))),by rcases hq with rfl|rfl<;>rfl,(hr j).trans hj,hmap (hN (NH j o' hj)),hD (hN (NH j o' hj))⟩
 ·rcases hi with rfl|rfl|rfl|hi
  ·rcases hq with rfl|rfl
   ·intro h;cases h
   ·intro h;cases h
  ·rcases hq with rfl|rfl
   ·intro h;cases h
   ·intro h;cases h
  ·rcases hq with rfl|rfl
   ·intro h;cases h
   ·intro h;cases h
  ·obtain ⟨j,rfl⟩:∃j,i=j+8:=⟨i-8,by omega⟩
   rw [hr] at hf;intro h;have h2:iS rows b4 b7 out (cond (Nat.beq (j+8) q) 1 (j+8))=.free:=h;rw [show cond (Nat.beq (j+8) q) 1 (j+8)=j+8 from hσ _ hi,YX] at h2;exact hf h2
theorem IK {E:cZ} {e1 e2:Nat→AV} {ls:List Lk} {i e:Nat} {r b4 b7 out out':ay} (hi:i<ls.length) (hm:E.m=0) (hG:∀b,¬E.G b) (he:∀t,gZ (ah aG (i+8) (.live r)) (e1 t) (e2 t))
  (ho:out'.elem=out.elem∧out'.ci=out.ci∧out'.cells.length=out.cells.length∧∀(j:Nat) (a b:AV),out.cells[j]? =some a→out'.cells[j]? =some b→gZ (ah aG (i+8) (.live r)) a b):
  ck E ⟨e1,iS (j2 e ls i r) b4 b7 out⟩ ⟨e2,iS (j1 e ls (i+1)) b4 b7 out'⟩:=by
 let keep:List Nat:=[1,4,7]++((List.range ls.length).filter fun j=>decide (i<j)).map (· +8)
 have hin:∀j,i<j→j<ls.length→j+8∈keep:=fun j h1 h2=>List.mem_append.2 (.inr (List.mem_map.2 ⟨j,List.mem_filter.2 ⟨List.mem_range.2 h2,by simpa using h1⟩,rfl⟩))
 have hnot:∀j,j≤i→j+8∉keep:=fun j h1 h2=>by
  rcases List.mem_append.1 h2 with h|h
  ·simp at h
  ·obtain ⟨j',h3,h4⟩:=List.mem_map.1 h;have:=(List.mem_filter.1 h3).2;simp at this;omega
 have Vj:iD keep (iS (j2 e ls i r) b4 b7 out) (i+8)=.live r:=by
  rw [sX,if_neg (hnot i (Nat.le_refl _)),YX];unfold j2;rw [if_pos hi,if_neg (by omega),if_pos rfl]
 have hsub:∀id o,ah aG (i+8) (.live r) id=.live o→iD keep (iS (j2 e ls i r) b4 b7 out) id=.live o:=fun id o h=>by
  by_cases h1:id=i+8
  ·subst h1;rw [ec] at h;cases h;exact Vj
  ·rw [dJ _ _ h1] at h;cases h
 have hfz:∀{a b:AV},gZ (ah aG (i+8) (.live r)) a b→gZ (iD keep (iS (j2 e ls i r) b4 b7 out)) a b:=fun h=>h.imp (fun h=>h) (fun h=>h.more hsub);refine Ig keep hm hG (fun t=>hfz (he t)) (fun id o' hl=>?_) (fun id hf=>?_)
 ·rcases G1 hl with ⟨rfl,rfl⟩|⟨rfl,rfl⟩|⟨rfl,rfl⟩|⟨j,rfl,hj⟩
  ·exact ⟨by simp [keep],out,rfl,ho.1,ho.2.1,ho.2.2.1,fun j a b h1 h2=>hfz (ho.2.2.2 j a b h1 h2)⟩
  ·exact ⟨by simp [keep],o',rfl,rfl,rfl,rfl,fun j a b h1 h2=>.inl (by rw [h1] at h2;cases h2;rfl)⟩
  ·exact ⟨by simp [keep],o',rfl,rfl,rfl,rfl,fun j a b h1 h2=>.inl (by rw [h1] at h2;cases h2;rfl)⟩
  ·have h3:i<j∧j<ls.length∧o'=gY e (ls.getD j ao):=by
    unfold j1 at hj
    split at hj
    ·rename_i h5
     split at hj
     ·cases hj
     ·cases hj;exact ⟨by omega,h5,rfl⟩
    ·cases hj
   obtain ⟨h5,h6,rfl⟩:=h3;refine ⟨hin j h5 h6,_,(YX (rows:=j2 e ls i r) (b4:=b4) (b7:=b7) (out:=out)).trans ?_,rfl,rfl,rfl,fun j a b h1 h2=>.inl (by rw [h1] at h2;cases h2;rfl)⟩;unfold j2;rw [if_pos h6,if_neg (by omega),if_neg (by omega)]
 ·have hf':iS (j1 e ls (i+1)) b4 b7 out' id=.free:=hf;rcases Nat.lt_or_ge id 8 with h8|h8
  ·by_cases h1:id=1
   ·subst h1;cases hf'
   ·by_cases h4:id=4
    ·subst h4;cases hf'
    ·by_cases h7:id=7
     ·subst h7;cases hf'
     ·exact AW h8 h1 h4 h7
  ·obtain ⟨j,rfl⟩:∃j,id=j+8:=⟨id-8,by omega⟩
   rw [YX] at hf';refine (YX (rows:=j2 e ls i r) (b4:=b4) (b7:=b7) (out:=out)).trans ?_;unfold j1 at hf'
   split at hf'
   ·split at hf'
    ·cases hf'
    ·cases hf'
   ·rename_i h5;unfold j2;rw [if_neg h5]
theorem Ql {e5 eL z:Nat} {ls:List Lk} {T:Tu} {b4:ay} (id:Nat):iS (j1 e5 ls 0) b4 ⟨enc fV (ow 8 ls),eL,z⟩ ⟨enc aQ (dp T (ls.take 0)),eL,z⟩ id=ah (dK (ah (fun _=>.free) 4 (.live b4)) 7 (⟨enc fV (ow 8 ls),eL,z⟩::ls.map (gY e5))) 1 (.live ⟨[],eL,z⟩) id:=by
 by_cases h1:id=1
 ·subst h1;rfl
 ·rw [dJ _ _ h1,vM];rcases Nat.lt_or_ge id 8 with h8|h8
  ·by_cases h7:id=7
   ·subst h7;rw [if_pos (by simp only [List.length_cons];omega)];rfl
   ·rw [if_neg (by omega)];by_cases h4:id=4
    ·subst h4;rfl
    ·rw [dJ _ _ h4,AW h8 h1 h4 h7]
  ·obtain ⟨j,rfl⟩:∃j,id=j+8:=⟨id-8,by omega⟩
   rw [YX,show j+8-7=j+1 by omega,List.getElem?_cons_succ,List.getElem?_map,List.length_cons,List.length_map];unfold j1
   split
   ·rename_i h;rw [if_neg (by omega),if_pos (by omega),List.getElem?_eq_getElem h];simp [h]
   ·rename_i h;rw [if_neg (by omega),lg (by decide)]
theorem RU {e:Nat} {ls:List Lk} {i:Nat} (h:i<ls.length):j1 e ls i i=.live (gY e (ls.getD i ao)):=by unfold j1;rw [if_pos h,if_neg (by omega)]
theorem H2 {e:Nat} {ls:List Lk} {i:Nat} {b4 b7 out r:ay} (hi:i<ls.length) (j:Nat):ah (iS (j1 e ls i) b4 b7 out) (i+8) (.live r) (j+8)=j2 e ls i r j:=by
 by_cases h:j=i
 ·subst h;rw [ec];unfold j2;rw [if_pos hi,if_neg (by omega),if_pos rfl]
 ·rw [dJ _ _ (by omega:j+8≠i+8),YX];unfold j1 j2;rw [if_neg h]
theorem Qn {ob:Nat→aK} {l a b:List AV} (h:∀(j:Nat) (x y:AV),a[j]? =some x→b[j]? =some y→gZ ob x y):∀(j:Nat) (x y:AV),(l++a)[j]? =some x→(l++b)[j]? =some y→gZ ob x y:=fun j x y h1 h2=>by
 rcases Nat.lt_or_ge j l.length with hj|hj
 ·rw [List.getElem?_append_left hj] at h1 h2;rw [h1] at h2;cases h2;exact .inl rfl
 ·rw [List.getElem?_append_right hj] at h1 h2;exact h _ x y h1 h2
theorem RS {p:Nat→Prop} {σ:Nat→Nat} {e e':Nat→AV} {d:Nat} {av:AV} (h:∀t,e' t=.any∨(Ok p True (e t)∧(e t).map σ=e' t)):∀t,t≠d→upd e' d av t=.any∨(Ok p True (e t)∧(e t).map σ=upd e' d av t):=fun t ht=>by
 rw [upd_ne _ _ ht];exact h t
theorem II {p:Nat→Prop} {σ:Nat→Nat} {e e':Nat→AV} {d s:Nat} {av:AV} (hok:Ok p True (e d)) (hd:(e d).map σ=av) (h:∀t,t≠s→e' t=.any∨(Ok p True (e t)∧(e t).map σ=e' t)):∀t,t≠s→upd e' d av t=.any∨(Ok p True (e t)∧(e t).map σ=upd e' d av t):=fun t hs=>by
 by_cases ht:t=d
 ·subst ht;rw [upd_same];exact .inr ⟨hok,hd⟩
 ·rw [upd_ne _ _ ht];exact h t hs
theorem UR {p:Nat→Prop} {σ:Nat→Nat} {e e':Nat→AV} {d s:Nat} {av:AV} (hd:e d=av) (h:∀t,t≠s→e' t=.any∨(Ok p True (e t)∧(e t).map σ=e' t)) [hn:gq av]:∀t,t≠s→upd e' d av t=.any∨(Ok p True (e t)∧(e t).map σ=upd e' d av t):=
 II (by rw [hd];exact hn.out.mono (fun _ h=>h.elim) id) (by rw [hd];exact kB hn.out) h
theorem H3 {e:Nat} {ls:List Lk} {i j:Nat} {r o:ay} (hr:ii r.cells) (h:j2 e ls i r j=.live o):ii o.cells:=by
 unfold j2 at h
 split at h
 ·split at h
  ·cases h
  ·split at h
   ·cases h;exact hr
   ·cases h;exact (inferInstance:cU (enc aC (ls.getD j ao).pieces)).out
 ·cases h
end Go.Lo
