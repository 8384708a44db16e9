/- Part of the logic of values: what the law reaches. -/
import Derived.Test.YtdeajfldegcdaaaGreatPFnApm9
import Derived.KernelRfl
import Derived.Test.YtdeajfldegcdaaaGreatPFnApm8
set_option linter.unusedVariables false
set_option linter.unusedSimpArgs false
namespace Go.Lo
def nW (secs:List aD) (pts:List aP) (s e:Int) (x:En):Bool:=
 ((Vn secs pts s (1-e)).all fun y=> !decide (y.sec=x.sec))&&((Vn secs pts s e).all fun y=> !decide (y.sec=x.sec)||decide (y.en=x.en))&&
  decide ((if aV pts (U6 secs s e)<0 then (0:Int) else 1)=asv (secs.getD s.toNat dS) (secs.getD x.sec.toNat dS) pts pts.length)
def fC (secs:List aD) (pts:List aP):Bool:=(List.range secs.length).all fun s=>(Vn secs pts (s:Int) 0).all (nW secs pts (s:Int) 0)&&(Vn secs pts (s:Int) 1).all (nW secs pts (s:Int) 1)
def XH (E:List Pr) (u:Int):Nat→List aD
 |0=>[]
 |k+1=>XH E u k++[⟨u+(k:Int) % 3,(E.getD k Pw).a,(E.getD k Pw).b⟩]
theorem uI (form len:Int):∀k,dO form len k=XH (V6 form) (2*agU len) k
 |0=>rfl
 |k+1=>by unfold dO XH;rw [uI form len k]
theorem akH (u:Int):fC (XH (eX 3) u 3) []=true:=by kernel_rfl
theorem Lx (u:Int):fC (XH (eX 4) u 4) []=true:=by kernel_rfl
theorem akI (u:Int):fC (XH (eX 5) u 5) []=true:=by kernel_rfl
theorem LA (u:Int):fC (XH (eX 6) u 6) []=true:=by kernel_rfl
theorem LB (u:Int):fC (XH (eX 7) u 7) []=true:=by kernel_rfl
theorem LC (u:Int):fC (XH (eX 8) u 8) []=true:=by kernel_rfl
theorem LD (u:Int):fC (XH [⟨0,1⟩,⟨1,2⟩,⟨3,1⟩] u 3) [⟨1,0,1,2⟩]=true:=by kernel_rfl
theorem akJ (u:Int):fC (XH [⟨0,1⟩,⟨1,2⟩,⟨2,3⟩,⟨2,4⟩,⟨5,3⟩,⟨4,5⟩,⟨5,6⟩,⟨6,7⟩] u 8) [⟨2,1,2,3⟩,⟨5,6,4,5⟩]=true:=by kernel_rfl
theorem LG (u:Int):fC (XH [⟨0,1⟩,⟨2,1⟩,⟨2,3⟩,⟨2,4⟩,⟨3,5⟩,⟨4,6⟩] u 6) [⟨2,1,3,2⟩]=true:=by kernel_rfl
theorem agp (form len:Int):fC (VI form len) (bE form)=true:=by
 unfold VI;rw [uI];unfold V6 bE
 split
 ·have h:W_ form=3∨W_ form=4∨W_ form=5∨W_ form=6∨W_ form=7∨W_ form=8:=by unfold W_;omega
  rw [ade];rcases h with h|h|h|h|h|h<;>rw [h]
  ·exact akH _
  ·exact Lx _
  ·exact akI _
  ·exact LA _
  ·exact LB _
  ·exact LC _
 ·split
  ·exact LD _
  ·split
   ·exact akJ _
   ·exact LG _
def l5 (secs:List aD) (pts:List aP) (s e p:Int):Int:=1-(iZ secs pts p ⟨s,e,[]⟩).en
def Wk (secs:List aD) (pts:List aP):Int→Int→List Int→Prop
 |_,_,[]=>True
 |s,e,p::l=>(∃x,x∈Vn secs pts s e∧x.sec=p)∧Wk secs pts p (l5 secs pts s e p) l
def asu (secs:List aD) (pts:List aP):Int→Int→List Int→Int×Int
 |s,e,[]=>(s,e)
 |s,e,p::l=>asu secs pts p (l5 secs pts s e p) l
def fE (secs:List aD) (pts:List aP):Int→Int→List Int→List Need
 |_,_,[]=>[]
 |s,e,p::l=>W9 secs pts s e p++fE secs pts p (l5 secs pts s e p) l
def ndK (secs:List aD) (pts:List aP) (s e:Int) (l:List Int) (k:Nat):List Need:=W9 secs pts (asu secs pts s e (l.take k)).1 (asu secs pts s e (l.take k)).2 (l.getD k 0)
section
variable {secs:List aD} {pts:List aP}
theorem agH {x:En}:∀(l:List Int) (s e:Int),Wk secs pts s e l→x∈Vn secs pts (asu secs pts s e l).1 (asu secs pts s e l).2→Wk secs pts s e (l++[x.sec])
 | [],s,e,_,hx=>⟨⟨x,hx,rfl⟩,trivial⟩
 |p::l,s,e,h,hx=>⟨h.1,agH l _ _ h.2 hx⟩
theorem PY {p:Int}:∀(l:List Int) (s e:Int),asu secs pts s e (l++[p])=(p,l5 secs pts (asu secs pts s e l).1 (asu secs pts s e l).2 p)
 | [],s,e=>rfl
 |q::l,s,e=>PY l _ _
theorem agI:∀(l:List Int) (s e:Int) (n:Nat),Wk secs pts s e l→Wk secs pts s e (l.take n)
 | [],s,e,n,h=>by rw [List.take_nil];exact h
 |p::l,s,e,0,h=>trivial
 |p::l,s,e,n+1,h=>⟨h.1,agI l _ _ n h.2⟩
theorem Ca:∀(l:List Int) (s e:Int) (k:Nat),Wk secs pts s e l→k<l.length→∃x,x∈Vn secs pts (asu secs pts s e (l.take k)).1 (asu secs pts s e (l.take k)).2∧x.sec=l.getD k 0
 |p::l,s,e,0,h,_=>h.1
 |p::l,s,e,k+1,h,hk=>Ca l _ _ k h.2 (by simpa using hk)
theorem agJ:∀(l:List Int) (s e:Int) (k:Nat),k≤l.length→(asu secs pts s e (l.take k)).1=(s::l).getD k 0
 |l,s,e,0,_=>by rw [List.take_zero];rfl
 |p::l,s,e,k+1,h=>by rw [List.take_succ_cons];exact agJ l p _ k (by simpa using h)
theorem acr:∀(l:List Int) (s e:Int) (k:Nat),k<l.length→fE secs pts s e (l.take (k+1))=fE secs pts s e (l.take k)++ndK secs pts s e l k
 |p::l,s,e,0,_=>by
  rw [List.take_succ_cons,List.take_zero,List.take_zero];show W9 secs pts s e p++[]=[]++W9 secs pts s e p;rw [List.append_nil];rfl
 |p::l,s,e,k+1,h=>by
  rw [List.take_succ_cons,List.take_succ_cons];show W9 secs pts s e p++fE secs pts p _ (l.take (k+1))=(W9 secs pts s e p++fE secs pts p _ (l.take k))++_;rw [acr l _ _ k (by simpa using h),List.append_assoc];rfl
theorem Bu (l:List Int) (s e:Int):∀j k:Nat,k+j≤l.length→∃r,fE secs pts s e (l.take (k+j))=fE secs pts s e (l.take k)++r
 |0,k,_=>⟨[],by simp⟩
 |j+1,k,h=>by
  obtain ⟨r,hr⟩:=Bu l s e j k (by omega);exact ⟨r++ndK secs pts s e l (k+j),by rw [show k+(j+1)=k+j+1 by omega,acr l s e (k+j) (by omega),hr,List.append_assoc]⟩
theorem Bv {s e p:Int} (h:∃x,x∈Vn secs pts s e∧x.sec=p):¬aso secs pts s e p<0:=by
 obtain ⟨x,hx,hp⟩:=h;have hany:(Vn secs pts s e).any (fun x:En=>decide (x.sec=p))=true:=List.any_eq_true.2 ⟨x,hx,by simpa using hp⟩;have hd:=jW (f:=fun x:En=>decide (x.sec=p)) dE (Vn secs pts s e);rw [hany] at hd;have:bX (fun x:En=>decide (x.sec=p)) (Vn secs pts s e)≥0:=of_decide_eq_true hd;unfold aso;omega
theorem Bw:∀(l:List Int) (s e:Int) (ns:List Need),Wk secs pts s e l→gM secs pts l ⟨s,e,ns⟩=some (ns++fE secs pts s e l)
 | [],s,e,ns,_=>by rw [show fE secs pts s e []=[] from rfl,List.append_nil];rfl
 |p::l,s,e,ns,h=>by
  have hi:=Bv h.1;have hx:(iZ secs pts p ⟨s,e,ns⟩).sec=p:=(aeR (w:=⟨s,e,ns⟩) hi).2.1;unfold gM;rw [if_neg hi];show gM secs pts l ⟨p,1-(iZ secs pts p ⟨s,e,ns⟩).en,ns++W9 secs pts s e (iZ secs pts p ⟨s,e,ns⟩).sec⟩=_;rw [hx];exact (Bw l p (l5 secs pts s e p) (ns++W9 secs pts s e p) h.2).trans (by rw [List.append_assoc];rfl)
section
variable (hT:fC secs pts=true)
include hT
theorem acw {s e:Int} {x:En} (hx:x∈Vn secs pts s e):(e=0∨e=1)∧(0≤s∧s<(secs.length:Int))∧nW secs pts s e x=true:=by
 have hn:dD secs s e=false:=by
  cases h:dD secs s e with
  |false=>rfl
  |true=>unfold Vn at hx;rw [h,if_pos rfl] at hx;cases hx
 obtain ⟨h0,h1,h2,h3⟩:=yL hn;unfold fC at hT;have h4:=List.all_eq_true.1 hT s.toNat (List.mem_range.2 (by omega));rw [Bool.and_eq_true,show ((s.toNat:Nat):Int)=s by omega] at h4;have he:e=0∨e=1:=by omega
 refine ⟨he,⟨h0,h1⟩,?_⟩;rcases he with rfl|rfl
 ·exact List.all_eq_true.1 h4.1 x hx
 ·exact List.all_eq_true.1 h4.2 x hx
theorem GU {s e p:Int} (h:∃x,x∈Vn secs pts s e∧x.sec=p):aso secs pts s (1-e) p<0:=by
 obtain ⟨x,hx,hp⟩:=h;have ht:=(acw hT hx).2.2;unfold nW at ht;simp only [Bool.and_eq_true] at ht;have h1:=ht.1.1
 have hany:(Vn secs pts s (1-e)).any (fun x:En=>decide (x.sec=p))=false:=by
  cases hq:(Vn secs pts s (1-e)).any (fun x:En=>decide (x.sec=p)) with
  |false=>rfl
  |true=>
   obtain ⟨y,hy,hy2⟩:=List.any_eq_true.1 hq;have:=List.all_eq_true.1 h1 y hy;rw [hp] at this;simp only [Bool.not_eq_true',decide_eq_false_iff_not] at this;exact absurd (by simpa using hy2) this
 have hd:=jW (f:=fun x:En=>decide (x.sec=p)) dE (Vn secs pts s (1-e));rw [hany] at hd;have:¬bX (fun x:En=>decide (x.sec=p)) (Vn secs pts s (1-e))≥0:=of_decide_eq_false hd;unfold aso;omega
theorem aeV {s e:Int} {x:En} (hx:x∈Vn secs pts s e):l5 secs pts s e x.sec=1-x.en:=by
 have ht:=(acw hT hx).2.2;unfold nW at ht;simp only [Bool.and_eq_true] at ht;have hw:=aeR (secs:=secs) (pts:=pts) (p:=x.sec) (w:=⟨s,e,[]⟩) (Bv ⟨x,hx,rfl⟩);have hm:iZ secs pts x.sec ⟨s,e,[]⟩∈Vn secs pts s e:=VR dE hw.2.2;have:=List.all_eq_true.1 ht.1.2 _ hm;simp only [Bool.or_eq_true,Bool.not_eq_true',decide_eq_false_iff_not,decide_eq_true_eq] at this;unfold l5;rcases this with h|h
 ·exact absurd hw.2.1 h
 ·rw [h]
theorem HY {s e p:Int} (h:∃x,x∈Vn secs pts s e∧x.sec=p):((W9 secs pts s e p).length:Int)=asv (secs.getD s.toNat dS) (secs.getD p.toNat dS) pts pts.length:=by
 obtain ⟨x,hx,rfl⟩:=h;have ht:=(acw hT hx).2.2;unfold nW at ht;simp only [Bool.and_eq_true,decide_eq_true_eq] at ht;rw [←ht.2];unfold W9
 split<;>rfl
theorem BZ {s e p:Int} {l:List Int} (hnd:(s::p::l).Nodup) (h:Wk secs pts s e (p::l)):Vh secs pts (s::p::l)=fE secs pts s e (p::l):=by
 obtain ⟨x,hx,hp⟩:=h.1;have he:=(acw hT hx).1
 have hw:gN secs pts s e (p::l)=some (fE secs pts s e (p::l)):=by
  have:=Bw (p::l) s e [] h;rw [List.nil_append] at this;exact this
 have hno:gN secs pts s (1-e) (p::l)=none:=by
  unfold gN gM;rw [if_pos (GU hT h.1)]
 have hp2:iE secs pts (s::p::l)=some (fE secs pts s e (p::l)):=by
  unfold iE;rw [if_neg (by simp),if_neg (fun h2=>h2 hnd)];show (if XY secs pts s 0 (p::l)=true then gN secs pts s 0 (p::l) else gN secs pts s 1 (p::l))=_;rcases he with rfl|rfl
  ·rw [if_pos (by unfold XY;rw [hw];rfl),hw]
  ·rw [if_neg (by unfold XY;rw [show gN secs pts s 0 (p::l)=none from hno];exact Bool.false_ne_true),hw]
 unfold Vh;rw [hp2];rfl
theorem u_ {s e:Int} {l:List Int} (hnd:(s::l).Nodup) (h:Wk secs pts s e l):∀n,Vh secs pts ((s::l).take (n+1))=fE secs pts s e (l.take n)
 |0=>by
  rw [List.take_succ_cons,List.take_zero];exact (uE (by simp)).1
 |n+1=>by
  rw [List.take_succ_cons]
  cases l with
  |nil=>rw [List.take_nil];exact (uE (by simp)).1
  |cons p l=>
   rw [List.take_succ_cons];have h2:=agI (p::l) s e (n+1) h;rw [List.take_succ_cons] at h2;refine BZ hT ?_ h2;have h3:((s::p::l).take (n+2)).Nodup:=hnd.sublist (List.take_sublist _ _);rw [List.take_succ_cons,List.take_succ_cons] at h3;exact h3
theorem Jc {f:tF} (hs:f.secs=secs) (hp:f.pts=pts) {s e:Int} {l:List Int} (hnd:(s::l).Nodup) (h:Wk secs pts s e l) {i:Nat} (hi:i<l.length):vS f (s::l) i=ndK secs pts s e l i:=by
 unfold vS;rw [hs,hp,u_ hT hnd h (i+1),u_ hT hnd h i,acr l s e i hi,List.length_append,Nat.min_eq_left (by omega),List.drop_left]
theorem Cb {s e:Int} {l:List Int} (h:Wk secs pts s e l) {k:Nat} (hk:k<l.length):tT secs pts (s::l) k=((ndK secs pts s e l k).length:Int):=by
 unfold tT ndK;rw [HY hT (Ca l s e k h hk),agJ l s e k (by omega)];rfl
theorem agN {s e:Int} {l:List Int} (h:Wk secs pts s e l) {i:Nat} (hi:i<l.length):∀k,k≤l.length→m_ secs pts (s::l) i k=((fE secs pts s e (l.take (min k i))).length:Int)
 |0,_=>by rw [Nat.zero_min,List.take_zero];rfl
 |k+1,hk=>by
  have ih:=agN h hi k (by omega);unfold m_
  split
  ·rename_i hki;rw [ih,Cb hT h (by omega),Nat.min_eq_left (by omega),Nat.min_eq_left (by omega),acr l s e k (by omega),List.length_append];omega
  ·rw [ih,Nat.min_eq_right (by omega),Nat.min_eq_right (by omega)]
theorem Bz {s e:Int} {l:List Int} (h:Wk secs pts s e l) {i:Nat} (hi:i<l.length):∀k,k≤l.length→stM secs pts (s::l) i k=if i<k then ((ndK secs pts s e l i).length:Int) else 0
 |0,_=>by rw [if_neg (by omega)];rfl
 |k+1,hk=>by
  have ih:=Bz h hi k (by omega);unfold stM
  split
  ·rename_i hki;subst hki;rw [if_pos (by omega),Cb hT h hi]
  ·rw [ih];by_cases hik:i<k
   ·rw [if_pos hik,if_pos (by omega)]
   ·rw [if_neg hik,if_neg (by omega)]
theorem Kk {s e:Int} {l:List Int} (hnd:(s::l).Nodup) (h:Wk secs pts s e l) {i:Nat} (hi:i<l.length):stD secs pts (s::l) i=ndK secs pts s e l i:=by
 have hl:(s::l).length-1=l.length:=by simp
 have hall:Vh secs pts (s::l)=fE secs pts s e l:=by
  have:=u_ hT hnd h l.length;rw [List.take_of_length_le (by simp),List.take_of_length_le (Nat.le_refl _)] at this;exact this
 obtain ⟨r,hr⟩:=Bu (secs:=secs) (pts:=pts) l s e (l.length-(i+1)) (i+1) (by omega);rw [show i+1+(l.length-(i+1))=l.length by omega,List.take_of_length_le (Nat.le_refl _)] at hr;have hk:=acr (secs:=secs) (pts:=pts) l s e i hi;unfold stD;rw [hl,agN hT h hi _ (Nat.le_refl _),Bz hT h hi _ (Nat.le_refl _),if_pos hi,Nat.min_eq_right (by omega),hall,hr,hk];rw [if_neg (by simp only [List.length_append];omega)];rw [show (((fE secs pts s e (l.take i)).length:Int)+((ndK secs pts s e l i).length:Int)).toNat=(fE secs pts s e (l.take i)++ndK secs pts s e l i).length by rw [List.length_append];omega,List.take_left,Int.toNat_natCast,List.drop_left]
end
section
variable {turns:List Int} {s e most:Int}
theorem ae2 (hT:fC secs pts=true):∀i,(∀j,j<i→wstop secs pts turns s e most j=false)→∃l,(aW secs pts turns s e i).out=s::l∧Wk secs pts s e l∧asu secs pts s e l=((aW secs pts turns s e i).s,(aW secs pts turns s e i).e)
 |0,_=>⟨[],rfl,trivial,rfl⟩
 |i+1,hj=>by
  obtain ⟨l,h1,h2,h3⟩:=ae2 hT i (fun j h=>hj j (by omega));have hs:=hj i (by omega);unfold wstop at hs;simp only [Bool.or_eq_false_iff,decide_eq_false_iff_not] at hs;have hx:jD secs pts turns i (aW secs pts turns s e i)∈Vn secs pts (aW secs pts turns s e i).s (aW secs pts turns s e i).e:=VR dE (uS (by omega));refine ⟨l++[(jD secs pts turns i (aW secs pts turns s e i)).sec],?_,?_,?_⟩
  ·show (aW secs pts turns s e i).out++_=_;rw [h1];rfl
  ·exact agH l s e h2 (by rw [h3];exact hx)
  ·rw [PY,h3,aeV hT hx];rfl
theorem Aq (hT:fC secs pts=true):∀f i,(∀j,j<i→wstop secs pts turns s e most j=false)→∃l,X3 secs pts turns s e most f i=s::l∧Wk secs pts s e l
 |0,i,h=>by
  obtain ⟨l,h1,h2,_⟩:=ae2 hT i h;exact ⟨l,h1,h2⟩
 |f+1,i,h=>by
  unfold X3
  split
  ·obtain ⟨l,h1,h2,_⟩:=ae2 hT i h;exact ⟨l,h1,h2⟩
  ·rename_i hc
   exact Aq hT f (i+1) (fun j hj=>by
    rcases Nat.lt_or_ge j i with h3|h3
    ·exact h j h3
    ·rw [show j=i by omega];exact Bool.eq_false_iff.2 hc)
theorem aeB (hT:fC secs pts=true) {rs:List (List Int)}:∀k x,x∈dh secs pts rs k→∃s e l,x=s::l∧Wk secs pts s e l
 |0,x,h=>by cases h
 |k+1,x,h=>by
  unfold dh at h
  split at h
  ·exact aeB hT k x h
  ·rcases List.mem_append.1 h with h|h
   ·exact aeB hT k x h
   ·obtain ⟨l,h1,h2⟩:=Aq (turns:=(rs.getD k []).drop 2) (s:=(rs.getD k []).getD 0 0 % (secs.length:Int)) (e:=(rs.getD k []).getD 0 0 / 128) (most:=2+(rs.getD k []).getD 1 0 % 5) hT (2+(rs.getD k []).getD 1 0 % 5).toNat 0 (fun j hj=>by omega);exact ⟨_,_,l,(List.mem_singleton.1 h).trans h1,h2⟩
end
end
def nJ (secs:List aD) (pts:List aP) (routes:List (List Int)):Prop:=∀x,x∈routes→∃s e l,x=s::l∧Wk secs pts s e l
theorem II (form len:Int) (rs:List (List Int)):nJ (VI form len) (bE form) (aas form len rs):=fun x hx=>aeB (agp form len) _ x hx
theorem GI {f:tF} (hT:fC f.secs f.pts=true) (hw:nJ f.secs f.pts f.routes) (hnd:∀x,x∈f.routes→x.Nodup) {path:List Int} (hp:path∈f.routes) {i:Nat} (hi:i+1<path.length):vS f path i=stD f.secs f.pts path i:=by
 obtain ⟨s,e,l,rfl,hl⟩:=hw path hp;have hi2:i<l.length:=by simpa using hi
 rw [Jc hT rfl rfl (hnd _ hp) hl hi2,Kk hT (hnd _ hp) hl hi2]
end Go.Lo
set_option linter.unusedVariables false
set_option linter.unusedSimpArgs false
namespace Go.Lo
theorem Bn:∀(l m:List Int),l.Nodup→(∀y,y∈l→y∈m)→l.length≤m.length
 | [],m,_,_=>Nat.zero_le _
 |a::l,m,h,hs=>by
  have ha:=hs a List.mem_cons_self;have h2:=List.nodup_cons.1 h;have ih:=Bn l (m.erase a) h2.2 (fun y hy=>(List.mem_erase_of_ne (fun he=>h2.1 (by rw [←he];exact hy))).2 (hs y (List.mem_cons_of_mem _ hy)));rw [List.length_erase_of_mem ha] at ih;have:=List.length_pos_of_mem ha;rw [List.length_cons];omega
theorem aeW {l:List Int} {n:Nat} (h:l.Nodup) (hr:∀y,y∈l→0≤y∧y<(n:Int)):l.length≤n:=by
 have:=Bn l ((List.range n).map Int.ofNat) h (fun y hy=>by
  obtain ⟨h0,h1⟩:=hr y hy;exact List.mem_map.2 ⟨y.toNat,List.mem_range.2 (by omega),by show ((y.toNat:Nat):Int)=y;omega⟩)
 simpa using this
end Go.Lo
set_option linter.unusedVariables false
set_option linter.unusedSimpArgs false
namespace Go.Lo
def aa4 (n:Nat) (pts:List aP) (ns:List Need):Bool:=
 (ns.all fun z=> !ZS (bP [] (bF ns [])) z)&&ns.all fun z=>gG pts (List.replicate n 0) [] (List.replicate n false) (List.replicate pts.length false) z.point
def abb (secs:List aD) (pts:List aP):Nat→Int→Int→List Need→Bool
 |0,_,_,ns=>aa4 secs.length pts ns
 |k+1,s,e,ns=>aa4 secs.length pts ns&&(Vn secs pts s e).all fun x=>abb secs pts k x.sec (1-x.en) (ns++W9 secs pts s e x.sec)
def YY (secs:List aD) (pts:List aP):Bool:=(List.range secs.length).all fun s=>abb secs pts 8 (s:Int) 0 []&&abb secs pts 8 (s:Int) 1 []
theorem K8 (u:Int):YY (XH (eX 3) u 3) []=true:=by kernel_rfl
theorem K9 (u:Int):YY (XH (eX 4) u 4) []=true:=by kernel_rfl
theorem PX (u:Int):YY (XH (eX 5) u 5) []=true:=by kernel_rfl
theorem La (u:Int):YY (XH (eX 6) u 6) []=true:=by kernel_rfl
theorem Lb (u:Int):YY (XH (eX 7) u 7) []=true:=by kernel_rfl
theorem Lc (u:Int):YY (XH (eX 8) u 8) []=true:=by kernel_rfl
theorem Ld (u:Int):YY (XH [⟨0,1⟩,⟨1,2⟩,⟨3,1⟩] u 3) [⟨1,0,1,2⟩]=true:=by kernel_rfl
theorem PZ (u:Int):YY (XH [⟨0,1⟩,⟨1,2⟩,⟨2,3⟩,⟨2,4⟩,⟨5,3⟩,⟨4,5⟩,⟨5,6⟩,⟨6,7⟩] u 8) [⟨2,1,2,3⟩,⟨5,6,4,5⟩]=true:=by kernel_rfl
theorem Lf (u:Int):YY (XH [⟨0,1⟩,⟨2,1⟩,⟨2,3⟩,⟨2,4⟩,⟨3,5⟩,⟨4,6⟩] u 6) [⟨2,1,3,2⟩]=true:=by kernel_rfl
theorem Ht (form len:Int):YY (VI form len) (bE form)=true:=by
 unfold VI;rw [uI];unfold V6 bE
 split
 ·have h:W_ form=3∨W_ form=4∨W_ form=5∨W_ form=6∨W_ form=7∨W_ form=8:=by unfold W_;omega
  rw [ade];rcases h with h|h|h|h|h|h<;>rw [h]
  ·exact K8 _
  ·exact K9 _
  ·exact PX _
  ·exact La _
  ·exact Lb _
  ·exact Lc _
 ·split
  ·exact Ld _
  ·split
   ·exact PZ _
   ·exact Lf _
section
variable {secs:List aD} {pts:List aP} {routes:List (List Int)} {parts:List (List Int)}
theorem agL (hT:fC secs pts=true):∀(n:Nat) (l:List Int) (s e:Int) (ns:List Need),abb secs pts n s e ns=true→Wk secs pts s e l→l.length≤n→aa4 secs.length pts (ns++fE secs pts s e l)=true
 |0,[],s,e,ns,h,_,_=>by rw [show fE secs pts s e []=[] from rfl,List.append_nil];exact h
 |n+1,[],s,e,ns,h,_,_=>by
  unfold abb at h;rw [Bool.and_eq_true] at h;rw [show fE secs pts s e []=[] from rfl,List.append_nil];exact h.1
 |n+1,p::l,s,e,ns,h,hw,hl=>by
  unfold abb at h;rw [Bool.and_eq_true] at h;obtain ⟨x,hx,hp⟩:=hw.1;subst hp;have h2:=List.all_eq_true.1 h.2 x hx;have h3:=hw.2;rw [aeV hT hx] at h3;have h4:=agL hT n l x.sec (1-x.en) (ns++W9 secs pts s e x.sec) h2 h3 (by simpa using hl);rw [List.append_assoc] at h4;show aa4 secs.length pts (ns++(W9 secs pts s e x.sec++fE secs pts x.sec (l5 secs pts s e x.sec) l))=true;rw [aeV hT hx];exact h4
theorem FL (hT:fC secs pts=true) (hc:YY secs pts=true) (hw:nJ secs pts routes) (hnd:∀x,x∈routes→x.Nodup) (hL:rQ secs parts pts routes) {path:List Int} (hp:path∈routes):aa4 secs.length pts (Vh secs pts path)=true:=by
 obtain ⟨s,e,l,rfl,hl⟩:=hw path hp;have hn:=hnd _ hp;have h8:(s::l).length≤secs.length:=aeW hn (fun y hy=>hL.hrs _ hp y hy);have hs:=hL.hs;have h2:=(hL.hrl _ hp).1
 cases l with
 |nil=>simp at h2
 |cons p l=>
  rw [BZ hT hn hl];obtain ⟨x,hx,_⟩:=hl.1;obtain ⟨he,hsr,_⟩:=acw hT hx;have h3:=List.all_eq_true.1 hc s.toNat (List.mem_range.2 (by omega));rw [Bool.and_eq_true,show ((s.toNat:Nat):Int)=s by omega] at h3
  have h4:abb secs pts 8 s e []=true:=by
   rcases he with rfl|rfl
   ·exact h3.1
   ·exact h3.2
  have:=agL hT 8 (p::l) s e [] h4 hl (by simp only [List.length_cons] at h8 ⊢;omega)
  rwa [List.nil_append] at this
theorem Hy (n k:Nat):(List.replicate n (0:Int)).getD k 0=0:=by
 rw [List.getD_eq_getElem?_getD,List.getElem?_replicate]
 split<;>rfl
end
end Go.Lo
set_option linter.unusedVariables false
set_option linter.unusedSimpArgs false
namespace Go.Lo
def VQ (x:Lk):List AV:=[.rp [.v (.int .i64 x.route),.v (.int .i64 x.O_),.v (.int .i64 x.ends),.ro x.pieces.length (enc aI x.pieces)]]
instance (x:Lk):VB (VQ x):=by unfold VQ;infer_instance
def Wh (routes:List (List Int)) (r:Int):Bool:=decide (r≥0)&&decide (r<(routes.length:Int))
def Vg (routes:List (List Int)) (r:Int):List Int:=(routes.getD r.toNat []).drop 1
def fZ (routes:List (List Int)) (s:Int) (x:Lk):Int:=bX (fun y=>decide (s=y)) (Vg routes x.route)
def YZ (routes:List (List Int)) (s:Int) (x:Lk):Bool:=decide (fZ routes s x≥0)&&(x.pieces.getD (fZ routes s x).toNat 0 != 0)
def fB (routes:List (List Int)) (ls:List Lk) (s:Int):Int:=if bX (YZ routes s) ls<0 then-1 else (ls.getD (bX (YZ routes s) ls).toNat aA).route
def wJ (routes:List (List Int)) (ls:List Lk) (i:Nat):Bool:=decide (fB routes ls (i:Int)≥0)
def bV (routes:List (List Int)) (ls:List Lk) (n k:Nat):List Bool:=(List.range k).map (wJ routes ls)++List.replicate (n-k) false
structure gP (routes:List (List Int)) (x:Lk):Prop where
 r:0≤x.route∧x.route<(routes.length:Int)
 ps:x.pieces.length+1=(routes.getD x.route.toNat []).length
 ln:(routes.getD x.route.toNat []).length≤65536
section
variable {routes:List (List Int)} {ls:List Lk} {x:Lk} {s:Int} {k n:Nat}
theorem mg {r:Int}:(Vg routes r).length=(routes.getD r.toNat []).length-1:=by unfold Vg;rw [List.length_drop]
theorem KO:fZ routes s x= -1∨(0≤fZ routes s x∧fZ routes s x<((Vg routes x.route).length:Int)):=oD _ 0 _
theorem Ih (hk:k<ls.length) (h:(ls.take k).any (YZ routes s)=false) (h2:YZ routes s (ls.getD k aA)=true):fB routes ls s=(ls.getD k aA).route:=by
 have e:=fO aA hk h h2;unfold fB;rw [e,if_neg (by omega)];rfl
theorem Ii (hk:ls.length≤k) (h:(ls.take k).any (YZ routes s)=false):fB routes ls s= -1:=by
 have e:=X2 hk h;unfold fB;rw [e,if_pos (by omega)]
theorem uG (hk:k≤n):(bV routes ls n k).length=n:=by unfold bV;simp;omega
theorem Gn (hk:k<n):(bV routes ls n k).set k (wJ routes ls k)=bV routes ls n (k+1):=by
 unfold bV;rw [show n-k=(n-(k+1))+1 by omega,List.replicate_succ,List.range_succ,List.map_append,List.append_assoc,List.set_append_right _ _ (by simp)];simp
end
def W5 (routes parts:List (List Int)) (st ow:List Int) (now:Int) (x:Lk) (i:Nat):Int:=
 if x.pieces.getD i 0=2 then (if (st.getD ((Vg routes x.route).getD i 0).toNat 0==0)&& !((x.pieces.take i).any fun b=>b != 0) then 0 else 2)
 else if x.pieces.getD i 0=1 then
  (if (st.getD ((Vg routes x.route).getD i 0).toNat 0==1)&&(ow.getD (dG parts ((Vg routes x.route).getD i 0)).toNat 0==x.O_) then 2
  else if (st.getD ((Vg routes x.route).getD i 0).toNat 0==0)&&decide (x.ends≥0)&&decide (x.ends≤now) then 0 else 1)
 else x.pieces.getD i 0
section
variable {routes parts:List (List Int)} {st ow:List Int} {now r tr en:Int} {ps:List Int} {i:Nat}
theorem KP (h:(ps.getD i 0==2)=true) (h1:((st.getD ((Vg routes r).getD i 0).toNat 0==0)&& !((ps.take i).any fun b=>b != 0))=true):0=W5 routes parts st ow now ⟨r,tr,en,ps⟩ i:=by
 unfold W5;rw [if_pos (by simpa using h),if_pos h1]
theorem KQ (h:(ps.getD i 0==2)=true) (h1:((st.getD ((Vg routes r).getD i 0).toNat 0==0)&& !((ps.take i).any fun b=>b != 0))=false):ps.getD i 0=W5 routes parts st ow now ⟨r,tr,en,ps⟩ i:=by
 have h0:ps.getD i 0=2:=by simpa using h
 unfold W5;rw [if_pos h0,if_neg (by rw [h1];exact Bool.false_ne_true)];exact h0
theorem KR (h:(ps.getD i 0==2)=false) (h1:(ps.getD i 0==1)=true) (h2:((st.getD ((Vg routes r).getD i 0).toNat 0==1)&&(ow.getD (dG parts ((Vg routes r).getD i 0)).toNat 0==tr))=true):2=W5 routes parts st ow now ⟨r,tr,en,ps⟩ i:=by
 unfold W5;rw [if_neg (by simpa using h),if_pos (by simpa using h1),if_pos h2]
theorem KS (h:(ps.getD i 0==2)=false) (h1:(ps.getD i 0==1)=true) (h2:((st.getD ((Vg routes r).getD i 0).toNat 0==1)&&(ow.getD (dG parts ((Vg routes r).getD i 0)).toNat 0==tr))=false)
  (h3:((st.getD ((Vg routes r).getD i 0).toNat 0==0)&&decide (en≥0)&&decide (en≤now))=true):0=W5 routes parts st ow now ⟨r,tr,en,ps⟩ i:=by
 unfold W5;rw [if_neg (by simpa using h),if_pos (by simpa using h1),if_neg (by rw [h2];exact Bool.false_ne_true),if_pos h3]
theorem KT (h:(ps.getD i 0==2)=false) (h1:(ps.getD i 0==1)=true) (h2:((st.getD ((Vg routes r).getD i 0).toNat 0==1)&&(ow.getD (dG parts ((Vg routes r).getD i 0)).toNat 0==tr))=false)
  (h3:((st.getD ((Vg routes r).getD i 0).toNat 0==0)&&decide (en≥0)&&decide (en≤now))=false):ps.getD i 0=W5 routes parts st ow now ⟨r,tr,en,ps⟩ i:=by
 have h0:ps.getD i 0=1:=by simpa using h1
 unfold W5;rw [if_neg (by simpa using h),if_pos h0,if_neg (by rw [h2];exact Bool.false_ne_true),if_neg (by rw [h3];exact Bool.false_ne_true)];exact h0
theorem MH (h:(ps.getD i 0==2)=false) (h1:(ps.getD i 0==1)=false):ps.getD i 0=W5 routes parts st ow now ⟨r,tr,en,ps⟩ i:=by
 unfold W5;rw [if_neg (by simpa using h),if_neg (by simpa using h1)]
end
def fK (routes:List (List Int)) (ls:List Lk) (Ve:List Int) (s:Int):Bool:=(decide (s≥(Ve.length:Int))||(Ve.getD s.toNat 0 != 0))||decide (fB routes ls s≥0)
def Xm (pts:List aP) (Ve:List Int) (views:List View) (locked held:List Bool) (n:Need):Bool:= !(gG pts Ve views locked held n.point)
theorem KX {t N:Nat} {s:St} {o o':aC} (id:Nat) (hN:Nat.blt t N=true) (hr:s.env t=.pt id 0) (hl:s.ob id=.live o) (ho:o=o') [hno:VB o.cells]:aa7 [t] (fun r ns=>r=.pt 0 0∧ns=[o']) N s:=by
 subst ho;exact ag1 id o (by simpa using hN) (by simp [Yh,hr,AV.map,ix]) (by simp only [List.map_cons,List.map_nil,Yh,hr];exact .pt _ _ (by simp)) hl hno.out ⟨rfl,rfl⟩
theorem GN {ob:Nat→aH} {id n:Nat} {o:aC} {cs:List AV} (hl:ob id=.live o) (h:dV ob o.cells cs) (hn:o.cells.length=n*o.bC):VN ob (.sl id 0 n) (.ro n cs):=
 .sl id 0 n o cs hl (by rw [h.1,hn]) (by omega) (fun j a b hx hy=>h.2 j a b (by rw [Nat.zero_add] at hx;exact hx) hy)
def bQ (routes parts:List (List Int)) (st ow:List Int) (now r tr en:Int) (ps:List Int):Nat→List Int
 |0=>ps
 |i+1=>(bQ routes parts st ow now r tr en ps i).set i (W5 routes parts st ow now ⟨r,tr,en,bQ routes parts st ow now r tr en ps i⟩ i)
theorem abH {routes parts:List (List Int)} {st ow:List Int} {now r tr en:Int} {ps:List Int}:∀k,(bQ routes parts st ow now r tr en ps k).length=ps.length
 |0=>rfl
 |k+1=>by show ((bQ routes parts st ow now r tr en ps k).set _ _).length=_;rw [List.length_set,abH k]
def iA (x:Lk):Bool:= !(x.pieces.any fun b=>b != 0)
def XZ (v:Int) (n k:Nat):List Int:=List.replicate k v++List.replicate (n-k) 0
theorem aj9 {v:Int} {n k:Nat} (h:k≤n):(XZ v n k).length=n:=by simp [XZ];omega
theorem Iu (v:Int) (n:Nat):XZ v n n=List.replicate n v:=by simp [XZ]
theorem ajA (v:Int) (n:Nat):XZ v n 0=List.replicate n 0:=by simp [XZ]
theorem aat {k:Nat} {v:Int}:enc aI (List.replicate k v)=List.replicate k (.v (.int .u8 v)):=agB k v _ rfl
theorem Az {v:Int} {n j i:Nat} (h:j+i≤n):spl (enc aI (XZ v n j)) (j*1) (enc aI (List.replicate i v))=enc aI (XZ v n (j+i)):=by
 unfold spl XZ;rw [jV,jV,aat,aat,aat,aat,aat,Nat.mul_one,List.length_replicate];rw [List.take_append_of_le_length (by simp),List.take_of_length_le (by simp),List.drop_append,List.drop_of_length_le (by simp),List.nil_append,List.length_replicate,List.drop_replicate];rw [←List.replicate_append_replicate,show n-j-(j+i-j)=n-(j+i) by omega]
theorem ajB {v:Int} {n j i:Nat} (h:i≤j):(enc aI (XZ v n j)).take (i*1)=enc aI (List.replicate i v):=by
 unfold XZ;rw [jV,aat,aat,aat,Nat.mul_one,List.take_append_of_le_length (by simp;exact h),List.take_replicate,Nat.min_eq_left h]
theorem agu {ops:Array Oper} {b:Nat→Bool} {i j:Nat} (h:((ops[i]?).any fun o=>o.after.any fun e=>Region.binds .any e&&e.on==j)=true) (hcl:∀j oj,ops[j]? =some oj→b j=true→∀e∈oj.after,Region.binds .any e=true→b e.on=true) (hb:b i=true):b j=true:=by
 obtain ⟨o,ho,h1⟩:=(Option.any_eq_true _ _).1 h;exact rF h1 (hcl i _ ho hb)
theorem Gt {ob:Nat→aH} {id:Nat} {o:aC} (hl:ob id=.live o):VN ob (.sl id 0 0) (.ro 0 []):=
 .sl id 0 0 o [] hl (by simp) (by omega) (fun j a b hx hy=>by simp at hy)
theorem LH {w:World} {C:Ctx} {u:Value} (h:R w C (.v (.slice none 0 0)) u):R w C (.ro 0 []) u:=by
 have:=h.dM;subst this;exact .ro 0 0 none [] (fun _=>undef) (Nat.le_refl _) (by decide) (fun _=>⟨rfl,rfl⟩) (by simp) (by simp)
def adE:List AV→List AV→Prop
 | [],[]=>True
 |a::as,b::bs=>(b=a∨(a=.ro 0 []∧b=.v (.slice none 0 0)))∧adE as bs
 |_,_=>False
theorem zP:∀{as bs:List AV},adE as bs→as.length=bs.length
 | [],[],_=>rfl
 |_::_,_::_,h=>by simp [zP h.2]
 | [],_::_,h=>h.elim
 |_::_,[],h=>h.elim
theorem zQ:∀{as bs:List AV},adE as bs→∀(j:Nat) (a:AV),as[j]? =some a→bs[j]? =some a∨(a=.ro 0 []∧bs[j]? =some (.v (.slice none 0 0)))
 | [],[],_,j,a,h1=>by simp at h1
 |a::as,b::bs,h,0,x,h1=>by simp at h1;subst h1;exact h.1.elim (fun e=>.inl (by simp [e])) (fun e=>.inr ⟨e.1,by simp [e.2]⟩)
 |a::as,b::bs,h,j+1,x,h1=>by have:=zQ h.2 j x (by simpa using h1);simpa using this
 | [],_::_,h,_,_,_=>h.elim
 |_::_,[],h,_,_,_=>h.elim
theorem IE {P:Program} {f:FuncId} {dx:List aC} {args args':List AV} {post:AV→List aH→Prop} (h:PS P f dx args post) (hn:adE args args'):PS P f dx args' post:=
 fun w C vs hsz au hL hR=>h w C vs (hsz.trans (zP hn).symm) au hL (fun j av hj=>(zQ hn j av hj).elim (fun h2=>hR j av h2) (fun h2=>by rw [h2.1];exact LH (hR j _ h2.2)))
end Go.Lo
set_option linter.unusedVariables false
set_option linter.unusedSimpArgs false
namespace Go.Lo
theorem TL {A B D cs:List AV} {o:Nat} (h:o+cs.length≤B.length):spl (A++(B++D)) (A.length+o) cs=A++(spl B o cs++D):=by
 unfold spl;rw [List.take_length_add_append,Nat.add_assoc,List.drop_length_add_append,List.take_append_of_le_length (by omega),List.drop_append_of_le_length (by omega)];simp [List.append_assoc]
theorem Rm {α:Type} {f:α→List AV} (d:α) {l:List α} {k:Nat} (h:k<l.length):enc f l=enc f (l.take k)++(f (l.getD k d)++enc f (l.drop (k+1))):=by
 conv=>lhs;rw [←List.take_append_drop k l,jV,List.drop_eq_getElem_cons h]
 rw [show l.getD k d=l[k] by simp [h]];rfl
theorem TM {α:Type} {f:α→List AV} {s:Nat} (hf:∀x,(f x).length=s) (d v:α) {l:List α} {k o:Nat} {cs:List AV} (h:k<l.length) (ho:o+cs.length≤s) (hv:spl (f (l.getD k d)) o cs=f v):spl (enc f l) (k*s+o) cs=enc f (l.set k v):=by
 have hl:(enc f (l.take k)).length=k*s:=by rw [eO hf,List.length_take,Nat.min_eq_left (by omega)]
 rw [Rm d h, ←hl,TL (by rw [hf];exact ho),hv]
 conv=>rhs;rw [Rm d (l:=l.set k v) (k:=k) (by simpa using h)]
 rw [List.take_set_of_le (Nat.le_refl _),List.drop_set_of_lt (by omega)];simp [h]
section
variable {P:Program} {E:VC} {st:St} {K:St→Prop}
theorem ajf {o:Oper} {t:TypeId} {x y:Operand} {id k s z fo:Nat} {av:AV} {α:Type} {f:α→List AV} {l l':List α} {cs:List AV} {ob:aC} (d v:α) (ho:o.op=.store t x y) (hd:o.dst=none) (hN:(aT E.N x&&aT E.N y)=true)
  (hsz:(P.info? t).map (·.size)=some z) (hx:aO st.env x=.pt id (k*s+fo)) (hl:st.ob id=.live ob) (hc:ob.cells=enc f l) (hy:aO st.env y=av) (hcv:XN av=some cs) (hcl:cs.length=z) (hf:∀x,(f x).length=s) (hk:k<l.length) (h1:cs.all je=true)
  (hfit:fo+z≤s) (hv:spl (f (l.getD k d)) fo cs=f v) (hl':l.set k v=l') (h:K ⟨st.env,U4 st.ob id (.live ⟨enc f l',ob.elem,ob.bC⟩)⟩):Vo P E o st K:=by
 subst hl';refine Z_ ho hd hN hsz hx hl hy hcv hcl ?_ h1 ?_ h
 ·have:=eO hf l;rw [hc,this];have h2:(k+1)*s≤l.length*s:=Nat.mul_le_mul_right s hk;rw [Nat.add_mul] at h2;omega
 ·rw [hc];exact TM hf d v hk (by rw [hcl];exact hfit) hv
end
def aaf (rows:Nat→aH):Nat→aH:=fun id=>cond (Nat.ble 8 id) (rows (id-8)) .free
theorem RH {rows:Nat→aH} {id:Nat} (h:id<8):aaf rows id=.free:=by
 unfold aaf
 have:Nat.ble 8 id=false:=by
  cases hb:Nat.ble 8 id with
  |false=>rfl
  |true=>have:=Nat.le_of_ble_eq_true hb;omega
 rw [this];rfl
theorem adz {rows:Nat→aH} (j:Nat):aaf rows (j+8)=rows j:=by
 unfold aaf;rw [Nat.ble_eq_true_of_le (by omega:8≤j+8)];show rows (j+8-8)=_;rw [Nat.add_sub_cancel]
theorem YH {f:Nat→aH} {i j:Nat} {x:aH} (h:i<8):U4 f i x (j+8)=f (j+8):=VX _ _ (by omega)
theorem Ru {E:VC} {s s':St} (σ τ:Nat→Nat) (D:Nat→Prop) (hm:E.m=0) (hst:∀id,D id→τ (σ id)=id) (he:∀t,s'.env t=.any∨(Ok D True (s.env t)∧(s.env t).map σ=s'.env t))
  (au:∀id' o',s'.ob id'=.live o'→∃o,D (τ id')∧σ (τ id')=id'∧s.ob (τ id')=.live o∧o'=aC.map σ o∧∀c,c∈o.cells→Ok D True c) (hf:∀id,D id→s.ob id≠ .free→s'.ob (σ id)≠ .free):Vv E s s':=by
 rintro a w ⟨C,hs⟩
 let C2:Ctx:=⟨fun i=>C.blk (τ i),fun i=>C.sz (τ i),fun i=>C.bC (τ i),fun i=>D (τ i)∧σ (τ i)=i∧C.dom (τ i),C.own⟩
 have hid:∀id,D id→C.dom id→C2.dom (σ id)∧C2.blk (σ id)=C.blk id∧C2.sz (σ id)=C.sz id∧C2.bC (σ id)=C.bC id:=fun id hd hc=>by
  have e:=hst id hd;exact ⟨⟨by rw [e];exact hd,by rw [e],by rw [e];exact hc⟩,by show C.blk (τ (σ id))=_;rw [e],by show C.sz (τ (σ id))=_;rw [e],by show C.bC (τ (σ id))=_;rw [e]⟩
 have hmap:∀{av:AV} {u:Value},R w C av u→Ok D True av→R w C2 (av.map σ) u:=fun hr hok=>R.map hid (fun _ b h=>h) hr hok;refine ⟨C2,hs.size,hs.defers,fun t ht=>?_,⟨fun i o hl=>?_,fun i o b hl hb=>?_,fun i i' o1 o2 b h1 h2 h3 h4=>?_,fun i hi=>?_,hs.obj.bnd⟩,hs.fr,fun i o b hl hb=>?_,hs.keep,hs.WE,fun i hi=>?_,hs.X4⟩
 ·rcases he t with h1|⟨h1,h2⟩
  ·rw [h1];exact .any _
  ·rw [←h2];exact hmap (hs.env t ht) h1
 ·obtain ⟨o0,h1,h2,h3,h4,h5⟩:=au i o hl;obtain ⟨k1,k2,k3⟩:=hs.obj.nil _ o0 h3;subst h4;exact ⟨⟨h1,h2,k1⟩,k2,fun hb=>by show AV.V4 σ o0.cells=[];rw [k3 hb];rfl⟩
 ·obtain ⟨o0,h1,h2,h3,h4,h5⟩:=au i o hl;obtain ⟨k1,cur,k2,k3,k4,k5⟩:=hs.obj.live _ o0 b h3 hb;subst h4;refine ⟨k1,cur,k2,k3,by show (AV.V4 σ o0.cells).length≤_;rw [WR,List.length_map];exact k4,fun j av hj=>?_⟩;have hj':(AV.V4 σ o0.cells)[j]? =some av:=hj;rw [WR,List.getElem?_map,Option.map_eq_some_iff] at hj';obtain ⟨c,hj2,rfl⟩:=hj';obtain ⟨u,hu,k6,k7⟩:=k5 j c hj2;exact ⟨u,hu,k6,hmap k7 (h5 c (List.mem_of_getElem? hj2))⟩
 ·obtain ⟨p1,_,a2,a3,_⟩:=au i o1 h1;obtain ⟨p2,_,b2,b3,_⟩:=au i' o2 h2;have:=hs.obj.inj _ _ p1 p2 b a3 b3 h3 h4;rw [←a2, ←b2,this]
 ·obtain ⟨h1,h2,h3⟩:=hi;have:=hf _ h1 (hs.obj.dom _ h3);rw [h2] at this;exact this
 ·obtain ⟨o0,h1,h2,h3,_⟩:=au i o hl;exact hs.fresh _ o0 b h3 hb
 ·omega
def UH (gs:List Nat) (d:Nat) (e:Nat→AV) (e1:Value→Nat→AV):Prop:=∀u t,t≠d→e1 u t=.any∨(Ok (· ∈gs) True (e t)∧(e t).map (ix gs)=e1 u t)
theorem akd {P:Program} {E:VC} {c:Code} {st:St} {Q:Exit→St→Prop} (gs:List Nat) (dx:List aC) (d:Nat) (e1:Value→Nat→AV) (post:Value→St→Prop) (hd:d<E.N) (hdv:∀u,e1 u d=.v u) (hnd:gs.Nodup) (hgl:dx.length=gs.length)
  (pX:∀(i id:Nat),gs[i]? =some id→∃o:aC,st.ob id=.live o∧dx[i]? =some (aC.map (ix gs) o)∧∀c,c∈o.cells→Ok (· ∈gs) True c) (abd:UH gs d st.env e1)
  (h:∀u w0 G C hL jQ,VD P ⟨w0,G,C.own,E.N,dx.length,C,hL,jQ⟩ c ⟨e1 u,WM 0 (dx.map .live) U5⟩ (ZJ (fun s=>∃s2,Vv ⟨w0,G,C.own,E.N,dx.length,C,hL,jQ⟩ s s2∧post u s2) (fun _ _=>False)))
  (hp:∀u s,post u s→s.env d=.v u∧∃os new,s.ob=WM 0 os U5∧(gs++new).Nodup∧os.length=(gs++new).length∧(∀id,id∈new→st.ob id=.free)∧
   Q .normal ⟨fun t=>cond (Nat.beq t d) (st.env d) ((s.env t).map (nm (gs++new))),ig (nm (gs++new)) (gs++new) os st.ob⟩):VD P E c st Q:=by
 rintro a w ⟨C,hs⟩
 let C2:Ctx:=⟨fun i=>(gs[i]?).bind C.blk,fun i=>((gs[i]?).map C.sz).getD 0,fun i=>((gs[i]?).map C.bC).getD 0,fun i=>i<gs.length,C.own⟩
 have hown2:True→∀b,¬C.own b→¬C2.own b:=fun _ b h=>h
 have acI:∀id,id∈gs→C.dom id→C2.dom (ix gs id)∧C2.blk (ix gs id)=C.blk id∧C2.sz (ix gs id)=C.sz id∧C2.bC (ix gs id)=C.bC id:=fun id hm _=>by
  have hg:=aa2 hm;exact ⟨(List.getElem?_eq_some_iff.1 hg).1,by simp [C2,hg],by simp [C2,hg],by simp [C2,hg]⟩
 have hgo:∀i o',WM 0 (dx.map .live) U5 i=.live o'→∃id o,gs[i]? =some id∧st.ob id=.live o∧o'=aC.map (ix gs) o∧∀c,c∈o.cells→Ok (· ∈gs) True c:=fun i o' h=>by
  have h1:=Ag h;rw [List.getElem?_map,Option.map_eq_some_iff] at h1;obtain ⟨o2,h2,h3⟩:=h1
  cases h3
  have hil:i<gs.length:=by rw [←hgl];exact (List.getElem?_eq_some_iff.1 h2).1
  obtain ⟨o,k1,k2,k3⟩:=pX i gs[i] (List.getElem?_eq_getElem hil);rw [h2] at k2
  cases k2
  exact ⟨_,o,List.getElem?_eq_getElem hil,k1,rfl,k3⟩
 have eZ:kY w C2 (WM 0 (dx.map .live) U5):=by
  refine ⟨fun i o' h=>?_,fun i o' b h hb=>?_,fun i i' o1 o2 b h1 h2 h3 h4=>?_,fun i hi=>?_,hs.obj.bnd⟩
  ·obtain ⟨id,o,h1,h2,rfl,_⟩:=hgo i o' h;obtain ⟨k1,k2,k3⟩:=hs.obj.nil id o h2;refine ⟨(List.getElem?_eq_some_iff.1 h1).1,by simp [C2,h1,aC.map,k2],fun hb=>?_⟩;have:C.blk id=none:=by simpa [C2,h1] using hb
   simp [aC.map,k3 this,AV.V4]
  ·obtain ⟨id,o,h1,h2,rfl,h3⟩:=hgo i o' h;have hb':C.blk id=some b:=by simpa [C2,h1] using hb
   obtain ⟨k1,cur,k2,k4,k5,k6⟩:=hs.obj.live id o b h2 hb';refine ⟨k1,cur,k2,by simp [C2,h1,k4],by simp [aC.map,WR];exact k5,fun j av hj=>?_⟩;simp only [aC.map,WR,List.getElem?_map,Option.map_eq_some_iff] at hj;obtain ⟨c,hj,rfl⟩:=hj;obtain ⟨u,hu,k7,k8⟩:=k6 j c hj;exact ⟨u,hu,k7,R.map acI hown2 k8 (h3 c (List.mem_of_getElem? hj))⟩
  ·obtain ⟨id,o',a1,a2,_,_⟩:=hgo i o1 h1;obtain ⟨id2,o'',b1,b2,_,_⟩:=hgo i' o2 h2;have e1:C.blk id=some b:=by simpa [C2,a1] using h3
   have e2:C.blk id2=some b:=by simpa [C2,b1] using h4
   have e3:=hs.obj.inj id id2 o' o'' b a2 b2 e1 e2;subst e3;obtain ⟨l1,m1⟩:=List.getElem?_eq_some_iff.1 a1;obtain ⟨l2,m2⟩:=List.getElem?_eq_some_iff.1 b1;exact (List.getElem_inj (h₀:=l1) (h₁:=l2) hnd).1 (m1.trans m2.symm)
  ·have hi':i<dx.length:=by rw [hgl];exact hi
   rw [Yw (x:=.live dx[i]) (by simp [hi'])];intro h;cases h
 let G:Nat→Prop:=fun b=>∃i,i<dx.length∧C2.blk i=some b
 have hL:Laid w C2.own:=hs.laid;have jQ:vV G:=fun q hq ⟨i,hi,hb⟩=>(hL q hq).2.1 (eZ.live i dx[i] q.1 (Yw (by simp [hi])) hb).1
 have hsub:SR ⟨w,G,C2.own,E.N,dx.length,C2,hL,jQ⟩ C2 ⟨e1 (a.tmps.getD d undef),WM 0 (dx.map .live) U5⟩ a w:=by
  refine ⟨hs.size,hs.defers,fun t ht=>?_,eZ,Fr.refl _ _,fun id o b h hb=>?_,fun b h=>h,fun b _ h=>.inl h,fun i hi=>?_,hs.obj.bnd⟩
  ·show R w C2 (e1 _ t) _;by_cases htd:t=d
   ·rw [htd,hdv];exact .v _
   ·rcases abd (a.tmps.getD d undef) t htd with h1|⟨h1,h2⟩
    ·rw [h1];exact .any _
    ·rw [←h2];exact R.map acI hown2 (hs.env t ht) h1
  ·obtain ⟨id',o',h1,_⟩:=hgo id o h;exact .inr ⟨id,by rw [hgl];exact (List.getElem?_eq_some_iff.1 h1).1,hb⟩
  ·have hi':i<dx.length:=hi;have:WM 0 (dx.map .live) U5 i=.live dx[i]:=Yw (by simp [hi']);exact ⟨(eZ.nil i _ this).1,rfl,rfl,rfl⟩
 refine wp_mono (h (a.tmps.getD d undef) w G C2 hL jQ a w ⟨_,hsub⟩) ?_;rintro e a' w' ⟨s,h1,h2⟩
 cases e with
 |normal=>
  obtain ⟨s2,h3,h4⟩:=h2;obtain ⟨C',hs'⟩:=h3 a' w' h1;obtain ⟨hv,os,new,au,ae4,hlen,hfree,hq⟩:=hp _ s2 h4;have Lu:kY w' C' (WM 0 os U5):=by rw [←au];exact hs'.obj
  have hback:∀(av:AV) (v:Value) (dst:Option Nat),(∀d,dst=some d→d<E.N)→R w' C' av v→SR E (eu C C' (gs++new) new) (St.put ⟨st.env,ig (nm (gs++new)) (gs++new) os st.ob⟩ dst (av.map (nm (gs++new)))) (a.put dst v) w':=fun av v dst hdst hR=>by
   refine hs.Ls (G:=G) (X:=C2.own) ae4 hlen (fun b h=>h) (fun b hG=>?_) (fun id hid=>?_) hs'.fr hR Lu (fun i id hi=>?_) (fun i o b h hb=>hs'.fresh i o b (by rw [au];exact h) hb) hs'.keep (fun b hb ho=>hs'.WE b hb ho) hfree (.inl fun b h=>h) dst hdst
   ·obtain ⟨i,hi,hbi⟩:=hG;have hil:i<gs.length:=by rw [←hgl];exact hi
    exact ⟨gs[i],List.getElem_mem hil,by simpa [C2,hil] using hbi⟩
   ·obtain ⟨i,hi⟩:=List.mem_iff_getElem?.1 hid;obtain ⟨o,k1,_⟩:=pX i id hi;exact ⟨o,k1⟩
   ·obtain ⟨k1,k2,k3,k4⟩:=hs'.init i (by show i<dx.length;rw [hgl];exact (List.getElem?_eq_some_iff.1 hi).1);exact ⟨k1,by rw [k2];simp [C2,hi],by rw [k3];simp [C2,hi],by rw [k4];simp [C2,hi]⟩
  have hb0:=hback .any undef none (fun d h=>by cases h) (.any _);refine ⟨⟨fun t=>cond (Nat.beq t d) (st.env d) ((s2.env t).map (nm (gs++new))),ig (nm (gs++new)) (gs++new) os st.ob⟩,⟨eu C C' (gs++new) new,hs'.size,hs'.defers,fun t ht=>?_,hb0.obj,hb0.fr,hb0.fresh,hb0.keep,hb0.WE,hb0.init,hb0.X4⟩,hq⟩;show R w' _ (cond (Nat.beq t d) (st.env d) ((s2.env t).map (nm (gs++new)))) _
  cases hb:Nat.beq t d with
  |true=>
   obtain rfl:=Nat.eq_of_beq_eq_true hb;have h5:=hs'.env t ht;rw [hv] at h5;have h6:=h5.dM;rw [h6];exact hb0.env t ht
  |false=>
   have h5:=(hback (s2.env t) (a'.tmps.getD t undef) (some t) (fun d h=>by cases h;exact ht) (hs'.env t ht)).env t ht;simp only [St.put,Act.put,upd_same] at h5;rw [E_ (by rw [hs.size];exact ht)] at h5;exact h5
 |_=>exact h2.elim
end Go.Lo
set_option linter.unusedVariables false
set_option linter.unusedSimpArgs false
namespace Go.Lo
def WN (q:Lk×Nat):List AV:=[.i q.1.route,.i q.1.O_,.i q.1.ends,.sl q.2 0 q.1.pieces.length]
def ow (b:Nat) (l:List Lk):List (Lk×Nat):=l.zipIdx b
def dOw:Lk×Nat:=(aA,0)
def Xj (e:Nat) (x:Lk):aC:=⟨enc aI x.pieces,e,1⟩
def YI (e:Nat) (ls:List Lk) (k j:Nat):aH:=if j<k then .live (Xj e (ls.getD j aA)) else .free
def Ye (e:Nat) (ls:List Lk) (i j:Nat):aH:=if j<ls.length then (if j<i then .dead else .live (Xj e (ls.getD j aA))) else .free
section
variable {b e k j:Nat} {l ls:List Lk}
theorem QI:(ow b l).length=l.length:=by simp [ow]
theorem akc (x:Lk):ow b (l++[x])=ow b l++[(x,b+l.length)]:=by simp [ow,List.zipIdx_append,Nat.add_comm]
theorem akn (h:j<l.length):(ow b l).getD j dOw=(l.getD j aA,b+j):=by
 have h2:j<(ow b l).length:=by rw [QI];exact h
 rw [List.getD_eq_getElem?_getD,List.getElem?_eq_getElem h2,List.getD_eq_getElem?_getD,List.getElem?_eq_getElem h];simp [ow]
theorem akx {q:Lk×Nat} (h:q∈ow b l):b≤q.2∧q.2<b+l.length:=by
 obtain ⟨x,i⟩:=q;have:=List.mem_zipIdx h;exact ⟨this.1,this.2.1⟩
theorem adC {p:Nat→Prop} (h:∀i,b≤i→i<b+l.length→p i):∀c,c∈enc WN (ow b l)→Ok p True c:=fun c hc=>by
 obtain ⟨q,hq,hc⟩:=List.mem_flatMap.1 (show c∈(ow b l).flatMap WN by simpa [enc] using hc);obtain ⟨h1,h2⟩:=akx hq;simp only [WN,List.mem_cons,List.not_mem_nil,or_false] at hc;rcases hc with rfl|rfl|rfl|rfl
 ·exact .v _
 ·exact .v _
 ·exact .v _
 ·exact .sl _ _ _ (h _ h1 h2)
theorem ac8 {σ:Nat→Nat} {x y:List AV}:AV.V4 σ (x++y)=AV.V4 σ x++AV.V4 σ y:=by simp [WR]
theorem adx {σ:Nat→Nat}:∀(l:List Lk) (b c:Nat),(∀i,i<l.length→σ (b+i)=c+i)→AV.V4 σ (enc WN (ow b l))=enc WN (ow c l)
 | [],b,c,_=>rfl
 |x::l,b,c,h=>by
  have ih:=adx (σ:=σ) l (b+1) (c+1) (fun i hi=>by have:=h (i+1) (by simpa using hi);rw [show b+1+i=b+(i+1) by omega,this];omega);show AV.V4 σ (WN (x,b)++enc WN (ow (b+1) l))=WN (x,c)++enc WN (ow (c+1) l);rw [ac8,ih]
  congr 1
  show [AV.map σ _,AV.map σ _,AV.map σ _,AV.sl (σ b) 0 _]=_;have:=h 0 (by simp);rw [Nat.add_zero,Nat.add_zero] at this;rw [this];rfl
theorem S_:YI e ls k k=.free:=by unfold YI;rw [if_neg (by omega)]
theorem aky:YI e ls 0 j=.free:=by unfold YI;rw [if_neg (by omega)]
theorem Un {id:Nat}:aaf (YI e ls 0) id=.free:=by
 unfold aaf
 cases Nat.ble 8 id with
 |true=>exact aky
 |false=>rfl
theorem adp {p:Nat→Prop} {σ:Nat→Nat} {e:Nat→AV}:∀t,none_ t=.any∨(Ok p True (e t)∧(e t).map σ=none_ t):=fun t=>.inl rfl
theorem ZH {p:Nat→Prop} {σ:Nat→Nat} {e e':Nat→AV} {d:Nat} {av:AV} (hok:Ok p True (e d)) (hd:(e d).map σ=av) (h:∀t,e' t=.any∨(Ok p True (e t)∧(e t).map σ=e' t)):∀t,upd e' d av t=.any∨(Ok p True (e t)∧(e t).map σ=upd e' d av t):=fun t=>by
 by_cases ht:t=d
 ·subst ht;rw [upd_same];exact .inr ⟨hok,hd⟩
 ·rw [upd_ne _ _ ht];exact h t
theorem bT {p:Nat→Prop} {σ:Nat→Nat} {e e':Nat→AV} {d:Nat} {av:AV} (hd:e d=av) (h:∀t,e' t=.any∨(Ok p True (e t)∧(e t).map σ=e' t)) [hn:W6 av]:∀t,upd e' d av t=.any∨(Ok p True (e t)∧(e t).map σ=upd e' d av t):=
 ZH (by rw [hd];exact hn.out.mono (fun _ h=>h.elim) id) (by rw [hd];exact jy hn.out) h
end
def ZL (e5 eL:Nat) (ls:List Lk) (k:Nat):Nat→aH:=U4 (aaf (YI e5 ls k)) 1 (.live ⟨enc WN (ow 8 (ls.take k)),eL,4⟩)
theorem ajn {e5 eL:Nat} {ls:List Lk} {k:Nat} {A B:aH}:U4 (U4 (ZL e5 eL ls k) 2 A) 2 B (k+8)=.free:=by
 unfold ZL;rw [YH (by decide),YH (by decide),YH (by decide),adz];exact S_
theorem EZ {e:Nat} {ls:List Lk} {k j:Nat} (h:j<k):YI e ls k j=.live (Xj e (ls.getD j aA)):=by unfold YI;rw [if_pos h]
theorem O1 {σ:Nat→Nat} {e:Nat} {x:Lk}:aC.map σ (Xj e x)=Xj e x:=by
 show aC.mk (AV.V4 σ (enc aI x.pieces)) e 1=aC.mk _ _ _;rw [oI ((inferInstance:VB (enc aI x.pieces)).out)]
theorem J_ {p:Nat→Prop} {e:Nat} {x:Lk}:∀c,c∈(Xj e x).cells→Ok p True c:=fun c hc=>(((inferInstance:VB (enc aI x.pieces)).out) c hc).mono (fun _ h=>h.elim) id
theorem QA {e5 eL:Nat} {ls:List Lk} {k j:Nat}:ZL e5 eL ls k (j+8)=YI e5 ls k j:=by
 unfold ZL;rw [YH (by decide),adz]
theorem ajo {e5 eL:Nat} {ls:List Lk} {k i:Nat} {o:aC} (h:ZL e5 eL ls k i=.live o):(i=1∧o=⟨enc WN (ow 8 (ls.take k)),eL,4⟩)∨∃j,i=j+8∧j<k∧o=Xj e5 (ls.getD j aA):=by
 unfold ZL at h;by_cases hi:i=1
 ·subst hi;rw [V9] at h;cases h;exact .inl ⟨rfl,rfl⟩
 ·rw [VX _ _ hi] at h;rcases Nat.lt_or_ge i 8 with h8|h8
  ·rw [RH h8] at h;cases h
  ·obtain ⟨j,rfl⟩:∃j,i=j+8:=⟨i-8,by omega⟩
   rw [adz] at h;unfold YI at h
   split at h
   ·cases h;exact .inr ⟨j,rfl,by assumption,rfl⟩
   ·cases h
theorem TD {e5 eL:Nat} {ls:List Lk} {k:Nat} {A B B2 X:aH} (j:Nat):U4 (U4 (U4 (U4 (U4 (U4 (ZL e5 eL ls k) 2 A) 2 B) (k+8) (.live (Xj e5 (ls.getD k aA)))) 2 B2) 1 .dead) 3 X (j+8)=YI e5 ls (k+1) j:=by
 rw [YH (by decide),YH (by decide),YH (by decide)];by_cases h:j=k
 ·subst h;rw [V9];exact (EZ (Nat.lt_succ_self j)).symm
 ·rw [VX _ _ (by omega:j+8≠k+8)];rw [YH (by decide),YH (by decide),QA];unfold YI;rcases Nat.lt_or_ge j k with h1|h1
  ·rw [if_pos h1,if_pos (by omega)]
  ·rw [if_neg (by omega),if_neg (by omega)]
theorem abF {σ:AV→AV} {l:List AV} (h:∀c,c∈l→σ c=c):l.map σ=l:=(List.map_congr_left (g:=_root_.id) h).trans (List.map_id l)
theorem map_ok {p:Nat→Prop} {σ:Nat→Nat} {av:AV} (h:Ok p True av) (hs:∀i,p i→σ i=i):av.map σ=av:=by
 induction h with
 |any|one|v=>simp [AV.map]
 |ro n cells _ _ ih=>simp only [AV.map,WR];rw [abF ih]
 |rp cells _ _ ih=>simp only [AV.map,WR];rw [abF ih]
 |sl id off n h=>simp only [AV.map];rw [hs _ h]
 |pt id off h=>simp only [AV.map];rw [hs _ h]
 |agg cells _ ih=>simp only [AV.map,WR];rw [abF ih]
 |Vm cells _ ih=>simp only [AV.map,WR];rw [abF ih]
 |fn f cells _ ih=>simp only [AV.map,WR];rw [abF ih]
theorem acp {p:Nat→Prop} {σ:Nat→Nat} {l:List AV} (h:∀c,c∈l→Ok p True c) (hs:∀i,p i→σ i=i):AV.V4 σ l=l:=by
 rw [WR,abF fun c hc=>map_ok (h c hc) hs]
def Yf (e:Nat) (ls:List Lk) (i:Nat) (r:aC) (j:Nat):aH:=if j<ls.length then (if j<i then .dead else if j=i then .live r else .live (Xj e (ls.getD j aA))) else .free
def aK (rows:Nat→aH) (b4 b7 out:aC):Nat→aH:=U4 (U4 (U4 (aaf rows) 4 (.live b4)) 7 (.live b7)) 1 (.live out)
theorem aad {rows:Nat→aH} {b4 b7 out:aC} {j:Nat}:aK rows b4 b7 out (j+8)=rows j:=by
 unfold aK;rw [YH (by decide),YH (by decide),YH (by decide),adz]
theorem QC {rows:Nat→aH} {b4 b7 out:aC} {i:Nat} (h:i<8) (h1:i≠1) (h4:i≠4) (h7:i≠7):aK rows b4 b7 out i=.free:=by
 unfold aK;rw [VX _ _ h1,VX _ _ h7,VX _ _ h4,RH h]
theorem Rn {rows:Nat→aH} {b4 b7 out o:aC} {i:Nat} (h:aK rows b4 b7 out i=.live o):(i=1∧o=out)∨(i=4∧o=b4)∨(i=7∧o=b7)∨∃j,i=j+8∧rows j=.live o:=by
 rcases Nat.lt_or_ge i 8 with h8|h8
 ·by_cases h1:i=1
  ·subst h1;exact .inl ⟨rfl,(by cases h;rfl)⟩
  ·by_cases h4:i=4
   ·subst h4;exact .inr (.inl ⟨rfl,(by cases h;rfl)⟩)
   ·by_cases h7:i=7
    ·subst h7;exact .inr (.inr (.inl ⟨rfl,(by cases h;rfl)⟩))
    ·rw [QC h8 h1 h4 h7] at h;cases h
 ·obtain ⟨j,rfl⟩:∃j,i=j+8:=⟨i-8,by omega⟩
  rw [aad] at h;exact .inr (.inr (.inr ⟨j,rfl,h⟩))
theorem agK {E:VC} {s:St} {e1:Nat→AV} {rows:Nat→aH} {b4 b7 out:aC} (q:Nat) (hq:q=1∨q=3) (hm:E.m=0) (h4:s.ob 4=.live b4) (h7:s.ob 7=.live b7) (ho:s.ob q=.live out) (hr:∀j,s.ob (j+8)=rows j)
  (k4:gD b4.cells) (k7:∀c,c∈b7.cells→Ok (8≤ ·) True c) (asw:∀c,c∈out.cells→Ok (8≤ ·) True c) (Y9:∀j o,rows j=.live o→gD o.cells)
  (he:∀t,e1 t=.any∨(Ok (fun i=>i=q∨i=4∨i=7∨8≤i) True (s.env t)∧(s.env t).map (fun i=>cond (Nat.beq i q) 1 i)=e1 t)):Vv E s ⟨e1,aK rows b4 b7 out⟩:=by
 have hσ:∀i,8≤i→(fun i=>cond (Nat.beq i q) 1 i) i=i:=fun i hi=>by
  show cond (Nat.beq i q) 1 i=i
  cases hb:Nat.beq i q with
  |false=>rfl
  |true=>have:=Nat.eq_of_beq_eq_true hb;omega
 have hD:∀{l:List AV},(∀c,c∈l→Ok (8≤ ·) True c)→∀c,c∈l→Ok (fun i=>i=q∨i=4∨i=7∨8≤i) True c:=fun h c hc=>(h c hc).mono (fun i hi=>.inr (.inr (.inr hi))) id;have hN:∀{l:List AV},gD l→∀c,c∈l→Ok (8≤ ·) True c:=fun h c hc=>(h c hc).mono (fun _ h=>h.elim) id
 have hmap:∀{o:aC},(∀c,c∈o.cells→Ok (8≤ ·) True c)→o=aC.map (fun i=>cond (Nat.beq i q) 1 i) o:=fun {o} h=>by
  show o=aC.mk (AV.V4 _ o.cells) o.elem o.bC;rw [acp h hσ]
 refine Ru (fun i=>cond (Nat.beq i q) 1 i) (fun i=>cond (Nat.beq i 1) q i) (fun i=>i=q∨i=4∨i=7∨8≤i) hm (fun i hi=>?_) he (fun i o' hl=>?_) (fun i hi hf=>?_)
 ·rcases hq with rfl|rfl<;>rcases hi with rfl|rfl|rfl|hi
  ·rfl
  ·rfl
  ·rfl
  ·obtain ⟨j,rfl⟩:∃j,i=j+8:=⟨i-8,by omega⟩
   rfl
  ·rfl
  ·rfl
  ·rfl
  ·obtain ⟨j,rfl⟩:∃j,i=j+8:=⟨i-8,by omega⟩
   rfl
 ·rcases Rn hl with ⟨rfl,rfl⟩|⟨rfl,rfl⟩|⟨rfl,rfl⟩|⟨j,rfl,hj⟩
  ·exact ⟨o',.inl rfl,by rcases hq with rfl|rfl<;>rfl,ho,hmap asw,hD asw⟩
  ·exact ⟨o',.inr (.inl rfl),by rcases hq with rfl|rfl<;>rfl,h4,hmap (hN k4),hD (hN k4)⟩
  ·exact ⟨o',.inr (.inr (.inl rfl)),by rcases hq with rfl|rfl<;>rfl,h7,hmap k7,hD k7⟩
  ·exact ⟨o',.inr (.inr (.inr (by show 8≤j+8;omega))),by rcases hq with rfl|rfl<;>rfl,(hr j).trans hj,hmap (hN (Y9 j o' hj)),hD (hN (Y9 j o' hj))⟩
 ·rcases hi with rfl|rfl|rfl|hi
  ·rcases hq with rfl|rfl
   ·intro h;cases h
   ·intro h;cases h
  ·rcases hq with rfl|rfl
   ·intro h;cases h
   ·intro h;cases h
  ·rcases hq with rfl|rfl
   ·intro h;cases h
   ·intro h;cases h
  ·obtain ⟨j,rfl⟩:∃j,i=j+8:=⟨i-8,by omega⟩
   rw [hr] at hf;intro h;have h2:aK rows b4 b7 out (cond (Nat.beq (j+8) q) 1 (j+8))=.free:=h;rw [show cond (Nat.beq (j+8) q) 1 (j+8)=j+8 from hσ _ hi,aad] at h2;exact hf h2
theorem RF {E:VC} {e1 e2:Nat→AV} {ls:List Lk} {i e:Nat} {r b4 b7 out out':aC} (hi:i<ls.length) (hm:E.m=0) (hG:∀b,¬E.G b) (he:∀t,Xk (U4 U5 (i+8) (.live r)) (e1 t) (e2 t))
  (ho:out'.elem=out.elem∧out'.bC=out.bC∧out'.cells.length=out.cells.length∧∀(j:Nat) (a b:AV),out.cells[j]? =some a→out'.cells[j]? =some b→Xk (U4 U5 (i+8) (.live r)) a b):
  Vv E ⟨e1,aK (Yf e ls i r) b4 b7 out⟩ ⟨e2,aK (Ye e ls (i+1)) b4 b7 out'⟩:=by
 let keep:List Nat:=[1,4,7]++((List.range ls.length).filter fun j=>decide (i<j)).map (· +8)
 have hin:∀j,i<j→j<ls.length→j+8∈keep:=fun j h1 h2=>List.mem_append.2 (.inr (List.mem_map.2 ⟨j,List.mem_filter.2 ⟨List.mem_range.2 h2,by simpa using h1⟩,rfl⟩))
 have hnot:∀j,j≤i→j+8∉keep:=fun j h1 h2=>by
  rcases List.mem_append.1 h2 with h|h
  ·simp at h
  ·obtain ⟨j',h3,h4⟩:=List.mem_map.1 h;have:=(List.mem_filter.1 h3).2;simp at this;omega
 have akG:XI keep (aK (Yf e ls i r) b4 b7 out) (i+8)=.live r:=by
  rw [qZ,if_neg (hnot i (Nat.le_refl _)),aad];unfold Yf;rw [if_pos hi,if_neg (by omega),if_pos rfl]
 have hsub:∀id o,U4 U5 (i+8) (.live r) id=.live o→XI keep (aK (Yf e ls i r) b4 b7 out) id=.live o:=fun id o h=>by
  by_cases h1:id=i+8
  ·subst h1;rw [V9] at h;cases h;exact akG
  ·rw [VX _ _ h1] at h;cases h
 have hfz:∀{a b:AV},Xk (U4 U5 (i+8) (.live r)) a b→Xk (XI keep (aK (Yf e ls i r) b4 b7 out)) a b:=fun h=>h.imp (fun h=>h) (fun h=>h.more hsub);refine I4 keep hm hG (fun t=>hfz (he t)) (fun id o' hl=>?_) (fun id hf=>?_)
 ·rcases Rn hl with ⟨rfl,rfl⟩|⟨rfl,rfl⟩|⟨rfl,rfl⟩|⟨j,rfl,hj⟩
  ·exact ⟨by simp [keep],out,rfl,ho.1,ho.2.1,ho.2.2.1,fun j a b h1 h2=>hfz (ho.2.2.2 j a b h1 h2)⟩
  ·exact ⟨by simp [keep],o',rfl,rfl,rfl,rfl,fun j a b h1 h2=>.inl (by rw [h1] at h2;cases h2;rfl)⟩
  ·exact ⟨by simp [keep],o',rfl,rfl,rfl,rfl,fun j a b h1 h2=>.inl (by rw [h1] at h2;cases h2;rfl)⟩
  ·have h3:i<j∧j<ls.length∧o'=Xj e (ls.getD j aA):=by
    unfold Ye at hj
    split at hj
    ·rename_i h5
     split at hj
     ·cases hj
     ·cases hj;exact ⟨by omega,h5,rfl⟩
    ·cases hj
   obtain ⟨h5,h6,rfl⟩:=h3;refine ⟨hin j h5 h6,_,(aad (rows:=Yf e ls i r) (b4:=b4) (b7:=b7) (out:=out)).trans ?_,rfl,rfl,rfl,fun j a b h1 h2=>.inl (by rw [h1] at h2;cases h2;rfl)⟩;unfold Yf;rw [if_pos h6,if_neg (by omega),if_neg (by omega)]
 ·have hf':aK (Ye e ls (i+1)) b4 b7 out' id=.free:=hf;rcases Nat.lt_or_ge id 8 with h8|h8
  ·by_cases h1:id=1
   ·subst h1;cases hf'
   ·by_cases h4:id=4
    ·subst h4;cases hf'
    ·by_cases h7:id=7
     ·subst h7;cases hf'
     ·exact QC h8 h1 h4 h7
  ·obtain ⟨j,rfl⟩:∃j,id=j+8:=⟨id-8,by omega⟩
   rw [aad] at hf';refine (aad (rows:=Yf e ls i r) (b4:=b4) (b7:=b7) (out:=out)).trans ?_;unfold Ye at hf'
   split at hf'
   ·split at hf'
    ·cases hf'
    ·cases hf'
   ·rename_i h5;unfold Yf;rw [if_neg h5]
theorem Tg {e5 eL z:Nat} {ls:List Lk} {T:Tu} {b4:aC} (id:Nat):aK (Ye e5 ls 0) b4 ⟨enc WN (ow 8 ls),eL,z⟩ ⟨enc dY (j5 T (ls.take 0)),eL,z⟩ id=U4 (Wc (U4 (fun _=>.free) 4 (.live b4)) 7 (⟨enc WN (ow 8 ls),eL,z⟩::ls.map (Xj e5))) 1 (.live ⟨[],eL,z⟩) id:=by
 by_cases h1:id=1
 ·subst h1;rfl
 ·rw [VX _ _ h1,Ae];rcases Nat.lt_or_ge id 8 with h8|h8
  ·by_cases h7:id=7
   ·subst h7;rw [if_pos (by simp only [List.length_cons];omega)];rfl
   ·rw [if_neg (by omega)];by_cases h4:id=4
    ·subst h4;rfl
    ·rw [VX _ _ h4,QC h8 h1 h4 h7]
  ·obtain ⟨j,rfl⟩:∃j,id=j+8:=⟨id-8,by omega⟩
   rw [aad,show j+8-7=j+1 by omega,List.getElem?_cons_succ,List.getElem?_map,List.length_cons,List.length_map];unfold Ye
   split
   ·rename_i h;rw [if_neg (by omega),if_pos (by omega),List.getElem?_eq_getElem h];simp [h]
   ·rename_i h;rw [if_neg (by omega),YH (by decide)]
theorem TG {e:Nat} {ls:List Lk} {i:Nat} (h:i<ls.length):Ye e ls i i=.live (Xj e (ls.getD i aA)):=by unfold Ye;rw [if_pos h,if_neg (by omega)]
theorem Rv {e:Nat} {ls:List Lk} {i:Nat} {b4 b7 out r:aC} (hi:i<ls.length) (j:Nat):U4 (aK (Ye e ls i) b4 b7 out) (i+8) (.live r) (j+8)=Yf e ls i r j:=by
 by_cases h:j=i
 ·subst h;rw [V9];unfold Yf;rw [if_pos hi,if_neg (by omega),if_pos rfl]
 ·rw [VX _ _ (by omega:j+8≠i+8),aad];unfold Ye Yf;rw [if_neg h]
theorem Tj {ob:Nat→aH} {l a b:List AV} (h:∀(j:Nat) (x y:AV),a[j]? =some x→b[j]? =some y→Xk ob x y):∀(j:Nat) (x y:AV),(l++a)[j]? =some x→(l++b)[j]? =some y→Xk ob x y:=fun j x y h1 h2=>by
 rcases Nat.lt_or_ge j l.length with hj|hj
 ·rw [List.getElem?_append_left hj] at h1 h2;rw [h1] at h2;cases h2;exact .inl rfl
 ·rw [List.getElem?_append_right hj] at h1 h2;exact h _ x y h1 h2
theorem TF {p:Nat→Prop} {σ:Nat→Nat} {e e':Nat→AV} {d:Nat} {av:AV} (h:∀t,e' t=.any∨(Ok p True (e t)∧(e t).map σ=e' t)):∀t,t≠d→upd e' d av t=.any∨(Ok p True (e t)∧(e t).map σ=upd e' d av t):=fun t ht=>by
 rw [upd_ne _ _ ht];exact h t
theorem RD {p:Nat→Prop} {σ:Nat→Nat} {e e':Nat→AV} {d s:Nat} {av:AV} (hok:Ok p True (e d)) (hd:(e d).map σ=av) (h:∀t,t≠s→e' t=.any∨(Ok p True (e t)∧(e t).map σ=e' t)):∀t,t≠s→upd e' d av t=.any∨(Ok p True (e t)∧(e t).map σ=upd e' d av t):=fun t hs=>by
 by_cases ht:t=d
 ·subst ht;rw [upd_same];exact .inr ⟨hok,hd⟩
 ·rw [upd_ne _ _ ht];exact h t hs
theorem Uo {p:Nat→Prop} {σ:Nat→Nat} {e e':Nat→AV} {d s:Nat} {av:AV} (hd:e d=av) (h:∀t,t≠s→e' t=.any∨(Ok p True (e t)∧(e t).map σ=e' t)) [hn:W6 av]:∀t,t≠s→upd e' d av t=.any∨(Ok p True (e t)∧(e t).map σ=upd e' d av t):=
 RD (by rw [hd];exact hn.out.mono (fun _ h=>h.elim) id) (by rw [hd];exact jy hn.out) h
theorem Rw {e:Nat} {ls:List Lk} {i j:Nat} {r o:aC} (hr:gD r.cells) (h:Yf e ls i r j=.live o):gD o.cells:=by
 unfold Yf at h
 split at h
 ·split at h
  ·cases h
  ·split at h
   ·cases h;exact hr
   ·cases h;exact (inferInstance:VB (enc aI (ls.getD j aA).pieces)).out
 ·cases h
end Go.Lo
