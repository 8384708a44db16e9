/- Part of the logic of values: what the law reaches. -/
import Derived.Test.YtdeajfldegcdaaaGreatPFnPlm5
import Derived.Test.YtdeajfldegcdaaaGreatPFnPlm6
namespace Go.Lo
structure Need where
 point:Int
 right:Bool
 deriving DecidableEq
def dN:Need:=⟨0,false⟩
def eB (b:Bool):List AV:=[.v (.bool b)]
def eI (n:Int):List AV:=[.v (.int .i64 n)]
def aC (n:Int):List AV:=[.v (.int .u8 n)]
def eN (n:Need):List AV:=[.v (.int .i64 n.point),.v (.bool n.right)]
instance (b:Bool):cU (eB b):=by unfold eB;infer_instance
instance (b:Int):cU (eI b):=by unfold eI;infer_instance
instance (b:Int):cU (aC b):=by unfold aC;infer_instance
instance (b:Need):cU (eN b):=by unfold eN;infer_instance
instance (b:Bool):ip (eB b):=by unfold eB;infer_instance
instance (b:Int):ip (eI b):=by unfold eI;infer_instance
instance (b:Int):ip (aC b):=by unfold aC;infer_instance
instance (b:Need):ip (eN b):=by unfold eN;infer_instance
def hasB (l:List Bool) (p:Int):Bool:=decide (p≥0)&&decide (p<(l.length:Int))&&l.getD p.toNat false
theorem PN {α:Type} {l:List α} {k:Nat} {d n:α} (hk:k<l.length) (inv:n∉l.take k) (h:l.getD k d≠n):n∉l.take (k+1):=by
 rw [List.take_succ_eq_append_getElem hk];have:l.getD k d=l[k]:=by simp [hk]
 rw [this] at h;simp only [List.mem_append,List.mem_singleton,not_or];exact ⟨inv,fun e=>h e.symm⟩
theorem F1 {α:Type} {a b:List α} {k:Nat} {d:α} (ha:k<a.length) (hb:k<b.length) (inv:a.take k=b.take k) (h:a.getD k d=b.getD k d):a.take (k+1)=b.take (k+1):=by
 rw [List.take_succ_eq_append_getElem ha,List.take_succ_eq_append_getElem hb,inv]
 congr 2
 simpa [ha,hb] using h
section
variable {α:Type} [DecidableEq α]
theorem Gp {a b:List α} (h:a.length≠b.length):decide (a=b)=false:=by
 simp only [decide_eq_false_iff_not];intro e;exact h (by rw [e])
theorem F0 {a b:List α} {k:Nat} {d:α} (h:a.getD k d≠b.getD k d):decide (a=b)=false:=by
 simp only [decide_eq_false_iff_not];intro e;exact h (by rw [e])
theorem Gq {a b:List α} {k:Nat} (hl:a.length=b.length) (hk:a.length≤k) (inv:a.take k=b.take k):decide (a=b)=true:=by
 rw [List.take_of_length_le hk,List.take_of_length_le (by omega)] at inv;simp [inv]
theorem PL {l:List α} {k:Nat} {d n:α} (hk:k<l.length) (h:l.getD k d=n):decide (n∈l)=true:=by
 simp only [decide_eq_true_eq];have:l.getD k d=l[k]:=by simp [hk]
 rw [this] at h;rw [←h];exact List.getElem_mem hk
theorem Q9 {l:List α} {k:Nat} {n:α} (hk:l.length≤k) (inv:n∉l.take k):decide (n∈l)=false:=by
 rw [List.take_of_length_le hk] at inv;simp [inv]
end
theorem iA {α:Type} (d:α) {l:List α} {k:Nat} (h:k<l.length):l.take (k+1)=l.take k++[l.getD k d]:=by
 rw [List.take_succ_eq_append_getElem h];simp [h]
def lW (out:List Bool) (n:Need):List Bool:=if n.point<0∨n.point≥8 then out else (out++List.replicate (n.point.toNat+1-out.length) false).set n.point.toNat n.right
def dh (right:List Bool) (needs:List Need):List Bool:=needs.foldl lW right
theorem QE (out:List Bool) (n:Need):(lW out n).length≤out.length+8:=by
 unfold lW
 split
 ·omega
 ·simp;omega
theorem GI (right:List Bool) (needs:List Need):(dh right needs).length≤right.length+8*needs.length:=by
 induction needs generalizing right with
 |nil=>simp [dh]
 |cons n l ih=>
  have:=ih (lW right n);have:=QE right n;simp only [dh,List.foldl_cons,List.length_cons] at*;omega
theorem Gb {right:List Bool} {needs:List Need} {k:Nat} (h:k<needs.length):dh right (needs.take (k+1))=lW (dh right (needs.take k)) (needs.getD k dN):=by
 rw [iA dN h];simp only [dh,List.foldl_append,List.foldl_cons,List.foldl_nil]
theorem O6 {right:List Bool} {needs:List Need} {k:Nat} (h:k<needs.length) (hp:((decide ((needs.getD k dN).point<0))||(decide ((needs.getD k dN).point≥8)))=true):dh right (needs.take k)=dh right (needs.take (k+1)):=by
 rw [Gb h,lW,if_pos (by simpa using hp)]
theorem Qb {right:List Bool} {needs:List Need} {k j:Nat} (h:k<needs.length) (h0:0≤(needs.getD k dN).point) (h8:(needs.getD k dN).point<8) (hj:j=(needs.getD k dN).point.toNat+1-(dh right (needs.take k)).length):
  dh right (needs.take (k+1))=(dh right (needs.take k)++List.replicate j false).set (needs.getD k dN).point.toNat (needs.getD k dN).right:=by
 rw [Gb h,lW,if_neg (by omega),hj]
def eQ (n:Nat) (needs:List Need):Nat:=needs.foldl (fun (n:Nat) d=>if d.point≥(n:Int)∧d.point<8 then d.point.toNat+1 else n) n
def li (right:List Bool) (needs:List Need) (i:Nat):Bool:=needs.foldl (fun b d=>if d.point=(i:Int)∧(i:Int)<8 then d.right else b) (hasB right (i:Int))
def iX (right:List Bool) (needs:List Need) (N i:Nat):List Bool:=(List.range N).map fun j=>if j<i then li right needs j else false
theorem GK (n:Nat) {needs:List Need} {k:Nat} (h:k<needs.length):eQ n (needs.take (k+1))=if (needs.getD k dN).point≥(eQ n (needs.take k):Int)∧(needs.getD k dN).point<8 then (needs.getD k dN).point.toNat+1 else eQ n (needs.take k):=by
 unfold eQ;rw [iA dN h,List.foldl_append];rfl
theorem Ra {n:Nat} {needs:List Need} {k:Nat} (h:k<needs.length) (hc:(decide ((needs.getD k dN).point≥(eQ n (needs.take k):Int))&&decide ((needs.getD k dN).point<8))=true):(needs.getD k dN).point+1=((eQ n (needs.take (k+1)):Nat):Int):=by
 simp only [Bool.and_eq_true,decide_eq_true_eq] at hc;rw [GK n h,if_pos hc];omega
theorem PQ {n:Nat} {needs:List Need} {k:Nat} (h:k<needs.length) (hc:(decide ((needs.getD k dN).point≥(eQ n (needs.take k):Int))&&decide ((needs.getD k dN).point<8))=false):((eQ n (needs.take k):Nat):Int)=((eQ n (needs.take (k+1)):Nat):Int):=by
 simp only [Bool.and_eq_false_iff,decide_eq_false_iff_not] at hc;rw [GK n h,if_neg (by omega)]
theorem Q_ (n:Nat) (needs:List Need):eQ n needs≤n+8:=by
 have key:∀(l:List Need) (m:Nat),m≤n+8→eQ m l≤n+8:=by
  intro l
  induction l with
  |nil=>intro m h;exact h
  |cons d l ih=>
   intro m h;simp only [eQ,List.foldl_cons];refine ih _ ?_
   split<;>omega
 exact key needs n (by omega)
theorem Gc (right:List Bool) {needs:List Need} (i:Nat) {k:Nat} (h:k<needs.length):li right (needs.take (k+1)) i=if (needs.getD k dN).point=(i:Int)∧(i:Int)<8 then (needs.getD k dN).right else li right (needs.take k) i:=by
 rw [iA dN h];simp only [li,List.foldl_append,List.foldl_cons,List.foldl_nil]
theorem PR {right:List Bool} {needs:List Need} {i k:Nat} (h:k<needs.length) (hc:(((needs.getD k dN).point==(i:Int))&&decide ((i:Int)<8))=true):li right (needs.take (k+1)) i=(needs.getD k dN).right:=by
 simp only [Bool.and_eq_true,decide_eq_true_eq,beq_iff_eq] at hc;rw [Gc right i h,if_pos hc]
theorem OM {right:List Bool} {needs:List Need} {i k:Nat} (h:k<needs.length) (hc:(((needs.getD k dN).point==(i:Int))&&decide ((i:Int)<8))=false):li right (needs.take (k+1)) i=li right (needs.take k) i:=by
 simp only [Bool.and_eq_false_iff,decide_eq_false_iff_not,beq_eq_false_iff_ne] at hc;rw [Gc right i h,if_neg (by omega)]
@[simp] theorem zq (right:List Bool) (needs:List Need) (N i:Nat):(iX right needs N i).length=N:=by simp [iX]
theorem NT (right:List Bool) (needs:List Need) (N:Nat):iX right needs N 0=List.replicate N false:=by
 refine List.ext_getElem (by simp) (fun j h1 h2=>?_);simp [iX]
theorem NU (right:List Bool) (needs:List Need) {N i:Nat} (_h:i<N):iX right needs N (i+1)=(iX right needs N i).set i (li right needs i):=by
 refine List.ext_getElem (by simp) (fun j h1 h2=>?_);rw [List.getElem_set];simp only [iX,List.getElem_map,List.getElem_range]
 split
 ·split
  ·rename_i e;rw [e]
  ·rw [if_pos (by omega)]
 ·rw [if_neg (by omega),if_neg (by omega)]
theorem QF (right:List Bool) (i:Nat):hasB right (i:Int)=right.getD i false:=by
 unfold hasB;by_cases h:i<right.length
 ·simp [h]
 ·simp [h]
theorem QG {M:List Bool} {d:Need} (i:Nat):(lW M d).getD i false=if d.point=(i:Int)∧(i:Int)<8 then d.right else M.getD i false:=by
 unfold lW;by_cases hp:d.point<0∨d.point≥8
 ·rw [if_pos hp,if_neg (by omega)]
 ·rw [if_neg hp];simp only [List.getD_eq_getElem?_getD,List.getElem?_set,List.length_append,List.length_replicate];by_cases hi:d.point=(i:Int)
  ·rw [if_pos (by omega),if_pos (by omega),if_pos (by omega)];rfl
  ·rw [if_neg (by omega),if_neg (by omega),List.getElem?_append]
   split
   ·rfl
   ·rw [List.getElem?_replicate]
    split
    ·rw [List.getElem?_eq_none (by omega)];rfl
    ·rw [List.getElem?_eq_none (by omega)]
theorem NZ (M:List Bool) (d:Need):(lW M d).length=if d.point≥(M.length:Int)∧d.point<8 then d.point.toNat+1 else M.length:=by
 unfold lW;by_cases hp:d.point<0∨d.point≥8
 ·rw [if_pos hp,if_neg (by omega)]
 ·rw [if_neg hp,List.length_set,List.length_append,List.length_replicate]
  split<;>omega
theorem Pm (needs:List Need):∀(right:List Bool) (N:Nat),right.length=N→(dh right needs).length=eQ N needs∧∀(i:Nat) (b:Bool),right.getD i false=b→(dh right needs).getD i false=needs.foldl (fun b d=>if d.point=(i:Int)∧(i:Int)<8 then d.right else b) b:=by
 induction needs with
 |nil=>intro right N h;exact ⟨h,fun i b hb=>hb⟩
 |cons d l ih=>
  intro right N h;have h1:=NZ right d;rw [h] at h1;obtain ⟨h2,h3⟩:=ih (lW right d) _ h1;refine ⟨h2,fun i b hb=>?_⟩;exact h3 i _ (by rw [QG,hb])
theorem ZB {right:List Bool} {needs:List Need} {N i:Nat} (hN:N=eQ right.length needs) (hi:N≤i):iX right needs N i=dh right needs:=by
 obtain ⟨h1,h2⟩:=Pm needs right right.length rfl;refine List.ext_getElem (by rw [zq,h1,hN]) (fun j hj hj2=>?_);have:=h2 j _ rfl;rw [List.getD_eq_getElem?_getD,List.getElem?_eq_getElem hj2,Option.getD_some] at this;rw [this];rw [zq] at hj;simp only [iX,List.getElem_map,List.getElem_range];rw [if_pos (by omega)];simp only [li,QF]
def idxFrom {α:Type} (f:α→Bool):Nat→List α→Int
 |_,[]=> -1
 |i,a::l=>if f a=true then (i:Int) else idxFrom f (i+1) l
def bL {α:Type} (f:α→Bool) (l:List α):Int:=idxFrom f 0 l
theorem NR {α:Type} {f:α→Bool} (d:α):∀(l:List α) (i k:Nat),k<l.length→(l.take k).any f=false→f (l.getD k d)=true→idxFrom f i l=((i+k:Nat):Int):=by
 intro l
 induction l with
 |nil=>intro i k h;simp at h
 |cons a l ih=>
  intro i k h h1 h2
  cases k with
  |zero=>
   simp only [List.getD_cons_zero] at h2;simp [idxFrom,h2]
  |succ k=>
   simp only [List.take_succ_cons,List.any_cons,Bool.or_eq_false_iff] at h1;simp only [List.getD_cons_succ] at h2;rw [idxFrom,if_neg (by rw [h1.1];simp),ih (i+1) k (by simpa using h) h1.2 h2];omega
theorem hJ {α:Type} {f:α→Bool} (d:α) {l:List α} {k:Nat} (h:k<l.length) (h1:(l.take k).any f=false) (h2:f (l.getD k d)=true):bL f l=(k:Int):=by
 have:=NR d l 0 k h h1 h2;rw [Nat.zero_add] at this;exact this
theorem zC {α:Type} {f:α→Bool}:∀(l:List α) (i:Nat),l.any f=false→idxFrom f i l= -1:=by
 intro l
 induction l with
 |nil=>intro i _;rfl
 |cons a l ih=>
  intro i h;simp only [List.any_cons,Bool.or_eq_false_iff] at h;rw [idxFrom,if_neg (by rw [h.1];simp),ih _ h.2]
theorem iK {α:Type} {f:α→Bool} {l:List α} {k:Nat} (hk:l.length≤k) (h:(l.take k).any f=false):bL f l= -1:=by
 rw [List.take_of_length_le hk] at h;exact zC l 0 h
theorem gT {α:Type} {f:α→Bool} (d:α) {l:List α} {k:Nat} (hk:k<l.length) (inv:(l.take k).any f=false) (h:f (l.getD k d)=false):(l.take (k+1)).any f=false:=by
 rw [iA d hk,List.any_append,inv];simpa using h
theorem vB {α:Type} {f:α→Bool} (d:α) (l:List α) (h:l.any f=true):∃k,k<l.length∧(l.take k).any f=false∧f (l.getD k d)=true:=by
 induction l with
 |nil=>simp at h
 |cons a l ih=>
  cases ha:f a with
  |true=>exact ⟨0,by simp,by simp,by simpa using ha⟩
  |false=>
   rw [List.any_cons,ha,Bool.false_or] at h;obtain ⟨k,h1,h2,h3⟩:=ih h;exact ⟨k+1,by simpa using h1,by simp [ha,h2],by simpa using h3⟩
theorem pA {α:Type} {f:α→Bool} (d:α) {l:List α} (h:¬bL f l= -1):∃k:Nat,bL f l=(k:Int)∧k<l.length∧(l.take k).any f=false∧f (l.getD k d)=true:=by
 cases ha:l.any f with
 |false=>exact absurd (zC l 0 ha) h
 |true=>
  obtain ⟨k,h1,h2,h3⟩:=vB d l ha;exact ⟨k,hJ d h1 h2 h3,h1,h2,h3⟩
theorem nB {α:Type} {f:α→Bool} (d:α) (l:List α):decide (bL f l≥0)=l.any f:=by
 cases ha:l.any f with
 |false=>rw [show bL f l= -1 from zC l 0 ha];rfl
 |true=>
  obtain ⟨k,h1,h2,h3⟩:=vB d l ha;rw [hJ d h1 h2 h3];simp
def nu (right:List Bool) (n:Need):Bool:=hasB right n.point != n.right
def f6 (right:List Bool) (n:Need):Bool:= !(hasB right n.point != n.right)
def b6 (needs:List Need) (right:List Bool):List Need:=needs.filter (nu right)
theorem FX {needs:List Need} {right:List Bool} {k:Nat} (h:k<needs.length):b6 (needs.take (k+1)) right=b6 (needs.take k) right++(if nu right (needs.getD k dN)=true then [needs.getD k dN] else []):=by
 rw [iA dN h];simp only [b6,List.filter_append,List.filter_cons,List.filter_nil]
theorem zV {needs:List Need} {right:List Bool} {k:Nat} (h:k<needs.length) (hc:nu right (needs.getD k dN)=true):b6 (needs.take k) right++[needs.getD k dN]=b6 (needs.take (k+1)) right:=by rw [FX h,if_pos hc]
theorem zJ {needs:List Need} {right:List Bool} {k:Nat} (h:k<needs.length) (hc:nu right (needs.getD k dN)=false):b6 (needs.take k) right=b6 (needs.take (k+1)) right:=by rw [FX h,if_neg (by rw [hc];simp),List.append_nil]
theorem re (needs:List Need) (right:List Bool):(b6 needs right).length≤needs.length:=List.length_filter_le _ _
def oQ (right:List Bool) (s:List Need×Nat) (n:Need):List Need×Nat:=if f6 right n=true then s else (s.1.set s.2 n,s.2+1)
def cJ (right:List Bool) (l:List Need) (j:Nat):List Need×Nat:=(l.take j).foldl (oQ right) (l,0)
theorem ri (right:List Bool) {l:List Need} {j:Nat} (h:j<l.length):cJ right l (j+1)=oQ right (cJ right l j) (l.getD j dN):=by
 unfold cJ;rw [iA dN h,List.foldl_append];rfl
theorem FF {α:Type} (l:List α) (n:Nat) (x:α):(l.set n x).take n=l.take n:=by
 refine List.ext_getElem? (fun i=>?_);rw [List.getElem?_take,List.getElem?_take]
 split
 ·rw [List.getElem?_set_ne (by omega)]
 ·rfl
theorem He (right:List Bool) (l:List Need):∀(j:Nat),j≤l.length→(cJ right l j).1.length=l.length∧(cJ right l j).2≤j∧(∀i,j≤i→(cJ right l j).1[i]? =l[i]?)∧(cJ right l j).1.take (cJ right l j).2=b6 (l.take j) right∧(cJ right l j).2=(b6 (l.take j) right).length:=by
 intro j
 induction j with
 |zero=>intro _;exact ⟨by simp [cJ],by simp [cJ],fun i _=>by simp [cJ],by simp [cJ,b6],by simp [cJ,b6]⟩
 |succ j ih=>
  intro hj;obtain ⟨h1,h2,h3,h4,h5⟩:=ih (by omega);rw [ri right (by omega)];unfold oQ;by_cases hd:f6 right (l.getD j dN)=true
  ·have hw:nu right (l.getD j dN)=false:=by simpa [f6,nu] using hd
   rw [if_pos hd];exact ⟨h1,by omega,fun i hi=>h3 i (by omega),by rw [h4,zJ (by omega) hw],by rw [h5,zJ (by omega) hw]⟩
  ·have hw:nu right (l.getD j dN)=true:=by simpa [f6,nu] using hd
   rw [if_neg hd];refine ⟨by simp [h1],by simp;omega,fun i hi=>?_,?_,?_⟩
   ·simp only;rw [List.getElem?_set_ne (by omega)];exact h3 i (by omega)
   ·rw [←zV (by omega) hw, ←h4];simp only;rw [iA dN (by simp;omega)];rw [FF];simp [show (cJ right l j).2<(cJ right l j).1.length by omega]
   ·rw [←zV (by omega) hw];simp [h5]
theorem H6 (right:List Bool) {l:List Need} {j:Nat} (h:j<l.length):(cJ right l j).1.getD j dN=l.getD j dN:=by
 have:=(He right l j (by omega)).2.2.1 j (Nat.le_refl _);simp only [List.getD_eq_getElem?_getD,this]
theorem O3 (right:List Bool) {l:List Need} {j:Nat} (h:j<l.length) (hc:f6 right ((cJ right l j).1.getD j dN)=false):cJ right l (j+1)=((cJ right l j).1.set (cJ right l j).2 ((cJ right l j).1.getD j dN),(cJ right l j).2+1):=by
 rw [ri right h,H6 right h] at*;unfold oQ;rw [if_neg (by rw [hc];simp)]
theorem O4 (right:List Bool) {l:List Need} {j:Nat} (h:j<l.length) (hc:f6 right ((cJ right l j).1.getD j dN)=true):cJ right l (j+1)=cJ right l j:=by
 rw [H6 right h] at hc;rw [ri right h];unfold oQ;rw [if_pos hc]
theorem Oy (right:List Bool) {l:List Need}:∀(i:Nat),i<l.length→(l.take i).any (f6 right)=false→cJ right l i=(l,i):=by
 intro i
 induction i with
 |zero=>intro _ _;simp [cJ]
 |succ i ih=>
  intro hi h;rw [iA dN (by omega),List.any_append,Bool.or_eq_false_iff] at h;rw [ri right (by omega),ih (by omega) h.1];unfold oQ;rw [if_neg (by simpa using h.2)];simp only [Prod.mk.injEq,and_true];refine List.ext_getElem? (fun k=>?_);rw [List.getElem?_set]
  split
  ·rename_i e;subst e;simp [show i<l.length by omega]
  ·rfl
theorem F8 (right:List Bool) {l:List Need} {i:Nat} (hi:i<l.length) (h:(l.take i).any (f6 right)=false) (hd:f6 right (l.getD i dN)=true):cJ right l (i+1)=(l,i):=by
 rw [ri right hi,Oy right i hi h];unfold oQ;rw [if_pos hd]
theorem Rm (right:List Bool) {l:List Need} {i:Nat} (hi:i<l.length) (h:(l.take i).any (f6 right)=false) (hd:f6 right (l.getD i dN)=true):∀k,i+1+k≤l.length→(cJ right l (i+1+k)).2<i+1+k:=by
 intro k
 induction k with
 |zero=>intro _;rw [Nat.add_zero,F8 right hi h hd];simp
 |succ k ih=>
  intro hk;have:=ih (by omega);rw [show i+1+(k+1)=(i+1+k)+1 by omega,ri right (by omega)];unfold oQ
  split
  ·omega
  ·simp;omega
theorem Sb (n:Nat):(Builtin.zeroCells #[.int .i64 0,.bool false] n).toList.map AV.v=enc eN (List.replicate n dN):=by
 induction n with
 |zero=>simp [Builtin.zeroCells,enc]
 |succ n ih=>
  have e:(Builtin.zeroCells #[.int .i64 0,.bool false] (n+1)).toList=(Builtin.zeroCells #[.int .i64 0,.bool false] n).toList++[.int .i64 0,.bool false]:=by
   simp only [Builtin.zeroCells,Array.toList_map,Array.toList_range];show List.map _ (List.range ((n+1)*2))=List.map _ (List.range (n*2))++_;rw [show (n+1)*2=n*2+1+1 by omega,List.range_succ,List.range_succ,List.map_append,List.map_append,List.append_assoc]
   congr 1
   simp [Nat.add_mod]
  rw [e,List.map_append,ih,List.replicate_succ',oB];rfl
theorem O5 {l:List Need} {i n:Nat} (h:i+n=l.length):spl (enc eN l) (0+i*2) ((Builtin.zeroCells #[.int .i64 0,.bool false] n).toList.map AV.v)=enc eN (l.take i++List.replicate n dN):=by
 have hl:(enc eN (List.replicate n dN)).length=n*2:=by rw [fI (f:=eN) (s:=2) (fun _=>rfl)];simp
 rw [Sb];unfold spl;rw [hl,Nat.zero_add,s3 (f:=eN) (s:=2) (fun _=>rfl),me,List.drop_of_length_le (by rw [fI (f:=eN) (s:=2) (fun _=>rfl)];omega),List.append_nil]
theorem NW {l:List Need} {right:List Bool} (h:l.any (f6 right)=false):b6 l right=l:=by
 unfold b6;rw [List.filter_eq_self];intro a ha;have:=List.any_eq_false.1 h a ha;simpa [f6,nu] using this
end Go.Lo
set_option linter.unusedVariables false
set_option linter.unusedSimpArgs false
namespace Go.Lo
structure ax where
 len:Int
 a:Int
 b:Int
structure aH where
 node:Int
 stem:Int
 left:Int
 right:Int
structure En where
 sec:Int
 en:Int
structure Pr where
 a:Int
 b:Int
def dS:ax:=⟨0,0,0⟩
def dP:aH:=⟨0,0,0,0⟩
def dE:En:=⟨0,0⟩
def dR:Pr:=⟨0,0⟩
def aI (x:ax):List AV:=[.v (.int .i64 x.len),.v (.int .i64 x.a),.v (.int .i64 x.b)]
def aE (x:aH):List AV:=[.v (.int .i64 x.node),.v (.int .i64 x.stem),.v (.int .i64 x.left),.v (.int .i64 x.right)]
def bH (x:En):List AV:=[.v (.int .i64 x.sec),.v (.int .i64 x.en)]
def jI (x:Pr):List AV:=[.v (.int .i64 x.a),.v (.int .i64 x.b)]
def YO (x:List Int):List AV:=[.ro x.length (enc eI x)]
def oa (x:List Int):List AV:=[.ro x.length (enc aC x)]
def eC (_:Unit):List AV:=[.one]
instance (x:ax):cU (aI x):=by unfold aI;infer_instance
instance (x:aH):cU (aE x):=by unfold aE;infer_instance
instance (x:En):cU (bH x):=by unfold bH;infer_instance
instance (x:Pr):cU (jI x):=by unfold jI;infer_instance
instance (x:List Int):cU (YO x):=by unfold YO;infer_instance
instance (x:List Int):cU (oa x):=by unfold oa;infer_instance
instance (x:Unit):cU (eC x):=by unfold eC;infer_instance
instance (x:ax):ip (aI x):=by unfold aI;infer_instance
instance (x:aH):ip (aE x):=by unfold aE;infer_instance
instance (x:En):ip (bH x):=by unfold bH;infer_instance
instance (x:Pr):ip (jI x):=by unfold jI;infer_instance
theorem pN {α:Type} {f:α→List AV} {s:Nat} (hf:∀x,(f x).length=s) (xs:List α) (l h:Nat):((enc f xs).drop (l*s)).take ((h-l)*s)=enc f ((xs.take h).drop l):=by
 rw [z3 hf,s3 hf,List.drop_take]
theorem pI {α:Type} {f:α→List AV} {s:Nat} (hf:∀x,(f x).length=s) (xs:List α) (l n:Nat) (hn:n=xs.length):((enc f xs).drop (l*s)).take ((n-l)*s)=enc f (xs.drop l):=by
 rw [z3 hf,s3 hf,List.take_of_length_le (by simp;omega)]
def units:List Int:=[10,20,30,40,50,60,70,80,90,100,110,120,130,140,150,160,170,180,190,200]
theorem Rb (len:Int):10*(1+len % 20)∈units:=by
 have h1:0≤len % 20:=Int.emod_nonneg _ (by decide);have h2:len % 20<20:=Int.emod_lt_of_pos _ (by decide);generalize len % 20=x at h1 h2;obtain ⟨n,rfl⟩:=Int.eq_ofNat_of_zero_le h1;have hn:n<20:=by omega
 have:∀n:Nat,n<20→10*(1+(n:Int))∈units:=by decide
 exact this n hn
theorem En.Cw {x y:En} (h1:x.sec=y.sec) (h2:x.en=y.en):x=y:=by
 cases x;cases y;simp_all
instance:DecidableEq En:=fun x y=>if h:x.sec=y.sec∧x.en=y.en then isTrue (En.Cw h.1 h.2) else isFalse fun e=>h (by rw [e];exact ⟨rfl,rfl⟩)
def eD (secs:List ax) (s e:Int):Bool:=decide (s<0)||decide (s≥(secs.length:Int))||decide (e<0)||decide (e>1)
def aF (secs:List ax) (s e:Int):Int:=if eD secs s e then 0 else if e=0 then (secs.getD s.toNat dS).a else (secs.getD s.toNat dS).b
theorem FI {secs:List ax} {s e:Int} (h:eD secs s e=false):0≤s∧s<(secs.length:Int)∧0≤e∧e≤1:=by
 simp only [eD,Bool.or_eq_false_iff,decide_eq_false_iff_not] at h;omega
theorem G6 {secs:List ax} {s e:Int} (h:eD secs s e=true):aF secs s e=0:=by simp [aF,h]
theorem HJ {secs:List ax} {s e:Int} (h:eD secs s e=false) (he:e=0):aF secs s e=(secs.getD s.toNat dS).a:=by unfold aF;rw [h,if_neg (by simp),if_pos he]
theorem HK {secs:List ax} {s e:Int} (h:eD secs s e=false) (he:¬e=0):aF secs s e=(secs.getD s.toNat dS).b:=by unfold aF;rw [h,if_neg (by simp),if_neg he]
def ek (secs:List ax) (at_:Int):Nat→List En
 |0=>[]
 |k+1=>ek secs at_ k++(if (secs.getD k dS).a=at_ then [⟨(k:Int),0⟩] else [])++(if (secs.getD k dS).b=at_ then [⟨(k:Int),1⟩] else [])
theorem pB (secs:List ax) (n:Int) (k:Nat):ek secs n (k+1)=ek secs n k++(if (secs.getD k dS).a=n then [⟨(k:Int),0⟩] else [])++(if (secs.getD k dS).b=n then [⟨(k:Int),1⟩] else []):=rfl
theorem PV {secs:List ax} {n:Int} {k:Nat} (h1:¬(secs.getD k dS).a=n) (h2:¬(secs.getD k dS).b=n):ek secs n (k+1)=ek secs n k:=by
 rw [pB,if_neg h1,if_neg h2,List.append_nil,List.append_nil]
theorem PT {secs:List ax} {n:Int} {k:Nat} (h1:(secs.getD k dS).a=n) (h2:¬(secs.getD k dS).b=n):ek secs n (k+1)=ek secs n k++[⟨(k:Int),0⟩]:=by
 rw [pB,if_pos h1,if_neg h2,List.append_nil]
theorem PU {secs:List ax} {n:Int} {k:Nat} (h1:¬(secs.getD k dS).a=n) (h2:(secs.getD k dS).b=n):ek secs n (k+1)=ek secs n k++[⟨(k:Int),1⟩]:=by
 rw [pB,if_neg h1,if_pos h2,List.append_nil]
theorem PS {secs:List ax} {n:Int} {k:Nat} (h1:(secs.getD k dS).a=n) (h2:(secs.getD k dS).b=n):ek secs n (k+1)=ek secs n k++[⟨(k:Int),0⟩]++[⟨(k:Int),1⟩]:=by
 rw [pB,if_pos h1,if_pos h2]
def cM (secs:List ax) (at_:Int):List En:=ek secs at_ secs.length
theorem vu (secs:List ax) (at_:Int) (k:Nat):(ek secs at_ k).length≤2*k:=by
 induction k with
 |zero=>simp [ek]
 |succ k ih=>simp only [ek,List.length_append];split<;>split<;>simp<;>omega
theorem vv (secs:List ax) (at_:Int):(cM secs at_).length≤2*secs.length:=vu _ _ _
def aX (pts:List aH) (at_:Int):Int:=bL (fun p=>decide (p.node=at_)) pts
theorem ox {α:Type} (f:α→Bool) (d:α) (l:List α):bL f l= -1∨(0≤bL f l∧bL f l<(l.length:Int)):=by
 by_cases h:bL f l= -1
 ·exact .inl h
 ·obtain ⟨k,h1,h2,_⟩:=pA d h;rw [h1];omega
theorem q_ (pts:List aH) (at_:Int):aX pts at_= -1∨(0≤aX pts at_∧aX pts at_<(pts.length:Int)):=ox _ dP _
def nK (s:Int) (l:List En):List En:=match l.find? (fun e=>decide (e.sec=s)) with|some e=>[e]|none=>[]
theorem OC (s:Int) (l:List En):(nK s l).length≤1:=by unfold nK;split<;>simp
theorem FP {s:Int} {l:List En} {k:Nat} (hk:k<l.length) (h1:(l.take k).any (fun e=>decide (e.sec=s))=false) (h2:(l.getD k dE).sec=s):nK s l=[l.getD k dE]:=by
 have hg:l=l.take k++l.getD k dE::l.drop (k+1):=by
  rw [List.getD_eq_getElem?_getD,List.getElem?_eq_getElem hk];simp
 have hn:(l.take k).find? (fun e=>decide (e.sec=s))=none:=by
  rw [List.find?_eq_none];intro x hx hc;have:(l.take k).any (fun e=>decide (e.sec=s))=true:=List.any_eq_true.2 ⟨x,hx,hc⟩;rw [h1] at this;cases this
 have:l.find? (fun e=>decide (e.sec=s))=some (l.getD k dE):=by
  conv=>lhs;rw [hg]
  rw [List.find?_append,hn,List.find?_cons_of_pos (by simpa using h2)];rfl
 unfold nK;rw [this]
theorem FQ {s:Int} {l:List En} {k:Nat} (hk:l.length≤k) (h1:(l.take k).any (fun e=>decide (e.sec=s))=false):nK s l=[]:=by
 rw [List.take_of_length_le hk] at h1
 have:l.find? (fun e=>decide (e.sec=s))=none:=by
  rw [List.find?_eq_none];intro x hx hc;have:l.any (fun e=>decide (e.sec=s))=true:=List.any_eq_true.2 ⟨x,hx,hc⟩;rw [h1] at this;cases this
 unfold nK;rw [this]
theorem take1_drop {l:List En} {k:Nat} (hk:k<l.length):(l.drop k).take 1=[l.getD k dE]:=by
 rw [List.drop_eq_getElem_cons hk,List.getD_eq_getElem?_getD,List.getElem?_eq_getElem hk];rfl
def dU (secs:List ax) (s at_:Int):List En:=nK s (cM secs at_)
theorem pF (secs:List ax) (s at_:Int):(dU secs s at_).length≤1:=OC _ _
def iZ (secs:List ax) (at_ s e:Int) (k:Nat):List En:=((cM secs at_).take k).filter (fun x=> !decide (x.sec=s∧x.en=e))
theorem Oa (secs:List ax) (at_ s e:Int) (k:Nat):(iZ secs at_ s e k).length≤k:=Nat.le_trans (List.length_filter_le _ _) (by simp;omega)
theorem ON {α:Type} {f:α→Bool} (d:α) {l:List α} {k:Nat} (hk:k<l.length) (h:f (l.getD k d)=true):(l.take (k+1)).filter f=(l.take k).filter f++[l.getD k d]:=by
 rw [List.take_add_one,List.filter_append,List.getElem?_eq_getElem hk];rw [List.getD_eq_getElem?_getD,List.getElem?_eq_getElem hk] at h;simp only [Option.toList_some,Option.getD_some] at*;rw [List.filter_cons_of_pos h,List.filter_nil,List.getD_eq_getElem?_getD,List.getElem?_eq_getElem hk];rfl
theorem Ob {α:Type} {f:α→Bool} (d:α) {l:List α} {k:Nat} (hk:k<l.length) (h:f (l.getD k d)=false):(l.take (k+1)).filter f=(l.take k).filter f:=by
 rw [List.take_add_one,List.filter_append,List.getElem?_eq_getElem hk];rw [List.getD_eq_getElem?_getD,List.getElem?_eq_getElem hk] at h;simp only [Option.toList_some,Option.getD_some] at*;rw [List.filter_cons_of_neg (by simp [h]),List.filter_nil,List.append_nil]
def lH (secs:List ax) (at_ s e:Int):List En:=(cM secs at_).filter (fun x=> !decide (x.sec=s∧x.en=e))
theorem zF {secs:List ax} {at_ s e:Int} {k:Nat} (h:(cM secs at_).length≤k):iZ secs at_ s e k=lH secs at_ s e:=by
 unfold iZ lH;rw [List.take_of_length_le h]
def bo (secs:List ax) (pts:List aH) (s e:Int):List En:=
 if eD secs s e then [] else
 if 0≤aX pts (aF secs s e) then
  if s=(pts.getD (aX pts (aF secs s e)).toNat dP).stem then dU secs (pts.getD (aX pts (aF secs s e)).toNat dP).left (aF secs s e)++dU secs (pts.getD (aX pts (aF secs s e)).toNat dP).right (aF secs s e)
  else if s=(pts.getD (aX pts (aF secs s e)).toNat dP).left∨s=(pts.getD (aX pts (aF secs s e)).toNat dP).right then dU secs (pts.getD (aX pts (aF secs s e)).toNat dP).stem (aF secs s e)
  else []
 else if (lH secs (aF secs s e) s e).length=1 then lH secs (aF secs s e) s e else []
theorem zw (secs:List ax) (pts:List aH) (s e:Int):(bo secs pts s e).length≤2:=by
 unfold bo;have h1:=pF secs (pts.getD (aX pts (aF secs s e)).toNat dP).left (aF secs s e);have h2:=pF secs (pts.getD (aX pts (aF secs s e)).toNat dP).right (aF secs s e);have h3:=pF secs (pts.getD (aX pts (aF secs s e)).toNat dP).stem (aF secs s e)
 repeat' split
 all_goals (try simp only [List.length_append,List.length_nil]);omega
theorem Gr {secs:List ax} {pts:List aH} {s e:Int} (hn:eD secs s e=true):bo secs pts s e=[]:=by unfold bo;rw [if_pos hn]
theorem FR {secs:List ax} {pts:List aH} {s e:Int} (hn:eD secs s e=false) (hi:0≤aX pts (aF secs s e)) (hs:s=(pts.getD (aX pts (aF secs s e)).toNat dP).stem):
  bo secs pts s e=dU secs (pts.getD (aX pts (aF secs s e)).toNat dP).left (aF secs s e)++dU secs (pts.getD (aX pts (aF secs s e)).toNat dP).right (aF secs s e):=by
 unfold bo;rw [if_neg (by simp [hn]),if_pos hi,if_pos hs]
theorem zE {secs:List ax} {pts:List aH} {s e:Int} (hn:eD secs s e=false) (hi:0≤aX pts (aF secs s e)) (hs:¬s=(pts.getD (aX pts (aF secs s e)).toNat dP).stem) (hl:s=(pts.getD (aX pts (aF secs s e)).toNat dP).left∨s=(pts.getD (aX pts (aF secs s e)).toNat dP).right):
  bo secs pts s e=dU secs (pts.getD (aX pts (aF secs s e)).toNat dP).stem (aF secs s e):=by
 unfold bo;rw [if_neg (by simp [hn]),if_pos hi,if_neg hs,if_pos hl]
theorem F3 {secs:List ax} {pts:List aH} {s e:Int} (hn:eD secs s e=false) (hi:0≤aX pts (aF secs s e)) (hs:¬s=(pts.getD (aX pts (aF secs s e)).toNat dP).stem) (hl:¬(s=(pts.getD (aX pts (aF secs s e)).toNat dP).left∨s=(pts.getD (aX pts (aF secs s e)).toNat dP).right)):
  bo secs pts s e=[]:=by
 unfold bo;rw [if_neg (by simp [hn]),if_pos hi,if_neg hs,if_neg hl]
theorem F4 {secs:List ax} {pts:List aH} {s e:Int} (hn:eD secs s e=false) (hi:¬0≤aX pts (aF secs s e)) (h:(lH secs (aF secs s e) s e).length=1):bo secs pts s e=lH secs (aF secs s e) s e:=by
 unfold bo;rw [if_neg (by simp [hn]),if_neg hi,if_pos h]
theorem FT {secs:List ax} {pts:List aH} {s e:Int} (hn:eD secs s e=false) (hi:¬0≤aX pts (aF secs s e)) (h:¬(lH secs (aF secs s e) s e).length=1):bo secs pts s e=[]:=by
 unfold bo;rw [if_neg (by simp [hn]),if_neg hi,if_neg h]
theorem Ai {secs:List ax} {n:Int} {x:En}:∀k,x∈ek secs n k→x.en=0∨x.en=1
 |0,h=>by cases h
 |k+1,h=>by
  rw [pB] at h;rcases List.mem_append.1 h with h|h
  ·rcases List.mem_append.1 h with h|h
   ·exact Ai k h
   ·split at h
    ·simp at h;subst h;exact .inl rfl
    ·cases h
  ·split at h
   ·simp at h;subst h;exact .inr rfl
   ·cases h
theorem Gf {s:Int} {l:List En} {x:En} (h:x∈nK s l):x∈l:=by
 unfold nK at h
 split at h
 ·rename_i e he;simp at h;subst h;exact List.mem_of_find?_eq_some he
 ·cases h
theorem Gt {secs:List ax} {pts:List aH} {s e:Int} {x:En} (h:x∈bo secs pts s e):x.en=0∨x.en=1:=by
 have h1:∀{a b:Int},x∈dU secs a b→x.en=0∨x.en=1:=fun hx=>Ai _ (Gf hx);unfold bo at h
 repeat' split at h
 ·cases h
 ·rcases List.mem_append.1 h with h|h
  ·exact h1 h
  ·exact h1 h
 ·exact h1 h
 ·cases h
 ·exact Ai _ (List.mem_filter.1 h).1
 ·cases h
theorem c8 {α:Type} {l:List α} {k:Nat} (d:α) (h:k<l.length):l.getD k d∈l:=by
 rw [List.getD_eq_getElem?_getD,List.getElem?_eq_getElem h];exact List.getElem_mem h
def fF (turns:List Int) (n i:Nat):Nat:=if i<turns.length then (turns.getD i 0).toNat % n else 0
theorem As {turns:List Int} {n i:Nat} (h:0<n):fF turns n i<n:=by
 unfold fF
 split
 ·exact Nat.mod_lt _ h
 ·exact h
theorem HL {turns:List Int} {n i:Nat} (h:i<turns.length) (hu:0≤turns.getD i 0):turns.getD i 0 % (n:Int)=((fF turns n i:Nat):Int):=by
 unfold fF;rw [if_pos h];obtain ⟨m,hm⟩:=Int.eq_ofNat_of_zero_le hu;rw [hm];rfl
theorem G9 {turns:List Int} {n i:Nat} (h:¬i<turns.length):(0:Int)=((fF turns n i:Nat):Int):=by
 unfold fF;rw [if_neg h];rfl
structure Nq where
 out:List Int
 s:Int
 e:Int
def mj (secs:List ax) (pts:List aH) (turns:List Int) (i:Nat) (q:Nq):En:=(bo secs pts q.s q.e).getD (fF turns (bo secs pts q.s q.e).length i) dE
def bA (secs:List ax) (pts:List aH) (turns:List Int) (s e:Int):Nat→Nq
 |0=>⟨[s],s,e⟩
 |i+1=>⟨(bA secs pts turns s e i).out++[(mj secs pts turns i (bA secs pts turns s e i)).sec],(mj secs pts turns i (bA secs pts turns s e i)).sec,1-(mj secs pts turns i (bA secs pts turns s e i)).en⟩
theorem Ar (secs:List ax) (pts:List aH) (turns:List Int) (s e:Int) (i:Nat):(bA secs pts turns s e i).out.length=i+1:=by
 induction i with
 |zero=>rfl
 |succ i ih=>simp [bA,ih]
def wstop (secs:List ax) (pts:List aH) (turns:List Int) (s e:Int) (most:Int) (i:Nat):Bool:=
 decide (most≤((i:Int)+1))||decide ((bo secs pts (bA secs pts turns s e i).s (bA secs pts turns s e i).e).length=0)||decide ((mj secs pts turns i (bA secs pts turns s e i)).sec∈(bA secs pts turns s e i).out)
def jD (secs:List ax) (pts:List aH) (turns:List Int) (s e most:Int):Nat→Nat→List Int
 |0,i=>(bA secs pts turns s e i).out
 |f+1,i=>if wstop secs pts turns s e most i then (bA secs pts turns s e i).out else jD secs pts turns s e most f (i+1)
def nM (secs:List ax) (pts:List aH) (s e:Int) (turns:List Int) (most:Int):List Int:=jD secs pts turns s e most most.toNat 0
theorem zG {secs:List ax} {pts:List aH} {turns:List Int} {s e most:Int} {f i:Nat} (h:wstop secs pts turns s e most i=true):jD secs pts turns s e most f i=(bA secs pts turns s e i).out:=by
 cases f with
 |zero=>rfl
 |succ f=>simp [jD,h]
theorem PX {secs:List ax} {pts:List aH} {turns:List Int} {s e most:Int} {i:Nat} {l:List Int} (h:wstop secs pts turns s e most i=false) (hi:i<most.toNat) (inv:jD secs pts turns s e most (most.toNat-i) i=l):jD secs pts turns s e most (most.toNat-(i+1)) (i+1)=l:=by
 rw [show most.toNat-i=(most.toNat-(i+1))+1 by omega] at inv;rw [←inv];simp [jD,h]
theorem GQ (secs:List ax) (pts:List aH) (turns:List Int) (s e most:Int):∀(f i:Nat),(jD secs pts turns s e most f i).length≤f+i+1
 |0,i=>by simp [jD,Ar]
 |f+1,i=>by
  unfold jD
  split
  ·rw [Ar];omega
  ·have:=GQ secs pts turns s e most f (i+1);omega
theorem Gz (secs:List ax) (pts:List aH) (s e:Int) (turns:List Int) (most:Int):(nM secs pts s e turns most).length≤most.toNat+1:=GQ _ _ _ _ _ _ _ _
theorem OO {secs:List ax} {pts:List aH} {turns:List Int} {s e most:Int} {i:Nat} (h:most≤(i:Int)+1):wstop secs pts turns s e most i=true:=by simp [wstop,h]
theorem Oc {secs:List ax} {pts:List aH} {turns:List Int} {s e most:Int} {i:Nat} (h:(bo secs pts (bA secs pts turns s e i).s (bA secs pts turns s e i).e).length=0):wstop secs pts turns s e most i=true:=by simp [wstop,List.eq_nil_of_length_eq_zero h]
theorem Od {secs:List ax} {pts:List aH} {turns:List Int} {s e most:Int} {i:Nat} (h:(mj secs pts turns i (bA secs pts turns s e i)).sec∈(bA secs pts turns s e i).out):wstop secs pts turns s e most i=true:=by simp [wstop,h]
theorem PY {secs:List ax} {pts:List aH} {turns:List Int} {s e most:Int} {i:Nat} (h1:¬most≤(i:Int)+1) (h2:¬(bo secs pts (bA secs pts turns s e i).s (bA secs pts turns s e i).e).length=0) (h3:¬(mj secs pts turns i (bA secs pts turns s e i)).sec∈(bA secs pts turns s e i).out):wstop secs pts turns s e most i=false:=by
 simp only [wstop,h1,h2,h3,decide_false,Bool.or_false]
theorem I3 {a b:Int} (h:0≤a∧a≤255∧0<b):hY .u8 .quo a b=.int .u8 (a / b):=by
 have h1:a.tdiv b=a / b:=Int.tdiv_eq_ediv_of_nonneg h.1;have h2:0≤a / b:=Int.ediv_nonneg h.1 (by omega);have h3:a / b≤a:=Int.ediv_le_self b h.1;show Value.int .u8 (IntKind.u8.wrap (a.tdiv b))=_;rw [h1,IntWalk.u8_in _ (by omega)]
def JC (len:Int):Int:=10*(1+len % 20)
def gw (form:Int):Nat:=(3+form / 4 % 6).toNat
def hU:Nat→List Pr
 |0=>[]
 |k+1=>hU k++[⟨(k:Int),(k:Int)+1⟩]
theorem vG (k:Nat):(hU k).length=k:=by
 induction k with
 |zero=>rfl
 |succ k ih=>simp [hU,ih]
def d5 (form:Int):List Pr:=
 if form % 4=0 then hU (gw form)
 else if form % 4=1 then [⟨0,1⟩,⟨1,2⟩,⟨3,1⟩]
 else if form % 4=2 then [⟨0,1⟩,⟨1,2⟩,⟨2,3⟩,⟨2,4⟩,⟨5,3⟩,⟨4,5⟩,⟨5,6⟩,⟨6,7⟩]
 else [⟨0,1⟩,⟨2,1⟩,⟨2,3⟩,⟨2,4⟩,⟨3,5⟩,⟨4,6⟩]
def cz (form:Int):List aH:=
 if form % 4=0 then []
 else if form % 4=1 then [⟨1,0,1,2⟩]
 else if form % 4=2 then [⟨2,1,2,3⟩,⟨5,6,4,5⟩]
 else [⟨2,1,3,2⟩]
theorem rc (form:Int):3≤(d5 form).length∧(d5 form).length≤8:=by
 unfold d5
 repeat' split
 ·rw [vG];unfold gw;omega
 all_goals simp
theorem vw (form:Int):(cz form).length≤2:=by
 unfold cz
 repeat' split
 all_goals simp
def ff (form len:Int):Nat→List ax
 |0=>[]
 |k+1=>ff form len k++[⟨2*JC len+(k:Int) % 3,((d5 form).getD k dR).a,((d5 form).getD k dR).b⟩]
theorem zz (form len:Int) (k:Nat):(ff form len k).length=k:=by
 induction k with
 |zero=>rfl
 |succ k ih=>simp [ff,ih]
def c9 (form len:Int):List ax:=ff form len (d5 form).length
theorem vm (form len:Int):(c9 form len).length=(d5 form).length:=zz _ _ _
def kG (j:Int) (k:Nat):Bool:=decide (k>0)&&(((j.fdiv (2 ^ (k % 8))) % 2)==1)
def cv (j:Int):Nat→List (List Int)
 |0=>[]
 |k+1=>if kG j k then cv j k else if k=0 then [] else cv j k++[partT j k]
where partT (j:Int):Nat→List Int
 |0=>[]
 |k+1=>if kG j k then partT j k++[(k:Int)] else [(k:Int)]
def mh (j:Int) (k:Nat):List (List Int):=if k=0 then [] else cv j k++[cv.partT j k]
def ea (form j:Int):List (List Int):=mh j (d5 form).length
theorem zO (j:Int) (k:Nat):(cv.partT j k).length≤k:=by
 induction k with
 |zero=>simp [cv.partT]
 |succ k ih=>
  unfold cv.partT
  split
  all_goals first|omega|(simp;done)|(simp;omega)
theorem Hu (j:Int) (m:Nat):(cv j (m+1)).length≤m:=by
 induction m with
 |zero=>unfold cv;split<;>simp [cv]
 |succ m ih=>
  unfold cv
  repeat' split
  all_goals first|omega|(simp;done)|(simp;omega)
theorem OD (j:Int) (k:Nat):(mh j k).length≤k:=by
 unfold mh
 split
 ·simp
 ·cases k with
  |zero=>simp at*
  |succ k=>
   have:=Hu j k;simp only [List.length_append,List.length_cons,List.length_nil];omega
theorem vk {j:Int} {k:Nat} (h:kG j k=true):cv j (k+1)=cv j k∧cv.partT j (k+1)=cv.partT j k++[(k:Int)]:=by simp [cv,cv.partT,h]
theorem zP {j:Int} {k:Nat} (h:kG j k=false):cv j (k+1)=mh j k∧cv.partT j (k+1)=[(k:Int)]:=by
 constructor
 ·unfold cv mh;simp [h]
 ·simp [cv.partT,h]
def ei (j:Int) (k:Nat):Nat:=(cv j (k+1)).length+1
def nN (j:Int) (k:Nat):Nat:=(cv j (k+1)).length
theorem vR (j:Int) (k:Nat):ei j k=nN j k+1:=rfl
theorem PZ (j:Int) (k:Nat):ei j k≤k+1:=by have:=Hu j k;unfold ei;omega
theorem Gh (j:Int):kG j 0=false:=by simp [kG]
theorem Og {j:Int} {k:Nat} (h:kG j (k+1)=true):ei j (k+1)=ei j k:=by unfold ei;rw [(vk h).1]
theorem Gy {j:Int} {k:Nat} (h:kG j (k+1)=false):cv j (k+1+1)=cv j (k+1)++[cv.partT j (k+1)]:=by
 rw [(zP h).1];simp [mh]
theorem OQ {j:Int} {k:Nat} (h:kG j (k+1)=false):ei j (k+1)=ei j k+1:=by unfold ei;rw [Gy h];simp
theorem OU {form j:Int} {k:Nat} (h:k+1=(d5 form).length):enc YO (ea form j)=enc YO (cv j (k+1))++[.ro (cv.partT j (k+1)).length (enc eI (cv.partT j (k+1)))]:=by
 unfold ea;rw [←h];show enc YO (if k+1=0 then [] else _)=_;rw [if_neg (by omega),oB];rfl
theorem OT {form j:Int} {k:Nat} (h:k+1=(d5 form).length):(ea form j).length=ei j k:=by
 unfold ea;rw [←h];unfold mh;rw [if_neg (by omega)];simp [ei]
theorem Gv (j:Int):cv j (0+1)=[]:=by simp [cv,Gh]
theorem Gw (j:Int):cv.partT j (0+1)=[0]:=by simp [cv.partT,Gh]
theorem Oe (j:Int):ei j 0=1:=by simp [ei,Gv]
theorem Gx (j:Int) (k:Nat):kG j k=(decide (((k:Nat):Int)>0)&&(j.fdiv (2 ^ (k % 8)) % 2==1)):=by simp [kG]
theorem HM {j:Int} (h:0≤j∧j≤255) (n:Nat):hY .u8 .rem (j.fdiv (2 ^ n)) 2=.int .u8 (j.fdiv (2 ^ n) % 2):=by
 show Value.int .u8 ((j.fdiv (2 ^ n)).tmod 2)=_
 have h0:0≤j.fdiv (2 ^ n):=by
  rw [Int.fdiv_eq_ediv_of_nonneg _ (Int.le_of_lt (Int.pow_pos (by decide)))];exact Int.ediv_nonneg h.1 (Int.le_of_lt (Int.pow_pos (by decide)))
 rw [Int.tmod_eq_emod_of_nonneg h0]
theorem I2 {form:Int} (h:form % 4=0):d5 form=hU (gw form)∧cz form=[]:=by simp [d5,cz,h]
theorem I4 {form:Int} (h:form % 4=1):d5 form=[⟨0,1⟩,⟨1,2⟩,⟨3,1⟩]∧cz form=[⟨1,0,1,2⟩]:=by simp [d5,cz,h]
theorem I5 {form:Int} (h:form % 4=2):d5 form=[⟨0,1⟩,⟨1,2⟩,⟨2,3⟩,⟨2,4⟩,⟨5,3⟩,⟨4,5⟩,⟨5,6⟩,⟨6,7⟩]∧cz form=[⟨2,1,2,3⟩,⟨5,6,4,5⟩]:=by simp [d5,cz,h]
theorem I6 {form:Int} (h0:¬form % 4=0) (h1:¬form % 4=1) (h2:¬form % 4=2):d5 form=[⟨0,1⟩,⟨2,1⟩,⟨2,3⟩,⟨2,4⟩,⟨3,5⟩,⟨4,6⟩]∧cz form=[⟨2,1,3,2⟩]:=by simp [d5,cz,h0,h1,h2]
theorem VG {a b:Int} (ha:0≤a∧a≤100000) (hb:0≤b∧b≤100000): -9223372036854775808≤a*b∧a*b≤9223372036854775807:=by
 have h1:0≤a*b:=Int.mul_nonneg ha.1 hb.1;have h2:a*b≤100000*100000:=Int.mul_le_mul ha.2 hb.2 hb.1 (by decide);omega
theorem JV {a b:Int} (h:0<b):0≤a % b∧a % b<b:=⟨Int.emod_nonneg _ (by omega),Int.emod_lt_of_pos _ h⟩
theorem Oh {form len:Int} {k:Nat} (h:k=(d5 form).length):c9 form len=ff form len k:=by unfold c9;rw [h]
theorem Ha {form:Int} (h:0≤form∧form≤255):((gw form:Nat):Int)=3+form / 4 % 6:=by unfold gw;omega
def YL (secs:List ax) (pts:List aH) (x:List Int):List Int:=nM secs pts (x.getD 0 0 % (secs.length:Int)) (x.getD 0 0 / 128) (x.drop 2) (2+x.getD 1 0 % 5)
def ej (secs:List ax) (pts:List aH) (rs:List (List Int)):Nat→List (List Int)
 |0=>[]
 |k+1=>if (ej secs pts rs k).length≥16∨(rs.getD k []).length<2∨(YL secs pts (rs.getD k [])).length<2 then ej secs pts rs k else ej secs pts rs k++[YL secs pts (rs.getD k [])]
theorem FV (secs:List ax) (pts:List aH) (rs:List (List Int)) (k:Nat):(ej secs pts rs k).length≤k∧(ej secs pts rs k).length≤16:=by
 induction k with
 |zero=>simp [ej]
 |succ k ih=>
  unfold ej
  split
  ·omega
  ·rename_i h;simp only [not_or] at h;simp;omega
theorem NS {secs:List ax} {pts:List aH} {rs:List (List Int)} {k:Nat} (h:(ej secs pts rs k).length≥16) (j:Nat):ej secs pts rs (k+j)=ej secs pts rs k:=by
 induction j with
 |zero=>rfl
 |succ j ih=>
  rw [←Nat.add_assoc]
  conv=>lhs;unfold ej
  rw [ih];simp [h]
section
variable {P:Program} {E:cZ} {st:St} {K:St→Prop}
theorem lG {o:Oper} {t e sz d n l hgh:Nat} {x:Operand} {lo hi:Option Operand} {cells cells':List AV} (n':Nat) (ho:o.op=.slice t x lo hi none) (hd:o.dst=some d) (hN:(bh E.N x&&okO E.N lo&&okO E.N hi&&Nat.blt d E.N)=true)
  (ht:P.underlying t=some (.slice e)) (hsz:(P.info? e).map (·.size)=some sz) (hx:aU st.env x=.ro n cells) (hlo:nY st.env lo 0 l) (hhi:nY st.env hi n hgh) (h1:l≤hgh) (h2:hgh≤n) (hc':(cells.drop (l*sz)).take ((hgh-l)*sz)=cells') (hn:hgh-l=n')
  (h:K ⟨upd st.env d (.ro n' cells'),st.ob⟩):bY P E o st K:=by
 subst hn;exact zv ho hd hN ht hsz hx hlo hhi h1 h2 hc' h
end
def jR (rs:List (List Int)):Bool:= !(rs.any fun x=>decide (x.length>10))&&decide (rs.length≤20)
theorem Oi {rs:List (List Int)} {k:Nat} (hk:k<rs.length) (h:(rs.getD k []).length>10):jR rs=false:=by
 have:rs.any (fun x=>decide (x.length>10))=true:=List.any_eq_true.2 ⟨_,c8 [] hk,by simpa using h⟩;simp [jR,this]
theorem Oj {rs:List (List Int)} {k:Nat} (hk:rs.length≤k) (h:(rs.take k).any (fun x=>decide (x.length>10))=false):jR rs=decide (rs.length≤20):=by
 rw [List.take_of_length_le hk] at h;unfold jR;rw [h];rfl
theorem Oz {rs:List (List Int)} (h:jR rs=true):rs.length≤20∧∀x,x∈rs→x.length≤10:=by
 simp only [jR,Bool.and_eq_true,Bool.not_eq_true',decide_eq_true_eq] at h;refine ⟨h.2,fun x hx=>?_⟩;rcases Nat.lt_or_ge 10 x.length with hc|hc
 ·have:rs.any (fun x=>decide (x.length>10))=true:=List.any_eq_true.2 ⟨x,hx,by simpa using hc⟩;rw [h.1] at this;cases this
 ·exact hc
theorem FJ {secs:List ax} {pts:List aH} {rs:List (List Int)} {k:Nat} (h:(rs.getD k []).length<2∨(YL secs pts (rs.getD k [])).length<2):ej secs pts rs (k+1)=ej secs pts rs k:=by
 conv=>lhs;unfold ej
 rw [if_pos (.inr h)]
theorem NV {secs:List ax} {pts:List aH} {rs:List (List Int)} {k:Nat} (h0:(ej secs pts rs k).length<16) (h1:¬(rs.getD k []).length<2) (h2:¬(YL secs pts (rs.getD k [])).length<2):ej secs pts rs (k+1)=ej secs pts rs k++[YL secs pts (rs.getD k [])]:=by
 conv=>lhs;unfold ej
 rw [if_neg (by omega)]
def YQ (form len:Int) (rs:List (List Int)):List (List Int):=ej (c9 form len) (cz form) rs rs.length
theorem NK {form len:Int} {rs:List (List Int)} {k:Nat} (hk:k≤rs.length) (h:(ej (c9 form len) (cz form) rs k).length≥16∨rs.length≤k):ej (c9 form len) (cz form) rs k=YQ form len rs:=by
 unfold YQ;rcases h with h|h
 ·rw [←NS h (rs.length-k)];congr 1;omega
 ·rw [show k=rs.length by omega]
end Go.Lo
set_option linter.unusedVariables false
set_option linter.unusedSimpArgs false
namespace Go.Lo
section
variable {P:Program} {E:cZ} {st:St} {K:St→Prop}
def Src (E:cZ) (st:St) (y:Operand) (m:Nat) (cs:List AV):Prop:=
 ∀(C:Ctx) (a:Act) (w:World),SR E C st a w→∃ad cp,∃us:List Value,a.eval y=.slice (some ad) m cp∧us.length=cs.length∧(∀(j:Nat) (x:Value),us[j]? =some x→w.cell? (ad.add j)=some x)∧(∀x∈us,x.oneCell'=true)∧∀(j:Nat) (c:AV),cs[j]? =some c→∃x:Value,us[j]? =some x∧R w C c x
theorem S1 {y:Operand} {m:Nat} {cells cs:List AV} (k:Nat) (hN:bh E.N y=true) (hy:aU st.env y=.ro m cells) (hk:cells.take k=cs) (hm:0<m):Src E st y m cs:=fun C a w hs=>by
 have hr:=hs.ev y hN;rw [hy] at hr;obtain ⟨A,c,hu,h0,us,hl,h1,h2,h3⟩:=Aj hr
 cases A with
 |none=>have:=(h0 rfl).1;omega
 |some ad=>
  refine ⟨ad,c,us.take k,hu,by rw [←hk];simp [hl],fun j x hj=>?_,fun x hx=>h2 x (List.mem_of_mem_take hx),fun j c hj=>?_⟩
  ·rw [List.getElem?_take] at hj
   split at hj
   ·exact h1 ad rfl j x hj
   ·cases hj
  ·rw [←hk,List.getElem?_take] at hj
   split at hj
   ·rename_i hlt;obtain ⟨x,hx,hr⟩:=h3 j c hj;exact ⟨x,by rw [List.getElem?_take,if_pos hlt];exact hx,hr⟩
   ·cases hj
theorem S2 {y:Operand} {m id:Nat} {ob:ay} {cs:List AV} (k:Nat) (hN:bh E.N y=true) (hy:aU st.env y=.sl id 0 m) (hl:st.ob id=.live ob) (hk:ob.cells.take k=cs) (hm:0<m):Src E st y m cs:=fun C a w hs=>by
 have hr:=hs.ev y hN;rw [hy] at hr;generalize hu:a.eval y=u at hr
 cases hr with
 |sl _ _ _ c b hd hb hnc hmx hss=>
  obtain ⟨hown,cur,hh,hcs,hle,hcell⟩:=hs.obj.live id ob b hl hb
  have hlen:(cur.toList.take cs.length).length=cs.length:=by
   have:cs.length≤ob.cells.length:=by rw [←hk];simp;omega
   simp;omega
  refine ⟨_,c,cur.toList.take cs.length,rfl,hlen,fun j x hj=>?_,fun x hx=>?_,fun j c' hj=>?_⟩
  ·rw [List.getElem?_take] at hj
   split at hj
   ·rw [add_plain,Nat.zero_add];simp only [World.cell?,hh];simpa using hj
   ·cases hj
  ·obtain ⟨j,hj,rfl⟩:=List.getElem_of_mem hx
   have hjl:j<ob.cells.length:=by
    have:cs.length≤ob.cells.length:=by rw [←hk];simp;omega
    simp at hj;omega
   obtain ⟨y,hy2,h4,_⟩:=hcell j ob.cells[j] (List.getElem?_eq_getElem hjl);rw [List.getElem_take];have hj':j<cur.size:=by omega
   simp [hj'] at hy2;simpa [hy2] using h4
  ·have hjl:=(List.getElem?_eq_some_iff.1 hj).1;rw [←hk,List.getElem?_take] at hj
   split at hj
   ·obtain ⟨x,hx,_,hr⟩:=hcell j c' hj;exact ⟨x,by rw [List.getElem?_take,if_pos hjl];simpa using hx,hr⟩
   ·cases hj
 |slnil _ hd hb=>omega
theorem Hf {o:Oper} {c:Call} {t t2 e:TypeId} {x y:Operand} {id off n m k d:Nat} {s:Nat} {ob:ay} {cs cells':List AV} (ho:o.op=.call c) (hc:c={ callee:=.builtin .copy,args:= #[x,y],argTypes:= #[t,t2] }) (hd:o.dst=some d) (hN:(bh E.N x&&bh E.N y&&Nat.blt d E.N)=true)
  (ht:P.underlying t=some (.slice e)) (hsz:(P.info? e).map (·.size)=some s) (hx:aU st.env x=.sl id off n) (hl:st.ob id=.live ob) (hsrc:Src E st y m cs) (hk:Nat.min m n=k) (hcs:cs.length=k*s) (hk0:0<n) (hfit:off+k*s≤ob.cells.length) (hsp:spl ob.cells off cs=cells')
  (h:K ⟨upd st.env d (.v (.int .i64 (k:Int))),ah st.ob id (.live ⟨cells',ob.elem,ob.ci⟩)⟩):bY P E o st K:=by
 subst hc;rintro a w q ⟨C,hs⟩;simp only [Bool.and_eq_true] at hN;have hrx:=hs.ev x hN.1.1;rw [hx] at hrx;generalize eu:a.eval x=ux at hrx;obtain ⟨ad,cp,us,XZ,sJ,hu1,hu2,hu3⟩:=hsrc C a w hs
 cases hrx with
 |sl _ _ _ c b jM hb hnc hm hss=>
  obtain ⟨hown,cur,hh,hcsz,hle,hcell⟩:=hs.obj.live id ob b hl hb;have hfc:=run_firstCells_some (P:=P) w s k ad m cp us (by rw [sJ,hcs]) hu1;have hst:=run_storeCells_at P b off ob.elem us 0 cur w hh (by rw [sJ,hcs];omega) hu2
  have hrun:(execOp a.eval o).run P w=.ok (.value (.int .i64 (k:Int))) (w.setRow b (cur.toList.take off++us++cur.toList.drop (off+k*s)).toArray):=by
   rw [sJ,hcs] at hst;simp only [Nat.add_zero] at hst;simp [execOp,ho,resolve,invoke,builtin,Builtin.copy_,Builtin.lenOf,eu,XZ,run_underlying ht,run_sizeOf hsz,hk,hfc,hst,goInt]
  have hnew:=hs.Bn hl hb cells' (cur.toList.take off++us++cur.toList.drop (off+k*s)).toArray (by simp [sJ,hcs];omega) (by rw [←hsp];simp [spl,sJ,hcs];omega) (by
   rw [←hsp];refine GX (by rw [sJ,hcs]) hcs hfit hle hcell (fun j av hj=>?_);obtain ⟨u,hu,hr⟩:=hu3 j av hj;exact ⟨u,hu,hu2 u (List.mem_of_getElem? hu),hr⟩) o.dst (fun d' hd'=>by rw [hd] at hd';cases hd';exact bX hN.2) (.v (.int .i64 (k:Int))) (.int .i64 (k:Int)) (fun _=>.v _)
  unfold Oper.wp;rw [hrun];refine ⟨_,⟨_,hnew⟩,?_⟩;rw [hd];exact h
 |slnil _ jM hb=>omega
def da (k:IntKind) (a b:Int):Int:=k.wrap (BitVec.ofInt k.bits a&&& BitVec.ofInt k.bits b).toNat
theorem Ay {o:Oper} {t t':TypeId} {x y:Operand} {d:Nat} {k:IntKind} {a b:Int} (ho:o.op=.binOp .and t x y t') (hd:o.dst=some d) (hN:(bh E.N x&&bh E.N y&&Nat.blt d E.N)=true)
  (hx:aU st.env x=.v (.int k a)) (hy:aU st.env y=.v (.int k b)) (h:K ⟨upd st.env d (.v (.int k (da k a b))),st.ob⟩):bY P E o st K:=
 rF ho hd hN hx hy (fun w=>by simp [eqGuard,binOp,Op.intBits,da]) h
theorem sZ {o:Oper} {t t':TypeId} {x y:Operand} {d:Nat} {k k':IntKind} {a:Int} (n:Nat) (ho:o.op=.binOp .shr t x y t') (hd:o.dst=some d) (hN:(bh E.N x&&bh E.N y&&Nat.blt d E.N)=true)
  (hx:aU st.env x=.v (.int k a)) (hy:aU st.env y=.v (.int k' (n:Int))) (hn:n≤k.bits) (h:K ⟨upd st.env d (.v (.int k (a.fdiv (2 ^ n)))),st.ob⟩):bY P E o st K:=Au ho hd hN hx hy hn h
theorem RD {o:Oper} {c:Call} {ty:Array TypeId} {x y:Operand} {d:Nat} {k:IntKind} {a b r:Int} (ho:o.op=.call c) (hc:c={ callee:=.builtin .min,args:= #[x,y],argTypes:=ty }) (hd:o.dst=some d) (hN:(bh E.N x&&bh E.N y&&Nat.blt d E.N)=true)
  (hx:aU st.env x=.v (.int k a)) (hy:aU st.env y=.v (.int k b)) (hr:∀w,(Builtin.min_ ty o.type #[.int k a,.int k b]).run P w=.ok (.int k r) w) (h:K ⟨upd st.env d (.v (.int k r)),st.ob⟩):bY P E o st K:=by
 subst hc;simp only [Bool.and_eq_true] at hN;refine gu (.v (.int k r)) (fun d' hd'=>by rw [hd] at hd';cases hd';exact bX hN.2) (fun a' w C hs=>⟨.int k r,?_,.v _⟩) (by rw [hd];exact h);have h1:=hs.ev x hN.1.1;have h2:=hs.ev y hN.1.2;rw [hx] at h1;rw [hy] at h2;simp [execOp,ho,resolve,invoke,builtin,h1.fy,h2.fy,hr]
theorem vU {o:Oper} {d:Nat} {a b:AV} (h:bY P E o st (fun s=>s=⟨upd st.env d a,st.ob⟩)) (hab:a=b) (hk:K ⟨upd st.env d b,st.ob⟩):bY P E o st K:=by
 subst hab;exact h.mono fun s hs=>by rw [hs];exact hk
theorem WA {ty:Array TypeId} {t:TypeId} {k:IntKind} {a b r:Int} (h:(if b<a then b else a)=r):∀w,(Builtin.min_ ty t #[.int k a,.int k b]).run P w=.ok (.int k r) w:=fun w=>by subst h;rfl
end
end Go.Lo
