/- Part of the logic of values: what the law reaches. -/
import Derived.Test.YtdeajfldegcdaaaGreatPFnApm6
set_option linter.unusedVariables false
set_option linter.unusedSimpArgs false
namespace Go.Lo
structure aD where
 len:Int
 a:Int
 b:Int
structure aP where
 node:Int
 stem:Int
 left:Int
 right:Int
structure En where
 sec:Int
 en:Int
structure Pr where
 a:Int
 b:Int
def dS:aD:=⟨0,0,0⟩
def dP:aP:=⟨0,0,0,0⟩
def dE:En:=⟨0,0⟩
def Pw:Pr:=⟨0,0⟩
def aN (x:aD):List AV:=[.v (.int .i64 x.len),.v (.int .i64 x.a),.v (.int .i64 x.b)]
def aJ (x:aP):List AV:=[.v (.int .i64 x.node),.v (.int .i64 x.stem),.v (.int .i64 x.left),.v (.int .i64 x.right)]
def Vl (x:En):List AV:=[.v (.int .i64 x.sec),.v (.int .i64 x.en)]
def gL (x:Pr):List AV:=[.v (.int .i64 x.a),.v (.int .i64 x.b)]
def O5 (x:List Int):List AV:=[.ro x.length (enc eI x)]
def eUL (x:List Int):List AV:=[.ro x.length (enc aI x)]
def eC (_:Unit):List AV:=[.one]
instance (x:aD):VB (aN x):=by unfold aN;infer_instance
instance (x:aP):VB (aJ x):=by unfold aJ;infer_instance
instance (x:En):VB (Vl x):=by unfold Vl;infer_instance
instance (x:Pr):VB (gL x):=by unfold gL;infer_instance
instance (x:List Int):VB (O5 x):=by unfold O5;infer_instance
instance (x:List Int):VB (eUL x):=by unfold eUL;infer_instance
instance (x:Unit):VB (eC x):=by unfold eC;infer_instance
instance (x:aD):XA (aN x):=by unfold aN;infer_instance
instance (x:aP):XA (aJ x):=by unfold aJ;infer_instance
instance (x:En):XA (Vl x):=by unfold Vl;infer_instance
instance (x:Pr):XA (gL x):=by unfold gL;infer_instance
theorem acs {α:Type} {f:α→List AV} {s:Nat} (hf:∀x,(f x).length=s) (xs:List α) (l h:Nat):((enc f xs).drop (l*s)).take ((h-l)*s)=enc f ((xs.take h).drop l):=by
 rw [uo hf,oP hf,List.drop_take]
theorem Pt {α:Type} {f:α→List AV} {s:Nat} (hf:∀x,(f x).length=s) (xs:List α) (l n:Nat) (hn:n=xs.length):((enc f xs).drop (l*s)).take ((n-l)*s)=enc f (xs.drop l):=by
 rw [uo hf,oP hf,List.take_of_length_le (by simp;omega)]
def units:List Int:=[10,20,30,40,50,60,70,80,90,100,110,120,130,140,150,160,170,180,190,200]
theorem aj6 (len:Int):10*(1+len % 20)∈units:=by
 have h1:0≤len % 20:=Int.emod_nonneg _ (by decide);have h2:len % 20<20:=Int.emod_lt_of_pos _ (by decide);generalize len % 20=x at h1 h2;obtain ⟨n,rfl⟩:=Int.eq_ofNat_of_zero_le h1;have hn:n<20:=by omega
 have:∀n:Nat,n<20→10*(1+(n:Int))∈units:=by decide
 exact this n hn
theorem En.wD {x y:En} (h1:x.sec=y.sec) (h2:x.en=y.en):x=y:=by
 cases x;cases y;simp_all
instance:DecidableEq En:=fun x y=>if h:x.sec=y.sec∧x.en=y.en then isTrue (En.wD h.1 h.2) else isFalse fun e=>h (by rw [e];exact ⟨rfl,rfl⟩)
def dD (secs:List aD) (s e:Int):Bool:=decide (s<0)||decide (s≥(secs.length:Int))||decide (e<0)||decide (e>1)
def U6 (secs:List aD) (s e:Int):Int:=if dD secs s e then 0 else if e=0 then (secs.getD s.toNat dS).a else (secs.getD s.toNat dS).b
theorem yL {secs:List aD} {s e:Int} (h:dD secs s e=false):0≤s∧s<(secs.length:Int)∧0≤e∧e≤1:=by
 simp only [dD,Bool.or_eq_false_iff,decide_eq_false_iff_not] at h;omega
theorem zR {secs:List aD} {s e:Int} (h:dD secs s e=true):U6 secs s e=0:=by simp [U6,h]
theorem Ar {secs:List aD} {s e:Int} (h:dD secs s e=false) (he:e=0):U6 secs s e=(secs.getD s.toNat dS).a:=by unfold U6;rw [h,if_neg (by simp),if_pos he]
theorem ags {secs:List aD} {s e:Int} (h:dD secs s e=false) (he:¬e=0):U6 secs s e=(secs.getD s.toNat dS).b:=by unfold U6;rw [h,if_neg (by simp),if_neg he]
def Wg (secs:List aD) (at_:Int):Nat→List En
 |0=>[]
 |k+1=>Wg secs at_ k++(if (secs.getD k dS).a=at_ then [⟨(k:Int),0⟩] else [])++(if (secs.getD k dS).b=at_ then [⟨(k:Int),1⟩] else [])
theorem aaU (secs:List aD) (n:Int) (k:Nat):Wg secs n (k+1)=Wg secs n k++(if (secs.getD k dS).a=n then [⟨(k:Int),0⟩] else [])++(if (secs.getD k dS).b=n then [⟨(k:Int),1⟩] else []):=rfl
theorem ajw {secs:List aD} {n:Int} {k:Nat} (h1:¬(secs.getD k dS).a=n) (h2:¬(secs.getD k dS).b=n):Wg secs n (k+1)=Wg secs n k:=by
 rw [aaU,if_neg h1,if_neg h2,List.append_nil,List.append_nil]
theorem aju {secs:List aD} {n:Int} {k:Nat} (h1:(secs.getD k dS).a=n) (h2:¬(secs.getD k dS).b=n):Wg secs n (k+1)=Wg secs n k++[⟨(k:Int),0⟩]:=by
 rw [aaU,if_pos h1,if_neg h2,List.append_nil]
theorem ajv {secs:List aD} {n:Int} {k:Nat} (h1:¬(secs.getD k dS).a=n) (h2:(secs.getD k dS).b=n):Wg secs n (k+1)=Wg secs n k++[⟨(k:Int),1⟩]:=by
 rw [aaU,if_neg h1,if_pos h2,List.append_nil]
theorem GZ {secs:List aD} {n:Int} {k:Nat} (h1:(secs.getD k dS).a=n) (h2:(secs.getD k dS).b=n):Wg secs n (k+1)=Wg secs n k++[⟨(k:Int),0⟩]++[⟨(k:Int),1⟩]:=by
 rw [aaU,if_pos h1,if_pos h2]
def bK (secs:List aD) (at_:Int):List En:=Wg secs at_ secs.length
theorem ac_ (secs:List aD) (at_:Int) (k:Nat):(Wg secs at_ k).length≤2*k:=by
 induction k with
 |zero=>simp [Wg]
 |succ k ih=>simp only [Wg,List.length_append];split<;>split<;>simp<;>omega
theorem qU (secs:List aD) (at_:Int):(bK secs at_).length≤2*secs.length:=ac_ _ _ _
def aV (pts:List aP) (at_:Int):Int:=bX (fun p=>decide (p.node=at_)) pts
theorem oD {α:Type} (f:α→Bool) (d:α) (l:List α):bX f l= -1∨(0≤bX f l∧bX f l<(l.length:Int)):=by
 by_cases h:bX f l= -1
 ·exact .inl h
 ·obtain ⟨k,h1,h2,_⟩:=oC d h;rw [h1];omega
theorem PK (pts:List aP) (at_:Int):aV pts at_= -1∨(0≤aV pts at_∧aV pts at_<(pts.length:Int)):=oD _ dP _
def kN (s:Int) (l:List En):List En:=match l.find? (fun e=>decide (e.sec=s)) with|some e=>[e]|none=>[]
theorem FT (s:Int) (l:List En):(kN s l).length≤1:=by unfold kN;split<;>simp
theorem yS {s:Int} {l:List En} {k:Nat} (hk:k<l.length) (h1:(l.take k).any (fun e=>decide (e.sec=s))=false) (h2:(l.getD k dE).sec=s):kN s l=[l.getD k dE]:=by
 have hg:l=l.take k++l.getD k dE::l.drop (k+1):=by
  rw [List.getD_eq_getElem?_getD,List.getElem?_eq_getElem hk];simp
 have hn:(l.take k).find? (fun e=>decide (e.sec=s))=none:=by
  rw [List.find?_eq_none];intro x hx hc;have:(l.take k).any (fun e=>decide (e.sec=s))=true:=List.any_eq_true.2 ⟨x,hx,hc⟩;rw [h1] at this;cases this
 have:l.find? (fun e=>decide (e.sec=s))=some (l.getD k dE):=by
  conv=>lhs;rw [hg]
  rw [List.find?_append,hn,List.find?_cons_of_pos (by simpa using h2)];rfl
 unfold kN;rw [this]
theorem yT {s:Int} {l:List En} {k:Nat} (hk:l.length≤k) (h1:(l.take k).any (fun e=>decide (e.sec=s))=false):kN s l=[]:=by
 rw [List.take_of_length_le hk] at h1
 have:l.find? (fun e=>decide (e.sec=s))=none:=by
  rw [List.find?_eq_none];intro x hx hc;have:l.any (fun e=>decide (e.sec=s))=true:=List.any_eq_true.2 ⟨x,hx,hc⟩;rw [h1] at this;cases this
 unfold kN;rw [this]
theorem take1_drop {l:List En} {k:Nat} (hk:k<l.length):(l.drop k).take 1=[l.getD k dE]:=by
 rw [List.drop_eq_getElem_cons hk,List.getD_eq_getElem?_getD,List.getElem?_eq_getElem hk];rfl
def V1 (secs:List aD) (s at_:Int):List En:=kN s (bK secs at_)
theorem aaW (secs:List aD) (s at_:Int):(V1 secs s at_).length≤1:=FT _ _
def XS (secs:List aD) (at_ s e:Int) (k:Nat):List En:=((bK secs at_).take k).filter (fun x=> !decide (x.sec=s∧x.en=e))
theorem Fv (secs:List aD) (at_ s e:Int) (k:Nat):(XS secs at_ s e k).length≤k:=Nat.le_trans (List.length_filter_le _ _) (by simp;omega)
theorem ajj {α:Type} {f:α→Bool} (d:α) {l:List α} {k:Nat} (hk:k<l.length) (h:f (l.getD k d)=true):(l.take (k+1)).filter f=(l.take k).filter f++[l.getD k d]:=by
 rw [List.take_add_one,List.filter_append,List.getElem?_eq_getElem hk];rw [List.getD_eq_getElem?_getD,List.getElem?_eq_getElem hk] at h;simp only [Option.toList_some,Option.getD_some] at*;rw [List.filter_cons_of_pos h,List.filter_nil,List.getD_eq_getElem?_getD,List.getElem?_eq_getElem hk];rfl
theorem Fw {α:Type} {f:α→Bool} (d:α) {l:List α} {k:Nat} (hk:k<l.length) (h:f (l.getD k d)=false):(l.take (k+1)).filter f=(l.take k).filter f:=by
 rw [List.take_add_one,List.filter_append,List.getElem?_eq_getElem hk];rw [List.getD_eq_getElem?_getD,List.getElem?_eq_getElem hk] at h;simp only [Option.toList_some,Option.getD_some] at*;rw [List.filter_cons_of_neg (by simp [h]),List.filter_nil,List.append_nil]
def YW (secs:List aD) (at_ s e:Int):List En:=(bK secs at_).filter (fun x=> !decide (x.sec=s∧x.en=e))
theorem aex {secs:List aD} {at_ s e:Int} {k:Nat} (h:(bK secs at_).length≤k):XS secs at_ s e k=YW secs at_ s e:=by
 unfold XS YW;rw [List.take_of_length_le h]
def Vn (secs:List aD) (pts:List aP) (s e:Int):List En:=
 if dD secs s e then [] else
 if 0≤aV pts (U6 secs s e) then
  if s=(pts.getD (aV pts (U6 secs s e)).toNat dP).stem then V1 secs (pts.getD (aV pts (U6 secs s e)).toNat dP).left (U6 secs s e)++V1 secs (pts.getD (aV pts (U6 secs s e)).toNat dP).right (U6 secs s e)
  else if s=(pts.getD (aV pts (U6 secs s e)).toNat dP).left∨s=(pts.getD (aV pts (U6 secs s e)).toNat dP).right then V1 secs (pts.getD (aV pts (U6 secs s e)).toNat dP).stem (U6 secs s e)
  else []
 else if (YW secs (U6 secs s e) s e).length=1 then YW secs (U6 secs s e) s e else []
theorem af3 (secs:List aD) (pts:List aP) (s e:Int):(Vn secs pts s e).length≤2:=by
 unfold Vn;have h1:=aaW secs (pts.getD (aV pts (U6 secs s e)).toNat dP).left (U6 secs s e);have h2:=aaW secs (pts.getD (aV pts (U6 secs s e)).toNat dP).right (U6 secs s e);have h3:=aaW secs (pts.getD (aV pts (U6 secs s e)).toNat dP).stem (U6 secs s e)
 repeat' split
 all_goals (try simp only [List.length_append,List.length_nil]);omega
theorem agc {secs:List aD} {pts:List aP} {s e:Int} (hn:dD secs s e=true):Vn secs pts s e=[]:=by unfold Vn;rw [if_pos hn]
theorem yU {secs:List aD} {pts:List aP} {s e:Int} (hn:dD secs s e=false) (hi:0≤aV pts (U6 secs s e)) (hs:s=(pts.getD (aV pts (U6 secs s e)).toNat dP).stem):
  Vn secs pts s e=V1 secs (pts.getD (aV pts (U6 secs s e)).toNat dP).left (U6 secs s e)++V1 secs (pts.getD (aV pts (U6 secs s e)).toNat dP).right (U6 secs s e):=by
 unfold Vn;rw [if_neg (by simp [hn]),if_pos hi,if_pos hs]
theorem aew {secs:List aD} {pts:List aP} {s e:Int} (hn:dD secs s e=false) (hi:0≤aV pts (U6 secs s e)) (hs:¬s=(pts.getD (aV pts (U6 secs s e)).toNat dP).stem) (hl:s=(pts.getD (aV pts (U6 secs s e)).toNat dP).left∨s=(pts.getD (aV pts (U6 secs s e)).toNat dP).right):
  Vn secs pts s e=V1 secs (pts.getD (aV pts (U6 secs s e)).toNat dP).stem (U6 secs s e):=by
 unfold Vn;rw [if_neg (by simp [hn]),if_pos hi,if_neg hs,if_pos hl]
theorem af7 {secs:List aD} {pts:List aP} {s e:Int} (hn:dD secs s e=false) (hi:0≤aV pts (U6 secs s e)) (hs:¬s=(pts.getD (aV pts (U6 secs s e)).toNat dP).stem) (hl:¬(s=(pts.getD (aV pts (U6 secs s e)).toNat dP).left∨s=(pts.getD (aV pts (U6 secs s e)).toNat dP).right)):
  Vn secs pts s e=[]:=by
 unfold Vn;rw [if_neg (by simp [hn]),if_pos hi,if_neg hs,if_neg hl]
theorem y7 {secs:List aD} {pts:List aP} {s e:Int} (hn:dD secs s e=false) (hi:¬0≤aV pts (U6 secs s e)) (h:(YW secs (U6 secs s e) s e).length=1):Vn secs pts s e=YW secs (U6 secs s e) s e:=by
 unfold Vn;rw [if_neg (by simp [hn]),if_neg hi,if_pos h]
theorem yV {secs:List aD} {pts:List aP} {s e:Int} (hn:dD secs s e=false) (hi:¬0≤aV pts (U6 secs s e)) (h:¬(YW secs (U6 secs s e) s e).length=1):Vn secs pts s e=[]:=by
 unfold Vn;rw [if_neg (by simp [hn]),if_neg hi,if_neg h]
theorem uJ {secs:List aD} {n:Int} {x:En}:∀k,x∈Wg secs n k→x.en=0∨x.en=1
 |0,h=>by cases h
 |k+1,h=>by
  rw [aaU] at h;rcases List.mem_append.1 h with h|h
  ·rcases List.mem_append.1 h with h|h
   ·exact uJ k h
   ·split at h
    ·simp at h;subst h;exact .inl rfl
    ·cases h
  ·split at h
   ·simp at h;subst h;exact .inr rfl
   ·cases h
theorem aga {s:Int} {l:List En} {x:En} (h:x∈kN s l):x∈l:=by
 unfold kN at h
 split at h
 ·rename_i e he;simp at h;subst h;exact List.mem_of_find?_eq_some he
 ·cases h
theorem agd {secs:List aD} {pts:List aP} {s e:Int} {x:En} (h:x∈Vn secs pts s e):x.en=0∨x.en=1:=by
 have h1:∀{a b:Int},x∈V1 secs a b→x.en=0∨x.en=1:=fun hx=>uJ _ (aga hx);unfold Vn at h
 repeat' split at h
 ·cases h
 ·rcases List.mem_append.1 h with h|h
  ·exact h1 h
  ·exact h1 h
 ·exact h1 h
 ·cases h
 ·exact uJ _ (List.mem_filter.1 h).1
 ·cases h
theorem VR {α:Type} {l:List α} {k:Nat} (d:α) (h:k<l.length):l.getD k d∈l:=by
 rw [List.getD_eq_getElem?_getD,List.getElem?_eq_getElem h];exact List.getElem_mem h
def dZ (turns:List Int) (n i:Nat):Nat:=if i<turns.length then (turns.getD i 0).toNat % n else 0
theorem uS {turns:List Int} {n i:Nat} (h:0<n):dZ turns n i<n:=by
 unfold dZ
 split
 ·exact Nat.mod_lt _ h
 ·exact h
theorem Au {turns:List Int} {n i:Nat} (h:i<turns.length) (hu:0≤turns.getD i 0):turns.getD i 0 % (n:Int)=((dZ turns n i:Nat):Int):=by
 unfold dZ;rw [if_pos h];obtain ⟨m,hm⟩:=Int.eq_ofNat_of_zero_le hu;rw [hm];rfl
theorem zU {turns:List Int} {n i:Nat} (h:¬i<turns.length):(0:Int)=((dZ turns n i:Nat):Int):=by
 unfold dZ;rw [if_neg h];rfl
structure EM where
 out:List Int
 s:Int
 e:Int
def jD (secs:List aD) (pts:List aP) (turns:List Int) (i:Nat) (q:EM):En:=(Vn secs pts q.s q.e).getD (dZ turns (Vn secs pts q.s q.e).length i) dE
def aW (secs:List aD) (pts:List aP) (turns:List Int) (s e:Int):Nat→EM
 |0=>⟨[s],s,e⟩
 |i+1=>⟨(aW secs pts turns s e i).out++[(jD secs pts turns i (aW secs pts turns s e i)).sec],(jD secs pts turns i (aW secs pts turns s e i)).sec,1-(jD secs pts turns i (aW secs pts turns s e i)).en⟩
theorem uR (secs:List aD) (pts:List aP) (turns:List Int) (s e:Int) (i:Nat):(aW secs pts turns s e i).out.length=i+1:=by
 induction i with
 |zero=>rfl
 |succ i ih=>simp [aW,ih]
def wstop (secs:List aD) (pts:List aP) (turns:List Int) (s e:Int) (most:Int) (i:Nat):Bool:=
 decide (most≤((i:Int)+1))||decide ((Vn secs pts (aW secs pts turns s e i).s (aW secs pts turns s e i).e).length=0)||decide ((jD secs pts turns i (aW secs pts turns s e i)).sec∈(aW secs pts turns s e i).out)
def X3 (secs:List aD) (pts:List aP) (turns:List Int) (s e most:Int):Nat→Nat→List Int
 |0,i=>(aW secs pts turns s e i).out
 |f+1,i=>if wstop secs pts turns s e most i then (aW secs pts turns s e i).out else X3 secs pts turns s e most f (i+1)
def kQ (secs:List aD) (pts:List aP) (s e:Int) (turns:List Int) (most:Int):List Int:=X3 secs pts turns s e most most.toNat 0
theorem aey {secs:List aD} {pts:List aP} {turns:List Int} {s e most:Int} {f i:Nat} (h:wstop secs pts turns s e most i=true):X3 secs pts turns s e most f i=(aW secs pts turns s e i).out:=by
 cases f with
 |zero=>rfl
 |succ f=>simp [X3,h]
theorem ajx {secs:List aD} {pts:List aP} {turns:List Int} {s e most:Int} {i:Nat} {l:List Int} (h:wstop secs pts turns s e most i=false) (hi:i<most.toNat) (inv:X3 secs pts turns s e most (most.toNat-i) i=l):X3 secs pts turns s e most (most.toNat-(i+1)) (i+1)=l:=by
 rw [show most.toNat-i=(most.toNat-(i+1))+1 by omega] at inv;rw [←inv];simp [X3,h]
theorem zG (secs:List aD) (pts:List aP) (turns:List Int) (s e most:Int):∀(f i:Nat),(X3 secs pts turns s e most f i).length≤f+i+1
 |0,i=>by simp [X3,uR]
 |f+1,i=>by
  unfold X3
  split
  ·rw [uR];omega
  ·have:=zG secs pts turns s e most f (i+1);omega
theorem agi (secs:List aD) (pts:List aP) (s e:Int) (turns:List Int) (most:Int):(kQ secs pts s e turns most).length≤most.toNat+1:=zG _ _ _ _ _ _ _ _
theorem ajk {secs:List aD} {pts:List aP} {turns:List Int} {s e most:Int} {i:Nat} (h:most≤(i:Int)+1):wstop secs pts turns s e most i=true:=by simp [wstop,h]
theorem Fx {secs:List aD} {pts:List aP} {turns:List Int} {s e most:Int} {i:Nat} (h:(Vn secs pts (aW secs pts turns s e i).s (aW secs pts turns s e i).e).length=0):wstop secs pts turns s e most i=true:=by simp [wstop,List.eq_nil_of_length_eq_zero h]
theorem Fy {secs:List aD} {pts:List aP} {turns:List Int} {s e most:Int} {i:Nat} (h:(jD secs pts turns i (aW secs pts turns s e i)).sec∈(aW secs pts turns s e i).out):wstop secs pts turns s e most i=true:=by simp [wstop,h]
theorem G5 {secs:List aD} {pts:List aP} {turns:List Int} {s e most:Int} {i:Nat} (h1:¬most≤(i:Int)+1) (h2:¬(Vn secs pts (aW secs pts turns s e i).s (aW secs pts turns s e i).e).length=0) (h3:¬(jD secs pts turns i (aW secs pts turns s e i)).sec∈(aW secs pts turns s e i).out):wstop secs pts turns s e most i=false:=by
 simp only [wstop,h1,h2,h3,decide_false,Bool.or_false]
theorem BF {a b:Int} (h:0≤a∧a≤255∧0<b):Xv .u8 .quo a b=.int .u8 (a / b):=by
 have h1:a.tdiv b=a / b:=Int.tdiv_eq_ediv_of_nonneg h.1;have h2:0≤a / b:=Int.ediv_nonneg h.1 (by omega);have h3:a / b≤a:=Int.ediv_le_self b h.1;show Value.int .u8 (IntKind.u8.wrap (a.tdiv b))=_;rw [h1,IntWalk.u8_in _ (by omega)]
def agU (len:Int):Int:=10*(1+len % 20)
def W_ (form:Int):Nat:=(3+form / 4 % 6).toNat
def eX:Nat→List Pr
 |0=>[]
 |k+1=>eX k++[⟨(k:Int),(k:Int)+1⟩]
theorem ade (k:Nat):(eX k).length=k:=by
 induction k with
 |zero=>rfl
 |succ k ih=>simp [eX,ih]
def V6 (form:Int):List Pr:=
 if form % 4=0 then eX (W_ form)
 else if form % 4=1 then [⟨0,1⟩,⟨1,2⟩,⟨3,1⟩]
 else if form % 4=2 then [⟨0,1⟩,⟨1,2⟩,⟨2,3⟩,⟨2,4⟩,⟨5,3⟩,⟨4,5⟩,⟨5,6⟩,⟨6,7⟩]
 else [⟨0,1⟩,⟨2,1⟩,⟨2,3⟩,⟨2,4⟩,⟨3,5⟩,⟨4,6⟩]
def bE (form:Int):List aP:=
 if form % 4=0 then []
 else if form % 4=1 then [⟨1,0,1,2⟩]
 else if form % 4=2 then [⟨2,1,2,3⟩,⟨5,6,4,5⟩]
 else [⟨2,1,3,2⟩]
theorem ni (form:Int):3≤(V6 form).length∧(V6 form).length≤8:=by
 unfold V6
 repeat' split
 ·rw [ade];unfold W_;omega
 all_goals simp
theorem qV (form:Int):(bE form).length≤2:=by
 unfold bE
 repeat' split
 all_goals simp
def dO (form len:Int):Nat→List aD
 |0=>[]
 |k+1=>dO form len k++[⟨2*agU len+(k:Int) % 3,((V6 form).getD k Pw).a,((V6 form).getD k Pw).b⟩]
theorem tZ (form len:Int) (k:Nat):(dO form len k).length=k:=by
 induction k with
 |zero=>rfl
 |succ k ih=>simp [dO,ih]
def VI (form len:Int):List aD:=dO form len (V6 form).length
theorem qO (form len:Int):(VI form len).length=(V6 form).length:=tZ _ _ _
def Yy (j:Int) (k:Nat):Bool:=decide (k>0)&&(((j.fdiv (2 ^ (k % 8))) % 2)==1)
def bA (j:Int):Nat→List (List Int)
 |0=>[]
 |k+1=>if Yy j k then bA j k else if k=0 then [] else bA j k++[partT j k]
where partT (j:Int):Nat→List Int
 |0=>[]
 |k+1=>if Yy j k then partT j k++[(k:Int)] else [(k:Int)]
def jC (j:Int) (k:Nat):List (List Int):=if k=0 then [] else bA j k++[bA.partT j k]
def V8 (form j:Int):List (List Int):=jC j (V6 form).length
theorem aeC (j:Int) (k:Nat):(bA.partT j k).length≤k:=by
 induction k with
 |zero=>simp [bA.partT]
 |succ k ih=>
  unfold bA.partT
  split
  all_goals first|omega|(simp;done)|(simp;omega)
theorem Ab (j:Int) (m:Nat):(bA j (m+1)).length≤m:=by
 induction m with
 |zero=>unfold bA;split<;>simp [bA]
 |succ m ih=>
  unfold bA
  repeat' split
  all_goals first|omega|(simp;done)|(simp;omega)
theorem FU (j:Int) (k:Nat):(jC j k).length≤k:=by
 unfold jC
 split
 ·simp
 ·cases k with
  |zero=>simp at*
  |succ k=>
   have:=Ab j k;simp only [List.length_append,List.length_cons,List.length_nil];omega
theorem PO {j:Int} {k:Nat} (h:Yy j k=true):bA j (k+1)=bA j k∧bA.partT j (k+1)=bA.partT j k++[(k:Int)]:=by simp [bA,bA.partT,h]
theorem uf {j:Int} {k:Nat} (h:Yy j k=false):bA j (k+1)=jC j k∧bA.partT j (k+1)=[(k:Int)]:=by
 constructor
 ·unfold bA jC;simp [h]
 ·simp [bA.partT,h]
def Wb (j:Int) (k:Nat):Nat:=(bA j (k+1)).length+1
def aae (j:Int) (k:Nat):Nat:=(bA j (k+1)).length
theorem adk (j:Int) (k:Nat):Wb j k=aae j k+1:=rfl
theorem G6 (j:Int) (k:Nat):Wb j k≤k+1:=by have:=Ab j k;unfold Wb;omega
theorem zi (j:Int):Yy j 0=false:=by simp [Yy]
theorem ajd {j:Int} {k:Nat} (h:Yy j (k+1)=true):Wb j (k+1)=Wb j k:=by unfold Wb;rw [(PO h).1]
theorem zx {j:Int} {k:Nat} (h:Yy j (k+1)=false):bA j (k+1+1)=bA j (k+1)++[bA.partT j (k+1)]:=by
 rw [(uf h).1];simp [jC]
theorem F4 {j:Int} {k:Nat} (h:Yy j (k+1)=false):Wb j (k+1)=Wb j k+1:=by unfold Wb;rw [zx h];simp
theorem F8 {form j:Int} {k:Nat} (h:k+1=(V6 form).length):enc O5 (V8 form j)=enc O5 (bA j (k+1))++[.ro (bA.partT j (k+1)).length (enc eI (bA.partT j (k+1)))]:=by
 unfold V8;rw [←h];show enc O5 (if k+1=0 then [] else _)=_;rw [if_neg (by omega),oL];rfl
theorem F7 {form j:Int} {k:Nat} (h:k+1=(V6 form).length):(V8 form j).length=Wb j k:=by
 unfold V8;rw [←h];unfold jC;rw [if_neg (by omega)];simp [Wb]
theorem zu (j:Int):bA j (0+1)=[]:=by simp [bA,zi]
theorem agh (j:Int):bA.partT j (0+1)=[0]:=by simp [bA.partT,zi]
theorem Fz (j:Int):Wb j 0=1:=by simp [Wb,zu]
theorem zw (j:Int) (k:Nat):Yy j k=(decide (((k:Nat):Int)>0)&&(j.fdiv (2 ^ (k % 8)) % 2==1)):=by simp [Yy]
theorem Av {j:Int} (h:0≤j∧j≤255) (n:Nat):Xv .u8 .rem (j.fdiv (2 ^ n)) 2=.int .u8 (j.fdiv (2 ^ n) % 2):=by
 show Value.int .u8 ((j.fdiv (2 ^ n)).tmod 2)=_
 have h0:0≤j.fdiv (2 ^ n):=by
  rw [Int.fdiv_eq_ediv_of_nonneg _ (Int.le_of_lt (Int.pow_pos (by decide)))];exact Int.ediv_nonneg h.1 (Int.le_of_lt (Int.pow_pos (by decide)))
 rw [Int.tmod_eq_emod_of_nonneg h0]
theorem agO {form:Int} (h:form % 4=0):V6 form=eX (W_ form)∧bE form=[]:=by simp [V6,bE,h]
theorem BG {form:Int} (h:form % 4=1):V6 form=[⟨0,1⟩,⟨1,2⟩,⟨3,1⟩]∧bE form=[⟨1,0,1,2⟩]:=by simp [V6,bE,h]
theorem BH {form:Int} (h:form % 4=2):V6 form=[⟨0,1⟩,⟨1,2⟩,⟨2,3⟩,⟨2,4⟩,⟨5,3⟩,⟨4,5⟩,⟨5,6⟩,⟨6,7⟩]∧bE form=[⟨2,1,2,3⟩,⟨5,6,4,5⟩]:=by simp [V6,bE,h]
theorem BI {form:Int} (h0:¬form % 4=0) (h1:¬form % 4=1) (h2:¬form % 4=2):V6 form=[⟨0,1⟩,⟨2,1⟩,⟨2,3⟩,⟨2,4⟩,⟨3,5⟩,⟨4,6⟩]∧bE form=[⟨2,1,3,2⟩]:=by simp [V6,bE,h0,h1,h2]
theorem LY {a b:Int} (ha:0≤a∧a≤100000) (hb:0≤b∧b≤100000): -9223372036854775808≤a*b∧a*b≤9223372036854775807:=by
 have h1:0≤a*b:=Int.mul_nonneg ha.1 hb.1;have h2:a*b≤100000*100000:=Int.mul_le_mul ha.2 hb.2 hb.1 (by decide);omega
theorem Cm {a b:Int} (h:0<b):0≤a % b∧a % b<b:=⟨Int.emod_nonneg _ (by omega),Int.emod_lt_of_pos _ h⟩
theorem FB {form len:Int} {k:Nat} (h:k=(V6 form).length):VI form len=dO form len k:=by unfold VI;rw [h]
theorem zW {form:Int} (h:0≤form∧form≤255):((W_ form:Nat):Int)=3+form / 4 % 6:=by unfold W_;omega
def aax (secs:List aD) (pts:List aP) (x:List Int):List Int:=kQ secs pts (x.getD 0 0 % (secs.length:Int)) (x.getD 0 0 / 128) (x.drop 2) (2+x.getD 1 0 % 5)
def dh (secs:List aD) (pts:List aP) (rs:List (List Int)):Nat→List (List Int)
 |0=>[]
 |k+1=>if (dh secs pts rs k).length≥16∨(rs.getD k []).length<2∨(aax secs pts (rs.getD k [])).length<2 then dh secs pts rs k else dh secs pts rs k++[aax secs pts (rs.getD k [])]
theorem yY (secs:List aD) (pts:List aP) (rs:List (List Int)) (k:Nat):(dh secs pts rs k).length≤k∧(dh secs pts rs k).length≤16:=by
 induction k with
 |zero=>simp [dh]
 |succ k ih=>
  unfold dh
  split
  ·omega
  ·rename_i h;simp only [not_or] at h;simp;omega
theorem ai9 {secs:List aD} {pts:List aP} {rs:List (List Int)} {k:Nat} (h:(dh secs pts rs k).length≥16) (j:Nat):dh secs pts rs (k+j)=dh secs pts rs k:=by
 induction j with
 |zero=>rfl
 |succ j ih=>
  rw [←Nat.add_assoc]
  conv=>lhs;unfold dh
  rw [ih];simp [h]
section
variable {P:Program} {E:VC} {st:St} {K:St→Prop}
theorem ZG {o:Oper} {t e sz d n l hgh:Nat} {x:Operand} {lo hi:Option Operand} {cells cells':List AV} (n':Nat) (ho:o.op=.slice t x lo hi none) (hd:o.dst=some d) (hN:(aT E.N x&&okO E.N lo&&okO E.N hi&&Nat.blt d E.N)=true)
  (ht:P.underlying t=some (.slice e)) (hsz:(P.info? e).map (·.size)=some sz) (hx:aO st.env x=.ro n cells) (hlo:kX st.env lo 0 l) (hhi:kX st.env hi n hgh) (h1:l≤hgh) (h2:hgh≤n) (hc':(cells.drop (l*sz)).take ((hgh-l)*sz)=cells') (hn:hgh-l=n')
  (h:K ⟨upd st.env d (.ro n' cells'),st.ob⟩):Vo P E o st K:=by
 subst hn;exact yR ho hd hN ht hsz hx hlo hhi h1 h2 hc' h
end
def gX (rs:List (List Int)):Bool:= !(rs.any fun x=>decide (x.length>10))&&decide (rs.length≤20)
theorem FC {rs:List (List Int)} {k:Nat} (hk:k<rs.length) (h:(rs.getD k []).length>10):gX rs=false:=by
 have:rs.any (fun x=>decide (x.length>10))=true:=List.any_eq_true.2 ⟨_,VR [] hk,by simpa using h⟩;simp [gX,this]
theorem FD {rs:List (List Int)} {k:Nat} (hk:rs.length≤k) (h:(rs.take k).any (fun x=>decide (x.length>10))=false):gX rs=decide (rs.length≤20):=by
 rw [List.take_of_length_le hk] at h;unfold gX;rw [h];rfl
theorem FP {rs:List (List Int)} (h:gX rs=true):rs.length≤20∧∀x,x∈rs→x.length≤10:=by
 simp only [gX,Bool.and_eq_true,Bool.not_eq_true',decide_eq_true_eq] at h;refine ⟨h.2,fun x hx=>?_⟩;rcases Nat.lt_or_ge 10 x.length with hc|hc
 ·have:rs.any (fun x=>decide (x.length>10))=true:=List.any_eq_true.2 ⟨x,hx,by simpa using hc⟩;rw [h.1] at this;cases this
 ·exact hc
theorem yM {secs:List aD} {pts:List aP} {rs:List (List Int)} {k:Nat} (h:(rs.getD k []).length<2∨(aax secs pts (rs.getD k [])).length<2):dh secs pts rs (k+1)=dh secs pts rs k:=by
 conv=>lhs;unfold dh
 rw [if_pos (.inr h)]
theorem Fg {secs:List aD} {pts:List aP} {rs:List (List Int)} {k:Nat} (h0:(dh secs pts rs k).length<16) (h1:¬(rs.getD k []).length<2) (h2:¬(aax secs pts (rs.getD k [])).length<2):dh secs pts rs (k+1)=dh secs pts rs k++[aax secs pts (rs.getD k [])]:=by
 conv=>lhs;unfold dh
 rw [if_neg (by omega)]
def aas (form len:Int) (rs:List (List Int)):List (List Int):=dh (VI form len) (bE form) rs rs.length
theorem ai7 {form len:Int} {rs:List (List Int)} {k:Nat} (hk:k≤rs.length) (h:(dh (VI form len) (bE form) rs k).length≥16∨rs.length≤k):dh (VI form len) (bE form) rs k=aas form len rs:=by
 unfold aas;rcases h with h|h
 ·rw [←ai9 h (rs.length-k)];congr 1;omega
 ·rw [show k=rs.length by omega]
end Go.Lo
set_option linter.unusedVariables false
set_option linter.unusedSimpArgs false
namespace Go.Lo
section
variable {P:Program} {E:VC} {st:St} {K:St→Prop}
def Src (E:VC) (st:St) (y:Operand) (m:Nat) (cs:List AV):Prop:=
 ∀(C:Ctx) (a:Act) (w:World),SR E C st a w→∃ad cp,∃us:List Value,a.eval y=.slice (some ad) m cp∧us.length=cs.length∧(∀(j:Nat) (x:Value),us[j]? =some x→w.cell? (ad.add j)=some x)∧(∀x∈us,x.oneCell'=true)∧∀(j:Nat) (c:AV),cs[j]? =some c→∃x:Value,us[j]? =some x∧R w C c x
theorem JI {y:Operand} {m:Nat} {cells cs:List AV} (k:Nat) (hN:aT E.N y=true) (hy:aO st.env y=.ro m cells) (hk:cells.take k=cs) (hm:0<m):Src E st y m cs:=fun C a w hs=>by
 have hr:=hs.ev y hN;rw [hy] at hr;obtain ⟨A,c,hu,h0,us,hl,h1,h2,h3⟩:=uK hr
 cases A with
 |none=>have:=(h0 rfl).1;omega
 |some ad=>
  refine ⟨ad,c,us.take k,hu,by rw [←hk];simp [hl],fun j x hj=>?_,fun x hx=>h2 x (List.mem_of_mem_take hx),fun j c hj=>?_⟩
  ·rw [List.getElem?_take] at hj
   split at hj
   ·exact h1 ad rfl j x hj
   ·cases hj
  ·rw [←hk,List.getElem?_take] at hj
   split at hj
   ·rename_i hlt;obtain ⟨x,hx,hr⟩:=h3 j c hj;exact ⟨x,by rw [List.getElem?_take,if_pos hlt];exact hx,hr⟩
   ·cases hj
theorem JJ {y:Operand} {m id:Nat} {ob:aC} {cs:List AV} (k:Nat) (hN:aT E.N y=true) (hy:aO st.env y=.sl id 0 m) (hl:st.ob id=.live ob) (hk:ob.cells.take k=cs) (hm:0<m):Src E st y m cs:=fun C a w hs=>by
 have hr:=hs.ev y hN;rw [hy] at hr;generalize hu:a.eval y=u at hr
 cases hr with
 |sl _ _ _ c b hd hb hnc hmx hss=>
  obtain ⟨hown,cur,hh,hcs,hle,hcell⟩:=hs.obj.live id ob b hl hb
  have hlen:(cur.toList.take cs.length).length=cs.length:=by
   have:cs.length≤ob.cells.length:=by rw [←hk];simp;omega
   simp;omega
  refine ⟨_,c,cur.toList.take cs.length,rfl,hlen,fun j x hj=>?_,fun x hx=>?_,fun j c' hj=>?_⟩
  ·rw [List.getElem?_take] at hj
   split at hj
   ·rw [add_plain,Nat.zero_add];simp only [World.cell?,hh];simpa using hj
   ·cases hj
  ·obtain ⟨j,hj,rfl⟩:=List.getElem_of_mem hx
   have hjl:j<ob.cells.length:=by
    have:cs.length≤ob.cells.length:=by rw [←hk];simp;omega
    simp at hj;omega
   obtain ⟨y,hy2,h4,_⟩:=hcell j ob.cells[j] (List.getElem?_eq_getElem hjl);rw [List.getElem_take];have hj':j<cur.size:=by omega
   simp [hj'] at hy2;simpa [hy2] using h4
  ·have hjl:=(List.getElem?_eq_some_iff.1 hj).1;rw [←hk,List.getElem?_take] at hj
   split at hj
   ·obtain ⟨x,hx,_,hr⟩:=hcell j c' hj;exact ⟨x,by rw [List.getElem?_take,if_pos hjl];simpa using hx,hr⟩
   ·cases hj
 |slnil _ hd hb=>omega
theorem agm {o:Oper} {c:Call} {t t2 e:TypeId} {x y:Operand} {id off n m k d:Nat} {s:Nat} {ob:aC} {cs cells':List AV} (ho:o.op=.call c) (hc:c={ callee:=.builtin .copy,args:= #[x,y],argTypes:= #[t,t2] }) (hd:o.dst=some d) (hN:(aT E.N x&&aT E.N y&&Nat.blt d E.N)=true)
  (ht:P.underlying t=some (.slice e)) (hsz:(P.info? e).map (·.size)=some s) (hx:aO st.env x=.sl id off n) (hl:st.ob id=.live ob) (hsrc:Src E st y m cs) (hk:Nat.min m n=k) (hcs:cs.length=k*s) (hk0:0<n) (hfit:off+k*s≤ob.cells.length) (hsp:spl ob.cells off cs=cells')
  (h:K ⟨upd st.env d (.v (.int .i64 (k:Int))),U4 st.ob id (.live ⟨cells',ob.elem,ob.bC⟩)⟩):Vo P E o st K:=by
 subst hc;rintro a w q ⟨C,hs⟩;simp only [Bool.and_eq_true] at hN;have hrx:=hs.ev x hN.1.1;rw [hx] at hrx;generalize Wd:a.eval x=ux at hrx;obtain ⟨ad,cp,us,huy,Pb,hu1,hu2,hu3⟩:=hsrc C a w hs
 cases hrx with
 |sl _ _ _ c b gT hb hnc hm hss=>
  obtain ⟨hown,cur,hh,hcsz,hle,hcell⟩:=hs.obj.live id ob b hl hb;have hfc:=run_firstCells_some (P:=P) w s k ad m cp us (by rw [Pb,hcs]) hu1;have hst:=run_storeCells_at P b off ob.elem us 0 cur w hh (by rw [Pb,hcs];omega) hu2
  have hrun:(execOp a.eval o).run P w=.ok (.value (.int .i64 (k:Int))) (w.setRow b (cur.toList.take off++us++cur.toList.drop (off+k*s)).toArray):=by
   rw [Pb,hcs] at hst;simp only [Nat.add_zero] at hst;simp [execOp,ho,resolve,invoke,builtin,Builtin.copy_,Builtin.lenOf,Wd,huy,run_underlying ht,run_sizeOf hsz,hk,hfc,hst,goInt]
  have hnew:=hs.ae1 hl hb cells' (cur.toList.take off++us++cur.toList.drop (off+k*s)).toArray (by simp [Pb,hcs];omega) (by rw [←hsp];simp [spl,Pb,hcs];omega) (by
   rw [←hsp];refine zM (by rw [Pb,hcs]) hcs hfit hle hcell (fun j av hj=>?_);obtain ⟨u,hu,hr⟩:=hu3 j av hj;exact ⟨u,hu,hu2 u (List.mem_of_getElem? hu),hr⟩) o.dst (fun d' hd'=>by rw [hd] at hd';cases hd';exact aS hN.2) (.v (.int .i64 (k:Int))) (.int .i64 (k:Int)) (fun _=>.v _)
  unfold Oper.wp;rw [hrun];refine ⟨_,⟨_,hnew⟩,?_⟩;rw [hd];exact h
 |slnil _ gT hb=>omega
def VK (k:IntKind) (a b:Int):Int:=k.wrap (BitVec.ofInt k.bits a&&& BitVec.ofInt k.bits b).toNat
theorem uU {o:Oper} {t t':TypeId} {x y:Operand} {d:Nat} {k:IntKind} {a b:Int} (ho:o.op=.binOp .and t x y t') (hd:o.dst=some d) (hN:(aT E.N x&&aT E.N y&&Nat.blt d E.N)=true)
  (hx:aO st.env x=.v (.int k a)) (hy:aO st.env y=.v (.int k b)) (h:K ⟨upd st.env d (.v (.int k (VK k a b))),st.ob⟩):Vo P E o st K:=
 abK ho hd hN hx hy (fun w=>by simp [eqGuard,binOp,Op.intBits,VK]) h
theorem oM {o:Oper} {t t':TypeId} {x y:Operand} {d:Nat} {k k':IntKind} {a:Int} (n:Nat) (ho:o.op=.binOp .shr t x y t') (hd:o.dst=some d) (hN:(aT E.N x&&aT E.N y&&Nat.blt d E.N)=true)
  (hx:aO st.env x=.v (.int k a)) (hy:aO st.env y=.v (.int k' (n:Int))) (hn:n≤k.bits) (h:K ⟨upd st.env d (.v (.int k (a.fdiv (2 ^ n)))),st.ob⟩):Vo P E o st K:=uT ho hd hN hx hy hn h
theorem akb {o:Oper} {c:Call} {ty:Array TypeId} {x y:Operand} {d:Nat} {k:IntKind} {a b r:Int} (ho:o.op=.call c) (hc:c={ callee:=.builtin .min,args:= #[x,y],argTypes:=ty }) (hd:o.dst=some d) (hN:(aT E.N x&&aT E.N y&&Nat.blt d E.N)=true)
  (hx:aO st.env x=.v (.int k a)) (hy:aO st.env y=.v (.int k b)) (hr:∀w,(Builtin.min_ ty o.type #[.int k a,.int k b]).run P w=.ok (.int k r) w) (h:K ⟨upd st.env d (.v (.int k r)),st.ob⟩):Vo P E o st K:=by
 subst hc;simp only [Bool.and_eq_true] at hN;refine W4 (.v (.int k r)) (fun d' hd'=>by rw [hd] at hd';cases hd';exact aS hN.2) (fun a' w C hs=>⟨.int k r,?_,.v _⟩) (by rw [hd];exact h);have h1:=hs.ev x hN.1.1;have h2:=hs.ev y hN.1.2;rw [hx] at h1;rw [hy] at h2;simp [execOp,ho,resolve,invoke,builtin,h1.dM,h2.dM,hr]
theorem Qv {o:Oper} {d:Nat} {a b:AV} (h:Vo P E o st (fun s=>s=⟨upd st.env d a,st.ob⟩)) (hab:a=b) (hk:K ⟨upd st.env d b,st.ob⟩):Vo P E o st K:=by
 subst hab;exact h.mono fun s hs=>by rw [hs];exact hk
theorem MU {ty:Array TypeId} {t:TypeId} {k:IntKind} {a b r:Int} (h:(if b<a then b else a)=r):∀w,(Builtin.min_ ty t #[.int k a,.int k b]).run P w=.ok (.int k r) w:=fun w=>by subst h;rfl
end
end Go.Lo
set_option linter.unusedVariables false
set_option linter.unusedSimpArgs false
namespace Go.Lo
def C9 (e env:Nat→AV):Option Nat→Nat→AV
 |some d=>upd e d (env d)
 |none=>e
theorem rF {o:Oper} {b:Nat→Bool} {j:Nat} (h:(o.after.any fun e=>Region.binds .any e&&e.on==j)=true) (hd:∀e∈o.after,Region.binds .any e=true→b e.on=true):b j=true:=by
 obtain ⟨e,he,hb⟩:=Array.any_eq_true'.1 h;simp only [Bool.and_eq_true,beq_iff_eq] at hb;rw [←hb.2];exact hd e he hb.1
section
variable (P:Program) (E:VC)
def adw (ops:Array Oper) (env:Nat→AV) (VY:(Nat→Bool)→Nat→aH) (xs:List Nat):Nat→List Oper→Prop
 |_,[]=>True
 |i,o::r=>(if i∈xs then o.guard=none∧(∀d,o.dst=some d→d<E.N)∧∀b:Nat→Bool,b i=false→(∀e∈o.after,Region.binds .any e=true→b e.on=true)→(∀j oj,ops[j]? =some oj→b j=true→∀e∈oj.after,Region.binds .any e=true→b e.on=true)→∀st:St,st.ob=VY b→(∀t,(o.looksAt ops).elem t=true→st.env t=env t)→Vo P E o st (fun s=>s.env=C9 st.env env o.dst∧∀id,s.ob id=VY (fun j=>j==i||b j) id)
   else ∀b,Still P E ops env (VY b) o)∧adw ops env VY xs (i+1) r
end
theorem Rt {ops:Array Oper} {b:Nat→Bool} {i j:Nat} (h:((ops[j]?).any fun o=>o.after.any fun e=>Region.binds .any e&&e.on==i)=true) (hcl:∀j oj,ops[j]? =some oj→b j=true→∀e∈oj.after,Region.binds .any e=true→b e.on=true) (hb:b i=false):b j=false:=by
 cases hj:b j with
 |false=>rfl
 |true=>
  obtain ⟨o,ho,h1⟩:=(Option.any_eq_true _ _).1 h;obtain ⟨e,he,h4⟩:=Array.any_eq_true'.1 h1;simp only [Bool.and_eq_true,beq_iff_eq] at h4;have:=hcl j _ ho hj e he h4.1;rw [h4.2,hb] at this
  cases this
section
variable {P:Program} {E:VC} {ops:Array Oper}
theorem zn {env:Nat→AV} {VY:(Nat→Bool)→Nat→aH} {xs:List Nat}:∀(k:Nat) (l:List Oper),adw P E ops env VY xs k l→∀(i:Nat) (o:Oper),l[i]? =some o→
  (if k+i∈xs then o.guard=none∧(∀d,o.dst=some d→d<E.N)∧∀b:Nat→Bool,b (k+i)=false→(∀e∈o.after,Region.binds .any e=true→b e.on=true)→(∀j oj,ops[j]? =some oj→b j=true→∀e∈oj.after,Region.binds .any e=true→b e.on=true)→∀st:St,st.ob=VY b→(∀t,(o.looksAt ops).elem t=true→st.env t=env t)→Vo P E o st (fun s=>s.env=C9 st.env env o.dst∧∀id,s.ob id=VY (fun j=>j==(k+i)||b j) id)
   else ∀b,Still P E ops env (VY b) o)
 |_,[],_,i,o,h=>by simp at h
 |k,a::r,hst,i,o,h=>by
  cases i with
  |zero=>simp at h;subst h;exact hst.1
  |succ i=>
   have:=zn (k+1) r hst.2 i o (by simpa using h)
   rwa [show k+1+i=k+(i+1) by omega] at this
theorem ajb {Q:Exit→Act→World→Prop} {K:St→Prop} {m:Nat} {env:Nat→AV} {VY:(Nat→Bool)→Nat→aH} {bI:Nat→aH} {xs:List Nat} (jI:∀b b':Nat→Bool,(∀x,x∈xs→b x=b' x)→VY b=VY b') (hfin:∀b:Nat→Bool,(∀i,i<m→b i=true)→VY b=bI) (hq:∀st' a' w',Wm E st' a' w'→K st'→Q .normal a' w') (hm:m≤ops.size)
  (acF:(List.range m).all (aa8 ops m)=true) (hsc:m=ops.size∨(Region.sinkB .any ops m=true∧Region.chainB .any ops m=true)) (hT:lH ops (ops.size-m) m=true)
  (hst:adw P E ops env VY xs 0 (ops.toList.take m)) (htail:VL P E ops (ops.toList.drop m) ⟨env,bI⟩ K) (u:Nat):
  ∀(listed:Array Bool) (a:Act) (w:World),HeadInv .any ops m listed→cnt listed m=u→Wm E ⟨V7 ops m listed env,VY fun i=>listed.getD i false⟩ a w→wpAny P .any ops Q (u+(ops.size-m)) listed a w:=by
 have lU:∀i,i<m→∃o,ops[i]? =some o∧(∀e∈o.after,Region.binds .any e=true→e.on<i)∧∀t,t∈o.looksAt ops→∀j oj,j<m→ops[j]? =some oj→oj.dst=some t→∃e∈o.after,Region.binds .any e=true∧e.on=j:=by
  intro i hi;have h:=List.all_eq_true.1 acF i (List.mem_range.2 hi);unfold aa8 at h
  split at h
  ·rename_i o ho;simp only [Bool.and_eq_true] at h;refine ⟨o,ho,fun e he hb=>?_,fun t ht j oj hj hoj hdt=>?_⟩
   ·have:=Array.all_eq_true'.1 h.1 e he;simpa [hb] using this
   ·have h2:=List.all_eq_true.1 (List.all_eq_true.1 h.2 t ht) j (List.mem_range.2 hj);simp only [hoj,hdt] at h2;have h3:(o.after.any fun e=>Region.binds .any e&&e.on==j)=true:=by simpa using h2
    obtain ⟨e,he,hb⟩:=Array.any_eq_true'.1 h3;simp only [Bool.and_eq_true,beq_iff_eq] at hb;exact ⟨e,he,hb.1,hb.2⟩
  ·cases h
 induction u with
 |zero=>
  intro listed a w inv hc hs;have hall:=uM hc
  have hl:listed=upTo ops.size m:=by
   apply Array.ext_getElem?;intro j;rcases Nat.lt_or_ge j ops.size with hj|hj
   ·rw [oQ hj,Array.getElem?_eq_getElem (by rw [inv.size];exact hj)];rcases Nat.lt_or_ge j m with h1|h1
    ·have:=hall j h1;simp [show j<listed.size by rw [inv.size];exact hj] at this;simp [this,h1]
    ·have:=inv.tail j h1 hj;simp [show j<listed.size by rw [inv.size];exact hj] at this;simp [this];omega
   ·rw [Array.getElem?_eq_none (by rw [inv.size];exact hj),Array.getElem?_eq_none (by rw [abC];exact hj)]
  have wF:(VY fun i=>listed.getD i false)=bI:=hfin _ hall
  have abd:Wm E ⟨env,bI⟩ a w:=by
   rw [wF] at hs;refine hs.le ⟨fun t=>.inr ?_,fun id=>.inl rfl⟩;simp only [V7];rw [if_neg];rintro ⟨j,o,h1,_,_,h2⟩;rw [hall j h1] at h2
   cases h2
  rw [hl,Nat.zero_add];have:=aeA hq (ops.toList.drop m) m ⟨env,bI⟩ a w (fun j=>by simp [List.getElem?_drop]) (by simp;omega) (by simpa using hT) abd htail;simpa using this
 |succ u ih=>
  intro listed a w inv hc hs;rw [show u+1+(ops.size-m)=(u+(ops.size-m))+1 by omega]
  have hun:∃j,j<m∧listed.getD j false=false:=by
   apply Classical.byContradiction;intro hno
   have:∀k,k≤m→cnt listed k=0:=by
    intro k
    induction k with
    |zero=>intro _;rfl
    |succ k ihk=>
     intro hk;simp only [cnt];rw [ihk (by omega)]
     cases hkv:listed.getD k false with
     |true=>simp
     |false=>exact absurd ⟨k,by omega,hkv⟩ hno
   have:=this m (Nat.le_refl _);omega
  have acC:∀n j,j<n→j<m→listed.getD j false=false→Region.ready .any ops listed≠ []:=by
   intro n
   induction n with
   |zero=>intro j h;omega
   |succ n ihn=>
    intro j hj hjm hf;obtain ⟨o,ho,he,_⟩:=lU j hjm;by_cases aaB:∀e∈o.after,Region.binds .any e=true→listed.getD e.on false=true
    ·intro hnil;have:j∈Region.ready .any ops listed:=mem_ready.2 ⟨getD_in (by rw [inv.size];omega) hf,o,ho,aaB⟩;rw [hnil] at this
     cases this
    ·have:∃e∈o.after,Region.binds .any e=true∧listed.getD e.on false=false:=by
      apply Classical.byContradiction;intro hno;apply aaB;intro e he1 he2
      cases hv:listed.getD e.on false with
      |true=>rfl
      |false=>exact absurd ⟨e,he1,he2,hv⟩ hno
     obtain ⟨e,he1,he2,jR⟩:=this;have:=he e he1 he2;exact ihn e.on (by omega) (by omega) jR
  obtain ⟨j0,hj0,hf0⟩:=hun;refine ⟨fun hnil=>absurd hnil (acC (j0+1) j0 (by omega) hj0 hf0),fun i hi=>?_⟩;obtain ⟨pU,oi,hoi,hall⟩:=mem_ready.1 hi;have hin:i<ops.size:=(Array.getElem?_eq_some_iff.1 hoi).1
  have him:i<m:=by
   rcases Nat.lt_or_ge i m with h|h
   ·exact h
   ·rcases hsc with h1|⟨h1,h2⟩
    ·omega
    ·exact absurd hi (tail_waits h1 h2 (by omega) inv _ j0 rfl hj0 (getD_in (by rw [inv.size];omega) hf0) i h)
  have hif:listed.getD i false=false:=getD_both pU;obtain ⟨o',ho',_,acG⟩:=lU i him;rw [hoi] at ho'
  cases ho'
  have hsame:∀t,t∈oi.looksAt ops→V7 ops m listed env t=env t:=by
   intro t ht;simp only [V7];rw [if_neg];rintro ⟨j,oj,h1,h2,h3,h4⟩;obtain ⟨e,he1,he2,jR⟩:=acG t ht j oj h1 h2 h3;have:=hall e he1 he2;rw [jR,h4] at this
   cases this
  have iQ:=zn _ _ hst i oi (by rw [List.getElem?_take,if_pos him];simpa using hoi);rw [Nat.zero_add] at iQ
  have hcnt:cnt (listed.setIfInBounds i true) m=u:=by
   have:=u6 (listed:=listed) (by rw [inv.size];exact hin) hif m;rw [if_pos him] at this;omega
  by_cases hix:i∈xs
  ·rw [if_pos hix] at iQ;obtain ⟨hg,hdn,hop⟩:=iQ;unfold wpOp;simp only [hoi];have hw:Region.wanted oi (yielded ops a.tmps)=true:=by simp [Region.wanted,hg]
   rw [if_pos hw];refine .inl (Oper.wp_mono ?_ (hop (fun j=>listed.getD j false) hif hall inv.closed ⟨V7 ops m listed env,VY fun j=>listed.getD j false⟩ rfl (fun t ht=>hsame t (List.elem_iff.1 ht)) a w Q hs));rintro a' w' ⟨s,h1,he1,he2⟩;refine ih _ a' w' (inv.set hi him) hcnt (h1.le ⟨fun t=>?_,fun id=>.inl ?_⟩)
   ·simp only [V7];by_cases hex:∃j o,j<m∧ops[j]? =some o∧o.dst=some t∧(listed.setIfInBounds i true).getD j false=false
    ·rw [if_pos hex];exact .inl rfl
    ·rw [if_neg hex];refine .inr ?_;rw [he1]
     have hmid:(∀d,oi.dst=some d→t≠d)→V7 ops m listed env t=env t:=by
      intro htd;simp only [V7];rw [if_neg];rintro ⟨j,o,k1,k2,k3,k4⟩;refine hex ⟨j,o,k1,k2,k3,?_⟩
      have hij:i≠j:=fun e=>by
       subst e;rw [hoi] at k2
       cases k2
       exact htd t k3 rfl
      rw [getD_set_ne false hij];exact k4
     cases hdd:oi.dst with
     |none=>
      show env t=V7 ops m listed env t;rw [hmid (fun d hd=>by rw [hdd] at hd;cases hd)]
     |some d=>
      show env t=upd (V7 ops m listed env) d (env d) t;by_cases htd:t=d
      ·subst htd;rw [upd_same]
      ·rw [upd_ne _ _ htd,hmid (fun d' hd=>by rw [hdd] at hd;cases hd;exact htd)]
   ·rw [he2 id];refine congrFun (jI _ _ fun x _=>?_) id;show _=(x==i||listed.getD x false)
    by_cases hxi:i=x
    ·subst hxi;have:=inv.size;simp [show i<listed.size by omega]
    ·rw [getD_set_ne false hxi];simp [show ¬x=i from fun e=>hxi e.symm]
  rw [if_neg hix] at iQ;have wG:(VY fun j=>(listed.setIfInBounds i true).getD j false)=VY fun j=>listed.getD j false:=jI _ _ fun x hx=>by rw [getD_set_ne false (fun e=>by subst e;exact hix hx)]
  have hstill:Still P E ops env (VY fun j=>listed.getD j false) oi:=iQ _
  clear iQ
  generalize hog:(VY fun j=>listed.getD j false)=iY at hs hstill;have ih':∀(a:Act) (w:World),Wm E ⟨V7 ops m (listed.setIfInBounds i true) env,iY⟩ a w→wpAny P .any ops Q (u+(ops.size-m)) (listed.setIfInBounds i true) a w:=fun a w h=>ih _ a w (inv.set hi him) hcnt (by rw [wG,hog];exact h)
  have hnext:∀(d:Nat) (s:St),oi.dst=some d→s.ob=iY→(∀t,t≠d→s.env t=V7 ops m listed env t)→(env d=.any∨s.env d=env d)→Le s ⟨V7 ops m (listed.setIfInBounds i true) env,iY⟩:=by
   intro d s hdd h1 h2 h3;refine ⟨fun t=>?_,fun id=>.inl (by rw [h1])⟩;simp only [V7];by_cases hex:∃j o,j<m∧ops[j]? =some o∧o.dst=some t∧(listed.setIfInBounds i true).getD j false=false
   ·rw [if_pos hex];exact .inl rfl
   ·rw [if_neg hex];by_cases htd:t=d
    ·subst htd;rcases h3 with h3|h3
     ·exact .inl h3
     ·exact .inr h3.symm
    ·refine .inr ?_;rw [h2 t htd];simp only [V7];rw [if_neg];rintro ⟨j,o,k1,k2,k3,k4⟩;refine hex ⟨j,o,k1,k2,k3,?_⟩
     have hij:i≠j:=fun e=>by
      subst e;rw [hoi] at k2
      cases k2
      rw [hdd] at k3
      cases k3
      exact htd rfl
     rw [getD_set_ne false hij];exact k4
  have hgo:∀(d:Nat),oi.dst=some d→fu P E ops env iY oi→oi.wp P a w (wpAny P .any ops Q (u+(ops.size-m)) (listed.setIfInBounds i true)) Q:=by
   rintro d hdd ⟨d',hd',_,hop⟩;rw [hdd] at hd'
   cases hd'
   refine Oper.wp_mono ?_ (hop ⟨V7 ops m listed env,iY⟩ rfl (fun t ht=>hsame t (List.elem_iff.1 ht)) a w Q hs);rintro a' w' ⟨s,h1,rfl⟩;refine ih' a' w' (h1.le (hnext d _ hdd rfl (fun t ht=>upd_ne _ _ ht) (.inr (upd_same _ _ _))))
  unfold wpOp;simp only [hoi];unfold Still at hstill
  cases hg:oi.guard with
  |none=>
   rw [hg] at hstill;obtain ⟨d,hd,h1,h2⟩:=hstill;have hw:Region.wanted oi (yielded ops a.tmps)=true:=by simp [Region.wanted,hg]
   rw [if_pos hw];exact .inl (hgo d hd ⟨d,hd,h1,h2⟩)
  |some jw=>
   obtain ⟨j,want⟩:=jw;rw [hg] at hstill;obtain ⟨t,uv,hj,ht,he,hyes,hno⟩:=hstill
   have htl:t∈oi.looksAt ops:=by
    unfold Oper.looksAt;rw [hg];simp [hj]
   obtain ⟨C,hs'⟩:=hs;have hy:=oF hs' hj ht (by show V7 ops m listed env t=_;rw [hsame t htl];exact he);by_cases hb:yv uv=some want
   ·have hw:Region.wanted oi (yielded ops a.tmps)=true:=by simp [Region.wanted,hg,hy,hb]
    rw [if_pos hw];obtain ⟨d,hd,h1,h2⟩:=hyes hb;exact .inl (hgo d hd ⟨d,hd,h1,h2⟩)
   ·have hw:Region.wanted oi (yielded ops a.tmps)=false:=by simp [Region.wanted,hg,hy,hb]
    rw [if_neg (by simp [hw])];obtain ⟨d,hd,hdN,hany⟩:=hno hb
    have hs2:Wm E ⟨upd (V7 ops m listed env) d (.v undef),iY⟩ (a.put oi.dst undef) w:=by
     have:=hs'.set oi.dst (fun d' hd'=>by rw [hd] at hd';cases hd';exact hdN) (.v undef) undef (fun _=>.v _);rw [hd] at this ⊢;exact ⟨C,this⟩
    exact ih' _ w (hs2.le (hnext d _ hd rfl (fun t ht=>upd_ne _ _ ht) (hany.imp id (fun h=>by rw [h];exact upd_same _ _ _))))
theorem ZZ {id m:Nat} {st:St} (VY:(Nat→Bool)→Nat→aH) (bI:Nat→aH) (xs:List Nat) (wH:VY (fun _=>false)=st.ob) (jI:∀b b':Nat→Bool,(∀x,x∈xs→b x=b' x)→VY b=VY b') (hfin:∀b:Nat→Bool,(∀i,i<m→b i=true)→VY b=bI) {Q:Exit→St→Prop} (vs:List (Nat×AV)) (hm:P.follows .mixedOrders=true) (hB:mo ops m (vs.map (·.1))=true)
  (hst:adw P E ops (iD vs st.env) VY xs 0 (ops.toList.take m)) (htail:VL P E ops (ops.toList.drop m) ⟨iD vs st.env,bI⟩ (fun s=>Q .normal s)):VD P E (.region id ops true) st Q:=by
 intro a w hs;simp only [mo,Bool.and_eq_true,Bool.or_eq_true,beq_iff_eq,decide_eq_true_eq] at hB;obtain ⟨⟨⟨⟨h1,h2⟩,h3⟩,h4⟩,h5⟩:=hB;refine wp_region_any hm ?_
 have inv:HeadInv .any ops m (Array.replicate ops.size false):=
  ⟨by simp,fun j oj _ hl=>(by rw [getD_replicate_false] at hl;cases hl),fun t _ ht=>getD_in (by simpa using ht) (getD_replicate_false _ _)⟩
 have hcnt:∀k,cnt (Array.replicate ops.size false) k=k:=by
  intro k
  induction k with
  |zero=>rfl
  |succ k ih=>simp only [cnt];rw [ih,getD_replicate_false];simp
 have hs1:Wm E st a { w with drawn:=w.drawn+1 }:=by
  obtain ⟨C,hs⟩:=hs;have hext:Ext w C { w with drawn:=w.drawn+1 } C:=⟨fun _ h=>⟨h,rfl,rfl,rfl⟩,fun _ _ h=>h,fun _ _ _=>rfl⟩
  have:=hs.put hext st.ob ⟨hs.obj.nil,fun id o b h1 h2=>?_,hs.obj.inj,hs.obj.dom,hs.obj.bnd⟩ ⟨hs.fr.os,hs.fr.tape,hs.fr.output,hs.fr.size,hs.fr.block⟩ hs.fresh hs.keep hs.WE none (fun d h=>by cases h) .any undef (fun h=>absurd rfl h)
  ·exact ⟨C,this⟩
  ·obtain ⟨k1,cur,k2,k3,k4,k5⟩:=hs.obj.live id o b h1 h2;refine ⟨k1,cur,k2,k3,k4,fun j av hj=>?_⟩;obtain ⟨u,hu,k6,k7⟩:=k5 j av hj;exact ⟨u,hu,k6,k7.ext hext⟩
 have hs2:Wm E ⟨V7 ops m (Array.replicate ops.size false) (iD vs st.env),st.ob⟩ a { w with drawn:=w.drawn+1 }:=by
  refine hs1.le ⟨fun t=>?_,fun id=>.inl rfl⟩;simp only [V7];by_cases hex:∃j o,j<m∧ops[j]? =some o∧o.dst=some t∧(Array.replicate ops.size false).getD j false=false
  ·rw [if_pos hex];exact .inl rfl
  ·rw [if_neg hex];refine .inr (aeO fun hmem=>?_);have:=List.all_eq_true.1 h2 t hmem;obtain ⟨o,ho,hd⟩:=List.any_eq_true.1 this;simp only [beq_iff_eq] at hd;obtain ⟨j,hj⟩:=List.mem_iff_getElem?.1 ho;rw [List.getElem?_take] at hj
   split at hj
   ·rename_i hjm;exact hex ⟨j,o,hjm,by simpa using hj,hd,getD_replicate_false _ _⟩
   ·cases hj
 have wI:(VY fun i=>(Array.replicate ops.size false).getD i false)=st.ob:=by rw [←wH];exact jI _ _ fun x _=>getD_replicate_false _ _
 rw [←wI] at hs2;have:=ajb (P:=P) jI hfin (Q:=fun e a' w'=>∃st',Wm E st' a' w'∧Q e st') (K:=fun s=>Q .normal s) (fun st' a' w' k1 k2=>⟨st',k1,k2⟩) h1 h3 h4 h5 hst htail m _ a _ inv (hcnt m) hs2
 rwa [show m+(ops.size-m)=ops.size by omega] at this
end
end Go.Lo
