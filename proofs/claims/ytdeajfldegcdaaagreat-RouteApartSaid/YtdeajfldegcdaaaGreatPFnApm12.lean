/- Part of the logic of values: what the law reaches. -/
import Derived.Test.YtdeajfldegcdaaaGreatPFnApm11
import Derived.Test.YtdeajfldegcdaaaGreatPFnApm8
import Derived.Test.YtdeajfldegcdaaaGreatPFnApm9
set_option linter.unusedVariables false
set_option linter.unusedSimpArgs false
namespace Go.Lo
theorem ajI {E:VC} {s:St} {id e z:Nat} {cs r:List AV} (hl:s.ob id=.live ⟨cs++r,e,z⟩):Vv E s ⟨s.env,U4 s.ob id (.live ⟨cs,e,z⟩)⟩:=by
 rintro a w ⟨C,hs⟩
 have hlive:∀i o,U4 s.ob id (.live ⟨cs,e,z⟩) i=.live o→(i=id∧o=⟨cs,e,z⟩)∨(i≠id∧s.ob i=.live o):=fun i o h=>by
  by_cases he:i=id
  ·subst he;rw [V9] at h;cases h;exact .inl ⟨rfl,rfl⟩
  ·rw [VX _ _ he] at h;exact .inr ⟨he,h⟩
 have aaZ:∀i o,U4 s.ob id (.live ⟨cs,e,z⟩) i=.live o→∃o',s.ob i=.live o':=fun i o h=>by
  rcases hlive i o h with ⟨rfl,_⟩|⟨_,h⟩
  ·exact ⟨_,hl⟩
  ·exact ⟨_,h⟩
 refine ⟨C,hs.size,hs.defers,hs.env,⟨fun i o h=>?_,fun i o b h hb=>?_,fun i i' o o' b h1 h2 h3 h4=>?_,fun i hi=>?_,hs.obj.bnd⟩,hs.fr,fun i o b h hb=>?_,hs.keep,hs.WE,hs.init,hs.X4⟩
 ·rcases hlive i o h with ⟨rfl,rfl⟩|⟨_,h⟩
  ·obtain ⟨h1,h2,h3⟩:=hs.obj.nil i _ hl;exact ⟨h1,h2,fun hb=>(List.append_eq_nil_iff.1 (h3 hb)).1⟩
  ·exact hs.obj.nil i o h
 ·rcases hlive i o h with ⟨rfl,rfl⟩|⟨_,h⟩
  ·obtain ⟨h1,cur,h2,h3,h4,h5⟩:=hs.obj.live i _ b hl hb;refine ⟨h1,cur,h2,h3,by simp at h4 ⊢;omega,fun j av hj=>h5 j av ?_⟩;show (cs++r)[j]? =_;rw [List.getElem?_append_left (List.getElem?_eq_some_iff.1 hj).1];exact hj
  ·exact hs.obj.live i o b h hb
 ·obtain ⟨_,k1⟩:=aaZ i o h1;obtain ⟨_,k2⟩:=aaZ i' o' h2;exact hs.obj.inj i i' _ _ b k1 k2 h3 h4
 ·show U4 s.ob id _ i≠ .free;by_cases he:i=id
  ·subst he;rw [V9];intro h;cases h
  ·rw [VX _ _ he];exact hs.obj.dom i hi
 ·obtain ⟨_,k1⟩:=aaZ i o h;exact hs.fresh i _ b k1 hb
theorem ajJ {E:VC} {s:St} {bI:Nat→aH} (hm:E.m=0) (h:∀i,bI i=s.ob i∨(s.ob i=.free∧bI i=.live pO)):Vv E s ⟨s.env,bI⟩:=by
 rintro a w ⟨C,hs⟩;have hnd:∀i,s.ob i=.free→¬C.dom i:=fun i hf hd=>hs.obj.dom i hd hf
 classical
 let C2:Ctx:=⟨fun i=>if s.ob i=.free then none else C.blk i,fun i=>if s.ob i=.free then 0 else C.sz i,fun i=>if s.ob i=.free then 1 else C.bC i,fun i=>C.dom i∨(s.ob i=.free∧bI i=.live pO),C.own⟩
 have hext:Ext w C w C2:=⟨fun i hd=>by
  have hf:¬s.ob i=.free:=fun hf=>hnd i hf hd;exact ⟨.inl hd,by show (if _ then _ else _)=_;rw [if_neg hf],by show (if _ then _ else _)=_;rw [if_neg hf],by show (if _ then _ else _)=_;rw [if_neg hf]⟩,fun _ _ hb=>hb,fun _ _ _=>rfl⟩
 have hold:∀i o,bI i=.live o→(¬s.ob i=.free∧s.ob i=.live o)∨(s.ob i=.free∧o=pO):=fun i o hl=>by
  rcases h i with h1|⟨h1,h2⟩
  ·rw [h1] at hl;exact .inl ⟨fun e=>(by rw [e] at hl;cases hl),hl⟩
  ·rw [h2] at hl;cases hl;exact .inr ⟨h1,rfl⟩
 refine ⟨C2,hs.size,hs.defers,fun t ht=>(hs.env t ht).ext hext,⟨fun i o hl=>?_,fun i o b hl hb=>?_,fun i i' o o' b h1 h2 h3 h4=>?_,fun i hi=>?_,hs.obj.bnd⟩,hs.fr,fun i o b hl hb=>?_,hs.keep,hs.WE,fun i hi=>by omega,hs.X4⟩
 ·rcases hold i o hl with ⟨hf,h1⟩|⟨hf,rfl⟩
  ·obtain ⟨k1,k2,k3⟩:=hs.obj.nil i o h1;exact ⟨.inl k1,by show (if _ then _ else _)=_;rw [if_neg hf];exact k2,fun hb=>k3 (by have hb':(if s.ob i=.free then none else C.blk i)=none:=hb;rw [if_neg hf] at hb';exact hb')⟩
  ·exact ⟨.inr ⟨hf,hl⟩,by show (if _ then _ else _)=_;rw [if_pos hf];rfl,fun _=>rfl⟩
 ·rcases hold i o hl with ⟨hf,h1⟩|⟨hf,rfl⟩
  ·have hb':(if s.ob i=.free then none else C.blk i)=some b:=hb;rw [if_neg hf] at hb';obtain ⟨k1,cur,k2,k3,k4,k5⟩:=hs.obj.live i o b h1 hb';refine ⟨k1,cur,k2,by show _=(if _ then _ else _);rw [if_neg hf];exact k3,k4,fun j av hj=>?_⟩;obtain ⟨u,m1,m2,m3⟩:=k5 j av hj;exact ⟨u,m1,m2,m3.ext hext⟩
  ·have hb':(if s.ob i=.free then none else C.blk i)=some b:=hb;rw [if_pos hf] at hb';cases hb'
 ·have key:∀i o,bI i=.live o→C2.blk i=some b→s.ob i=.live o∧C.blk i=some b:=fun i o hl hb=>by
   have hb':(if s.ob i=.free then none else C.blk i)=some b:=hb;rcases hold i o hl with ⟨hf,h1⟩|⟨hf,_⟩
   ·rw [if_neg hf] at hb';exact ⟨h1,hb'⟩
   ·rw [if_pos hf] at hb';cases hb'
  obtain ⟨a1,a2⟩:=key i o h1 h3;obtain ⟨b1,b2⟩:=key i' o' h2 h4;exact hs.obj.inj i i' _ _ b a1 b1 a2 b2
 ·rcases h i with h1|⟨h1,h2⟩
  ·show bI i≠ .free;rw [h1];rcases hi with hi|⟨hf,h2⟩
   ·exact hs.obj.dom i hi
   ·rw [h1,hf] at h2;cases h2
  ·show bI i≠ .free;rw [h2];intro e;cases e
 ·have hb':(if s.ob i=.free then none else C.blk i)=some b:=hb;rcases hold i o hl with ⟨hf,h1⟩|⟨hf,_⟩
  ·rw [if_neg hf] at hb';exact hs.fresh i o b h1 hb'
  ·rw [if_pos hf] at hb';cases hb'
def kp (K:List (Nat×Nat)):List (Nat×Nat):=(K.zipIdx 8).map fun x=>(x.1.1,x.2)
def kq (K:List (Nat×Nat)):List (Nat×Nat):=(K.zipIdx 32).map fun x=>(x.1.2,x.2)
def WO (t q:Nat) (VO:List Nat) (K:List (Nat×Nat)):List (Nat×Nat):=(t,0)::(q,1)::(VO.map (fun i=>(i,i))++(kp K++kq K))
theorem akr {K:List (Nat×Nat)} {p:Nat} (h:p<K.length):((K.getD p (0,0)).1,p+8)∈kp K:=by
 refine List.mem_map.2 ⟨(K.getD p (0,0),p+8),?_,rfl⟩;have:(K.zipIdx 8)[p]? =some (K.getD p (0,0),p+8):=by simp [h,Nat.add_comm]
 exact List.mem_of_getElem? this
theorem aks {K:List (Nat×Nat)} {p:Nat} (h:p<K.length):((K.getD p (0,0)).2,p+32)∈kq K:=by
 refine List.mem_map.2 ⟨(K.getD p (0,0),p+32),?_,rfl⟩;have:(K.zipIdx 32)[p]? =some (K.getD p (0,0),p+32):=by simp [h,Nat.add_comm]
 exact List.mem_of_getElem? this
theorem J2 (K:List (Nat×Nat)):(kp K).map (·.2)=List.range' 8 K.length:=by simp [kp,Function.comp_def,List.zipIdx_map_snd]
theorem J3 (K:List (Nat×Nat)):(kq K).map (·.2)=List.range' 32 K.length:=by simp [kq,Function.comp_def,List.zipIdx_map_snd]
section
variable {E:VC} {s:St} {e':Nat→AV} {T T':aC} {e1 e2 e3:Nat}
theorem canon (hm:E.m=0) (t q:Nat) (VO:List Nat) (K:List (Nat×Nat)) (ls:List Lk) (bI:Nat→aH) (hK:K.length=ls.length) (hn:ls.length≤24) (hnd:((WO t q VO K).map (·.1)).Nodup) (hoth:∀i,i∈VO→56≤i) (mH:VO.Nodup)
  (hT:s.ob t=.live T) (hT':bI 0=.live T') (NU:aC.map (rn (WO t q VO K)) T=T') (hTo:∀c,c∈T.cells→Ok (· ∈(WO t q VO K).map (·.1)) True c)
  (hR:s.ob q=.live ⟨K.map fun k=>.pt k.1 0,e1,1⟩) (hR':bI 1=.live ⟨enc cK (Vf ls.length),e1,1⟩)
  (hL:∀p,p<K.length→s.ob (K.getD p (0,0)).1=.live (ou e2 (K.getD p (0,0)).2 (ls.getD p aA))∧s.ob (K.getD p (0,0)).2=.live (Xj e3 (ls.getD p aA)))
  (hF:Xf bI (fam e2 e3 ls)) (ho:∀i,i∈VO→∃o,s.ob i=.live o∧bI i=.live o∧gD o.cells) (hx:∀i,56≤i→i∉VO→bI i=.free) (he:∀x,eG (WO t q VO K) (s.env x) (e' x)):Vv E s ⟨e',bI⟩:=by
 have hm0:(t,0)∈WO t q VO K:=List.mem_cons_self ..;have hm1:(q,1)∈WO t q VO K:=List.mem_cons_of_mem _ (List.mem_cons_self ..);have hmo:∀i,i∈VO→(i,i)∈WO t q VO K:=fun i hi=>List.mem_cons_of_mem _ (List.mem_cons_of_mem _ (List.mem_append.2 (.inl (List.mem_map.2 ⟨i,hi,rfl⟩))));have hmp:∀p,p<K.length→((K.getD p (0,0)).1,p+8)∈WO t q VO K:=fun p hp=>List.mem_cons_of_mem _ (List.mem_cons_of_mem _ (List.mem_append.2 (.inr (List.mem_append.2 (.inl (akr hp))))));have hmq:∀p,p<K.length→((K.getD p (0,0)).2,p+32)∈WO t q VO K:=fun p hp=>List.mem_cons_of_mem _ (List.mem_cons_of_mem _ (List.mem_append.2 (.inr (List.mem_append.2 (.inr (aks hp))))));have hrn:∀x y,(x,y)∈WO t q VO K→rn (WO t q VO K) x=y:=fun x y h=>q9 hnd (aeX _ x (List.mem_map.2 ⟨_,h,rfl⟩)) h
 have CW:(WO t q VO K).map (·.2)=0::1::(VO++(List.range' 8 K.length++List.range' 32 K.length)):=by
  unfold WO;rw [List.map_cons,List.map_cons,List.map_append,List.map_append,J2,J3,List.map_map];simp [Function.comp_def]
 have hns:((WO t q VO K).map (·.2)).Nodup:=by
  rw [CW];refine List.nodup_cons.2 ⟨fun h=>?_,List.nodup_cons.2 ⟨fun h=>?_,List.nodup_append.2 ⟨mH,List.nodup_append.2 ⟨List.nodup_range',List.nodup_range',fun a ha b hb e=>?_⟩,fun a ha b hb e=>?_⟩⟩⟩
  ·rcases List.mem_cons.1 h with h|h
   ·cases h
   ·rcases List.mem_append.1 h with h|h
    ·have:=hoth _ h;omega
    ·rcases List.mem_append.1 h with h|h<;>(have:=List.mem_range'_1.1 h;omega)
  ·rcases List.mem_append.1 h with h|h
   ·have:=hoth _ h;omega
   ·rcases List.mem_append.1 h with h|h<;>(have:=List.mem_range'_1.1 h;omega)
  ·have:=List.mem_range'_1.1 ha;have:=List.mem_range'_1.1 hb;omega
  ·have:=hoth _ ha;rcases List.mem_append.1 hb with h|h<;>(have:=List.mem_range'_1.1 h;omega)
 let Yt:Nat→aH:=fun i=>if (2≤i∧i<8)∨(8+K.length≤i∧i<32)∨(32+K.length≤i∧i<56) then .free else bI i
 have h1:Vv E s ⟨e',Yt⟩:=by
  refine abI (WO t q VO K) ⟨hnd,hns,he,fun i o' hl=>?_,fun i hi=>?_⟩ (fun i hi=>by omega)
  ·by_cases hg:(2≤i∧i<8)∨(8+K.length≤i∧i<32)∨(32+K.length≤i∧i<56)
   ·have hl':(if _ then aH.free else bI i)=.live o':=hl;rw [if_pos hg] at hl';cases hl'
   have hl':(if _ then aH.free else bI i)=.live o':=hl;rw [if_neg hg] at hl';by_cases i0:i=0
   ·subst i0;rw [hT'] at hl';cases hl';subst NU;exact ⟨t,T,hm0,lD hnd hns hm0,hT,rfl,rfl,.inr ⟨rfl,hTo⟩⟩
   by_cases i1:i=1
   ·subst i1;rw [hR'] at hl';cases hl';refine ⟨q,_,hm1,lD hnd hns hm1,hR,rfl,rfl,.inr ⟨?_,fun c hc=>?_⟩⟩
    ·rw [WR,List.map_map];show (Vf ls.length).flatMap cK=_
     have:(Vf ls.length).flatMap cK=(List.range K.length).map fun p=>AV.pt (p+8) 0:=by
      rw [hK];unfold Vf;rw [List.flatMap_map];show (List.range ls.length).flatMap (fun a=>[AV.pt (a+8) 0])=_;rw [List.map_eq_flatMap]
     rw [this];refine List.ext_getElem (by simp) (fun p a b=>?_);have hp:p<K.length:=by simpa using a
     simp only [List.getElem_map,List.getElem_range,Function.comp_apply];show _=AV.pt (rn _ K[p].1) 0;have:=hrn _ _ (hmp p hp);rw [show K.getD p (0,0)=K[p] by simp [hp]] at this;rw [this]
    ·obtain ⟨k,h2,rfl⟩:=List.mem_map.1 hc;obtain ⟨p,hp,rfl⟩:=List.getElem_of_mem h2;have:=hmp p hp;rw [show K.getD p (0,0)=K[p] by simp [hp]] at this;exact .pt _ _ (List.mem_map.2 ⟨_,this,rfl⟩)
   rcases Nat.lt_or_ge i 56 with i56|i56
   ·have hf:=hF i (by omega) i56;rw [hf] at hl'
    cases hl'
    by_cases i8:i<32
    ·obtain ⟨p,rfl⟩:∃p,i=p+8:=⟨i-8,by omega⟩
     have hp:p<K.length:=by omega
     rw [rH hn (by omega)];refine ⟨_,_,hmp p hp,lD hnd hns (hmp p hp),(hL p hp).1,rfl,rfl,.inr ⟨?_,fun c hc=>?_⟩⟩
     ·show [_,_,_,AV.sl (p+32) 0 _]=[_,_,_,AV.sl (rn _ _) 0 _]
      rw [hrn _ _ (hmq p hp)];rfl
     ·simp only [ou,List.mem_cons,List.not_mem_nil,or_false] at hc;rcases hc with rfl|rfl|rfl|rfl
      ·exact .v _
      ·exact .v _
      ·exact .v _
      ·exact .sl _ _ _ (List.mem_map.2 ⟨_,hmq p hp,rfl⟩)
    ·obtain ⟨p,rfl⟩:∃p,i=p+32:=⟨i-32,by omega⟩
     have hp:p<K.length:=by omega
     rw [aa0 hn (by omega)];exact ⟨_,_,hmq p hp,lD hnd hns (hmq p hp),(hL p hp).2,rfl,rfl,.inl ⟨rfl,(inferInstance:VB (enc aI (ls.getD p aA).pieces)).out⟩⟩
   ·by_cases tH:i∈VO
    ·obtain ⟨o,k1,k2,k3⟩:=ho i tH;rw [k2] at hl';cases hl';exact ⟨i,o',hmo i tH,lD hnd hns (hmo i tH),k1,rfl,rfl,.inl ⟨rfl,k3⟩⟩
    ·rw [hx i i56 tH] at hl';cases hl'
  ·rw [CW] at hi;show (if _ then aH.free else bI i)≠ .free;rcases List.mem_cons.1 hi with rfl|hi
   ·rw [if_neg (by omega),hT'];intro h;cases h
   rcases List.mem_cons.1 hi with rfl|hi
   ·rw [if_neg (by omega),hR'];intro h;cases h
   rcases List.mem_append.1 hi with hi|hi
   ·have:=hoth i hi;obtain ⟨o,_,k2,_⟩:=ho i hi;rw [if_neg (by omega),k2];intro h;cases h
   ·have hr:(8≤i∧i<8+K.length)∨(32≤i∧i<32+K.length):=by
     rcases List.mem_append.1 hi with h|h<;>(have:=List.mem_range'_1.1 h;omega)
    rw [if_neg (by omega),hF i (by omega) (by omega)];intro h;cases h
 refine h1.trans (ajJ (s:=⟨e',Yt⟩) hm fun i=>?_);show bI i=(if _ then aH.free else bI i)∨((if _ then aH.free else bI i)=.free∧bI i=.live pO);by_cases hg:(2≤i∧i<8)∨(8+K.length≤i∧i<32)∨(32+K.length≤i∧i<56)
 ·rw [if_pos hg];refine .inr ⟨rfl,?_⟩;rw [hF i (by omega) (by omega)];unfold fam;rw [if_neg (by omega),if_neg (by omega)]
 ·rw [if_neg hg];exact .inl rfl
end
theorem yc {F:Nat→aC} {VO:List Nat}:∀i,56≤i→i∉VO→dn F i=.free:=fun i h _=>Pz (.inr h)
theorem xl_ {f:Nat→aH} {VO:List Nat} {n:Nat} {x:aH} (hn:Nat.ble n 1=true) (h:∀i,56≤i→i∉VO→f i=.free):∀i,56≤i→i∉VO→U4 f n x i=.free:=fun i a b=>by
 have:=Nat.le_of_ble_eq_true hn;rw [VX _ _ (by omega),h i a b]
theorem xm_ {f:Nat→aH} {VO:List Nat} {n:Nat} {x:aH} (hn:n∈VO) (h:∀i,56≤i→i∉VO→f i=.free):∀i,56≤i→i∉VO→U4 f n x i=.free:=fun i a b=>by
 rw [VX _ _ (fun e=>b (by rw [e];exact hn)),h i a b]
def kR (l:List Nat):List (Nat×Nat):=l.map fun k=>(k+8,k+32)
theorem Aa {α:Type} (d:α) (l:List α) (x:α) {p:Nat}:(l++[x]).getD p d=if p<l.length then l.getD p d else if p=l.length then x else d:=by
 rw [List.getD_eq_getElem?_getD];by_cases h:p<l.length
 ·rw [if_pos h,List.getElem?_append_left h, ←List.getD_eq_getElem?_getD]
 ·rw [if_neg h,List.getElem?_append_right (by omega)];by_cases h2:p=l.length
  ·subst h2;rw [if_pos rfl,Nat.sub_self];rfl
  ·rw [if_neg h2,List.getElem?_eq_none (by simp;omega)];rfl
theorem YV {t q:Nat} {VO:List Nat} {K:List (Nat×Nat)}:(WO t q VO K).map (·.1)=t::q::(VO++(K.map (·.1)++K.map (·.2))):=by
 have e1:(kp K).map (·.1)=K.map (·.1):=by
  unfold kp;rw [List.map_map];show (K.zipIdx 8).map ((fun x:Nat×Nat=>x.1)∘(·.1))=_;rw [←List.map_map,List.zipIdx_map_fst]
 have e2:(kq K).map (·.1)=K.map (·.2):=by
  unfold kq;rw [List.map_map];show (K.zipIdx 32).map ((fun x:Nat×Nat=>x.2)∘(·.1))=_;rw [←List.map_map,List.zipIdx_map_fst]
 unfold WO;rw [List.map_cons,List.map_cons,List.map_append,List.map_append,e1,e2,List.map_map];simp [Function.comp_def]
section
variable {E:VC} {s:St} {e':Nat→AV} {e1 e2 e3 tt:Nat} {ls ls':List Lk} {cs:List AV}
theorem vT {t q n:Nat} {VO:List Nat} {K:List (Nat×Nat)} [h:VB cs] (hq:rn (WO t q VO K) q=1):aC.map (rn (WO t q VO K)) ⟨cs++[.sl q 0 n],tt,1⟩=⟨cs++[.sl 1 0 n],tt,1⟩:=by
 show aC.mk (AV.V4 _ (cs++[.sl q 0 n])) tt 1=_;rw [ac8,oI h.out];show aC.mk (cs++[AV.sl (rn _ q) 0 n]) tt 1=_;rw [hq]
theorem ae3 {t q n:Nat} {VO:List Nat} {K:List (Nat×Nat)} [h:VB cs]:∀c,c∈(aC.mk (cs++[.sl q 0 n]) tt 1).cells→Ok (· ∈(WO t q VO K).map (·.1)) True c:=fun c hc=>by
 rcases List.mem_append.1 hc with hc|hc
 ·exact (h.out c hc).mono (fun _ h=>h.elim) id
 ·rw [List.mem_singleton.1 hc];exact .sl _ _ _ (by rw [YV];simp)
theorem agS {l:List Nat} (hl:l.Nodup) (h:∀k,k∈l→k<24) {rest:List Nat} (hr:rest.Nodup) (h2:∀i,i∈rest→i<8∨56≤i):(rest++((kR l).map (·.1)++(kR l).map (·.2))).Nodup:=by
 have a1:(kR l).map (·.1)=l.map (· +8):=by simp [kR,Function.comp_def]
 have a2:(kR l).map (·.2)=l.map (· +32):=by simp [kR,Function.comp_def]
 rw [a1,a2];refine List.nodup_append.2 ⟨hr,List.nodup_append.2 ⟨hl.map (f:=(· +8)) (fun a b h e=>h (by have:a+8=b+8:=e;omega)),hl.map (f:=(· +32)) (fun a b h e=>h (by have:a+32=b+32:=e;omega)),fun a ha b hb e=>?_⟩,fun a ha b hb e=>?_⟩
 ·obtain ⟨x,hx,rfl⟩:=List.mem_map.1 ha;obtain ⟨y,hy,h3⟩:=List.mem_map.1 hb;have:=h x hx;omega
 ·have:=h2 a ha;rcases List.mem_append.1 hb with hb|hb
  ·obtain ⟨y,hy,h3⟩:=List.mem_map.1 hb;have:=h y hy;omega
  ·obtain ⟨y,hy,h3⟩:=List.mem_map.1 hb;have:=h y hy;omega
theorem JU {L:List Lk} (hm:E.m=0) (VO:List Nat) (n:Nat) (bI:Nat→aH) (hn:n=L.length) (hn16:n≤16) (hls:ls'=L.filter fun x=> !iA x) (hoth:∀i,i∈VO→56≤i) (mH:VO.Nodup) [VB cs]
  (hT:s.ob 0=.live ⟨cs++[.sl 1 0 (VE (kr L) (Vf n)).length],tt,1⟩) (hT':bI 0=.live ⟨cs++[.sl 1 0 ls'.length],tt,1⟩)
  (hR:s.ob 1=.live ⟨enc cK (VE (kr L) (Vf n)++List.replicate (n-(VE (kr L) (Vf n)).length) none),e1,1⟩) (hR':bI 1=.live ⟨enc cK (Vf ls'.length),e1,1⟩) (qy:Xf s.ob (fam e2 e3 L)) (hF:Xf bI (fam e2 e3 ls'))
  (ho:∀i,i∈VO→∃o,s.ob i=.live o∧bI i=.live o∧gD o.cells) (hx:∀i,56≤i→i∉VO→bI i=.free) (he:∀K x,eG (WO 0 1 VO K) (s.env x) (e' x)):Vv E s ⟨e',bI⟩:=by
 subst hn
 let ks:List Nat:=(List.range L.length).filter fun k=> !iA (L.getD k aA)
 have hks:∀k,k∈ks→k<L.length:=fun k h=>List.mem_range.1 (List.mem_filter.1 h).1
 have hrest:VE (kr L) (Vf L.length)=ks.map some:=by
  unfold VE Vf;rw [List.filter_map];rfl
 have hL0:L=(List.range L.length).map fun k=>L.getD k aA:=by
  refine List.ext_getElem (by simp) (fun i a b=>?_);simp at b ⊢;simp [b]
 have CX:ls'=ks.map fun k=>L.getD k aA:=by
  rw [hls]
  conv=>lhs;rw [hL0]
  rw [List.filter_map];rfl
 have hlen:ls'.length=ks.length:=by rw [CX,List.length_map]
 have hkl:ks.length≤L.length:=by have:=List.length_filter_le (fun k=> !iA (L.getD k aA)) (List.range L.length);rw [List.length_range] at this;exact this
 rw [hrest] at hT hR
 have hcells:enc cK (ks.map some++List.replicate (L.length-(ks.map some).length) none)=((kR ks).map fun k=>AV.pt k.1 0)++enc cK (List.replicate (L.length-(ks.map some).length) (none:Option Nat)):=by
  rw [jV]
  congr 1
  show (ks.map some).flatMap cK=_;rw [List.flatMap_map];unfold kR;rw [List.map_map];show ks.flatMap (fun a=>[AV.pt (a+8) 0])=_;rw [←List.map_eq_flatMap];rfl
 rw [hcells] at hR;have hcut:=ajI (E:=E) hR;refine hcut.trans ?_;have hne:∀i,i≠1→U4 s.ob 1 (.live ⟨(kR ks).map (fun k=>AV.pt k.1 0),e1,1⟩) i=s.ob i:=fun i h=>VX _ _ h;have hn1:U4 s.ob 1 (.live ⟨(kR ks).map (fun k=>AV.pt k.1 0),e1,1⟩) 1=.live ⟨(kR ks).map (fun k=>AV.pt k.1 0),e1,1⟩:=V9 _ _ _;have hkn:(kR ks).length=ls'.length:=by rw [hlen];simp [kR]
 refine canon hm 0 1 VO (kR ks) ls' bI hkn (by omega) ?_ hoth mH (T:=⟨cs++[.sl 1 0 (ks.map some).length],tt,1⟩) ?_ hT' ?_ ae3 ?_ hR' (fun p hp=>?_) hF (fun i hi=>?_) hx (he (kR ks))
 ·rw [YV]
  have:=agS (l:=ks) (rest:=0::1::VO) (List.nodup_range.filter _) (fun k h=>by have:=hks k h;omega) (List.nodup_cons.2 ⟨fun h=>by rcases List.mem_cons.1 h with h|h;(cases h);(have:=hoth _ h;omega),List.nodup_cons.2 ⟨fun h=>by have:=hoth _ h;omega,mH⟩⟩) (fun i hi=>by
   rcases List.mem_cons.1 hi with rfl|hi
   ·omega
   rcases List.mem_cons.1 hi with rfl|hi
   ·omega
   ·have:=hoth i hi;omega)
  exact this
 ·exact (hne 0 (by omega)).trans hT
 ·rw [vT (by rfl),List.length_map, ←hlen]
 ·exact hn1
 ·have hkk:(kR ks).length=ks.length:=by simp [kR]
  have hp':p<ks.length:=by omega
  have hk:(kR ks).getD p (0,0)=(ks.getD p 0+8,ks.getD p 0+32):=by simp [kR,hp']
  have hm2:=hks _ (VR (l:=ks) (k:=p) 0 hp');have hx2:ls'.getD p aA=L.getD (ks.getD p 0) aA:=by rw [CX];simp [hp']
  rw [hk,hx2];have h1:=qy (ks.getD p 0+8) (by omega) (by omega);rw [rH (by omega) hm2] at h1;have h2:=qy (ks.getD p 0+32) (by omega) (by omega);rw [aa0 (by omega) hm2] at h2;exact ⟨(hne _ (by omega)).trans h1,(hne _ (by omega)).trans h2⟩
 ·obtain ⟨o,k1,k2,k3⟩:=ho i hi;have:=hoth i hi;exact ⟨o,(hne i (by omega)).trans k1,k2,k3⟩
theorem canonK {x:Lk} (hm:E.m=0) (q a b:Nat) (VO:List Nat) (bI:Nat→aH) (hls:ls'=ls++[x]) (hn:ls.length≤16) (hnd:(q::a::b::VO).Nodup) (hbig:∀i,i∈q::a::b::VO→56≤i) [VB cs]
  (hT:s.ob 0=.live ⟨cs++[.sl q 0 (ls.length+1)],tt,1⟩) (hT':bI 0=.live ⟨cs++[.sl 1 0 ls'.length],tt,1⟩)
  (hR:s.ob q=.live ⟨enc cK (Vf ls.length)++[.pt a 0],e1,1⟩) (hR':bI 1=.live ⟨enc cK (Vf ls'.length),e1,1⟩) (hA:s.ob a=.live (ou e2 b x)) (hB:s.ob b=.live (Xj e3 x)) (qy:Xf s.ob (fam e2 e3 ls)) (hF:Xf bI (fam e2 e3 ls'))
  (ho:∀i,i∈VO→∃o,s.ob i=.live o∧bI i=.live o∧gD o.cells) (hx:∀i,56≤i→i∉VO→bI i=.free) (he:∀K y,eG (WO 0 q VO K) (s.env y) (e' y)):Vv E s ⟨e',bI⟩:=by
 have hlen:ls'.length=ls.length+1:=by rw [hls];simp
 have hq:=hbig q (List.mem_cons_self ..);have ha:=hbig a (by simp);have hb:=hbig b (by simp);have mH:VO.Nodup:=(List.nodup_cons.1 (List.nodup_cons.1 (List.nodup_cons.1 hnd).2).2).2;have NV:(kR (List.range ls.length)++[(a,b)]).length=ls'.length:=by rw [hlen];simp [kR]
 refine canon hm 0 q VO (kR (List.range ls.length)++[(a,b)]) ls' bI NV (by omega) ?_ (fun i hi=>hbig i (by simp [hi])) mH (T:=⟨cs++[.sl q 0 (ls.length+1)],tt,1⟩) hT hT' ?_ ae3 ?_ hR' (fun p hp=>?_) hF ho hx (he _)
 ·rw [YV]
  have h1:=agS (l:=List.range ls.length) (rest:=0::q::(VO++[a,b])) List.nodup_range (fun k h=>by have:=List.mem_range.1 h;omega) (by
   rw [List.nodup_cons,List.nodup_cons];simp only [List.nodup_cons,List.mem_cons] at hnd;refine ⟨fun h=>?_,fun h=>?_,List.nodup_append.2 ⟨mH,by simp;intro e;exact hnd.2.1 (.inl e),fun i hi j hj e=>?_⟩⟩
   ·rcases List.mem_cons.1 h with h|h
    ·omega
    ·rcases List.mem_append.1 h with h|h
     ·have:=hbig 0 (by simp [h]);omega
     ·simp at h;omega
   ·rcases List.mem_append.1 h with h|h
    ·exact hnd.1 (.inr (.inr h))
    ·simp at h;rcases h with h|h
     ·exact hnd.1 (.inl h)
     ·exact hnd.1 (.inr (.inl h))
   ·subst e;simp at hj;rcases hj with rfl|rfl
    ·exact hnd.2.1 (.inr hi)
    ·exact hnd.2.2.1 hi) (fun i hi=>by
   rcases List.mem_cons.1 hi with rfl|hi
   ·omega
   rcases List.mem_cons.1 hi with rfl|hi
   ·omega
   rcases List.mem_append.1 hi with hi|hi
   ·have:=hbig i (by simp [hi]);omega
   ·simp at hi;rcases hi with rfl|rfl<;>omega)
  refine (List.Perm.nodup_iff ?_).1 h1;refine List.Perm.cons _ (List.Perm.cons _ ?_);rw [List.map_append,List.map_append];show ((VO++[a,b])++((kR (List.range ls.length)).map (·.1)++(kR (List.range ls.length)).map (·.2))).Perm (VO++(((kR (List.range ls.length)).map (·.1)++[a])++((kR (List.range ls.length)).map (·.2)++[b])));generalize (kR (List.range ls.length)).map (·.1)=u;generalize (kR (List.range ls.length)).map (·.2)=v;rw [List.perm_iff_count];intro c;simp [List.count_append,List.count_cons];omega
 ·rw [vT (n:=ls.length+1) (by
   show cond (Nat.beq q 0) 0 (cond (Nat.beq q q) 1 _)=1;have h1:Nat.beq q 0=false:=by cases hh:Nat.beq q 0 with|false=>rfl|true=>have:=Nat.eq_of_beq_eq_true hh;omega
   rw [h1,Nat.beq_refl];rfl),hlen]
 ·rw [hR]
  congr 2
  rw [List.map_append]
  congr 1
  show (Vf ls.length).flatMap cK=_;unfold Vf kR;rw [List.flatMap_map,List.map_map];show (List.range ls.length).flatMap (fun a=>[AV.pt (a+8) 0])=_;rw [←List.map_eq_flatMap];rfl
 ·rw [Aa,hls,Aa];have hkl:(kR (List.range ls.length)).length=ls.length:=by simp [kR]
  rw [hkl];by_cases h:p<ls.length
  ·rw [if_pos h,if_pos h];have hk:(kR (List.range ls.length)).getD p (0,0)=(p+8,p+32):=by simp [kR,h]
   rw [hk];have h1:=qy (p+8) (by omega) (by omega);rw [rH (by omega) h] at h1;have h2:=qy (p+32) (by omega) (by omega);rw [aa0 (by omega) h] at h2;exact ⟨h1,h2⟩
  ·have:p=ls.length:=by omega
   rw [if_neg h,if_neg h,if_pos this,if_pos this];exact ⟨hA,hB⟩
theorem akq (hm:E.m=0) (t q:Nat) (VO:List Nat) (bI:Nat→aH) (hnd:(t::q::VO).Nodup) (hbig:∀i,i∈t::q::VO→56≤i) [VB cs] (hT:s.ob t=.live ⟨cs++[.v (.slice none 0 0)],tt,1⟩) (hq:s.ob q=.free) (hT':bI 0=.live ⟨cs++[.sl 1 0 ([]:List Lk).length],tt,1⟩)
  (hR':bI 1=.live ⟨enc cK (Vf ([]:List Lk).length),e1,1⟩) (hF:Xf bI (fam e2 e3 [])) (ho:∀i,i∈VO→∃o,s.ob i=.live o∧bI i=.live o∧gD o.cells) (hx:∀i,56≤i→i∉VO→bI i=.free) (he:∀K y,eG (WO t q VO K) (s.env y) (e' y)):Vv E s ⟨e',bI⟩:=by
 have hts:q≠t:=fun e=>(List.nodup_cons.1 hnd).1 (by rw [e];simp);have ht:=hbig t (by simp);have OW:=hbig q (by simp);have hne:∀i,i≠t→i≠q→U4 (U4 s.ob t (.live ⟨cs++[.sl q 0 0],tt,1⟩)) q (.live ⟨[],e1,1⟩) i=s.ob i:=fun i h1 h2=>(VX _ _ h2).trans (VX _ _ h1);have hnt:U4 (U4 s.ob t (.live ⟨cs++[.sl q 0 0],tt,1⟩)) q (.live ⟨[],e1,1⟩) t=.live ⟨cs++[.sl q 0 0],tt,1⟩:=(VX _ _ (fun e=>hts e.symm)).trans (V9 _ _ _);refine (qK t cs.length q e1 1 hT (by simp) hq (cells':=cs++[.sl q 0 0]) (by simp)).trans ?_;refine canon hm t q VO [] [] bI rfl (by decide) (by rw [YV];simpa using hnd) (fun i hi=>hbig i (by simp [hi])) (List.nodup_cons.1 (List.nodup_cons.1 hnd).2).2 (T:=⟨cs++[.sl q 0 0],tt,1⟩) ?_ hT' ?_ ae3 ?_ hR' (fun p hp=>by simp at hp) hF (fun i hi=>?_) hx (he _)
 ·exact hnt
 ·rw [vT (n:=0) (by
   show cond (Nat.beq q t) 0 (cond (Nat.beq q q) 1 _)=1;have h1:Nat.beq q t=false:=by cases hh:Nat.beq q t with|false=>rfl|true=>exact absurd (Nat.eq_of_beq_eq_true hh) hts
   rw [h1,Nat.beq_refl];rfl)]
  rfl
 ·exact V9 _ _ _
 ·obtain ⟨o,k1,k2,k3⟩:=ho i hi;have h1:i≠t:=fun e=>(List.nodup_cons.1 hnd).1 (by rw [←e];simp [hi]);have h2:i≠q:=fun e=>(List.nodup_cons.1 (List.nodup_cons.1 hnd).2).1 (by rw [←e];exact hi);exact ⟨o,(hne i h1 h2).trans k1,k2,k3⟩
end
end Go.Lo
set_option linter.unusedVariables false
namespace Go.Lo
def EN:AV→AV
 | .v x=>.v x
 |_=>.any
def XV:List Nat→Nat→Bool
 | [],_=>false
 |a::l,t=>cond (Nat.beq t a) true (XV l t)
def lcE (K:List Nat) (e0 e1:Nat→AV):Nat→AV:=fun t=>cond (XV K t) (e0 t) (EN (e1 t))
def Known (E:VC) (av:AV) (u:Value):Prop:=∀(C:Ctx) (s:St) (a:Go.Act) (w:World),SR E C s a w→R w C av u
def nV (ob:Nat→aH) (K:List Nat) (kv:Nat→AV) (e:Nat→AV) (e1:(Nat→Value)→Nat→AV):Prop:=∀us t,(XV K t=true→e1 us t=.v (us t)∧(kv t=.any∨VN ob (e t) (kv t)))∧(XV K t=false→e1 us t=.any∨VN ob (e t) (e1 us t))
theorem akD {w w2:World} {C C2:Ctx} {av:AV} {u:Value} (h:R w C av u):R w2 C2 (EN av) u:=by
 cases h<;>first|exact .v _|exact .any _
theorem Gw {P:Program} {E:VC} {c:Code} {st:St} {Q:Exit→St→Prop} (K:List Nat) (kv:Nat→AV) (e1:(Nat→Value)→Nat→AV) (hE:nV st.ob K kv st.env e1)
  (h:∀us w0 X hL jQ,(∀t,t<E.N→XV K t=true→Known ⟨w0,fun _=>False,X,E.N,0,C0 X,hL,jQ⟩ (kv t) (us t))→VD P ⟨w0,fun _=>False,X,E.N,0,C0 X,hL,jQ⟩ c ⟨e1 us,U5⟩ (fun e s=>(∀t,XV K t=true→s.env t=.v (us t))∧Q e ⟨lcE K st.env s.env,st.ob⟩)):VD P E c st Q:=by
 rintro a w ⟨C,hs⟩
 let X:Nat→Prop:=fun b=>C.own b∧∀id o,st.ob id=.live o→C.blk id≠some b
 have hX:∀b,X b→C.own b:=fun b h=>h.1;have EO:∀b,X b→b<w.heap.size:=fun b h=>hs.obj.bnd b h.1;have jQ:vV (fun _=>False):=fun _ _ h=>h;have hL:Laid w X:=hs.laid.sub hX
 have h0:SR ⟨w,fun _=>False,X,E.N,0,C0 X,hL,jQ⟩ (C0 X) ⟨e1 (fun t=>a.tmps.getD t undef),U5⟩ a w:=by
  refine ⟨hs.size,hs.defers,fun t ht=>?_,⟨(fun id o h=>by cases h),(fun id o b h=>by cases h),(fun i i' o1 o2 b h1=>by cases h1),(fun id h=>h.elim),EO⟩,Fr.refl _ _,(fun id o b h=>by cases h),fun b h=>h,fun b _ h=>.inl h,fun i hi=>absurd hi (Nat.not_lt_zero i),EO⟩;obtain ⟨h1,h2⟩:=hE (fun t=>a.tmps.getD t undef) t
  cases hk:XV K t with
  |true=>show R w _ (e1 _ t) _;rw [(h1 hk).1];exact .v _
  |false=>
   rcases h2 hk with h3|h3
   ·show R w _ (e1 _ t) _;rw [h3];exact .any _
   ·exact hs.lend X (fun b hb=>hb) h3 (hs.env t ht)
 have hkn:∀t,t<E.N→XV K t=true→Known ⟨w,fun _=>False,X,E.N,0,C0 X,hL,jQ⟩ (kv t) (a.tmps.getD t undef):=fun t ht hk C2 s2 a2 w2 h2=>by
  have hr:R w (C0 X) (kv t) (a.tmps.getD t undef):=by
   rcases ((hE (fun t=>a.tmps.getD t undef) t).1 hk).2 with h3|h3
   ·rw [h3];exact .any _
   ·exact hs.lend X (fun b hb=>hb) h3 (hs.env t ht)
  exact hr.ext ⟨fun _ (h:False)=>h.elim,fun b hb hx ho=>(h2.WE b hb ho).elim hx (fun h=>h),fun b hb hx=>h2.fr.block b hb (fun h=>h)⟩
 refine wp_mono (h (fun t=>a.tmps.getD t undef) w X hL jQ hkn a w ⟨_,h0⟩) ?_;rintro e a' w' ⟨s,⟨C',hs'⟩,hk,hq⟩;have hb:∀b,b<w.heap.size→w'.heap[b]? =w.heap[b]? :=fun b hb=>hs'.fr.block b hb (fun h=>h);have hext:Ext w C w' C:=⟨fun _ h=>⟨h,rfl,rfl,rfl⟩,fun _ _ h=>h,fun b hb' _=>hb b hb'⟩
 refine ⟨⟨lcE K st.env s.env,st.ob⟩,⟨C,hs'.size,hs'.defers,fun t ht=>?_,⟨hs.obj.nil,fun id o b h1 h2=>?_,hs.obj.inj,hs.obj.dom,fun b hb=>Nat.lt_of_lt_of_le (hs.obj.bnd b hb) hs'.fr.size⟩,⟨hs'.fr.os.trans hs.fr.os,hs'.fr.tape.trans hs.fr.tape,hs'.fr.output.trans hs.fr.output,Nat.le_trans hs.fr.size hs'.fr.size,fun b hb' hG=>(hb b (Nat.lt_of_lt_of_le hb' hs.fr.size)).trans (hs.fr.block b hb' hG)⟩,hs.fresh,hs.keep,hs.WE,hs.init,hs.X4⟩,hq⟩
 ·show R w' C (lcE K st.env s.env t) _;unfold lcE;have hr:=hs'.env t ht
  cases hkt:XV K t with
  |true=>
   rw [hk t hkt] at hr;show R w' C (st.env t) _;rw [hr.dM];exact (hs.env t ht).ext hext
  |false=>exact akD hr
 ·obtain ⟨k1,cur,k2,k3,k4,k5⟩:=hs.obj.live id o b h1 h2;refine ⟨k1,cur,(hb b (hs.obj.bnd b k1)).trans k2,k3,k4,fun j av hj=>?_⟩;obtain ⟨u,hu,k6,k7⟩:=k5 j av hj;exact ⟨u,hu,k6,k7.ext hext⟩
section
variable {ob:Nat→aH} {K:List Nat} {kv e:Nat→AV} {e1:(Nat→Value)→Nat→AV}
theorem akf:nV ob [] none_ e (fun _=>none_):=fun us t=>⟨fun h=>(by cases h),fun _=>.inl rfl⟩
theorem Br {d t:Nat} (h:t≠d):XV (d::K) t=XV K t:=by
 show cond (Nat.beq t d) true (XV K t)=XV K t;rw [cu h];rfl
theorem Ka {d:Nat}:XV (d::K) d=true:=by
 show cond (Nat.beq d d) true _=true;rw [show Nat.beq d d=true from Nat.beq_refl d];rfl
theorem oZ (d:Nat) (av:AV) (hl:av=.any∨VN ob (e d) av) (h:nV ob K kv e e1) (hd:XV K d=false:=by rfl):nV ob (d::K) (upd kv d av) e (fun us=>upd (e1 us) d (.v (us d))):=fun us t=>by
 show (_→upd (e1 us) d (.v (us d)) t=_∧(upd kv d av t=_∨VN ob (e t) (upd kv d av t)))∧(_→upd (e1 us) d (.v (us d)) t=_∨VN ob (e t) (upd (e1 us) d (.v (us d)) t))
 by_cases ht:t=d
 ·subst ht;rw [upd_same,upd_same];exact ⟨fun _=>⟨rfl,hl⟩,fun h=>by rw [Ka] at h;cases h⟩
 ·rw [upd_ne _ _ ht,upd_ne _ _ ht,Br ht];exact h us t
theorem agy (d:Nat) (av:AV) (hl:VN ob (e d) av) (h:nV ob K kv e e1) (hd:XV K d=false:=by rfl):nV ob K kv e (fun us=>upd (e1 us) d av):=fun us t=>by
 show (_→upd (e1 us) d av t=_∧_)∧(_→upd (e1 us) d av t=_∨VN ob (e t) (upd (e1 us) d av t))
 by_cases ht:t=d
 ·subst ht;exact ⟨(fun h=>by rw [hd] at h;cases h),fun _=>.inr (by rw [upd_same];exact hl)⟩
 ·rw [upd_ne _ _ ht];exact h us t
theorem IQ {P:Nat→Prop}:∀t,XV [] t=true→P t:=fun t h=>by cases h
theorem acv {P:Nat→Prop} {d:Nat} (h1:P d) (h:∀t,XV K t=true→P t):∀t,XV (d::K) t=true→P t:=fun t ht=>by
 by_cases e:t=d
 ·rw [e];exact h1
 ·rw [Br e] at ht;exact h t ht
end
section
variable {P:Program} {E:VC} {st:St} {K:St→Prop}
theorem ajH {o:Oper} {d:Nat} {u:Value} {av:AV} (h:Vo P E o st (fun s=>s=⟨upd st.env d (.v u),st.ob⟩)) (hK:Known E av u) (hd:Nat.blt d E.N=true) (hk:K ⟨upd st.env d av,st.ob⟩):Vo P E o st K:=fun a w q hs=>by
 refine Oper.wp_mono ?_ (h a w q hs);rintro a' w' ⟨s,⟨C,hs'⟩,rfl⟩;refine ⟨⟨upd st.env d av,st.ob⟩,⟨C,hs'.size,hs'.defers,fun t ht=>?_,hs'.obj,hs'.fr,hs'.fresh,hs'.keep,hs'.WE,hs'.init,hs'.X4⟩,hk⟩;by_cases htd:t=d
 ·subst htd;show R w' C (upd st.env t av t) _;have:=hs'.env t ht;rw [show (⟨upd st.env t (.v u),st.ob⟩:St).env t=.v u from upd_same _ _ _] at this;rw [upd_same,this.dM];exact hK C _ a' w' hs'
 ·have:=hs'.env t ht;rw [show (⟨upd st.env d (.v u),st.ob⟩:St).env t=st.env t from upd_ne _ _ htd] at this;show R w' C (upd st.env d av t) _;rw [upd_ne _ _ htd];exact this
theorem FK {o:Oper} {s:TypeId} {x:Operand} {i d t off sz:Nat} {u:Value} {av dA:AV} (hK:Known E av u) (ho:o.op=.fieldAddr s x i) (hd:o.dst=some d) (hN:(aT E.N x&&Nat.blt d E.N)=true)
  (hf:VZ P s i=some (t,off)) (hsz:(P.info? t).map (·.size)=some (sz+1)) (hx:aO st.env x=.v u) (hp:ZN av=true) (ha:nL av off=dA) (h:K ⟨upd st.env d dA,st.ob⟩):Vo P E o st K:=by
 simp only [Bool.and_eq_true] at hN;refine W4 dA (fun d' hd'=>by rw [hd] at hd';cases hd';exact aS hN.2) (fun a w C hs=>?_) (by rw [hd];exact h);obtain ⟨fs,f,hu,hfi,rfl,rfl⟩:=af5 hf;have h1:=hs.ev x hN.1;rw [hx] at h1;have h2:=hK C _ a w hs;rw [←h1.dM] at h2;obtain ⟨ad,Wd,hr⟩:=adt h2 hp f.offset;refine ⟨.pointer (some (ad.add f.offset)),?_,by rw [←ha];exact hr⟩;simp [execOp,ho,Wd,Instr.fieldAt,run_underlying hu,hfi,Instr.sureAddr,fieldPlace,run_sizeOf hsz]
end
theorem Rl {P:Program} {f:FuncId} {dx:List aC} {a b c d e res:AV} {os:List aH} (h:iq P f dx [a,b,c,d,.ro 0 [],e] res os):iq P f dx [a,b,c,d,.v (.slice none 0 0),e] res os:=fun w C vs hsz eZ hL hrel=>
 h w C vs hsz eZ hL fun j av hj=>by
  rcases j with _|_|_|_|_|j
  ·exact hrel 0 av hj
  ·exact hrel 1 av hj
  ·exact hrel 2 av hj
  ·exact hrel 3 av hj
  ·cases hj
   have h1:=hrel 4 _ rfl;show R w C (.ro 0 []) (vs.getD 4 undef);rw [h1.dM];exact .ro 0 0 none [] (fun _=>undef) (Nat.le_refl _) (Nat.zero_le _) (fun _=>⟨rfl,rfl⟩) (fun j hj=>absurd hj (Nat.not_lt_zero j)) (fun j av hj=>by cases hj)
  ·exact hrel (j+5) av hj
end Go.Lo
set_option linter.unusedVariables false
set_option linter.unusedSimpArgs false
namespace Go.Lo
structure Qz where
 secs:List aD
 parts:List (List Int)
 pts:List aP
 routes:List (List Int)
 cn:Int
 acts:List Act
structure iW (routes:List (List Int)) (ls:List Lk):Prop where
 lk:∀x,x∈ls→gP routes x
 en:∀x,x∈ls→ -1≤x.ends
 nd:(ls.map fun x=>x.route).Nodup
section
variable {secs:List aD} {parts:List (List Int)} {pts:List aP} {routes:List (List Int)} {cn now:Int} {ls:List Lk} {x:Act} {acts:List Act}
theorem aj0 {r:Int} (h:jd ls r<0):r∉ls.map fun x=>x.route:=fun hm=>by
 obtain ⟨y,h1,h2⟩:=List.mem_map.1 hm
 have h3:jd ls r= -1:=by
  rcases oD (fun x:Lk=>decide (x.route=r)) aA ls with h4|h4
  ·exact h4
  ·have:0≤jd ls r:=h4.1;omega
 have h5:=any_none (fun x:Lk=>decide (x.route=r)) aA (l:=ls) h3;have:=List.any_eq_false.1 h5 y h1;simp at this;exact this h2
theorem Ki {r e:Int} (h:iW routes ls) (he:0≤e):iW routes (iP routes ls r e):=by
 unfold iP
 split
 ·generalize (jd ls r).toNat=k;by_cases hk:k<ls.length
  ·have hm:=VR (l:=ls) (k:=k) aA hk;have key:∀{y},y∈ls.set k (Yg (ls.getD k aA) e)→y∈ls∨y=Yg (ls.getD k aA) e:=fun hy=>List.mem_or_eq_of_mem_set hy;refine ⟨fun y hy=>?_,fun y hy=>?_,?_⟩
   ·rcases key hy with h1|h1
    ·exact h.lk y h1
    ·subst h1;have:=h.lk _ hm;unfold Yg
     split
     ·exact ⟨this.r,this.ps,this.ln⟩
     ·exact this
   ·rcases key hy with h1|h1
    ·exact h.en y h1
    ·subst h1;have:=h.en _ hm;unfold Yg
     split
     ·show-1≤e;omega
     ·exact this
   ·rw [List.map_set,show (Yg (ls.getD k aA) e).route=(ls.map fun x=>x.route).getD k 0 by
     have:(Yg (ls.getD k aA) e).route=(ls.getD k aA).route:=by unfold Yg;split<;>rfl
     rw [this];simp [hk],set_self]
    exact h.nd
  ·rw [List.set_eq_of_length_le (by omega)];exact h
 ·exact h
theorem I6 {t:Tu} (h:iW routes ls):iW routes (j5 t ls):=by
 have key:∀y,y∈j5 t ls→∃z,z∈ls∧y=tuX t z:=fun y hy=>by
  obtain ⟨z,h1,h2⟩:=List.mem_map.1 hy;exact ⟨z,(List.mem_filter.1 h1).1,h2.symm⟩
 refine ⟨fun y hy=>?_,fun y hy=>?_,?_⟩
 ·obtain ⟨z,h1,rfl⟩:=key y hy;have:=h.lk z h1;exact ⟨this.r,by show (fM t z z.pieces.length).1.length+1=_;rw [aaX];exact this.ps,this.ln⟩
 ·obtain ⟨z,h1,rfl⟩:=key y hy;exact h.en z h1
 ·unfold j5;rw [List.map_map];exact h.nd.sublist ((List.filter_sublist (l:=ls)).map _)
theorem I7 {r tr:Int} {Ve:List Int} {views:List View} {right:List Bool} (h:iW routes ls) (hrl:∀x,x∈routes→2≤x.length∧x.length≤9):iW routes (kV secs pts routes ls r tr Ve views right):=by
 by_cases he:Wa secs pts routes ls r Ve views right=0
 ·rw [(aeP he).1];have he2:=he;unfold Wa at he2;by_cases h1:r<0∨r≥(routes.length:Int)
  ·rw [if_pos h1] at he2;exact absurd he2 (by decide)
  rw [if_neg h1] at he2;by_cases h2:jd ls r≥0
  ·rw [if_pos h2] at he2;exact absurd he2 (by decide)
  have hq:=hrl _ (VR (l:=routes) (k:=r.toNat) [] (by omega));have hr0:0≤r∧r<(routes.length:Int):=by omega
  have hnew:gP routes ⟨r,tr, -1,List.replicate ((routes.getD r.toNat []).length-1) 1⟩:=⟨hr0,by show (List.replicate _ _).length+1=_;rw [List.length_replicate];show _=(routes.getD r.toNat []).length;omega,by show (routes.getD r.toNat []).length≤_;omega⟩
  refine ⟨fun y hy=>?_,fun y hy=>?_,?_⟩
  ·rcases List.mem_append.1 hy with hy|hy
   ·exact h.lk y hy
   ·rw [List.mem_singleton.1 hy];exact hnew
  ·rcases List.mem_append.1 hy with hy|hy
   ·exact h.en y hy
   ·rw [List.mem_singleton.1 hy];show (-1:Int)≤ -1;omega
  ·rw [List.map_append,List.nodup_append];refine ⟨h.nd,by simp,fun a ha b hb e=>?_⟩;subst e;simp at hb;subst hb;exact aj0 (by omega) ha
 ·rw [(agM he rfl).1];exact h
theorem iW.len (h:iW routes ls):ls.length≤routes.length:=by
 have:=aeW (n:=routes.length) h.nd (fun y hy=>by
  obtain ⟨z,h1,rfl⟩:=List.mem_map.1 hy;exact (h.lk z h1).r)
 simpa using this
theorem gP.R {x:Lk} (h:gP routes x):ZQ routes x:=⟨h.r,by have:=h.ps;omega,h.ln⟩
theorem iW.held (h:iW routes ls) (hT:fC secs pts=true) (hw:nJ secs pts routes) (hnd:∀x,x∈routes→x.Nodup):VF secs pts routes ls=Xu secs pts routes ls:=by
 refine GH fun i hi k hk=>?_;have hx:=h.lk _ (VR (l:=ls) (k:=i) aA hi);have hps:=hx.ps;have hr:=hx.r;exact GI (f:=⟨0,[],secs,[],pts,routes,[],[],[]⟩) hT hw hnd (VR (l:=routes) [] (by omega)) (by omega)
theorem agx (x:Act):(x.dw % 4=0∨x.dw % 4=1)∨x.dw % 4=2∨x.dw % 4=3:=by omega
end
end Go.Lo
set_option linter.unusedVariables false
set_option linter.unusedSimpArgs false
namespace Go.Lo
theorem I8 {out:List Bool} {n:Need} (h:0≤n.point∧n.point<(out.length:Int)):(jK out n).length=out.length∧∀k:Nat,(k:Int)≠n.point→(jK out n).getD k false=out.getD k false:=by
 unfold jK
 split
 ·exact ⟨rfl,fun _ _=>rfl⟩
 ·rw [show n.point.toNat+1-out.length=0 by omega];refine ⟨by simp,fun k hk=>?_⟩;simp only [List.replicate_zero,List.append_nil];rw [List.getD_eq_getElem?_getD,List.getElem?_set_ne (by omega), ←List.getD_eq_getElem?_getD]
theorem uO:∀(m:List Need) (right:List Bool),(∀n,n∈m→0≤n.point∧n.point<(right.length:Int))→(bP right m).length=right.length∧∀k:Nat,(∀n,n∈m→(k:Int)≠n.point)→(bP right m).getD k false=right.getD k false
 | [],_,_=>⟨rfl,fun _ _=>rfl⟩
 |n::m,right,h=>by
  obtain ⟨h1,h2⟩:=I8 (h n List.mem_cons_self);obtain ⟨h3,h4⟩:=uO m (jK right n) (fun z hz=>by rw [h1];exact h z (List.mem_cons_of_mem _ hz));exact ⟨h3.trans h1,fun k hk=>(h4 k fun z hz=>hk z (List.mem_cons_of_mem _ hz)).trans (h2 k (hk n List.mem_cons_self))⟩
section
variable {secs:List aD} {parts:List (List Int)} {pts:List aP} {routes:List (List Int)} {ls:List Lk} {r:Int} {Ve:List Int} {right:List Bool}
theorem AY (h:Wa secs pts routes ls r Ve [] right=0):∀n,n∈bF (Vh secs pts (routes.getD r.toNat [])) right→gG pts Ve [] (Yq routes ls secs.length) (Xu secs pts routes ls) n.point=true:=fun n hn=>by
 unfold Wa at h
 split at h
 ·cases h
 ·split at h
  ·cases h
  ·split at h
   ·cases h
   ·split at h
    ·cases h
    ·rename_i h4;have:=List.any_eq_false.1 (by simpa using h4) n hn;unfold aaC at this;simpa using this
theorem rz {n:Need} (h:gG pts Ve [] (Yq routes ls secs.length) (Xu secs pts routes ls) n.point=true) (hl:(Xu secs pts routes ls).length=pts.length) (hs:(Yq routes ls secs.length).length=secs.length) (hst:Ve.length=secs.length):
  0≤n.point∧n.point<(pts.length:Int)∧(Xu secs pts routes ls).getD n.point.toNat false=false∧(Yq routes ls secs.length).getD (pts.getD n.point.toNat dP).stem.toNat false=false∧Ve.getD (pts.getD n.point.toNat dP).stem.toNat 0=0:=by
 unfold gG at h
 split at h
 ·cases h
 ·rename_i h1;simp only [Bool.or_eq_true,decide_eq_true_eq,not_or] at h1;rw [if_neg (by simp)] at h;simp only [Bool.and_eq_true,decide_eq_true_eq,beq_iff_eq,Bool.not_eq_true'] at h;refine ⟨by omega,by omega,?_,?_,h.1.2⟩
  ·have h2:=h1.2;unfold hasB at h2;rw [hl,decide_eq_true (show n.point≥0 by omega),decide_eq_true (show n.point<(pts.length:Int) by omega)] at h2;simpa using h2
  ·have h2:=h.2;unfold hasB at h2;rw [hs,decide_eq_true h.1.1.1,decide_eq_true (show (pts.getD n.point.toNat dP).stem<(secs.length:Int) by omega)] at h2;simpa using h2
theorem AZ (hr:right.length=pts.length) (hl:(Xu secs pts routes ls).length=pts.length) (hs:(Yq routes ls secs.length).length=secs.length) (hst:Ve.length=secs.length):(kZ secs pts routes ls r Ve [] right).length=right.length∧
  ∀k:Nat,¬(kZ secs pts routes ls r Ve [] right).getD k false=right.getD k false→Wa secs pts routes ls r Ve [] right=0∧(Xu secs pts routes ls).getD k false=false∧(Yq routes ls secs.length).getD (pts.getD k dP).stem.toNat false=false∧Ve.getD (pts.getD k dP).stem.toNat 0=0:=by
 unfold kZ;by_cases hE:Wa secs pts routes ls r Ve [] right=0
 ·rw [if_pos hE];have hm:=AY hE
  obtain ⟨h1,h2⟩:=uO (bF (Vh secs pts (routes.getD r.toNat [])) right) right (fun n hn=>by
   have:=rz (hm n hn) hl hs hst;rw [hr];exact ⟨this.1,this.2.1⟩)
  refine ⟨h1,fun k hk=>?_⟩;by_cases hex:∃n,n∈bF (Vh secs pts (routes.getD r.toNat [])) right∧(k:Int)=n.point
  ·obtain ⟨n,hn,he⟩:=hex;have:=rz (hm n hn) hl hs hst;rw [←he,Int.toNat_natCast] at this;exact ⟨hE,this.2.2⟩
  ·exact absurd (h2 k fun n hn he=>hex ⟨n,hn,he⟩) hk
 ·rw [if_neg hE];exact ⟨rfl,fun k hk=>absurd rfl hk⟩
end
def WS (Q:Qz):Nat→List Lk×List Bool
 |0=>([],List.replicate Q.pts.length false)
 |i+1=>let x:=Q.acts.getD i aG
  if x.dw % 4<2 then (kV Q.secs Q.pts Q.routes (WS Q i).1 (x.n % ((Q.routes.length:Int)+1)) (x.tr % 4) (Vz x Q.secs.length) [] (WS Q i).2,kZ Q.secs Q.pts Q.routes (WS Q i).1 (x.n % ((Q.routes.length:Int)+1)) (Vz x Q.secs.length) [] (WS Q i).2)
  else if x.dw % 4=2 then (iP Q.routes (WS Q i).1 (x.n % ((Q.routes.length:Int)+1)) ((i:Int)+Q.cn),(WS Q i).2) else (j5 ⟨Q.routes,Q.parts,(i:Int),Vz x Q.secs.length,jP x Q.parts.length⟩ (WS Q i).1,(WS Q i).2)
structure ROk (Q:Qz) (p:List Lk×List Bool):Prop where
 ok:iW Q.routes p.1
 ap:Ap Q.routes p.1
 ln:p.2.length=Q.pts.length
section
variable {Q:Qz} {i:Nat}
theorem vY (h:(Q.acts.getD i aG).dw % 4<2):WS Q (i+1)=(kV Q.secs Q.pts Q.routes (WS Q i).1 ((Q.acts.getD i aG).n % ((Q.routes.length:Int)+1)) ((Q.acts.getD i aG).tr % 4) (Vz (Q.acts.getD i aG) Q.secs.length) [] (WS Q i).2,kZ Q.secs Q.pts Q.routes (WS Q i).1 ((Q.acts.getD i aG).n % ((Q.routes.length:Int)+1)) (Vz (Q.acts.getD i aG) Q.secs.length) [] (WS Q i).2):=by
 conv=>lhs;unfold WS
 exact if_pos h
theorem agX (h:(Q.acts.getD i aG).dw % 4=2):WS Q (i+1)=(iP Q.routes (WS Q i).1 ((Q.acts.getD i aG).n % ((Q.routes.length:Int)+1)) ((i:Int)+Q.cn),(WS Q i).2):=by
 conv=>lhs;unfold WS
 exact (if_neg (by omega)).trans (if_pos h)
theorem agY (h:(Q.acts.getD i aG).dw % 4=3):WS Q (i+1)=(j5 ⟨Q.routes,Q.parts,(i:Int),Vz (Q.acts.getD i aG) Q.secs.length,jP (Q.acts.getD i aG) Q.parts.length⟩ (WS Q i).1,(WS Q i).2):=by
 conv=>lhs;unfold WS
 exact (if_neg (by omega)).trans (if_neg (by omega))
theorem vg (hrl:∀x,x∈Q.routes→2≤x.length∧x.length≤9) (hnd:∀x,x∈Q.routes→x.Nodup) (hc:0≤Q.cn) (hT:fC Q.secs Q.pts=true) (hw:nJ Q.secs Q.pts Q.routes):∀i,ROk Q (WS Q i)
 |0=>⟨⟨fun _ h=>(by cases h),fun _ h=>(by cases h),List.nodup_nil⟩,JW,List.length_replicate⟩
 |i+1=>by
  have ih:=vg hrl hnd hc hT hw i;have hR:∀y,y∈(WS Q i).1→ZQ Q.routes y:=fun y hy=>(ih.ok.lk y hy).R;have N8:(Xu Q.secs Q.pts Q.routes (WS Q i).1).length=Q.pts.length:=by rw [←ih.ok.held hT hw hnd];exact abz
  have hsl:(Yq Q.routes (WS Q i).1 Q.secs.length).length=Q.secs.length:=by simp [Yq]
  rcases agx (Q.acts.getD i aG) with h|h|h
  ·rw [vY (by omega)];exact ⟨I7 ih.ok hrl,JZ hnd hR ih.ap,((AZ ih.ln N8 hsl uW).1).trans ih.ln⟩
  ·rw [agX h];exact ⟨Ki ih.ok (by omega),JX ih.ap,ih.ln⟩
  ·rw [agY h];exact ⟨I6 ih.ok,aki ih.ap,ih.ln⟩
end
theorem uw (path:List Int) (b:Int):∀(l:List Int) (k:Nat),XX path (l++[b]) k=XX path l k++(if b=0 then [] else [path.getD (k+l.length+1) 0])
 | [],k=>by
  show XX path [b] k=_;rw [nk]
  split<;>simp [XX]
 |a::l,k=>by
  rw [List.cons_append,nk,nk,uw path b l (k+1),show k+1+l.length+1=k+(a::l).length+1 by simp;omega]
  split
  ·rfl
  ·rfl
def pcA (routes:List (List Int)) (x:Lk):List Int:=XX (routes.getD x.route.toNat []) x.pieces 0
def eT (routes:List (List Int)) (ls:List Lk) (k:Nat):List Int:=(ls.take k).flatMap (pcA routes)
def Xx (routes:List (List Int)) (ls:List Lk) (k j:Nat):List Int:=eT routes ls k++XX (routes.getD (ls.getD k aA).route.toNat []) ((ls.getD k aA).pieces.take j) 0
section
variable {routes:List (List Int)} {ls:List Lk} {k j:Nat}
theorem agR:eT routes ls k=Xx routes ls k 0:=by
 unfold Xx;simp [XX]
theorem I9 (h:k<ls.length):ls.take (k+1)=ls.take k++[ls.getD k aA]:=by
 rw [List.take_add_one,List.getD_eq_getElem?_getD,List.getElem?_eq_getElem h];rfl
theorem agr {l:List Int} (h:j<l.length):l.take (j+1)=l.take j++[l.getD j 0]:=by
 rw [List.take_add_one,List.getD_eq_getElem?_getD,List.getElem?_eq_getElem h];rfl
theorem agz (h:k<ls.length) (hj:j=(ls.getD k aA).pieces.length):Xx routes ls k j=eT routes ls (k+1):=by
 subst hj;unfold Xx eT pcA;rw [I9 h,List.flatMap_append,List.take_of_length_le (Nat.le_refl _)];simp
theorem JV (hj:j<(ls.getD k aA).pieces.length) (h:((ls.getD k aA).pieces.getD j 0 != 0)=true):Xx routes ls k j++[(routes.getD (ls.getD k aA).route.toNat []).getD (j+1) 0]=Xx routes ls k (j+1):=by
 unfold Xx;rw [agr hj,uw,if_neg (by simpa using h),List.append_assoc,List.length_take,show 0+min j (ls.getD k aA).pieces.length+1=j+1 by omega]
theorem akh (hj:j<(ls.getD k aA).pieces.length) (h:((ls.getD k aA).pieces.getD j 0 != 0)=false):Xx routes ls k j=Xx routes ls k (j+1):=by
 unfold Xx;rw [agr hj,uw,if_pos (by simpa using h),List.append_nil]
theorem uP (path:List Int):∀(l:List Int) (k:Nat),(XX path l k).length≤l.length
 | [],_=>Nat.le_refl _
 |b::l,k=>by
  rw [nk];have:=uP path l (k+1)
  split<;>simp<;>omega
theorem uY (hrl:∀x,x∈routes→2≤x.length∧x.length≤9) (hlk:∀x,x∈ls→gP routes x):∀k,k≤ls.length→(eT routes ls k).length≤9*k
 |0,_=>by simp [eT]
 |k+1,h=>by
  have ih:=uY hrl hlk k (by omega);have hx:=hlk _ (VR (l:=ls) (k:=k) aA (by omega));have hq:=hrl _ (VR (l:=routes) (k:=(ls.getD k aA).route.toNat) [] (by have:=hx.r;omega));have h1:=uP (routes.getD (ls.getD k aA).route.toNat []) (ls.getD k aA).pieces 0;have h2:=hx.ps;have h3:=hx.ln;rw [←agz (j:=(ls.getD k aA).pieces.length) (by omega) rfl];unfold Xx;rw [List.length_append,List.take_of_length_le (Nat.le_refl _)];omega
theorem akg (hrl:∀x,x∈routes→2≤x.length∧x.length≤9) (hlk:∀x,x∈ls→gP routes x) (hk:k<ls.length):(Xx routes ls k j).length≤9*k+9:=by
 have ih:=uY hrl hlk k (by omega);have hx:=hlk _ (VR (l:=ls) (k:=k) aA hk);have hq:=hrl _ (VR (l:=routes) (k:=(ls.getD k aA).route.toNat) [] (by have:=hx.r;omega));have h1:=uP (routes.getD (ls.getD k aA).route.toNat []) ((ls.getD k aA).pieces.take j) 0;have h2:=hx.ps;have h3:=hx.ln;rw [List.length_take] at h1;unfold Xx;rw [List.length_append];omega
theorem GJ (h:Ap routes ls) (hk:k=ls.length):(eT routes ls k).Nodup:=by
 subst hk;unfold eT pcA;rw [List.take_of_length_le (Nat.le_refl _)];refine List.pairwise_flatMap.2 ⟨fun x hx=>?_,?_⟩
 ·refine zC _ 0 (fun i j hi hj h1 h2 h3=>?_);exact h.one (core x) (List.mem_map.2 ⟨x,hx,rfl⟩) i j _ ⟨hi,h1,rfl⟩ ⟨hj,h2,by have h4:=h3;rw [Nat.zero_add,Nat.zero_add] at h4;exact h4.symm⟩
 ·refine (List.pairwise_map.1 h.two).imp (fun {a b} hab y hy z hz he=>?_);subst he;obtain ⟨k,hk⟩:=agq.1 hy;obtain ⟨q,hq⟩:=agq.1 hz;exact hab k q _ hk hq
theorem Hw (h:Ap routes ls) (hk:k=ls.length):(nH (eT routes ls k)).length=(eT routes ls k).length:=by
 have hn:=GJ h hk;have hr:=acA (eT routes ls k) (eT routes ls k).length;exact Nat.le_antisymm hr.len (aeF _ _ hn fun x hx=>Gz hx)
end
theorem Tm {routes:List (List Int)} {r e:Int}:iP routes [] r e=[]:=by
 unfold iP
 split<;>rfl
def ay (Q:Qz) (i:Nat):List Lk:=(WS Q i).1
def Vi (Q:Qz) (i:Nat):List Bool:=(WS Q i).2
section
variable {secs:List aD} {parts:List (List Int)} {pts:List aP} {routes:List (List Int)} {ls:List Lk} {r:Int} {Ve:List Int} {right:List Bool}
theorem aeU {k:Nat} (hwho:∀s,fB routes ls s=jZ routes ls s) (rZ:VF secs pts routes ls=Xu secs pts routes ls) (hr:right.length=pts.length) (hst:Ve.length=secs.length) (he:Wa secs pts routes ls r Ve [] right=0)
  (hb:(!((bP right (bF (Vh secs pts (routes.getD r.toNat [])) right)).getD k false==right.getD k false))=true):(0≤(pts.getD k dP).stem∧(pts.getD k dP).stem<(secs.length:Int))∧(VF secs pts routes ls).getD k false=false∧(bV routes ls secs.length secs.length).getD (pts.getD k dP).stem.toNat false=false∧(Ve.getD (pts.getD k dP).stem.toNat 0 != 0)=false:=by
 rw [rZ,GK hwho];have hl:(Xu secs pts routes ls).length=pts.length:=by rw [←rZ];exact abz
 have hs:(Yq routes ls secs.length).length=secs.length:=by simp [Yq]
 have hm:=AY he;have hk:¬(bP right (bF (Vh secs pts (routes.getD r.toNat [])) right)).getD k false=right.getD k false:=by simpa using hb
 have h2:=(uO (bF (Vh secs pts (routes.getD r.toNat [])) right) right (fun n hn=>by
   have:=rz (hm n hn) hl hs hst;rw [hr];exact ⟨this.1,this.2.1⟩)).2
 by_cases hex:∃n,n∈bF (Vh secs pts (routes.getD r.toNat [])) right∧(k:Int)=n.point
 ·obtain ⟨n,hn,hp⟩:=hex;have h3:=rz (hm n hn) hl hs hst;have h4:=hm n hn;rw [←hp,Int.toNat_natCast] at h3;rw [←hp] at h4;refine ⟨?_,h3.2.2.1,h3.2.2.2.1,by rw [h3.2.2.2.2];rfl⟩;unfold gG at h4
  split at h4
  ·cases h4
  ·rw [if_neg (by simp)] at h4;simp only [Bool.and_eq_true,decide_eq_true_eq,Int.toNat_natCast] at h4;omega
 ·exact absurd (h2 k fun n hn hp=>hex ⟨n,hn,hp⟩) hk
theorem Gu (hwho:∀s,fB routes ls s=jZ routes ls s) (rZ:VF secs pts routes ls=Xu secs pts routes ls) (hr:right.length=pts.length) (hst:Ve.length=secs.length) (he:Wa secs pts routes ls r Ve [] right=0):(bP right (bF (Vh secs pts (routes.getD r.toNat [])) right)).length=right.length:=by
 have hl:(Xu secs pts routes ls).length=pts.length:=by rw [←rZ];exact abz
 have hs:(Yq routes ls secs.length).length=secs.length:=by simp [Yq]
 have h1:=(AZ (r:=r) hr hl hs hst).1
 rwa [(aeP (tr:=0) he).2] at h1
end
section
variable {ss:List aD} {pa:List (List Int)} {pp:List aP} {rr:List (List Int)} {cn:Int} {acts:List Act} {i:Nat}
theorem M8 (h:(acts.getD i aG).dw % 4<2) (he:Wa ss pp rr (ay (⟨ss,pa,pp,rr,cn,acts⟩:Qz) i) ((acts.getD i aG).n % ((rr.length:Int)+1)) (Vz (acts.getD i aG) ss.length) [] (Vi (⟨ss,pa,pp,rr,cn,acts⟩:Qz) i)=0):
  ay (⟨ss,pa,pp,rr,cn,acts⟩:Qz) i++[⟨(acts.getD i aG).n % ((rr.length:Int)+1),(acts.getD i aG).tr % 4, -1,List.replicate ((rr.getD ((acts.getD i aG).n % ((rr.length:Int)+1)).toNat []).length-1) 1⟩]=ay (⟨ss,pa,pp,rr,cn,acts⟩:Qz) (i+1)∧
  bP (Vi (⟨ss,pa,pp,rr,cn,acts⟩:Qz) i) (bF (Vh ss pp (rr.getD ((acts.getD i aG).n % ((rr.length:Int)+1)).toNat [])) (Vi (⟨ss,pa,pp,rr,cn,acts⟩:Qz) i))=Vi (⟨ss,pa,pp,rr,cn,acts⟩:Qz) (i+1):=by
 have h1:=vY (Q:=⟨ss,pa,pp,rr,cn,acts⟩) (i:=i) h;have h2:=aeP (tr:=(acts.getD i aG).tr % 4) he;exact ⟨(h2.1.symm.trans (congrArg Prod.fst h1).symm),(h2.2.symm.trans (congrArg Prod.snd h1).symm)⟩
theorem M9 (h:(acts.getD i aG).dw % 4<2) (he:¬Wa ss pp rr (ay (⟨ss,pa,pp,rr,cn,acts⟩:Qz) i) ((acts.getD i aG).n % ((rr.length:Int)+1)) (Vz (acts.getD i aG) ss.length) [] (Vi (⟨ss,pa,pp,rr,cn,acts⟩:Qz) i)=0):
  ay (⟨ss,pa,pp,rr,cn,acts⟩:Qz) i=ay (⟨ss,pa,pp,rr,cn,acts⟩:Qz) (i+1)∧Vi (⟨ss,pa,pp,rr,cn,acts⟩:Qz) i=Vi (⟨ss,pa,pp,rr,cn,acts⟩:Qz) (i+1):=by
 have h1:=vY (Q:=⟨ss,pa,pp,rr,cn,acts⟩) (i:=i) h;have h2:=agM (tr:=(acts.getD i aG).tr % 4) he rfl;exact ⟨(h2.1.symm.trans (congrArg Prod.fst h1).symm),(h2.2.symm.trans (congrArg Prod.snd h1).symm)⟩
theorem Na (h:(acts.getD i aG).dw % 4=2):iP rr (ay (⟨ss,pa,pp,rr,cn,acts⟩:Qz) i) ((acts.getD i aG).n % ((rr.length:Int)+1)) ((i:Int)+cn)=ay (⟨ss,pa,pp,rr,cn,acts⟩:Qz) (i+1)∧Vi (⟨ss,pa,pp,rr,cn,acts⟩:Qz) i=Vi (⟨ss,pa,pp,rr,cn,acts⟩:Qz) (i+1):=by
 have h1:=agX (Q:=⟨ss,pa,pp,rr,cn,acts⟩) (i:=i) h;exact ⟨(congrArg Prod.fst h1).symm,(congrArg Prod.snd h1).symm⟩
theorem Nb (h:(acts.getD i aG).dw % 4=3):j5 ⟨rr,pa,(i:Int),Vz (acts.getD i aG) ss.length,jP (acts.getD i aG) pa.length⟩ (ay (⟨ss,pa,pp,rr,cn,acts⟩:Qz) i)=ay (⟨ss,pa,pp,rr,cn,acts⟩:Qz) (i+1)∧Vi (⟨ss,pa,pp,rr,cn,acts⟩:Qz) i=Vi (⟨ss,pa,pp,rr,cn,acts⟩:Qz) (i+1):=by
 have h1:=agY (Q:=⟨ss,pa,pp,rr,cn,acts⟩) (i:=i) h;exact ⟨(congrArg Prod.fst h1).symm,(congrArg Prod.snd h1).symm⟩
end
end Go.Lo
