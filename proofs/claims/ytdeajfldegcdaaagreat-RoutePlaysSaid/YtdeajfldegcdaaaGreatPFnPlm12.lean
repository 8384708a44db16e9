/- Part of the logic of values: what the law reaches. -/
import Derived.Test.YtdeajfldegcdaaaGreatPFnPlm11
import Derived.Test.YtdeajfldegcdaaaGreatPFnPlm9
import Derived.Test.YtdeajfldegcdaaaGreatPFnPlm10
set_option linter.unusedVariables false
set_option linter.unusedSimpArgs false
namespace Go.Lo
theorem QC {E:cZ} {s:St} {id e z:Nat} {cs r:List AV} (hl:s.ob id=.live ⟨cs++r,e,z⟩):ck E s ⟨s.env,ah s.ob id (.live ⟨cs,e,z⟩)⟩:=by
 rintro a w ⟨C,hs⟩
 have hlive:∀i o,ah s.ob id (.live ⟨cs,e,z⟩) i=.live o→(i=id∧o=⟨cs,e,z⟩)∨(i≠id∧s.ob i=.live o):=fun i o h=>by
  by_cases he:i=id
  ·subst he;rw [ec] at h;cases h;exact .inl ⟨rfl,rfl⟩
  ·rw [dJ _ _ he] at h;exact .inr ⟨he,h⟩
 have pT:∀i o,ah s.ob id (.live ⟨cs,e,z⟩) i=.live o→∃o',s.ob i=.live o':=fun i o h=>by
  rcases hlive i o h with ⟨rfl,_⟩|⟨_,h⟩
  ·exact ⟨_,hl⟩
  ·exact ⟨_,h⟩
 refine ⟨C,hs.size,hs.defers,hs.env,⟨fun i o h=>?_,fun i o b h hb=>?_,fun i i' o o' b h1 h2 h3 h4=>?_,fun i hi=>?_,hs.obj.bnd⟩,hs.fr,fun i o b h hb=>?_,hs.keep,hs.fO,hs.init,hs.kf⟩
 ·rcases hlive i o h with ⟨rfl,rfl⟩|⟨_,h⟩
  ·obtain ⟨h1,h2,h3⟩:=hs.obj.nil i _ hl;exact ⟨h1,h2,fun hb=>(List.append_eq_nil_iff.1 (h3 hb)).1⟩
  ·exact hs.obj.nil i o h
 ·rcases hlive i o h with ⟨rfl,rfl⟩|⟨_,h⟩
  ·obtain ⟨h1,cur,h2,h3,h4,h5⟩:=hs.obj.live i _ b hl hb;refine ⟨h1,cur,h2,h3,by simp at h4 ⊢;omega,fun j av hj=>h5 j av ?_⟩;show (cs++r)[j]? =_;rw [List.getElem?_append_left (List.getElem?_eq_some_iff.1 hj).1];exact hj
  ·exact hs.obj.live i o b h hb
 ·obtain ⟨_,k1⟩:=pT i o h1;obtain ⟨_,k2⟩:=pT i' o' h2;exact hs.obj.inj i i' _ _ b k1 k2 h3 h4
 ·show ah s.ob id _ i≠ .free;by_cases he:i=id
  ·subst he;rw [ec];intro h;cases h
  ·rw [dJ _ _ he];exact hs.obj.dom i hi
 ·obtain ⟨_,k1⟩:=pT i o h;exact hs.fresh i _ b k1 hb
theorem QD {E:cZ} {s:St} {cg:Nat→aK} (hm:E.m=0) (h:∀i,cg i=s.ob i∨(s.ob i=.free∧cg i=.live t5)):ck E s ⟨s.env,cg⟩:=by
 rintro a w ⟨C,hs⟩;have hnd:∀i,s.ob i=.free→¬C.dom i:=fun i hf hd=>hs.obj.dom i hd hf
 classical
 let C2:Ctx:=⟨fun i=>if s.ob i=.free then none else C.blk i,fun i=>if s.ob i=.free then 0 else C.sz i,fun i=>if s.ob i=.free then 1 else C.ci i,fun i=>C.dom i∨(s.ob i=.free∧cg i=.live t5),C.own⟩
 have hext:Ext w C w C2:=⟨fun i hd=>by
  have hf:¬s.ob i=.free:=fun hf=>hnd i hf hd;exact ⟨.inl hd,by show (if _ then _ else _)=_;rw [if_neg hf],by show (if _ then _ else _)=_;rw [if_neg hf],by show (if _ then _ else _)=_;rw [if_neg hf]⟩,fun _ _ hb=>hb,fun _ _ _=>rfl⟩
 have hold:∀i o,cg i=.live o→(¬s.ob i=.free∧s.ob i=.live o)∨(s.ob i=.free∧o=t5):=fun i o hl=>by
  rcases h i with h1|⟨h1,h2⟩
  ·rw [h1] at hl;exact .inl ⟨fun e=>(by rw [e] at hl;cases hl),hl⟩
  ·rw [h2] at hl;cases hl;exact .inr ⟨h1,rfl⟩
 refine ⟨C2,hs.size,hs.defers,fun t ht=>(hs.env t ht).ext hext,⟨fun i o hl=>?_,fun i o b hl hb=>?_,fun i i' o o' b h1 h2 h3 h4=>?_,fun i hi=>?_,hs.obj.bnd⟩,hs.fr,fun i o b hl hb=>?_,hs.keep,hs.fO,fun i hi=>by omega,hs.kf⟩
 ·rcases hold i o hl with ⟨hf,h1⟩|⟨hf,rfl⟩
  ·obtain ⟨k1,k2,k3⟩:=hs.obj.nil i o h1;exact ⟨.inl k1,by show (if _ then _ else _)=_;rw [if_neg hf];exact k2,fun hb=>k3 (by have hb':(if s.ob i=.free then none else C.blk i)=none:=hb;rw [if_neg hf] at hb';exact hb')⟩
  ·exact ⟨.inr ⟨hf,hl⟩,by show (if _ then _ else _)=_;rw [if_pos hf];rfl,fun _=>rfl⟩
 ·rcases hold i o hl with ⟨hf,h1⟩|⟨hf,rfl⟩
  ·have hb':(if s.ob i=.free then none else C.blk i)=some b:=hb;rw [if_neg hf] at hb';obtain ⟨k1,cur,k2,k3,k4,k5⟩:=hs.obj.live i o b h1 hb';refine ⟨k1,cur,k2,by show _=(if _ then _ else _);rw [if_neg hf];exact k3,k4,fun j av hj=>?_⟩;obtain ⟨u,m1,m2,m3⟩:=k5 j av hj;exact ⟨u,m1,m2,m3.ext hext⟩
  ·have hb':(if s.ob i=.free then none else C.blk i)=some b:=hb;rw [if_pos hf] at hb';cases hb'
 ·have key:∀i o,cg i=.live o→C2.blk i=some b→s.ob i=.live o∧C.blk i=some b:=fun i o hl hb=>by
   have hb':(if s.ob i=.free then none else C.blk i)=some b:=hb;rcases hold i o hl with ⟨hf,h1⟩|⟨hf,_⟩
   ·rw [if_neg hf] at hb';exact ⟨h1,hb'⟩
   ·rw [if_pos hf] at hb';cases hb'
  obtain ⟨a1,a2⟩:=key i o h1 h3;obtain ⟨b1,b2⟩:=key i' o' h2 h4;exact hs.obj.inj i i' _ _ b a1 b1 a2 b2
 ·rcases h i with h1|⟨h1,h2⟩
  ·show cg i≠ .free;rw [h1];rcases hi with hi|⟨hf,h2⟩
   ·exact hs.obj.dom i hi
   ·rw [h1,hf] at h2;cases h2
  ·show cg i≠ .free;rw [h2];intro e;cases e
 ·have hb':(if s.ob i=.free then none else C.blk i)=some b:=hb;rcases hold i o hl with ⟨hf,h1⟩|⟨hf,_⟩
  ·rw [if_neg hf] at hb';exact hs.fresh i o b h1 hb'
  ·rw [if_pos hf] at hb';cases hb'
def kp (K:List (Nat×Nat)):List (Nat×Nat):=(K.zipIdx 8).map fun x=>(x.1.1,x.2)
def kq (K:List (Nat×Nat)):List (Nat×Nat):=(K.zipIdx 32).map fun x=>(x.1.2,x.2)
def f9 (t q:Nat) (dk:List Nat) (K:List (Nat×Nat)):List (Nat×Nat):=(t,0)::(q,1)::(dk.map (fun i=>(i,i))++(kp K++kq K))
theorem Ts {K:List (Nat×Nat)} {p:Nat} (h:p<K.length):((K.getD p (0,0)).1,p+8)∈kp K:=by
 refine List.mem_map.2 ⟨(K.getD p (0,0),p+8),?_,rfl⟩;have:(K.zipIdx 8)[p]? =some (K.getD p (0,0),p+8):=by simp [h,Nat.add_comm]
 exact List.mem_of_getElem? this
theorem Tt {K:List (Nat×Nat)} {p:Nat} (h:p<K.length):((K.getD p (0,0)).2,p+32)∈kq K:=by
 refine List.mem_map.2 ⟨(K.getD p (0,0),p+32),?_,rfl⟩;have:(K.zipIdx 32)[p]? =some (K.getD p (0,0),p+32):=by simp [h,Nat.add_comm]
 exact List.mem_of_getElem? this
theorem Tv (K:List (Nat×Nat)):(kp K).map (·.2)=List.range' 8 K.length:=by simp [kp,Function.comp_def,List.zipIdx_map_snd]
theorem Tw (K:List (Nat×Nat)):(kq K).map (·.2)=List.range' 32 K.length:=by simp [kq,Function.comp_def,List.zipIdx_map_snd]
section
variable {E:cZ} {s:St} {e':Nat→AV} {T T':ay} {e1 e2 e3:Nat}
theorem canon (hm:E.m=0) (t q:Nat) (dk:List Nat) (K:List (Nat×Nat)) (ls:List Lk) (cg:Nat→aK) (hK:K.length=ls.length) (hn:ls.length≤24) (hnd:((f9 t q dk K).map (·.1)).Nodup) (hoth:∀i,i∈dk→56≤i) (qo:dk.Nodup)
  (hT:s.ob t=.live T) (hT':cg 0=.live T') (XT:ay.map (rn (f9 t q dk K)) T=T') (YU:∀c,c∈T.cells→Ok (· ∈(f9 t q dk K).map (·.1)) True c)
  (hR:s.ob q=.live ⟨K.map fun k=>.pt k.1 0,e1,1⟩) (hR':cg 1=.live ⟨enc b5 (br ls.length),e1,1⟩)
  (hL:∀p,p<K.length→s.ob (K.getD p (0,0)).1=.live (j8 e2 (K.getD p (0,0)).2 (ls.getD p ao))∧s.ob (K.getD p (0,0)).2=.live (gY e3 (ls.getD p ao)))
  (hF:gK cg (fam e2 e3 ls)) (ho:∀i,i∈dk→∃o,s.ob i=.live o∧cg i=.live o∧ii o.cells) (hx:∀i,56≤i→i∉dk→cg i=.free) (he:∀x,ga (f9 t q dk K) (s.env x) (e' x)):ck E s ⟨e',cg⟩:=by
 have hm0:(t,0)∈f9 t q dk K:=List.mem_cons_self ..;have hm1:(q,1)∈f9 t q dk K:=List.mem_cons_of_mem _ (List.mem_cons_self ..);have hmo:∀i,i∈dk→(i,i)∈f9 t q dk K:=fun i hi=>List.mem_cons_of_mem _ (List.mem_cons_of_mem _ (List.mem_append.2 (.inl (List.mem_map.2 ⟨i,hi,rfl⟩))));have hmp:∀p,p<K.length→((K.getD p (0,0)).1,p+8)∈f9 t q dk K:=fun p hp=>List.mem_cons_of_mem _ (List.mem_cons_of_mem _ (List.mem_append.2 (.inr (List.mem_append.2 (.inl (Ts hp))))));have zb:∀p,p<K.length→((K.getD p (0,0)).2,p+32)∈f9 t q dk K:=fun p hp=>List.mem_cons_of_mem _ (List.mem_cons_of_mem _ (List.mem_append.2 (.inr (List.mem_append.2 (.inr (Tt hp))))));have hrn:∀x y,(x,y)∈f9 t q dk K→rn (f9 t q dk K) x=y:=fun x y h=>vO hnd (Bg _ x (List.mem_map.2 ⟨_,h,rfl⟩)) h
 have Ku:(f9 t q dk K).map (·.2)=0::1::(dk++(List.range' 8 K.length++List.range' 32 K.length)):=by
  unfold f9;rw [List.map_cons,List.map_cons,List.map_append,List.map_append,Tv,Tw,List.map_map];simp [Function.comp_def]
 have hns:((f9 t q dk K).map (·.2)).Nodup:=by
  rw [Ku];refine List.nodup_cons.2 ⟨fun h=>?_,List.nodup_cons.2 ⟨fun h=>?_,List.nodup_append.2 ⟨qo,List.nodup_append.2 ⟨List.nodup_range',List.nodup_range',fun a ha b hb e=>?_⟩,fun a ha b hb e=>?_⟩⟩⟩
  ·rcases List.mem_cons.1 h with h|h
   ·cases h
   ·rcases List.mem_append.1 h with h|h
    ·have:=hoth _ h;omega
    ·rcases List.mem_append.1 h with h|h<;>(have:=List.mem_range'_1.1 h;omega)
  ·rcases List.mem_append.1 h with h|h
   ·have:=hoth _ h;omega
   ·rcases List.mem_append.1 h with h|h<;>(have:=List.mem_range'_1.1 h;omega)
  ·have:=List.mem_range'_1.1 ha;have:=List.mem_range'_1.1 hb;omega
  ·have:=hoth _ ha;rcases List.mem_append.1 hb with h|h<;>(have:=List.mem_range'_1.1 h;omega)
 let kt:Nat→aK:=fun i=>if (2≤i∧i<8)∨(8+K.length≤i∧i<32)∨(32+K.length≤i∧i<56) then .free else cg i
 have h1:ck E s ⟨e',kt⟩:=by
  refine rC (f9 t q dk K) ⟨hnd,hns,he,fun i o' hl=>?_,fun i hi=>?_⟩ (fun i hi=>by omega)
  ·by_cases hg:(2≤i∧i<8)∨(8+K.length≤i∧i<32)∨(32+K.length≤i∧i<56)
   ·have hl':(if _ then aK.free else cg i)=.live o':=hl;rw [if_pos hg] at hl';cases hl'
   have hl':(if _ then aK.free else cg i)=.live o':=hl;rw [if_neg hg] at hl';by_cases i0:i=0
   ·subst i0;rw [hT'] at hl';cases hl';subst XT;exact ⟨t,T,hm0,oM hnd hns hm0,hT,rfl,rfl,.inr ⟨rfl,YU⟩⟩
   by_cases i1:i=1
   ·subst i1;rw [hR'] at hl';cases hl';refine ⟨q,_,hm1,oM hnd hns hm1,hR,rfl,rfl,.inr ⟨?_,fun c hc=>?_⟩⟩
    ·rw [fX,List.map_map];show (br ls.length).flatMap b5=_
     have:(br ls.length).flatMap b5=(List.range K.length).map fun p=>AV.pt (p+8) 0:=by
      rw [hK];unfold br;rw [List.flatMap_map];show (List.range ls.length).flatMap (fun a=>[AV.pt (a+8) 0])=_;rw [List.map_eq_flatMap]
     rw [this];refine List.ext_getElem (by simp) (fun p a b=>?_);have hp:p<K.length:=by simpa using a
     simp only [List.getElem_map,List.getElem_range,Function.comp_apply];show _=AV.pt (rn _ K[p].1) 0;have:=hrn _ _ (hmp p hp);rw [show K.getD p (0,0)=K[p] by simp [hp]] at this;rw [this]
    ·obtain ⟨k,h2,rfl⟩:=List.mem_map.1 hc;obtain ⟨p,hp,rfl⟩:=List.getElem_of_mem h2;have:=hmp p hp;rw [show K.getD p (0,0)=K[p] by simp [hp]] at this;exact .pt _ _ (List.mem_map.2 ⟨_,this,rfl⟩)
   rcases Nat.lt_or_ge i 56 with i56|i56
   ·have hf:=hF i (by omega) i56;rw [hf] at hl'
    cases hl'
    by_cases i8:i<32
    ·obtain ⟨p,rfl⟩:∃p,i=p+8:=⟨i-8,by omega⟩
     have hp:p<K.length:=by omega
     rw [oN hn (by omega)];refine ⟨_,_,hmp p hp,oM hnd hns (hmp p hp),(hL p hp).1,rfl,rfl,.inr ⟨?_,fun c hc=>?_⟩⟩
     ·show [_,_,_,AV.sl (p+32) 0 _]=[_,_,_,AV.sl (rn _ _) 0 _]
      rw [hrn _ _ (zb p hp)];rfl
     ·simp only [j8,List.mem_cons,List.not_mem_nil,or_false] at hc;rcases hc with rfl|rfl|rfl|rfl
      ·exact .v _
      ·exact .v _
      ·exact .v _
      ·exact .sl _ _ _ (List.mem_map.2 ⟨_,zb p hp,rfl⟩)
    ·obtain ⟨p,rfl⟩:∃p,i=p+32:=⟨i-32,by omega⟩
     have hp:p<K.length:=by omega
     rw [pU hn (by omega)];exact ⟨_,_,zb p hp,oM hnd hns (zb p hp),(hL p hp).2,rfl,rfl,.inl ⟨rfl,(inferInstance:cU (enc aC (ls.getD p ao).pieces)).out⟩⟩
   ·by_cases zc:i∈dk
    ·obtain ⟨o,k1,k2,k3⟩:=ho i zc;rw [k2] at hl';cases hl';exact ⟨i,o',hmo i zc,oM hnd hns (hmo i zc),k1,rfl,rfl,.inl ⟨rfl,k3⟩⟩
    ·rw [hx i i56 zc] at hl';cases hl'
  ·rw [Ku] at hi;show (if _ then aK.free else cg i)≠ .free;rcases List.mem_cons.1 hi with rfl|hi
   ·rw [if_neg (by omega),hT'];intro h;cases h
   rcases List.mem_cons.1 hi with rfl|hi
   ·rw [if_neg (by omega),hR'];intro h;cases h
   rcases List.mem_append.1 hi with hi|hi
   ·have:=hoth i hi;obtain ⟨o,_,k2,_⟩:=ho i hi;rw [if_neg (by omega),k2];intro h;cases h
   ·have hr:(8≤i∧i<8+K.length)∨(32≤i∧i<32+K.length):=by
     rcases List.mem_append.1 hi with h|h<;>(have:=List.mem_range'_1.1 h;omega)
    rw [if_neg (by omega),hF i (by omega) (by omega)];intro h;cases h
 refine h1.trans (QD (s:=⟨e',kt⟩) hm fun i=>?_);show cg i=(if _ then aK.free else cg i)∨((if _ then aK.free else cg i)=.free∧cg i=.live t5);by_cases hg:(2≤i∧i<8)∨(8+K.length≤i∧i<32)∨(32+K.length≤i∧i<56)
 ·rw [if_pos hg];refine .inr ⟨rfl,?_⟩;rw [hF i (by omega) (by omega)];unfold fam;rw [if_neg (by omega),if_neg (by omega)]
 ·rw [if_neg hg];exact .inl rfl
end
theorem Fe {F:Nat→ay} {dk:List Nat}:∀i,56≤i→i∉dk→cA F i=.free:=fun i h _=>rq (.inr h)
theorem Ff {f:Nat→aK} {dk:List Nat} {n:Nat} {x:aK} (hn:Nat.ble n 1=true) (h:∀i,56≤i→i∉dk→f i=.free):∀i,56≤i→i∉dk→ah f n x i=.free:=fun i a b=>by
 have:=Nat.le_of_ble_eq_true hn;rw [dJ _ _ (by omega),h i a b]
theorem Fg {f:Nat→aK} {dk:List Nat} {n:Nat} {x:aK} (hn:n∈dk) (h:∀i,56≤i→i∉dk→f i=.free):∀i,56≤i→i∉dk→ah f n x i=.free:=fun i a b=>by
 rw [dJ _ _ (fun e=>b (by rw [e];exact hn)),h i a b]
def kR (l:List Nat):List (Nat×Nat):=l.map fun k=>(k+8,k+32)
theorem Ht {α:Type} (d:α) (l:List α) (x:α) {p:Nat}:(l++[x]).getD p d=if p<l.length then l.getD p d else if p=l.length then x else d:=by
 rw [List.getD_eq_getElem?_getD];by_cases h:p<l.length
 ·rw [if_pos h,List.getElem?_append_left h, ←List.getD_eq_getElem?_getD]
 ·rw [if_neg h,List.getElem?_append_right (by omega)];by_cases h2:p=l.length
  ·subst h2;rw [if_pos rfl,Nat.sub_self];rfl
  ·rw [if_neg h2,List.getElem?_eq_none (by simp;omega)];rfl
theorem YN {t q:Nat} {dk:List Nat} {K:List (Nat×Nat)}:(f9 t q dk K).map (·.1)=t::q::(dk++(K.map (·.1)++K.map (·.2))):=by
 have e1:(kp K).map (·.1)=K.map (·.1):=by
  unfold kp;rw [List.map_map];show (K.zipIdx 8).map ((fun x:Nat×Nat=>x.1)∘(·.1))=_;rw [←List.map_map,List.zipIdx_map_fst]
 have e2:(kq K).map (·.1)=K.map (·.2):=by
  unfold kq;rw [List.map_map];show (K.zipIdx 32).map ((fun x:Nat×Nat=>x.2)∘(·.1))=_;rw [←List.map_map,List.zipIdx_map_fst]
 unfold f9;rw [List.map_cons,List.map_cons,List.map_append,List.map_append,e1,e2,List.map_map];simp [Function.comp_def]
section
variable {E:cZ} {s:St} {e':Nat→AV} {e1 e2 e3 tt:Nat} {ls ls':List Lk} {cs:List AV}
theorem BS {t q n:Nat} {dk:List Nat} {K:List (Nat×Nat)} [h:cU cs] (hq:rn (f9 t q dk K) q=1):ay.map (rn (f9 t q dk K)) ⟨cs++[.sl q 0 n],tt,1⟩=⟨cs++[.sl 1 0 n],tt,1⟩:=by
 show ay.mk (AV.dY _ (cs++[.sl q 0 n])) tt 1=_;rw [vg,rh h.out];show ay.mk (cs++[AV.sl (rn _ q) 0 n]) tt 1=_;rw [hq]
theorem Ct {t q n:Nat} {dk:List Nat} {K:List (Nat×Nat)} [h:cU cs]:∀c,c∈(ay.mk (cs++[.sl q 0 n]) tt 1).cells→Ok (· ∈(f9 t q dk K).map (·.1)) True c:=fun c hc=>by
 rcases List.mem_append.1 hc with hc|hc
 ·exact (h.out c hc).mono (fun _ h=>h.elim) id
 ·rw [List.mem_singleton.1 hc];exact .sl _ _ _ (by rw [YN];simp)
theorem Jz {l:List Nat} (hl:l.Nodup) (h:∀k,k∈l→k<24) {rest:List Nat} (hr:rest.Nodup) (h2:∀i,i∈rest→i<8∨56≤i):(rest++((kR l).map (·.1)++(kR l).map (·.2))).Nodup:=by
 have a1:(kR l).map (·.1)=l.map (· +8):=by simp [kR,Function.comp_def]
 have a2:(kR l).map (·.2)=l.map (· +32):=by simp [kR,Function.comp_def]
 rw [a1,a2];refine List.nodup_append.2 ⟨hr,List.nodup_append.2 ⟨hl.map (f:=(· +8)) (fun a b h e=>h (by have:a+8=b+8:=e;omega)),hl.map (f:=(· +32)) (fun a b h e=>h (by have:a+32=b+32:=e;omega)),fun a ha b hb e=>?_⟩,fun a ha b hb e=>?_⟩
 ·obtain ⟨x,hx,rfl⟩:=List.mem_map.1 ha;obtain ⟨y,hy,h3⟩:=List.mem_map.1 hb;have:=h x hx;omega
 ·have:=h2 a ha;rcases List.mem_append.1 hb with hb|hb
  ·obtain ⟨y,hy,h3⟩:=List.mem_map.1 hb;have:=h y hy;omega
  ·obtain ⟨y,hy,h3⟩:=List.mem_map.1 hb;have:=h y hy;omega
theorem Tr {L:List Lk} (hm:E.m=0) (dk:List Nat) (n:Nat) (cg:Nat→aK) (hn:n=L.length) (hn16:n≤16) (hls:ls'=L.filter fun x=> !j4 x) (hoth:∀i,i∈dk→56≤i) (qo:dk.Nodup) [cU cs]
  (hT:s.ob 0=.live ⟨cs++[.sl 1 0 (cT (cw L) (br n)).length],tt,1⟩) (hT':cg 0=.live ⟨cs++[.sl 1 0 ls'.length],tt,1⟩)
  (hR:s.ob 1=.live ⟨enc b5 (cT (cw L) (br n)++List.replicate (n-(cT (cw L) (br n)).length) none),e1,1⟩) (hR':cg 1=.live ⟨enc b5 (br ls'.length),e1,1⟩) (u7:gK s.ob (fam e2 e3 L)) (hF:gK cg (fam e2 e3 ls'))
  (ho:∀i,i∈dk→∃o,s.ob i=.live o∧cg i=.live o∧ii o.cells) (hx:∀i,56≤i→i∉dk→cg i=.free) (he:∀K x,ga (f9 0 1 dk K) (s.env x) (e' x)):ck E s ⟨e',cg⟩:=by
 subst hn
 let ks:List Nat:=(List.range L.length).filter fun k=> !j4 (L.getD k ao)
 have hks:∀k,k∈ks→k<L.length:=fun k h=>List.mem_range.1 (List.mem_filter.1 h).1
 have hrest:cT (cw L) (br L.length)=ks.map some:=by
  unfold cT br;rw [List.filter_map];rfl
 have hL0:L=(List.range L.length).map fun k=>L.getD k ao:=by
  refine List.ext_getElem (by simp) (fun i a b=>?_);simp at b ⊢;simp [b]
 have Kv:ls'=ks.map fun k=>L.getD k ao:=by
  rw [hls]
  conv=>lhs;rw [hL0]
  rw [List.filter_map];rfl
 have hlen:ls'.length=ks.length:=by rw [Kv,List.length_map]
 have hkl:ks.length≤L.length:=by have:=List.length_filter_le (fun k=> !j4 (L.getD k ao)) (List.range L.length);rw [List.length_range] at this;exact this
 rw [hrest] at hT hR
 have hcells:enc b5 (ks.map some++List.replicate (L.length-(ks.map some).length) none)=((kR ks).map fun k=>AV.pt k.1 0)++enc b5 (List.replicate (L.length-(ks.map some).length) (none:Option Nat)):=by
  rw [me]
  congr 1
  show (ks.map some).flatMap b5=_;rw [List.flatMap_map];unfold kR;rw [List.map_map];show ks.flatMap (fun a=>[AV.pt (a+8) 0])=_;rw [←List.map_eq_flatMap];rfl
 rw [hcells] at hR;have hcut:=QC (E:=E) hR;refine hcut.trans ?_;have hne:∀i,i≠1→ah s.ob 1 (.live ⟨(kR ks).map (fun k=>AV.pt k.1 0),e1,1⟩) i=s.ob i:=fun i h=>dJ _ _ h;have hn1:ah s.ob 1 (.live ⟨(kR ks).map (fun k=>AV.pt k.1 0),e1,1⟩) 1=.live ⟨(kR ks).map (fun k=>AV.pt k.1 0),e1,1⟩:=ec _ _ _;have hkn:(kR ks).length=ls'.length:=by rw [hlen];simp [kR]
 refine canon hm 0 1 dk (kR ks) ls' cg hkn (by omega) ?_ hoth qo (T:=⟨cs++[.sl 1 0 (ks.map some).length],tt,1⟩) ?_ hT' ?_ Ct ?_ hR' (fun p hp=>?_) hF (fun i hi=>?_) hx (he (kR ks))
 ·rw [YN]
  have:=Jz (l:=ks) (rest:=0::1::dk) (List.nodup_range.filter _) (fun k h=>by have:=hks k h;omega) (List.nodup_cons.2 ⟨fun h=>by rcases List.mem_cons.1 h with h|h;(cases h);(have:=hoth _ h;omega),List.nodup_cons.2 ⟨fun h=>by have:=hoth _ h;omega,qo⟩⟩) (fun i hi=>by
   rcases List.mem_cons.1 hi with rfl|hi
   ·omega
   rcases List.mem_cons.1 hi with rfl|hi
   ·omega
   ·have:=hoth i hi;omega)
  exact this
 ·exact (hne 0 (by omega)).trans hT
 ·rw [BS (by rfl),List.length_map, ←hlen]
 ·exact hn1
 ·have hkk:(kR ks).length=ks.length:=by simp [kR]
  have hp':p<ks.length:=by omega
  have hk:(kR ks).getD p (0,0)=(ks.getD p 0+8,ks.getD p 0+32):=by simp [kR,hp']
  have hm2:=hks _ (c8 (l:=ks) (k:=p) 0 hp');have hx2:ls'.getD p ao=L.getD (ks.getD p 0) ao:=by rw [Kv];simp [hp']
  rw [hk,hx2];have h1:=u7 (ks.getD p 0+8) (by omega) (by omega);rw [oN (by omega) hm2] at h1;have h2:=u7 (ks.getD p 0+32) (by omega) (by omega);rw [pU (by omega) hm2] at h2;exact ⟨(hne _ (by omega)).trans h1,(hne _ (by omega)).trans h2⟩
 ·obtain ⟨o,k1,k2,k3⟩:=ho i hi;have:=hoth i hi;exact ⟨o,(hne i (by omega)).trans k1,k2,k3⟩
theorem canonK {x:Lk} (hm:E.m=0) (q a b:Nat) (dk:List Nat) (cg:Nat→aK) (hls:ls'=ls++[x]) (hn:ls.length≤16) (hnd:(q::a::b::dk).Nodup) (hbig:∀i,i∈q::a::b::dk→56≤i) [cU cs]
  (hT:s.ob 0=.live ⟨cs++[.sl q 0 (ls.length+1)],tt,1⟩) (hT':cg 0=.live ⟨cs++[.sl 1 0 ls'.length],tt,1⟩)
  (hR:s.ob q=.live ⟨enc b5 (br ls.length)++[.pt a 0],e1,1⟩) (hR':cg 1=.live ⟨enc b5 (br ls'.length),e1,1⟩) (hA:s.ob a=.live (j8 e2 b x)) (hB:s.ob b=.live (gY e3 x)) (u7:gK s.ob (fam e2 e3 ls)) (hF:gK cg (fam e2 e3 ls'))
  (ho:∀i,i∈dk→∃o,s.ob i=.live o∧cg i=.live o∧ii o.cells) (hx:∀i,56≤i→i∉dk→cg i=.free) (he:∀K y,ga (f9 0 q dk K) (s.env y) (e' y)):ck E s ⟨e',cg⟩:=by
 have hlen:ls'.length=ls.length+1:=by rw [hls];simp
 have hq:=hbig q (List.mem_cons_self ..);have ha:=hbig a (by simp);have hb:=hbig b (by simp);have qo:dk.Nodup:=(List.nodup_cons.1 (List.nodup_cons.1 (List.nodup_cons.1 hnd).2).2).2;have XU:(kR (List.range ls.length)++[(a,b)]).length=ls'.length:=by rw [hlen];simp [kR]
 refine canon hm 0 q dk (kR (List.range ls.length)++[(a,b)]) ls' cg XU (by omega) ?_ (fun i hi=>hbig i (by simp [hi])) qo (T:=⟨cs++[.sl q 0 (ls.length+1)],tt,1⟩) hT hT' ?_ Ct ?_ hR' (fun p hp=>?_) hF ho hx (he _)
 ·rw [YN]
  have h1:=Jz (l:=List.range ls.length) (rest:=0::q::(dk++[a,b])) List.nodup_range (fun k h=>by have:=List.mem_range.1 h;omega) (by
   rw [List.nodup_cons,List.nodup_cons];simp only [List.nodup_cons,List.mem_cons] at hnd;refine ⟨fun h=>?_,fun h=>?_,List.nodup_append.2 ⟨qo,by simp;intro e;exact hnd.2.1 (.inl e),fun i hi j hj e=>?_⟩⟩
   ·rcases List.mem_cons.1 h with h|h
    ·omega
    ·rcases List.mem_append.1 h with h|h
     ·have:=hbig 0 (by simp [h]);omega
     ·simp at h;omega
   ·rcases List.mem_append.1 h with h|h
    ·exact hnd.1 (.inr (.inr h))
    ·simp at h;rcases h with h|h
     ·exact hnd.1 (.inl h)
     ·exact hnd.1 (.inr (.inl h))
   ·subst e;simp at hj;rcases hj with rfl|rfl
    ·exact hnd.2.1 (.inr hi)
    ·exact hnd.2.2.1 hi) (fun i hi=>by
   rcases List.mem_cons.1 hi with rfl|hi
   ·omega
   rcases List.mem_cons.1 hi with rfl|hi
   ·omega
   rcases List.mem_append.1 hi with hi|hi
   ·have:=hbig i (by simp [hi]);omega
   ·simp at hi;rcases hi with rfl|rfl<;>omega)
  refine (List.Perm.nodup_iff ?_).1 h1;refine List.Perm.cons _ (List.Perm.cons _ ?_);rw [List.map_append,List.map_append];show ((dk++[a,b])++((kR (List.range ls.length)).map (·.1)++(kR (List.range ls.length)).map (·.2))).Perm (dk++(((kR (List.range ls.length)).map (·.1)++[a])++((kR (List.range ls.length)).map (·.2)++[b])));generalize (kR (List.range ls.length)).map (·.1)=u;generalize (kR (List.range ls.length)).map (·.2)=v;rw [List.perm_iff_count];intro c;simp [List.count_append,List.count_cons];omega
 ·rw [BS (n:=ls.length+1) (by
   show cond (Nat.beq q 0) 0 (cond (Nat.beq q q) 1 _)=1;have h1:Nat.beq q 0=false:=by cases hh:Nat.beq q 0 with|false=>rfl|true=>have:=Nat.eq_of_beq_eq_true hh;omega
   rw [h1,Nat.beq_refl];rfl),hlen]
 ·rw [hR]
  congr 2
  rw [List.map_append]
  congr 1
  show (br ls.length).flatMap b5=_;unfold br kR;rw [List.flatMap_map,List.map_map];show (List.range ls.length).flatMap (fun a=>[AV.pt (a+8) 0])=_;rw [←List.map_eq_flatMap];rfl
 ·rw [Ht,hls,Ht];have hkl:(kR (List.range ls.length)).length=ls.length:=by simp [kR]
  rw [hkl];by_cases h:p<ls.length
  ·rw [if_pos h,if_pos h];have hk:(kR (List.range ls.length)).getD p (0,0)=(p+8,p+32):=by simp [kR,h]
   rw [hk];have h1:=u7 (p+8) (by omega) (by omega);rw [oN (by omega) h] at h1;have h2:=u7 (p+32) (by omega) (by omega);rw [pU (by omega) h] at h2;exact ⟨h1,h2⟩
  ·have:p=ls.length:=by omega
   rw [if_neg h,if_neg h,if_pos this,if_pos this];exact ⟨hA,hB⟩
theorem Tq (hm:E.m=0) (t q:Nat) (dk:List Nat) (cg:Nat→aK) (hnd:(t::q::dk).Nodup) (hbig:∀i,i∈t::q::dk→56≤i) [cU cs] (hT:s.ob t=.live ⟨cs++[.v (.slice none 0 0)],tt,1⟩) (hq:s.ob q=.free) (hT':cg 0=.live ⟨cs++[.sl 1 0 ([]:List Lk).length],tt,1⟩)
  (hR':cg 1=.live ⟨enc b5 (br ([]:List Lk).length),e1,1⟩) (hF:gK cg (fam e2 e3 [])) (ho:∀i,i∈dk→∃o,s.ob i=.live o∧cg i=.live o∧ii o.cells) (hx:∀i,56≤i→i∉dk→cg i=.free) (he:∀K y,ga (f9 t q dk K) (s.env y) (e' y)):ck E s ⟨e',cg⟩:=by
 have hts:q≠t:=fun e=>(List.nodup_cons.1 hnd).1 (by rw [e];simp);have ht:=hbig t (by simp);have YH:=hbig q (by simp);have hne:∀i,i≠t→i≠q→ah (ah s.ob t (.live ⟨cs++[.sl q 0 0],tt,1⟩)) q (.live ⟨[],e1,1⟩) i=s.ob i:=fun i h1 h2=>(dJ _ _ h2).trans (dJ _ _ h1);have hnt:ah (ah s.ob t (.live ⟨cs++[.sl q 0 0],tt,1⟩)) q (.live ⟨[],e1,1⟩) t=.live ⟨cs++[.sl q 0 0],tt,1⟩:=(dJ _ _ (fun e=>hts e.symm)).trans (ec _ _ _);refine (vj t cs.length q e1 1 hT (by simp) hq (cells':=cs++[.sl q 0 0]) (by simp)).trans ?_;refine canon hm t q dk [] [] cg rfl (by decide) (by rw [YN];simpa using hnd) (fun i hi=>hbig i (by simp [hi])) (List.nodup_cons.1 (List.nodup_cons.1 hnd).2).2 (T:=⟨cs++[.sl q 0 0],tt,1⟩) ?_ hT' ?_ Ct ?_ hR' (fun p hp=>by simp at hp) hF (fun i hi=>?_) hx (he _)
 ·exact hnt
 ·rw [BS (n:=0) (by
   show cond (Nat.beq q t) 0 (cond (Nat.beq q q) 1 _)=1;have h1:Nat.beq q t=false:=by cases hh:Nat.beq q t with|false=>rfl|true=>exact absurd (Nat.eq_of_beq_eq_true hh) hts
   rw [h1,Nat.beq_refl];rfl)]
  rfl
 ·exact ec _ _ _
 ·obtain ⟨o,k1,k2,k3⟩:=ho i hi;have h1:i≠t:=fun e=>(List.nodup_cons.1 hnd).1 (by rw [←e];simp [hi]);have h2:i≠q:=fun e=>(List.nodup_cons.1 (List.nodup_cons.1 hnd).2).1 (by rw [←e];exact hi);exact ⟨o,(hne i h1 h2).trans k1,k2,k3⟩
end
end Go.Lo
set_option linter.unusedVariables false
set_option linter.unusedSimpArgs false
namespace Go.Lo
theorem RY {P:Program} {f:FuncId} {args:List AV} {n:Nat} {o:ay} (h:jq P f args (.sl 0 0 n) [o]) (hn:o.cells.length=n) (hno:ii o.cells):Fn P f args (.ro n o.cells):=by
 intro w X vs h1 h2 hL h3;refine (h w X vs h1 h2 hL h3).mono ?_;rintro e w' ⟨v,C',res,news,he,⟨rfl,rfl⟩,hfr,hR,ap,hnew,hX,hX2⟩;refine ⟨v,C0 X,.ro n o.cells,[],he,⟨rfl,rfl⟩,hfr,?_,⟨fun i o h=>by simp [kg] at h,fun i o b h=>by simp [kg] at h,fun i i' o o' b h=>by simp [kg] at h,fun i hi=>hi.elim,fun b hb=>Nat.lt_of_lt_of_le (h2 b hb) hfr.size⟩,fun i b hi=>by simp at hi,fun b hb=>hb,fun b _ hb=>hb⟩;have hl:kg [o] 0=.live o:=rfl;generalize hv:v=v' at hR
 cases hR with
 |sl _ _ _ c b hd hb hnc hm hs=>
  obtain ⟨k1,cur,k2,k3,k4,k5⟩:=ap.live 0 o b hl hb;refine .ro n c _ o.cells (fun j=>cur.getD j undef) hnc hm (fun h=>by cases h) (fun j hj=>?_) (fun j av hj=>?_)
  ·obtain ⟨u,hu,m1,m2⟩:=k5 j _ (List.getElem?_eq_getElem hj);have hg:cur.getD j undef=u:=by rw [Array.getD_eq_getD_getElem?,hu];rfl
   refine ⟨_,rfl,fun hx=>?_,?_,by rw [hg];exact m1⟩
   ·have:=h2 b hx;have:=hnew 0 b (by simp) hb;omega
   ·rw [add_plain,Nat.zero_add,hg];simp only [World.cell?,k2];simp [hu]
  ·obtain ⟨u,hu,m1,m2⟩:=k5 j av hj;have hg:cur.getD j undef=u:=by rw [Array.getD_eq_getD_getElem?,hu];rfl
   rw [hg];have:=R.map (C2:=C0 X) (σ:=fun i=>i) (p:=fun _=>False) (ro:=True) (fun _ h=>h.elim) (fun _ b hb hx=>hb (hX b hx)) m2 (hno av (List.mem_of_getElem? hj))
   rwa [kB (hno av (List.mem_of_getElem? hj))] at this
 |slnil _ hd hb=>
  have h0:o.cells=[]:=List.eq_nil_of_length_eq_zero hn;rw [h0];exact .ro 0 0 none [] (fun _=>undef) (Nat.le_refl _) (Nat.zero_le _) (fun _=>⟨rfl,rfl⟩) (fun j hj=>by simp at hj) (fun j av hj=>by simp at hj)
end Go.Lo
set_option linter.unusedVariables false
set_option linter.unusedSimpArgs false
namespace Go.Lo
def YY (secs:List ax) (parts:List (List Int)) (pts:List aH) (routes:List (List Int)) (cn:Int) (ls:List Lk) (x:Act) (now:Int):List Lk:=
 if x.dw % 4=2 then fS routes ls (x.n % ((routes.length:Int)+1)) (now+cn) else if x.dw % 4=3 then dp ⟨routes,parts,now,cd x secs.length,d7 x parts.length⟩ ls
 else ke secs pts routes ls (x.n % ((routes.length:Int)+1)) (x.tr % 4) (cd x secs.length) [⟨1,false,cI x secs.length x.sp.length⟩] (cr x pts.length)
def dn (acts:List Act):Nat→Int
 |0=>0
 |i+1=>dn acts i+(acts.getD i bj).tk % 8
structure Qz where
 secs:List ax
 parts:List (List Int)
 pts:List aH
 routes:List (List Int)
 cn:Int
 acts:List Act
def bp (Q:Qz):Nat→List Lk
 |0=>[]
 |i+1=>YY Q.secs Q.parts Q.pts Q.routes Q.cn (bp Q i) (Q.acts.getD i bj) (dn Q.acts (i+1))
structure kr (routes:List (List Int)) (ls:List Lk):Prop where
 lk:∀x,x∈ls→gn routes x
 en:∀x,x∈ls→ -1≤x.ends
 nd:(ls.map fun x=>x.route).Nodup
section
variable {secs:List ax} {parts:List (List Int)} {pts:List aH} {routes:List (List Int)} {cn now:Int} {ls:List Lk} {x:Act} {acts:List Act}
theorem wH:∀i,0≤dn acts i∧dn acts i≤8*(i:Int)
 |0=>by simp [dn]
 |i+1=>by have:=wH i;unfold dn;omega
theorem QZ {r:Int} (h:d2 ls r<0):r∉ls.map fun x=>x.route:=fun hm=>by
 obtain ⟨y,h1,h2⟩:=List.mem_map.1 hm
 have h3:d2 ls r= -1:=by
  rcases ox (fun x:Lk=>decide (x.route=r)) ao ls with h4|h4
  ·exact h4
  ·have:0≤d2 ls r:=h4.1;omega
 have h5:=any_none (fun x:Lk=>decide (x.route=r)) ao (l:=ls) h3;have:=List.any_eq_false.1 h5 y h1;simp at this;exact this h2
theorem TM {r e:Int} (h:kr routes ls) (he:0≤e):kr routes (fS routes ls r e):=by
 unfold fS
 split
 ·generalize (d2 ls r).toNat=k;by_cases hk:k<ls.length
  ·have hm:=c8 (l:=ls) (k:=k) ao hk;have key:∀{y},y∈ls.set k (ZN (ls.getD k ao) e)→y∈ls∨y=ZN (ls.getD k ao) e:=fun hy=>List.mem_or_eq_of_mem_set hy;refine ⟨fun y hy=>?_,fun y hy=>?_,?_⟩
   ·rcases key hy with h1|h1
    ·exact h.lk y h1
    ·subst h1;have:=h.lk _ hm;unfold ZN
     split
     ·exact ⟨this.r,this.ps,this.ln⟩
     ·exact this
   ·rcases key hy with h1|h1
    ·exact h.en y h1
    ·subst h1;have:=h.en _ hm;unfold ZN
     split
     ·show-1≤e;omega
     ·exact this
   ·rw [List.map_set,show (ZN (ls.getD k ao) e).route=(ls.map fun x=>x.route).getD k 0 by
     have:(ZN (ls.getD k ao) e).route=(ls.getD k ao).route:=by unfold ZN;split<;>rfl
     rw [this];simp [hk],set_self]
    exact h.nd
  ·rw [List.set_eq_of_length_le (by omega)];exact h
 ·exact h
theorem Sr {t:Tu} (h:kr routes ls):kr routes (dp t ls):=by
 have key:∀y,y∈dp t ls→∃z,z∈ls∧y=zf t z:=fun y hy=>by
  obtain ⟨z,h1,h2⟩:=List.mem_map.1 hy;exact ⟨z,(List.mem_filter.1 h1).1,h2.symm⟩
 refine ⟨fun y hy=>?_,fun y hy=>?_,?_⟩
 ·obtain ⟨z,h1,rfl⟩:=key y hy;have:=h.lk z h1;exact ⟨this.r,by show (bI t z z.pieces.length).1.length+1=_;rw [rA];exact this.ps,this.ln⟩
 ·obtain ⟨z,h1,rfl⟩:=key y hy;exact h.en z h1
 ·unfold dp;rw [List.map_map];exact h.nd.sublist ((List.filter_sublist (l:=ls)).map _)
theorem Ss {r tr:Int} {bE:List Int} {views:List View} {right:List Bool} (h:kr routes ls) (hrl:∀x,x∈routes→2≤x.length∧x.length≤9):kr routes (ke secs pts routes ls r tr bE views right):=by
 by_cases he:dV secs pts routes ls r bE views right=0
 ·rw [(s6 he).1];have he2:=he;unfold dV at he2;by_cases h1:r<0∨r≥(routes.length:Int)
  ·rw [if_pos h1] at he2;exact absurd he2 (by decide)
  rw [if_neg h1] at he2;by_cases h2:d2 ls r≥0
  ·rw [if_pos h2] at he2;exact absurd he2 (by decide)
  have hq:=hrl _ (c8 (l:=routes) (k:=r.toNat) [] (by omega));have hr0:0≤r∧r<(routes.length:Int):=by omega
  have hnew:gn routes ⟨r,tr, -1,List.replicate ((routes.getD r.toNat []).length-1) 1⟩:=⟨hr0,by show (List.replicate _ _).length+1=_;rw [List.length_replicate];show _=(routes.getD r.toNat []).length;omega,by show (routes.getD r.toNat []).length≤_;omega⟩
  refine ⟨fun y hy=>?_,fun y hy=>?_,?_⟩
  ·rcases List.mem_append.1 hy with hy|hy
   ·exact h.lk y hy
   ·rw [List.mem_singleton.1 hy];exact hnew
  ·rcases List.mem_append.1 hy with hy|hy
   ·exact h.en y hy
   ·rw [List.mem_singleton.1 hy];show (-1:Int)≤ -1;omega
  ·rw [List.map_append,List.nodup_append];refine ⟨h.nd,by simp,fun a ha b hb e=>?_⟩;subst e;simp at hb;subst hb;exact QZ (by omega) ha
 ·rw [(mX he rfl).1];exact h
theorem TN (h:kr routes ls) (hrl:∀x,x∈routes→2≤x.length∧x.length≤9) (hn:0≤now) (hc:0≤cn):kr routes (YY secs parts pts routes cn ls x now):=by
 unfold YY
 split
 ·exact TM h (by omega)
 ·split
  ·exact Sr h
  ·exact Ss h hrl
theorem Bd {Q:Qz} (hrl:∀x,x∈Q.routes→2≤x.length∧x.length≤9) (hc:0≤Q.cn):∀i,kr Q.routes (bp Q i)
 |0=>⟨fun _ h=>(by cases h),fun _ h=>(by cases h),List.nodup_nil⟩
 |i+1=>TN (Bd hrl hc i) hrl (wH (i+1)).1 hc
theorem kr.len (h:kr routes ls):ls.length≤routes.length:=by
 have:=Bf (n:=routes.length) h.nd (fun y hy=>by
  obtain ⟨z,h1,rfl⟩:=List.mem_map.1 hy;exact (h.lk z h1).r)
 simpa using this
theorem gn.R {x:Lk} (h:gn routes x):kj routes x:=⟨h.r,by have:=h.ps;omega,h.ln⟩
theorem kr.held (h:kr routes ls) (hT:iT secs pts=true) (hw:tI secs pts routes) (hnd:∀x,x∈routes→x.Nodup):eE secs pts routes ls=gW secs pts routes ls:=by
 refine Pz fun i hi k hk=>?_;have hx:=h.lk _ (c8 (l:=ls) (k:=i) ao hi);have hps:=hx.ps;have hr:=hx.r;exact PD (f:=⟨0,[],secs,[],pts,routes,[],[],[]⟩) hT hw hnd (c8 (l:=routes) [] (by omega)) (by omega)
theorem U1 (h:x.dw % 4=0∨x.dw % 4=1) (he:¬dV secs pts routes ls (x.n % ((routes.length:Int)+1)) (cd x secs.length) [⟨1,false,cI x secs.length x.sp.length⟩] (cr x pts.length)=0):ls=YY secs parts pts routes cn ls x now:=by
 unfold YY;rw [if_neg (by omega),if_neg (by omega),(mX he rfl).1]
theorem U0 (h:x.dw % 4=0∨x.dw % 4=1) (he:dV secs pts routes ls (x.n % ((routes.length:Int)+1)) (cd x secs.length) [⟨1,false,cI x secs.length x.sp.length⟩] (cr x pts.length)=0):ls++[⟨x.n % ((routes.length:Int)+1),x.tr % 4, -1,List.replicate ((routes.getD (x.n % ((routes.length:Int)+1)).toNat []).length-1) 1⟩]=YY secs parts pts routes cn ls x now:=by
 unfold YY;rw [if_neg (by omega),if_neg (by omega),(s6 he).1]
theorem U2 (h:x.dw % 4=2):fS routes ls (x.n % ((routes.length:Int)+1)) (now+cn)=YY secs parts pts routes cn ls x now:=by
 unfold YY;rw [if_pos h]
theorem U3 (h:x.dw % 4=3):dp ⟨routes,parts,now,cd x secs.length,d7 x parts.length⟩ ls=YY secs parts pts routes cn ls x now:=by
 unfold YY;rw [if_neg (by omega),if_pos h]
theorem R_ (x:Act):(x.dw % 4=0∨x.dw % 4=1)∨x.dw % 4=2∨x.dw % 4=3:=by omega
end
end Go.Lo
set_option linter.unusedVariables false
namespace Go.Lo
abbrev vN:AV:=.v (.slice none 0 0)
theorem oo {p:Prop} (h:p:=by first|omega|(simp;done)|decide|(simp at*;omega)):p:=h
theorem om {p:Prop} (h:p:=by omega):p:=h
theorem wy {ob:Nat→aK} {a c:AV} [h:gq c] (e:a=c):dL ob a c:=by subst e;exact .same a h.out
theorem q8 {p:Prop} (h:p:=by first|(simp;done)|(simp;omega)):p:=h
section
variable {P:Program} {E:cZ} {st:St} {K:St→Prop} {ops:Array Oper} {o:Oper} {r:List Oper} {d:Nat}
theorem oG {K:St→Prop} (h:bY P E o st fun s=>db P E ops r s K) (hg:o.guard=none:=by rfl):db P E ops (o::r) st K:=zd hg h
theorem qM {x:Operand} (av:AV) (h:K ⟨upd st.env d av,st.ob⟩) (ho:o.op=.move x∨o.op=.assign x:=by first|exact .inl rfl|exact .inr rfl) (hd:o.dst=some d:=by rfl) (hN:(bh E.N x&&Nat.blt d E.N)=true:=by rfl) (hx:aU st.env x=av:=by rfl):bY P E o st K:=dz ho hd hN hx h
theorem qL {t:TypeId} {x:Operand} {p:AV} {rest:List AV} (av:AV) (hb:YV P t=some false) (h:K ⟨upd st.env d av,st.ob⟩) (ho:o.op=.load t x:=by rfl) (hd:o.dst=some d:=by rfl) (hN:(bh E.N x&&Nat.blt d E.N)=true:=by rfl) (hx:aU st.env x=p:=by rfl) (hp:gO st.ob p=some (av::rest):=by rfl):bY P E o st K:=i3 ho hd hN hb hx hp h
theorem ZI {t:TypeId} {x:Operand} {s:Nat} {p:AV} {cells:List AV} (cells':List AV) (hb:YV P t=some true) (hsz:(P.info? t).map (·.size)=some s) (h:K ⟨upd st.env d (.agg cells'),st.ob⟩) (ho:o.op=.load t x:=by rfl) (hd:o.dst=some d:=by rfl) (hN:(bh E.N x&&Nat.blt d E.N)=true:=by rfl)
  (hx:aU st.env x=p:=by rfl) (hp:gO st.ob p=some cells:=by rfl) (hc':cells.take s=cells':=by rfl) (hl:cells'.length=s:=by rfl):bY P E o st K:=jO ho hd hN hb hsz hx hp hc' hl h
theorem qF {s:TypeId} {x:Operand} {i t off sz:Nat} (av fC:AV) (hf:dD P s i=some (t,off)) (hsz:(P.info? t).map (·.size)=some (sz+1)) (h:K ⟨upd st.env d fC,st.ob⟩) (ho:o.op=.fieldAddr s x i:=by rfl)
  (hd:o.dst=some d:=by rfl) (hN:(bh E.N x&&Nat.blt d E.N)=true:=by rfl) (hx:aU st.env x=av:=by rfl) (hp:nZ av=true:=by rfl) (ha:tL av off=fC:=by rfl):bY P E o st K:=zt ho hd hN hf hsz hx hp ha h
theorem qB {op:BinOp} {t t':TypeId} {x y:Operand} {k:IntKind} {a b:Int} (u:Value) (hu:hY k op a b=u) (h:K ⟨upd st.env d (.v u),st.ob⟩) (ho:o.op=.binOp op t x y t':=by rfl) (hd:o.dst=some d:=by rfl)
  (hN:(bh E.N x&&bh E.N y&&Nat.blt d E.N)=true:=by rfl) (hx:aU st.env x=.v (.int k a):=by rfl) (hy:aU st.env y=.v (.int k b):=by rfl) (hb:qa op b:=by trivial):bY P E o st K:=ez ho hd hN hx hy hb hu h
theorem qP {c x y:Operand} {b':Bool} (b:Bool) (av:AV) (hbb:b=b') (h:K ⟨upd st.env d av,st.ob⟩) (ho:o.op=.pick c x y:=by rfl) (hd:o.dst=some d:=by rfl) (hN:(bh E.N c&&bh E.N x&&bh E.N y&&Nat.blt d E.N)=true:=by rfl)
  (hc:aU st.env c=.v (.bool b):=by rfl) (hr:cond b' (aU st.env x) (aU st.env y)=av:=by rfl):bY P E o st K:=by subst hbb;exact fJ ho hd hN hc hr h
theorem qN {c:Call} {t e:TypeId} {x:Operand} {n:Nat} {cells:List AV} (ht:P.underlying t=some (.slice e)) (h:K ⟨upd st.env d (.v (.int .i64 n)),st.ob⟩) (ho:o.op=.call c:=by rfl) (hc:c={ callee:=.builtin .len,args:= #[x],argTypes:= #[t] }:=by rfl) (hd:o.dst=some d:=by rfl)
  (hN:(bh E.N x&&Nat.blt d E.N)=true:=by rfl) (hx:aU st.env x=.ro n cells:=by exact rfl):bY P E o st K:=d_ ho hc hd hN ht (lJ hx) h
theorem qX {t e:TypeId} {x ix:Operand} {n sz k:Nat} {kk:IntKind} {α:Type} {f:α→List AV} {l:List α} (df:α) (ht:P.underlying t=some (.slice e)) (hsz:(P.info? e).map (·.size)=some sz) (h:K ⟨upd st.env d (.rp (f (l.getD k df)++(enc f l).drop ((k+1)*sz))),st.ob⟩) (ho:o.op=.indexAddr t x ix:=by rfl) (hd:o.dst=some d:=by rfl) (hN:(bh E.N x&&bh E.N ix&&Nat.blt d E.N)=true:=by rfl)
  (hx:aU st.env x=.ro n (enc f l):=by exact rfl) (hi:aU st.env ix=.v (.int kk (k:Int)):=by exact rfl) (hf:∀x,(f x).length=sz:=by exact fun _=>rfl) (hn:n=l.length:=by rfl) (h1:k<l.length:=by first|omega|(simp;done)|decide|(simp at*;omega)):bY P E o st K:=kD df ho hd hN ht hsz hx hi hf hn h1 h
theorem qS {t:TypeId} {x y:Operand} {id off s:Nat} {av:AV} {cs cells':List AV} {ob:ay} (hsz:(P.info? t).map (·.size)=some s) (h:K ⟨st.env,ah st.ob id (.live ⟨cells',ob.elem,ob.ci⟩)⟩) (ho:o.op=.store t x y:=by rfl) (hd:o.dst=none:=by rfl) (hN:(bh E.N x&&bh E.N y)=true:=by rfl)
  (hx:aU st.env x=.pt id off:=by rfl) (hl:st.ob id=.live ob:=by rfl) (hy:aU st.env y=av:=by rfl) (hc:ZM av=some cs:=by rfl) (hcl:cs.length=s:=by rfl) (hfit:off+s≤ob.cells.length:=by exact Nat.le_of_ble_eq_true rfl) (h1:cs.all lq=true:=by rfl) (hsp:spl ob.cells off cs=cells':=by rfl):bY P E o st K:=mQ ho hd hN hsz hx hl hy hc hcl hfit h1 hsp h
theorem qW {t:TypeId} {x:Operand} {av:AV} {cs:List AV} (id:Nat) (h:K ⟨upd st.env d (.pt id 0),ah st.ob id (.live ⟨cs,t,1⟩)⟩) (ho:o.op=.box t x:=by rfl) (hd:o.dst=some d:=by rfl) (hN:(bh E.N x&&Nat.blt d E.N)=true:=by rfl) (hf:st.ob id=.free:=by rfl) (hx:aU st.env x=av:=by rfl) (hc:ZM av=some cs:=by rfl) (h1:cs.all lq=true:=by rfl):bY P E o st K:=AF id ho hd hN hf hx hc h1 h
theorem qE {x:Operand} {i:Nat} {cs:List AV} {av:AV} (h:K ⟨upd st.env d av,st.ob⟩) (ho:o.op=.extract x i:=by rfl) (hd:o.dst=some d:=by rfl) (hN:(bh E.N x&&Nat.blt d E.N)=true:=by rfl) (hx:aU st.env x=.bw cs:=by rfl) (hi:cs[i]? =some av:=by rfl):bY P E o st K:=FY ho hd hN hx hi h
theorem qD {t:TypeId} {ps:List (Nat×Operand)} {z:Value} {pl:Nat→Option (Nat×Nat)} {cells:List AV} (hpl:placesOf P t=some (z,pl)) (h:K ⟨upd st.env d (.agg cells),st.ob⟩) (ho:o.op=.build t ps.toArray:=by rfl) (hd:o.dst=some d:=by rfl) (hN:((ps.all fun p=>bh E.N p.2)&&Nat.blt d E.N)=true:=by rfl) (hf:qd pl (z.cells.toList.map .v) (eY st.env ps)=some cells:=by rfl):bY P E o st K:=kb ho hd hN hpl hf h
theorem qC {c:Call} {c7:Operand} {args:List Operand} {tys:Array TypeId} {f:Nat} {caps cW:List AV} {res:AV} (hF:Fn P f cW res) (hb:bO P f=true) [hres:gq res] (h:K ⟨upd st.env d res,st.ob⟩) (ho:o.op=.call c:=by rfl) (hc:c={ callee:=.value c7,args:=args.toArray,argTypes:=tys }:=by rfl) (hd:o.dst=some d:=by rfl) (hN:(bh E.N c7&&args.all (bh E.N)&&Nat.blt d E.N)=true:=by rfl)
  (fm:aU st.env c7=.fn f caps:=by rfl) (ha:ew (fun _=>.free) (args.map (aU st.env)++caps) cW:=by repeat' (first|exact fe|refine bb ?_ ?_|exact wy rfl|exact dL.one _ rfl|refine oE ?_|refine ZT ?_)):bY P E o st K:=Bc hF ho hc hd hN fm hb ha h
theorem qJ {c:Call} {c7:Operand} {args:List Operand} {tys:Array TypeId} {f:Nat} {caps cW:List AV} {res:AV} (hF:Fn P f cW res) (hb:bO P f=true) [hno:cU cW] [hres:gq res] (h:K ⟨upd st.env d res,st.ob⟩) (ho:o.op=.call c:=by rfl) (hc:c={ callee:=.value c7,args:=args.toArray,argTypes:=tys }:=by rfl) (hd:o.dst=some d:=by rfl) (hN:(bh E.N c7&&args.all (bh E.N)&&Nat.blt d E.N)=true:=by rfl)
  (fm:aU st.env c7=.fn f caps:=by rfl) (ha:args.map (aU st.env)++caps=cW:=by rfl):bY P E o st K:=call_ hF ho hc hd hN fm hb ha h
end
theorem lS {ob:Nat→aK} {as cs:List AV} (h:ew ob as cs:=by repeat' (first|exact fe|refine bb ?_ ?_|exact wy rfl|exact dL.one _ rfl|refine oE ?_|refine ZT ?_)):ew ob as cs:=h
theorem hZ {ob:Nat→aK} {l m:List AV} (h:∀(j:Nat) (a b:AV),l[j]? =some a→m[j]? =some b→gZ ob a b:=by repeat (first|exact Ag|refine gS (.inl rfl) ?_)):∀(j:Nat) (a b:AV),l[j]? =some a→m[j]? =some b→gZ ob a b:=h
theorem lO {e e':Nat→AV} (h:∀t,e' t=.any∨e' t=e t:=by repeat (first|exact QT _|refine Sl _ _ rfl ?_)):∀t,e' t=.any∨e' t=e t:=h
section
variable {P:Program} {E:cZ} {ops:Array Oper} {env:Nat→AV} {ob:Nat→aK} {o:Oper}
theorem dW (d:Nat) (h:∀st:St,st.ob=ob→(∀t,(o.looksAt ops).elem t=true→st.env t=env t)→bY P E o st (fun s=>s=⟨upd st.env d (env d),ob⟩)) (hd:o.dst=some d:=by rfl) (hl:Nat.blt d E.N=true:=by rfl):iB P E ops env ob o:=⟨d,hd,bX hl,h⟩
def ly (ops:Array Oper) (o:Oper):Operand→Bool
 | .tmp t=>(o.looksAt ops).elem t
 |_=>true
theorem lL {x:Operand} {e:Nat→AV} (hk:ly ops o x=true) (hE:∀t,(o.looksAt ops).elem t=true→e t=env t):aU e x=aU env x:=by
 cases x with
 |tmp t=>exact hE t hk
 |const _=>rfl
 |global _=>rfl
 |func _=>rfl
variable {d:Nat}
theorem sF {s:TypeId} {x:Operand} {i t off sz:Nat} (av fC:AV) (hf:dD P s i=some (t,off)) (hsz:(P.info? t).map (·.size)=some (sz+1)) (ho:o.op=.fieldAddr s x i:=by rfl) (hd:o.dst=some d:=by rfl) (hN:(bh E.N x&&Nat.blt d E.N)=true:=by rfl) (hl:Nat.blt d E.N=true:=by rfl) (hk:ly ops o x=true:=by rfl)
  (hx:aU env x=av:=by rfl) (hp:nZ av=true:=by rfl) (ha:tL av off=fC:=by rfl) (he:fC=env d:=by rfl):iB P E ops env ob o:=
 ⟨d,hd,bX hl,fun st ap hE=>zt ho hd hN hf hsz ((lL hk hE).trans hx) hp (ha.trans he) (by rw [ap])⟩
theorem sB {op:BinOp} {t t':TypeId} {x y:Operand} {k:IntKind} {a b:Int} (u:Value) (hu:hY k op a b=u) (ho:o.op=.binOp op t x y t':=by rfl) (hd:o.dst=some d:=by rfl) (hN:(bh E.N x&&bh E.N y&&Nat.blt d E.N)=true:=by rfl) (hl:Nat.blt d E.N=true:=by rfl) (hk:ly ops o x=true:=by rfl) (hk2:ly ops o y=true:=by rfl)
  (hx:aU env x=.v (.int k a):=by rfl) (hy:aU env y=.v (.int k b):=by rfl) (hb:qa op b:=by trivial) (he:AV.v u=env d:=by rfl):iB P E ops env ob o:=
 ⟨d,hd,bX hl,fun st ap hE=>ez ho hd hN ((lL hk hE).trans hx) ((lL hk2 hE).trans hy) hb hu (by rw [ap,he])⟩
theorem mH {c x y:Operand} {b':Bool} (b:Bool) (av:AV) (hbb:b=b') (ho:o.op=.pick c x y:=by rfl) (hd:o.dst=some d:=by rfl) (hN:(bh E.N c&&bh E.N x&&bh E.N y&&Nat.blt d E.N)=true:=by rfl) (hl:Nat.blt d E.N=true:=by rfl) (hk:ly ops o c=true:=by rfl) (hk2:ly ops o x=true:=by rfl) (hk3:ly ops o y=true:=by rfl)
  (hc:aU env c=.v (.bool b):=by rfl) (hr:cond b' (aU env x) (aU env y)=av:=by rfl) (he:av=env d:=by rfl):iB P E ops env ob o:=
 ⟨d,hd,bX hl,fun st ap hE=>fJ (av:=av) ho hd hN ((lL hk hE).trans hc) (by rw [lL hk2 hE,lL hk3 hE,hbb];exact hr) (by rw [ap,he])⟩
theorem ed {t:TypeId} {x:Operand} {s:Nat} {p:AV} {cells:List AV} (cells':List AV) (hb:YV P t=some true) (hsz:(P.info? t).map (·.size)=some s) (ho:o.op=.load t x:=by rfl) (hd:o.dst=some d:=by rfl) (hN:(bh E.N x&&Nat.blt d E.N)=true:=by rfl) (hl:Nat.blt d E.N=true:=by rfl) (hk:ly ops o x=true:=by rfl)
  (hx:aU env x=p:=by rfl) (hp:gO ob p=some cells:=by rfl) (hc':cells.take s=cells':=by rfl) (hl':cells'.length=s:=by rfl) (he:AV.agg cells'=env d:=by rfl):iB P E ops env ob o:=
 ⟨d,hd,bX hl,fun st ap hE=>jO ho hd hN hb hsz ((lL hk hE).trans hx) (by rw [ap];exact hp) hc' hl' (by rw [ap,he])⟩
theorem sL {t:TypeId} {x:Operand} {p:AV} {rest:List AV} (hb:YV P t=some false) (ho:o.op=.load t x:=by rfl) (hd:o.dst=some d:=by rfl) (hN:(bh E.N x&&Nat.blt d E.N)=true:=by rfl) (hl:Nat.blt d E.N=true:=by rfl) (hk:ly ops o x=true:=by rfl)
  (hx:aU env x=p:=by rfl) (hp:gO ob p=some (env d::rest):=by rfl):iB P E ops env ob o:=
 ⟨d,hd,bX hl,fun st ap hE=>i3 ho hd hN hb ((lL hk hE).trans hx) (by rw [ap];exact hp) (by rw [ap])⟩
theorem sC {c:Call} {c7:Operand} {args:List Operand} {tys:Array TypeId} {f:Nat} {caps cW:List AV} {res:AV} (hF:Fn P f cW res) (hb:bO P f=true) [hres:gq res] (ho:o.op=.call c:=by rfl) (hc:c={ callee:=.value c7,args:=args.toArray,argTypes:=tys }:=by rfl) (hd:o.dst=some d:=by rfl) (hN:(bh E.N c7&&args.all (bh E.N)&&Nat.blt d E.N)=true:=by rfl) (hl:Nat.blt d E.N=true:=by rfl)
  (hk:ly ops o c7=true:=by rfl) (hk2:args.all (ly ops o)=true:=by rfl) (fm:aU env c7=.fn f caps:=by rfl) (ha:ew (fun _=>.free) (args.map (aU env)++caps) cW:=by repeat' (first|exact fe|refine bb ?_ ?_|exact wy rfl|exact dL.one _ rfl|refine oE ?_|refine ZT ?_)) (he:res=env d:=by rfl):iB P E ops env ob o:=
 ⟨d,hd,bX hl,fun st ap hE=>Bc hF ho hc hd hN ((lL hk hE).trans fm) hb (by
  have:args.map (aU st.env)=args.map (aU env):=List.map_congr_left fun a h=>lL (List.all_eq_true.1 hk2 a h) hE;rw [this];exact ha) (by rw [ap,he])⟩
end
section
variable {P:Program} {E:cZ} {ops:Array Oper}
theorem aD {id:Nat} {st:St} {Q:Exit→St→Prop} (m:Nat) (vs:List (Nat×AV)) (hm:P.follows .mixedOrders=true) (hst:tq P E ops (kW vs st.env) st.ob (ops.toList.take m)) (htail:db P E ops (ops.toList.drop m) ⟨kW vs st.env,st.ob⟩ (fun s=>Q .normal s)) (hB:pY ops m (vs.map (·.1))=true:=by kernel_rfl):c6 P E (.region id ops true) st Q:=QP vs hm hB hst htail
end
section
variable {P:Program} {E:cZ} {st:St} {Q:Exit→St→Prop} {ops:Array Oper}
theorem rU {c:Code} (e':Nat→AV) (o':Nat→aK) (h:c6 P E c ⟨e',o'⟩ Q) (he:∀t,e' t=.any∨e' t=st.env t:=by repeat (first|exact ln|refine lu rfl ?_)) (ho:o'=st.ob:=by rfl):db P E ops [] st (fun s=>c6 P E c s Q):=ak (Nt e' o' he ho h)
end
end Go.Lo
set_option linter.unusedVariables false
namespace Go.Lo
section
variable {P:Program} {E:cZ} {st:St} {K:St→Prop} {ops:Array Oper} {o:Oper} {r:List Oper} {d:Nat} {x:Operand}
theorem mV {u:Value} (h:db P E ops r ⟨upd st.env d (.v u),st.ob⟩ K) (hg:o.guard=none:=by rfl) (ho:o.op=.move x∨o.op=.assign x:=by first|exact .inl rfl|exact .inr rfl) (hd:o.dst=some d:=by rfl) (hN:(bh E.N x&&Nat.blt d E.N)=true:=by rfl) (hx:aU st.env x=.v u:=by rfl):db P E ops (o::r) st K:=mG _ h hg ho hd hN hx
theorem mP {i j:Nat} (h:db P E ops r ⟨upd st.env d (.pt i j),st.ob⟩ K) (hg:o.guard=none:=by rfl) (ho:o.op=.move x∨o.op=.assign x:=by first|exact .inl rfl|exact .inr rfl) (hd:o.dst=some d:=by rfl) (hN:(bh E.N x&&Nat.blt d E.N)=true:=by rfl) (hx:aU st.env x=.pt i j:=by rfl):db P E ops (o::r) st K:=mG _ h hg ho hd hN hx
theorem mO {n:Nat} {c:List AV} (h:db P E ops r ⟨upd st.env d (.ro n c),st.ob⟩ K) (hg:o.guard=none:=by rfl) (ho:o.op=.move x∨o.op=.assign x:=by first|exact .inl rfl|exact .inr rfl) (hd:o.dst=some d:=by rfl) (hN:(bh E.N x&&Nat.blt d E.N)=true:=by rfl) (hx:aU st.env x=.ro n c:=by rfl):db P E ops (o::r) st K:=mG _ h hg ho hd hN hx
theorem mR {c:List AV} (h:db P E ops r ⟨upd st.env d (.rp c),st.ob⟩ K) (hg:o.guard=none:=by rfl) (ho:o.op=.move x∨o.op=.assign x:=by first|exact .inl rfl|exact .inr rfl) (hd:o.dst=some d:=by rfl) (hN:(bh E.N x&&Nat.blt d E.N)=true:=by rfl) (hx:aU st.env x=.rp c:=by rfl):db P E ops (o::r) st K:=mG _ h hg ho hd hN hx
theorem mS {i j n:Nat} (h:db P E ops r ⟨upd st.env d (.sl i j n),st.ob⟩ K) (hg:o.guard=none:=by rfl) (ho:o.op=.move x∨o.op=.assign x:=by first|exact .inl rfl|exact .inr rfl) (hd:o.dst=some d:=by rfl) (hN:(bh E.N x&&Nat.blt d E.N)=true:=by rfl) (hx:aU st.env x=.sl i j n:=by rfl):db P E ops (o::r) st K:=mG _ h hg ho hd hN hx
theorem oV {t:TypeId} {p:AV} {u:Value} {rest:List AV} (hb:YV P t=some false) (h:db P E ops r ⟨upd st.env d (.v u),st.ob⟩ K) (hg:o.guard=none:=by rfl) (ho:o.op=.load t x:=by rfl) (hd:o.dst=some d:=by rfl) (hN:(bh E.N x&&Nat.blt d E.N)=true:=by rfl) (hx:aU st.env x=p:=by rfl) (hp:gO st.ob p=some (.v u::rest):=by rfl):db P E ops (o::r) st K:=oG (i3 ho hd hN hb hx hp h) hg
theorem oO {t:TypeId} {p:AV} {n:Nat} {c rest:List AV} (hb:YV P t=some false) (h:db P E ops r ⟨upd st.env d (.ro n c),st.ob⟩ K) (hg:o.guard=none:=by rfl) (ho:o.op=.load t x:=by rfl) (hd:o.dst=some d:=by rfl) (hN:(bh E.N x&&Nat.blt d E.N)=true:=by rfl) (hx:aU st.env x=p:=by rfl) (hp:gO st.ob p=some (.ro n c::rest):=by rfl):db P E ops (o::r) st K:=oG (i3 ho hd hN hb hx hp h) hg
theorem oR {t:TypeId} {p:AV} {c rest:List AV} (hb:YV P t=some false) (h:db P E ops r ⟨upd st.env d (.rp c),st.ob⟩ K) (hg:o.guard=none:=by rfl) (ho:o.op=.load t x:=by rfl) (hd:o.dst=some d:=by rfl) (hN:(bh E.N x&&Nat.blt d E.N)=true:=by rfl) (hx:aU st.env x=p:=by rfl) (hp:gO st.ob p=some (.rp c::rest):=by rfl):db P E ops (o::r) st K:=oG (i3 ho hd hN hb hx hp h) hg
theorem bB {op:BinOp} {t t':TypeId} {y:Operand} {k:IntKind} {a b:Int} {u:Bool} (h:db P E ops r ⟨upd st.env d (.v (.bool u)),st.ob⟩ K) (hg:o.guard=none:=by rfl) (ho:o.op=.binOp op t x y t':=by rfl) (hd:o.dst=some d:=by rfl)
  (hN:(bh E.N x&&bh E.N y&&Nat.blt d E.N)=true:=by rfl) (hx:aU st.env x=.v (.int k a):=by rfl) (hy:aU st.env y=.v (.int k b):=by rfl) (hb:qa op b:=by trivial) (hu:hY k op a b=.bool u:=by rfl):db P E ops (o::r) st K:=bG (.bool u) h hg ho hd hN hx hy hb hu
theorem cD {Q:Exit→St→Prop} {c c':Code} {b:Bool} (ht:b=true→c6 P E c st Q) (hf:b=false→c6 P E c' st Q) (hok:bh E.N x=true:=by rfl) (hc:aU st.env x=.v (.bool b):=by rfl):c6 P E (.cond x c c') st Q:=eh b hok hc ht hf
end
end Go.Lo
set_option linter.unusedVariables false
namespace Go.Lo
theorem bF {p:Nat→Prop} {cs:List AV} (h:∀c,c∈cs→Ok p True c:=by repeat' (first|exact AQ|refine Ak ?_ ?_|exact nP|exact .v _|exact .sl _ _ _ (by first|(simp;done)|decide)|exact .pt _ _ (by first|(simp;done)|decide))):∀c,c∈cs→Ok p True c:=h
theorem KY {σ:Nat→Nat} {cs cs':List AV} (h:AV.dY σ cs=cs':=by repeat' (first|exact oJ|refine oF ?_ ?_|exact jj|exact rfl)):AV.dY σ cs=cs':=h
theorem ca {σ:Nat→Nat} {cs cs':List AV} {e z:Nat} (h:AV.dY σ cs=cs':=by repeat' (first|exact oJ|refine oF ?_ ?_|exact jj|exact rfl)):ay.map σ ⟨cs,e,z⟩=⟨cs',e,z⟩:=jr h
theorem ZK {σ:Nat→Nat} {cs cs':List AV} {e z:Nat} (h:AV.dY σ cs=cs':=by repeat' (first|exact oJ|refine oF ?_ ?_|exact jj|exact rfl)):aK.map σ (.live ⟨cs,e,z⟩)=.live ⟨cs',e,z⟩:=AN h
theorem Sw {ob:Nat→aK} {id n:Nat} {o:ay} {cs:List AV} (hl:ob id=.live o) (hc:o.cells=cs) (hlen:o.cells.length=n*o.ci) [h:cU o.cells]:dL ob (.sl id 0 n) (.ro n cs):=by subst hc;exact fv hl hlen
theorem lT {ob:Nat→aK} {as cs:List AV} (h:ew ob as cs:=by repeat' (first|exact fe|refine bb ?_ ?_|exact wy rfl|exact dL.one _ rfl|refine oE ?_|refine ZT ?_|refine jf rfl ?_|exact QV|exact Sw rfl rfl (YW (fun _=>rfl) (by first|rfl|(simp;done)))|(refine PG rfl ?_ ?_;rotate_left;exact rfl))):ew ob as cs:=h
theorem sU {A B:Prop} {i:Nat} {xs:List Nat} (b:B) (h:¬i∈xs:=by decide):if i∈xs then A else B:=Sn h b
section
variable {P:Program} {E:cZ} {ops:Array Oper} {env:Nat→AV} {ob:Nat→aK} {o:Oper} {d:Nat} {x:Operand}
theorem g6 {av:AV} (ho:o.op=.nilCheck x:=by rfl) (hd:o.dst=some d:=by rfl) (hN:(bh E.N x&&Nat.blt d E.N)=true:=by rfl) (hl:Nat.blt d E.N=true:=by rfl) (hk:ly ops o x=true:=by rfl) (hx:aU env x=av:=by rfl) (hp:nZ av=true:=by rfl) (he:av=env d:=by rfl):iB P E ops env ob o:=
 ⟨d,hd,bX hl,fun st ap hE=>dC ho hd hN ((lL hk hE).trans hx) hp (by rw [ap,he])⟩
theorem fL {i:Nat} {cs:List AV} (ho:o.op=.extract x i:=by rfl) (hd:o.dst=some d:=by rfl) (hN:(bh E.N x&&Nat.blt d E.N)=true:=by rfl) (hl:Nat.blt d E.N=true:=by rfl) (hk:ly ops o x=true:=by rfl) (hx:aU env x=.bw cs:=by rfl) (hi:cs[i]? =some (env d):=by rfl):iB P E ops env ob o:=
 ⟨d,hd,bX hl,fun st ap hE=>FY ho hd hN ((lL hk hE).trans hx) hi (by rw [ap])⟩
end
end Go.Lo
