/- Part of the logic of values: what the law reaches. -/
import Derived.Test.YtdeajfldegcdaaaGreatPFnPlm7
import Derived.Lib.AppendZerosOnto
set_option linter.unusedVariables false
set_option linter.unusedSimpArgs false
namespace Go.Lo
def KD (e env:Nat→AV):Option Nat→Nat→AV
 |some d=>upd e d (env d)
 |none=>e
theorem nJ {o:Oper} {b:Nat→Bool} {j:Nat} (h:(o.after.any fun e=>Region.binds .any e&&e.on==j)=true) (hd:∀e∈o.after,Region.binds .any e=true→b e.on=true):b j=true:=by
 obtain ⟨e,he,hb⟩:=Array.any_eq_true'.1 h;simp only [Bool.and_eq_true,beq_iff_eq] at hb;rw [←hb.2];exact hd e he hb.1
section
variable (P:Program) (E:cZ)
def v7 (ops:Array Oper) (env:Nat→AV) (dQ:(Nat→Bool)→Nat→aK) (xs:List Nat):Nat→List Oper→Prop
 |_,[]=>True
 |i,o::r=>(if i∈xs then o.guard=none∧(∀d,o.dst=some d→d<E.N)∧∀b:Nat→Bool,b i=false→(∀e∈o.after,Region.binds .any e=true→b e.on=true)→(∀j oj,ops[j]? =some oj→b j=true→∀e∈oj.after,Region.binds .any e=true→b e.on=true)→∀st:St,st.ob=dQ b→(∀t,(o.looksAt ops).elem t=true→st.env t=env t)→bY P E o st (fun s=>s.env=KD st.env env o.dst∧∀id,s.ob id=dQ (fun j=>j==i||b j) id)
   else ∀b,Still P E ops env (dQ b) o)∧v7 ops env dQ xs (i+1) r
end
theorem AE {ops:Array Oper} {b:Nat→Bool} {i j:Nat} (h:((ops[j]?).any fun o=>o.after.any fun e=>Region.binds .any e&&e.on==i)=true) (hcl:∀j oj,ops[j]? =some oj→b j=true→∀e∈oj.after,Region.binds .any e=true→b e.on=true) (hb:b i=false):b j=false:=by
 cases hj:b j with
 |false=>rfl
 |true=>
  obtain ⟨o,ho,h1⟩:=(Option.any_eq_true _ _).1 h;obtain ⟨e,he,h4⟩:=Array.any_eq_true'.1 h1;simp only [Bool.and_eq_true,beq_iff_eq] at h4;have:=hcl j _ ho hj e he h4.1;rw [h4.2,hb] at this
  cases this
section
variable {P:Program} {E:cZ} {ops:Array Oper}
theorem Gm {env:Nat→AV} {dQ:(Nat→Bool)→Nat→aK} {xs:List Nat}:∀(k:Nat) (l:List Oper),v7 P E ops env dQ xs k l→∀(i:Nat) (o:Oper),l[i]? =some o→
  (if k+i∈xs then o.guard=none∧(∀d,o.dst=some d→d<E.N)∧∀b:Nat→Bool,b (k+i)=false→(∀e∈o.after,Region.binds .any e=true→b e.on=true)→(∀j oj,ops[j]? =some oj→b j=true→∀e∈oj.after,Region.binds .any e=true→b e.on=true)→∀st:St,st.ob=dQ b→(∀t,(o.looksAt ops).elem t=true→st.env t=env t)→bY P E o st (fun s=>s.env=KD st.env env o.dst∧∀id,s.ob id=dQ (fun j=>j==(k+i)||b j) id)
   else ∀b,Still P E ops env (dQ b) o)
 |_,[],_,i,o,h=>by simp at h
 |k,a::r,hst,i,o,h=>by
  cases i with
  |zero=>simp at h;subst h;exact hst.1
  |succ i=>
   have:=Gm (k+1) r hst.2 i o (by simpa using h)
   rwa [show k+1+i=k+(i+1) by omega] at this
theorem N8 {Q:Exit→Act→World→Prop} {K:St→Prop} {m:Nat} {env:Nat→AV} {dQ:(Nat→Bool)→Nat→aK} {cg:Nat→aK} {xs:List Nat} (mr:∀b b':Nat→Bool,(∀x,x∈xs→b x=b' x)→dQ b=dQ b') (hfin:∀b:Nat→Bool,(∀i,i<m→b i=true)→dQ b=cg) (hq:∀st' a' w',ey E st' a' w'→K st'→Q .normal a' w') (hm:m≤ops.size)
  (tN:(List.range m).all (qc ops m)=true) (hsc:m=ops.size∨(Region.sinkB .any ops m=true∧Region.chainB .any ops m=true)) (hT:oS ops (ops.size-m) m=true)
  (hst:v7 P E ops env dQ xs 0 (ops.toList.take m)) (htail:db P E ops (ops.toList.drop m) ⟨env,cg⟩ K) (u:Nat):
  ∀(listed:Array Bool) (a:Act) (w:World),HeadInv .any ops m listed→cnt listed m=u→ey E ⟨d6 ops m listed env,dQ fun i=>listed.getD i false⟩ a w→wpAny P .any ops Q (u+(ops.size-m)) listed a w:=by
 have o3:∀i,i<m→∃o,ops[i]? =some o∧(∀e∈o.after,Region.binds .any e=true→e.on<i)∧∀t,t∈o.looksAt ops→∀j oj,j<m→ops[j]? =some oj→oj.dst=some t→∃e∈o.after,Region.binds .any e=true∧e.on=j:=by
  intro i hi;have h:=List.all_eq_true.1 tN i (List.mem_range.2 hi);unfold qc at h
  split at h
  ·rename_i o ho;simp only [Bool.and_eq_true] at h;refine ⟨o,ho,fun e he hb=>?_,fun t ht j oj hj hoj hdt=>?_⟩
   ·have:=Array.all_eq_true'.1 h.1 e he;simpa [hb] using this
   ·have h2:=List.all_eq_true.1 (List.all_eq_true.1 h.2 t ht) j (List.mem_range.2 hj);simp only [hoj,hdt] at h2;have h3:(o.after.any fun e=>Region.binds .any e&&e.on==j)=true:=by simpa using h2
    obtain ⟨e,he,hb⟩:=Array.any_eq_true'.1 h3;simp only [Bool.and_eq_true,beq_iff_eq] at hb;exact ⟨e,he,hb.1,hb.2⟩
  ·cases h
 induction u with
 |zero=>
  intro listed a w inv hc hs;have hall:=Al hc
  have hl:listed=upTo ops.size m:=by
   apply Array.ext_getElem?;intro j;rcases Nat.lt_or_ge j ops.size with hj|hj
   ·rw [s4 hj,Array.getElem?_eq_getElem (by rw [inv.size];exact hj)];rcases Nat.lt_or_ge j m with h1|h1
    ·have:=hall j h1;simp [show j<listed.size by rw [inv.size];exact hj] at this;simp [this,h1]
    ·have:=inv.tail j h1 hj;simp [show j<listed.size by rw [inv.size];exact hj] at this;simp [this];omega
   ·rw [Array.getElem?_eq_none (by rw [inv.size];exact hj),Array.getElem?_eq_none (by rw [rk];exact hj)]
  have Cz:(dQ fun i=>listed.getD i false)=cg:=hfin _ hall
  have qq:ey E ⟨env,cg⟩ a w:=by
   rw [Cz] at hs;refine hs.le ⟨fun t=>.inr ?_,fun id=>.inl rfl⟩;simp only [d6];rw [if_neg];rintro ⟨j,o,h1,_,_,h2⟩;rw [hall j h1] at h2
   cases h2
  rw [hl,Nat.zero_add];have:=zL hq (ops.toList.drop m) m ⟨env,cg⟩ a w (fun j=>by simp [List.getElem?_drop]) (by simp;omega) (by simpa using hT) qq htail;simpa using this
 |succ u ih=>
  intro listed a w inv hc hs;rw [show u+1+(ops.size-m)=(u+(ops.size-m))+1 by omega]
  have hun:∃j,j<m∧listed.getD j false=false:=by
   apply Classical.byContradiction;intro hno
   have:∀k,k≤m→cnt listed k=0:=by
    intro k
    induction k with
    |zero=>intro _;rfl
    |succ k ihk=>
     intro hk;simp only [cnt];rw [ihk (by omega)]
     cases hkv:listed.getD k false with
     |true=>simp
     |false=>exact absurd ⟨k,by omega,hkv⟩ hno
   have:=this m (Nat.le_refl _);omega
  have tu:∀n j,j<n→j<m→listed.getD j false=false→Region.ready .any ops listed≠ []:=by
   intro n
   induction n with
   |zero=>intro j h;omega
   |succ n ihn=>
    intro j hj hjm hf;obtain ⟨o,ho,he,_⟩:=o3 j hjm;by_cases ZV:∀e∈o.after,Region.binds .any e=true→listed.getD e.on false=true
    ·intro hnil;have:j∈Region.ready .any ops listed:=mem_ready.2 ⟨getD_in (by rw [inv.size];omega) hf,o,ho,ZV⟩;rw [hnil] at this
     cases this
    ·have:∃e∈o.after,Region.binds .any e=true∧listed.getD e.on false=false:=by
      apply Classical.byContradiction;intro hno;apply ZV;intro e he1 he2
      cases hv:listed.getD e.on false with
      |true=>rfl
      |false=>exact absurd ⟨e,he1,he2,hv⟩ hno
     obtain ⟨e,he1,he2,mN⟩:=this;have:=he e he1 he2;exact ihn e.on (by omega) (by omega) mN
  obtain ⟨j0,hj0,hf0⟩:=hun;refine ⟨fun hnil=>absurd hnil (tu (j0+1) j0 (by omega) hj0 hf0),fun i hi=>?_⟩;obtain ⟨t9,oi,hoi,hall⟩:=mem_ready.1 hi;have hin:i<ops.size:=(Array.getElem?_eq_some_iff.1 hoi).1
  have him:i<m:=by
   rcases Nat.lt_or_ge i m with h|h
   ·exact h
   ·rcases hsc with h1|⟨h1,h2⟩
    ·omega
    ·exact absurd hi (tail_waits h1 h2 (by omega) inv _ j0 rfl hj0 (getD_in (by rw [inv.size];omega) hf0) i h)
  have hif:listed.getD i false=false:=getD_both t9;obtain ⟨o',ho',_,tO⟩:=o3 i him;rw [hoi] at ho'
  cases ho'
  have hsame:∀t,t∈oi.looksAt ops→d6 ops m listed env t=env t:=by
   intro t ht;simp only [d6];rw [if_neg];rintro ⟨j,oj,h1,h2,h3,h4⟩;obtain ⟨e,he1,he2,mN⟩:=tO t ht j oj h1 h2 h3;have:=hall e he1 he2;rw [mN,h4] at this
   cases this
  have lx:=Gm _ _ hst i oi (by rw [List.getElem?_take,if_pos him];simpa using hoi);rw [Nat.zero_add] at lx
  have hcnt:cnt (listed.setIfInBounds i true) m=u:=by
   have:=AU (listed:=listed) (by rw [inv.size];exact hin) hif m;rw [if_pos him] at this;omega
  by_cases hix:i∈xs
  ·rw [if_pos hix] at lx;obtain ⟨hg,hdn,hop⟩:=lx;unfold wpOp;simp only [hoi];have hw:Region.wanted oi (yielded ops a.tmps)=true:=by simp [Region.wanted,hg]
   rw [if_pos hw];refine .inl (Oper.wp_mono ?_ (hop (fun j=>listed.getD j false) hif hall inv.closed ⟨d6 ops m listed env,dQ fun j=>listed.getD j false⟩ rfl (fun t ht=>hsame t (List.elem_iff.1 ht)) a w Q hs));rintro a' w' ⟨s,h1,he1,he2⟩;refine ih _ a' w' (inv.set hi him) hcnt (h1.le ⟨fun t=>?_,fun id=>.inl ?_⟩)
   ·simp only [d6];by_cases hex:∃j o,j<m∧ops[j]? =some o∧o.dst=some t∧(listed.setIfInBounds i true).getD j false=false
    ·rw [if_pos hex];exact .inl rfl
    ·rw [if_neg hex];refine .inr ?_;rw [he1]
     have hmid:(∀d,oi.dst=some d→t≠d)→d6 ops m listed env t=env t:=by
      intro htd;simp only [d6];rw [if_neg];rintro ⟨j,o,k1,k2,k3,k4⟩;refine hex ⟨j,o,k1,k2,k3,?_⟩
      have hij:i≠j:=fun e=>by
       subst e;rw [hoi] at k2
       cases k2
       exact htd t k3 rfl
      rw [getD_set_ne false hij];exact k4
     cases hdd:oi.dst with
     |none=>
      show env t=d6 ops m listed env t;rw [hmid (fun d hd=>by rw [hdd] at hd;cases hd)]
     |some d=>
      show env t=upd (d6 ops m listed env) d (env d) t;by_cases htd:t=d
      ·subst htd;rw [upd_same]
      ·rw [upd_ne _ _ htd,hmid (fun d' hd=>by rw [hdd] at hd;cases hd;exact htd)]
   ·rw [he2 id];refine congrFun (mr _ _ fun x _=>?_) id;show _=(x==i||listed.getD x false)
    by_cases hxi:i=x
    ·subst hxi;have:=inv.size;simp [show i<listed.size by omega]
    ·rw [getD_set_ne false hxi];simp [show ¬x=i from fun e=>hxi e.symm]
  rw [if_neg hix] at lx;have CB:(dQ fun j=>(listed.setIfInBounds i true).getD j false)=dQ fun j=>listed.getD j false:=mr _ _ fun x hx=>by rw [getD_set_ne false (fun e=>by subst e;exact hix hx)]
  have hstill:Still P E ops env (dQ fun j=>listed.getD j false) oi:=lx _
  clear lx
  generalize hog:(dQ fun j=>listed.getD j false)=lD at hs hstill;have ih':∀(a:Act) (w:World),ey E ⟨d6 ops m (listed.setIfInBounds i true) env,lD⟩ a w→wpAny P .any ops Q (u+(ops.size-m)) (listed.setIfInBounds i true) a w:=fun a w h=>ih _ a w (inv.set hi him) hcnt (by rw [CB,hog];exact h)
  have hnext:∀(d:Nat) (s:St),oi.dst=some d→s.ob=lD→(∀t,t≠d→s.env t=d6 ops m listed env t)→(env d=.any∨s.env d=env d)→Le s ⟨d6 ops m (listed.setIfInBounds i true) env,lD⟩:=by
   intro d s hdd h1 h2 h3;refine ⟨fun t=>?_,fun id=>.inl (by rw [h1])⟩;simp only [d6];by_cases hex:∃j o,j<m∧ops[j]? =some o∧o.dst=some t∧(listed.setIfInBounds i true).getD j false=false
   ·rw [if_pos hex];exact .inl rfl
   ·rw [if_neg hex];by_cases htd:t=d
    ·subst htd;rcases h3 with h3|h3
     ·exact .inl h3
     ·exact .inr h3.symm
    ·refine .inr ?_;rw [h2 t htd];simp only [d6];rw [if_neg];rintro ⟨j,o,k1,k2,k3,k4⟩;refine hex ⟨j,o,k1,k2,k3,?_⟩
     have hij:i≠j:=fun e=>by
      subst e;rw [hoi] at k2
      cases k2
      rw [hdd] at k3
      cases k3
      exact htd rfl
     rw [getD_set_ne false hij];exact k4
  have hgo:∀(d:Nat),oi.dst=some d→iB P E ops env lD oi→oi.wp P a w (wpAny P .any ops Q (u+(ops.size-m)) (listed.setIfInBounds i true)) Q:=by
   rintro d hdd ⟨d',hd',_,hop⟩;rw [hdd] at hd'
   cases hd'
   refine Oper.wp_mono ?_ (hop ⟨d6 ops m listed env,lD⟩ rfl (fun t ht=>hsame t (List.elem_iff.1 ht)) a w Q hs);rintro a' w' ⟨s,h1,rfl⟩;refine ih' a' w' (h1.le (hnext d _ hdd rfl (fun t ht=>upd_ne _ _ ht) (.inr (upd_same _ _ _))))
  unfold wpOp;simp only [hoi];unfold Still at hstill
  cases hg:oi.guard with
  |none=>
   rw [hg] at hstill;obtain ⟨d,hd,h1,h2⟩:=hstill;have hw:Region.wanted oi (yielded ops a.tmps)=true:=by simp [Region.wanted,hg]
   rw [if_pos hw];exact .inl (hgo d hd ⟨d,hd,h1,h2⟩)
  |some ny=>
   obtain ⟨j,want⟩:=ny;rw [hg] at hstill;obtain ⟨t,uv,hj,ht,he,hyes,hno⟩:=hstill
   have htl:t∈oi.looksAt ops:=by
    unfold Oper.looksAt;rw [hg];simp [hj]
   obtain ⟨C,hs'⟩:=hs;have hy:=sT hs' hj ht (by show d6 ops m listed env t=_;rw [hsame t htl];exact he);by_cases hb:yv uv=some want
   ·have hw:Region.wanted oi (yielded ops a.tmps)=true:=by simp [Region.wanted,hg,hy,hb]
    rw [if_pos hw];obtain ⟨d,hd,h1,h2⟩:=hyes hb;exact .inl (hgo d hd ⟨d,hd,h1,h2⟩)
   ·have hw:Region.wanted oi (yielded ops a.tmps)=false:=by simp [Region.wanted,hg,hy,hb]
    rw [if_neg (by simp [hw])];obtain ⟨d,hd,hdN,hany⟩:=hno hb
    have hs2:ey E ⟨upd (d6 ops m listed env) d (.v undef),lD⟩ (a.put oi.dst undef) w:=by
     have:=hs'.set oi.dst (fun d' hd'=>by rw [hd] at hd';cases hd';exact hdN) (.v undef) undef (fun _=>.v _);rw [hd] at this ⊢;exact ⟨C,this⟩
    exact ih' _ w (hs2.le (hnext d _ hd rfl (fun t ht=>upd_ne _ _ ht) (hany.imp id (fun h=>by rw [h];exact upd_same _ _ _))))
theorem lb {id m:Nat} {st:St} (dQ:(Nat→Bool)→Nat→aK) (cg:Nat→aK) (xs:List Nat) (CF:dQ (fun _=>false)=st.ob) (mr:∀b b':Nat→Bool,(∀x,x∈xs→b x=b' x)→dQ b=dQ b') (hfin:∀b:Nat→Bool,(∀i,i<m→b i=true)→dQ b=cg) {Q:Exit→St→Prop} (vs:List (Nat×AV)) (hm:P.follows .mixedOrders=true) (hB:pY ops m (vs.map (·.1))=true)
  (hst:v7 P E ops (kW vs st.env) dQ xs 0 (ops.toList.take m)) (htail:db P E ops (ops.toList.drop m) ⟨kW vs st.env,cg⟩ (fun s=>Q .normal s)):c6 P E (.region id ops true) st Q:=by
 intro a w hs;simp only [pY,Bool.and_eq_true,Bool.or_eq_true,beq_iff_eq,decide_eq_true_eq] at hB;obtain ⟨⟨⟨⟨h1,h2⟩,h3⟩,h4⟩,h5⟩:=hB;refine wp_region_any hm ?_
 have inv:HeadInv .any ops m (Array.replicate ops.size false):=
  ⟨by simp,fun j oj _ hl=>(by rw [getD_replicate_false] at hl;cases hl),fun t _ ht=>getD_in (by simpa using ht) (getD_replicate_false _ _)⟩
 have hcnt:∀k,cnt (Array.replicate ops.size false) k=k:=by
  intro k
  induction k with
  |zero=>rfl
  |succ k ih=>simp only [cnt];rw [ih,getD_replicate_false];simp
 have hs1:ey E st a { w with drawn:=w.drawn+1 }:=by
  obtain ⟨C,hs⟩:=hs;have hext:Ext w C { w with drawn:=w.drawn+1 } C:=⟨fun _ h=>⟨h,rfl,rfl,rfl⟩,fun _ _ h=>h,fun _ _ _=>rfl⟩
  have:=hs.put hext st.ob ⟨hs.obj.nil,fun id o b h1 h2=>?_,hs.obj.inj,hs.obj.dom,hs.obj.bnd⟩ ⟨hs.fr.os,hs.fr.tape,hs.fr.output,hs.fr.size,hs.fr.block⟩ hs.fresh hs.keep hs.fO none (fun d h=>by cases h) .any undef (fun h=>absurd rfl h)
  ·exact ⟨C,this⟩
  ·obtain ⟨k1,cur,k2,k3,k4,k5⟩:=hs.obj.live id o b h1 h2;refine ⟨k1,cur,k2,k3,k4,fun j av hj=>?_⟩;obtain ⟨u,hu,k6,k7⟩:=k5 j av hj;exact ⟨u,hu,k6,k7.ext hext⟩
 have hs2:ey E ⟨d6 ops m (Array.replicate ops.size false) (kW vs st.env),st.ob⟩ a { w with drawn:=w.drawn+1 }:=by
  refine hs1.le ⟨fun t=>?_,fun id=>.inl rfl⟩;simp only [d6];by_cases hex:∃j o,j<m∧ops[j]? =some o∧o.dst=some t∧(Array.replicate ops.size false).getD j false=false
  ·rw [if_pos hex];exact .inl rfl
  ·rw [if_neg hex];refine .inr (AS fun hmem=>?_);have:=List.all_eq_true.1 h2 t hmem;obtain ⟨o,ho,hd⟩:=List.any_eq_true.1 this;simp only [beq_iff_eq] at hd;obtain ⟨j,hj⟩:=List.mem_iff_getElem?.1 ho;rw [List.getElem?_take] at hj
   split at hj
   ·rename_i hjm;exact hex ⟨j,o,hjm,by simpa using hj,hd,getD_replicate_false _ _⟩
   ·cases hj
 have CG:(dQ fun i=>(Array.replicate ops.size false).getD i false)=st.ob:=by rw [←CF];exact mr _ _ fun x _=>getD_replicate_false _ _
 rw [←CG] at hs2;have:=N8 (P:=P) mr hfin (Q:=fun e a' w'=>∃st',ey E st' a' w'∧Q e st') (K:=fun s=>Q .normal s) (fun st' a' w' k1 k2=>⟨st',k1,k2⟩) h1 h3 h4 h5 hst htail m _ a _ inv (hcnt m) hs2
 rwa [show m+(ops.size-m)=ops.size by omega] at this
end
end Go.Lo
set_option linter.unusedVariables false
set_option linter.unusedSimpArgs false
namespace Go.Lo
section
variable {P:Program} {E:cZ} {st:St} {K:St→Prop}
theorem OX {o:Oper} {t e:TypeId} {x ix:Operand} {d n sz:Nat} {b:Bool} {k:IntKind} {i:Int} {cells:List AV} {av:AV} (ho:o.op=.index t x ix) (hd:o.dst=some d) (hN:(bh E.N x&&bh E.N ix&&Nat.blt d E.N)=true)
  (ht:P.underlying t=some (.array n e)) (hb:YV P e=some b) (hsz:(P.info? e).map (·.size)=some sz) (hx:aU st.env x=.agg cells) (hi:aU st.env ix=.v (.int k i)) (h0:0≤i) (h1:i<n)
  (hp:tJ b cells (i.toNat*sz) sz=some av) (h:K ⟨upd st.env d av,st.ob⟩):bY P E o st K:=by
 simp only [Bool.and_eq_true] at hN;refine gu av (fun d' hd'=>by rw [hd] at hd';cases hd';exact bX hN.2) (fun a w C hs=>?_) (by rw [hd];exact h);have hx1:=hs.ev x hN.1.1;rw [hx] at hx1;have hi1:=hs.ev ix hN.1.2;rw [hi] at hi1;have hi2:=hi1.fy;generalize eu:a.eval x=ux at hx1
 cases hx1 with
 |agg _ us hsz' hrel=>
  obtain ⟨u,hr,hR⟩:=TG (off:=i.toNat*sz) hb hsz hp hsz' hrel;refine ⟨u,?_,hR⟩;simp [execOp,ho,eu,hi2,Instr.index,asIntOf,run_underlying ht,h0,h1,run_sizeOf hsz,hr]
theorem F7 {o:Oper} {c:Call} {t e:TypeId} {x:Operand} {d:Nat} (ho:o.op=.call c) (hc:c={ callee:=.builtin .cap,args:= #[x],argTypes:= #[t] }) (hd:o.dst=some d) (hN:(bh E.N x&&Nat.blt d E.N)=true)
  (ht:P.underlying t=some (.slice e)) (hx:aU st.env x=.v (.slice none 0 0)) (h:K ⟨upd st.env d (.v (.int .i64 0)),st.ob⟩):bY P E o st K:=by
 subst hc;simp only [Bool.and_eq_true] at hN;refine gu (.v (.int .i64 0)) (fun d' hd'=>by rw [hd] at hd';cases hd';exact bX hN.2) (fun a w C hs=>?_) (by rw [hd];exact h);have hx1:=hs.ev x hN.1;rw [hx] at hx1;have hx2:=hx1.fy;refine ⟨.int .i64 0,?_,.v _⟩;simp [execOp,ho,resolve,invoke,builtin,hx2,Builtin.cap_,run_underlying ht,goInt]
theorem NP {o:Oper} {t e sz d:Nat} {x:Operand} {lo hi:Option Operand} (ho:o.op=.slice t x lo hi none) (hd:o.dst=some d) (hN:(bh E.N x&&okO E.N lo&&okO E.N hi&&Nat.blt d E.N)=true)
  (ht:P.underlying t=some (.slice e)) (hsz:(P.info? e).map (·.size)=some sz) (hx:aU st.env x=.v (.slice none 0 0)) (hlo:nY st.env lo 0 0) (hhi:nY st.env hi 0 0)
  (h:K ⟨upd st.env d (.v (.slice none 0 0)),st.ob⟩):bY P E o st K:=by
 simp only [Bool.and_eq_true] at hN;refine gu _ (fun d' hd'=>by rw [hd] at hd';cases hd';exact bX hN.2) (fun a w C hs=>?_) (by rw [hd];exact h);have hx1:=hs.ev x hN.1.1.1;rw [hx] at hx1;have hx2:=hx1.fy;have hr:=sW (P:=P) (A:=none) (n:=0) (c:=0) ht hsz (pK hs hN.1.1.2 hlo) (pK hs hN.1.2 hhi) (Nat.le_refl 0) (Nat.le_refl 0) w;exact ⟨.slice none 0 0,by simp only [execOp,ho,hx2,Option.map_none,Sem.run_bind,hr,Result.andThen_ok];rfl,.v _⟩
theorem SR.drew {C:Ctx} {a:Act} {w:World} (hs:SR E C st a w):SR E C st a w.drew:=by
 have hext:Ext w C { w with drawn:=w.drawn+1 } C:=⟨fun _ h=>⟨h,rfl,rfl,rfl⟩,fun _ _ h=>h,fun _ _ _=>rfl⟩
 have:=hs.put hext st.ob ⟨hs.obj.nil,fun id o b h1 h2=>?_,hs.obj.inj,hs.obj.dom,hs.obj.bnd⟩ ⟨hs.fr.os,hs.fr.tape,hs.fr.output,hs.fr.size,hs.fr.block⟩ hs.fresh hs.keep hs.fO none (fun d h=>by cases h) .any undef (fun h=>absurd rfl h)
 ·exact this
 ·obtain ⟨k1,cur,k2,k3,k4,k5⟩:=hs.obj.live id o b h1 h2;refine ⟨k1,cur,k2,k3,k4,fun j av hj=>?_⟩;obtain ⟨u,hu,k6,k7⟩:=k5 j av hj;exact ⟨u,hu,k6,k7.ext hext⟩
theorem P6 {o:Oper} {c:Call} {t tn e:TypeId} {s x:Operand} {d size bytes n:Nat} {z:Value} {k:IntKind} (id:Nat) (ho:o.op=.call c) (hc:c={ callee:=.builtin .append,args:= #[s,x],argTypes:= #[t,tn] }) (hd:o.dst=some d)
  (hN:(bh E.N s&&bh E.N x&&Nat.blt d E.N)=true) (ht:P.underlying t=some (.slice e)) (htn:P.underlying tn=some (.int k)) (hinfo:(P.info? e).map (fun i=>(i.zero,i.size,i.bytes))=some (some z,size,bytes)) (hzs:z.cells.size=size) (hsz:0<size)
  (hs0:aU st.env s=.v (.slice none 0 0)) (hx0:aU st.env x=.v (.int k (n:Int))) (hn:0<n) (hb:n*bytes≤140737488355328) (hb0:n≤140737488355328) (hf:st.ob id=.free)
  (h:K ⟨upd st.env d (.sl id 0 n),ah st.ob id (.live ⟨[],e,size⟩)⟩):bY P E o st K:=by
 subst hc;simp only [Bool.and_eq_true] at hN;rintro a w q ⟨C,hs⟩;obtain ⟨i0,hi,hzz⟩:=Option.map_eq_some_iff.1 hinfo;simp only [Prod.mk.injEq] at hzz;obtain ⟨hz0,hz1,hz2⟩:=hzz;have hvs:=hs.ev s hN.1.1;rw [hs0] at hvs;have W8:=hvs.fy;have Nu:=hs.ev x hN.1.2;rw [hx0] at Nu;have W9:=Nu.fy;have hfit:Builtin.nextslicecap (0+n) 0*i0.bytes≤281474976710656:=growslice_fits (by omega) (by rw [Nat.zero_add,hz2];exact hb);have hold:(Builtin.firstCells i0.size 0 (.slice none 0 0)).run P w.drew=.ok ([]:List Value).toArray w.drew:=by simp [Builtin.firstCells]
 have hrun:=Lib.run_append_grow_zeros (P:=P) w t tn o.type e i0 z k k ht htn hi hz0 none 0 0 [] hold n hn (by omega) (by omega) (by omega) (by rw [hz2];omega) hfit;have hcap:=grownCap_ge w (0+n) 0 e;have hcap2:=grownCap_le_maxLen w (0+n) 0 e (by unfold maxLen;omega);generalize hG:grownCap w (0+n) 0 e=G at hrun hcap hcap2
 have hcsz:(([]:List Value).toArray++Builtin.zeroCells z.cells n++Builtin.zeroCells z.cells (G-(0+n))).size=G*size:=by
  simp only [Builtin.zeroCells,Array.size_append,List.size_toArray,List.length_nil,Array.size_map,Array.size_range,hzs];rw [Nat.zero_add, ←Nat.add_mul]
  congr 1
  omega
 have hnew:=hs.drew.new id hf ⟨[],e,size⟩ (([]:List Value).toArray++Builtin.zeroCells z.cells n++Builtin.zeroCells z.cells (G-(0+n))) (by simp) (fun j c hj=>by simp at hj) o.dst (fun d' hd'=>by rw [hd] at hd';cases hd';exact bX hN.2) (.sl id 0 n) (.slice (some ⟨w.drew.heap.size,0,none⟩) (0+n) G) (fun _=>by
  rw [Nat.zero_add] at hcsz ⊢;exact .sl id 0 n G _ (.inl rfl) (by simp [Ctx.add]) (by omega) hcap2 (by simp only [Ctx.add,if_true];rw [Nat.zero_add];exact hcsz.symm))
 unfold Oper.wp
 have hex:(execOp a.eval o).run P w=.ok (.value (.slice (some ⟨w.drew.heap.size,0,none⟩) (0+n) G)) (w.drew.alloc (.cells (([]:List Value).toArray++Builtin.zeroCells z.cells n++Builtin.zeroCells z.cells (G-(0+n))) e)):=by
  simp only [execOp,ho,resolve,invoke,builtin,Sem.run_bind,Sem.run_pure,Result.andThen_ok,List.map_toArray,List.map_cons,List.map_nil,W8,W9,hrun];rfl
 rw [hex];refine ⟨_,⟨_,hnew⟩,?_⟩;rw [hd];exact h
theorem vn {o:Oper} {c:Call} {t e:TypeId} {s x:Operand} {d m size bytes:Nat} {z:Value} {cells:List AV} (id':Nat) (ho:o.op=.call c) (hc:c={ callee:=.builtin .append,args:= #[s,x],argTypes:= #[t,t] }) (hd:o.dst=some d)
  (hN:(bh E.N s&&bh E.N x&&Nat.blt d E.N)=true) (ht:P.underlying t=some (.slice e)) (hinfo:(P.info? e).map (fun i=>(i.zero,i.size,i.bytes))=some (some z,size,bytes)) (hzs:z.cells.size=size) (hsz:0<size)
  (hs0:aU st.env s=.v (.slice none 0 0)) (hx0:aU st.env x=.ro m cells) (hm:cells.length=m*size)
  (hb:m*bytes≤140737488355328) (hb0:m≤140737488355328) (hf:st.ob id'=.free) (h:K ⟨upd st.env d (.sl id' 0 m),ah st.ob id' (.live ⟨cells,e,size⟩)⟩):bY P E o st K:=by
 subst hc;simp only [Bool.and_eq_true] at hN;rintro a w q ⟨C,hs⟩;obtain ⟨i0,hi,hzz⟩:=Option.map_eq_some_iff.1 hinfo;simp only [Prod.mk.injEq] at hzz;obtain ⟨hz0,hz1,hz2⟩:=hzz;have hrs:=hs.ev s hN.1.1;rw [hs0] at hrs;have Fi:=hrs.fy;have hrx:=hs.ev x hN.1.2;rw [hx0] at hrx;generalize eu:a.eval x=ux at hrx;obtain ⟨A,cap,rfl,sI,news,hnl,hnc,hn1,hnr⟩:=Aj hrx;have hdom:¬C.dom id':=fun h=>hs.obj.dom id' h hf;have hown:w.ownsRow 0 e size (.slice none 0 0) 0 []:=⟨by simp,.inl ⟨rfl,rfl⟩⟩
 have hrun:∃v' w',(Builtin.append_ #[t,t] o.type #[.slice none 0 0,.slice A m cap]).run P w=.ok v' w'∧w'.ownsRow 0 e size v' (0+m) ([]++news)∧w.grownBy w' none∧(v'.ownBlock=none∨v'.ownBlock=some w.heap.size):=by
  cases A with
  |none=>
   obtain ⟨rfl,rfl⟩:=sI rfl;have hn0:news=[]:=List.eq_nil_of_length_eq_zero (by rw [hnl,hm];simp);subst hn0;exact ⟨_,w,FC w 0 t o.type e i0 size ht hi _ 0 [] hown 0,by simpa using hown,⟨rfl,rfl,rfl,Nat.le_refl _,fun _ _ _=>rfl⟩,.inl rfl⟩
  |some ad=>
   obtain ⟨v',w',h1,h2,h3,_,h5⟩:=run_append_own_at (P:=P) w 0 t o.type e i0 z size bytes ht hi hz0 hz1 hz2 hzs hsz _ 0 [] hown ad m cap news (by rw [hnl,hm]) (hnc ad rfl) hn1 (by unfold maxLen;omega) (by rw [Nat.zero_add];exact hb) (Nat.zero_le _);exact ⟨v',w',h1,h2,h3,h5⟩
 obtain ⟨v',w',hr,hown',hg,hat⟩:=hrun;rw [Nat.zero_add,List.nil_append] at hown'
 obtain ⟨nb,sz',hnb,hR,t7⟩:∃(nb:Option Nat) (sz':Nat),v'.ownBlock=nb∧R w' (C.add id' nb sz' size) (.sl id' 0 m) v'∧
   (∀g,nb=some g→∃cur:Array Value,w'.heap[g]? =some (.cells cur e (0,0))∧cur.size=sz'∧cur.toList.take (m*size)=news∧m*size≤cur.size):=by
  rcases hown'.2 with ⟨rfl,h0⟩|⟨g,cap',cur,rfl,_,hh,h1,h2,h3,h4⟩
  ·refine ⟨none,0,rfl,?_,fun g hg=>by cases hg⟩;rw [h0];exact .slnil id' (.inl rfl) (by simp [Ctx.add])
  ·refine ⟨some g,cur.size,rfl,.sl id' 0 m cap' g (.inl rfl) (by simp [Ctx.add]) h1 h2 (by simp [Ctx.add,h3]),fun g' hg'=>?_⟩
   cases hg'
   exact ⟨cur,hh,rfl,h4,by rw [h3];exact Nat.mul_le_mul_right _ h1⟩
 have qp:∀g,nb=some g→w.heap.size=g:=fun g hg'=>by
  rw [hg'] at hnb;rcases hat with h1|h1
  ·rw [hnb] at h1;cases h1
  ·rw [hnb] at h1;cases h1;rfl
 have hnn:nb=none→m=0:=fun h0=>by
  rcases hown'.2 with ⟨_,h1⟩|⟨g,cap',cur,rfl,_⟩
  ·exact h1
  ·simp [Value.ownBlock] at hnb;rw [h0] at hnb;cases hnb
 have hheap:∀b,b<w.heap.size→¬C.own b→w'.heap[b]? =w.heap[b]? :=fun b hb' ho=>hg.block b hb' (fun e=>by cases e);have hext:Ext w C w' (C.add id' nb sz' size):=Ext.add hdom (fun g hg'=>.inl (Nat.le_of_eq (qp g hg'))) hheap
 have hlive:∀i o',ah st.ob id' (.live ⟨cells,e,size⟩) i=.live o'→(i=id'∧o'=⟨cells,e,size⟩)∨(i≠id'∧st.ob i=.live o'):=fun i o' h=>by
  by_cases he:i=id'
  ·subst he;rw [ec] at h;cases h;exact .inl ⟨rfl,rfl⟩
  ·rw [dJ _ _ he] at h;exact .inr ⟨he,h⟩
 have hrel:∀(j:Nat) (av:AV),cells[j]? =some av→∃u:Value,news[j]? =some u∧u.oneCell'=true∧R w C av u:=fun j av hj=>by
  obtain ⟨y,hy,hr⟩:=hnr _ av hj;exact ⟨y,hy,hn1 y (List.mem_of_getElem? hy),hr⟩
 have hfin:=hs.put hext (ah st.ob id' (.live ⟨cells,e,size⟩)) ⟨fun i o' h=>by
   rcases hlive i o' h with ⟨rfl,rfl⟩|⟨h1,h3⟩
   ·refine ⟨.inl rfl,by simp [Ctx.add],fun hb0=>?_⟩;simp only [Ctx.add,if_true] at hb0;exact List.eq_nil_of_length_eq_zero (by rw [hm,hnn hb0];simp)
   ·obtain ⟨k1,k2,k3⟩:=hs.obj.nil i o' h3;simp [Ctx.add,h1,k1,k2];exact k3,fun i o' b h hb'=>by
   rcases hlive i o' h with ⟨rfl,rfl⟩|⟨h1,h3⟩
   ·simp only [Ctx.add,if_true] at hb';obtain ⟨cur,k1,k2,k3,k4⟩:=t7 b hb';refine ⟨.inl hb'.symm,cur,k1,by simp [Ctx.add,k2],by simp only [hm];exact k4,fun j av hj=>?_⟩;obtain ⟨u,hu,k5,k6⟩:=hrel j av hj;refine ⟨u,?_,k5,k6.ext hext⟩;rw [←k3,List.getElem?_take] at hu
    split at hu
    ·simpa using hu
    ·cases hu
   ·simp only [Ctx.add,h1,if_false] at hb';obtain ⟨k1,t6,k2,k3,k4,k5⟩:=hs.obj.live i o' b h3 hb';refine ⟨.inr k1,t6,(hg.block b (hs.obj.bnd b k1) (fun e=>by cases e)).trans k2,by simp [Ctx.add,h1,k3],k4,fun j av hj=>?_⟩;obtain ⟨u,hu,k6,hr⟩:=k5 j av hj;exact ⟨u,hu,k6,hr.ext hext⟩,fun i i' o1 o2 b h1 h2 h3 h4=>by
   have other:∀i o1,st.ob i=.live o1→C.blk i=some b→nb=some b→False:=fun i o1 k1 k3 k4=>by
    have k5:=qp b k4;have:=hs.obj.bnd b (hs.obj.live i o1 b k1 k3).1;omega
   rcases hlive i o1 h1 with ⟨rfl,rfl⟩|⟨k1,k3⟩<;>rcases hlive i' o2 h2 with ⟨rfl,rfl⟩|⟨l1,l3⟩
   ·rfl
   ·simp only [Ctx.add,if_true] at h3;simp only [Ctx.add,l1,if_false] at h4;exact (other i' o2 l3 h4 h3).elim
   ·simp only [Ctx.add,if_true] at h4;simp only [Ctx.add,k1,if_false] at h3;exact (other i o1 k3 h3 h4).elim
   ·simp only [Ctx.add,k1,if_false] at h3;simp only [Ctx.add,l1,if_false] at h4;exact hs.obj.inj i i' o1 o2 b k3 l3 h3 h4,fun i hi=>by
   by_cases he:i=id'
   ·subst he;rw [ec];intro h;cases h
   ·rw [dJ _ _ he];rcases hi with hi|hi
    ·exact absurd hi he
    ·exact hs.obj.dom i hi,fun b hb'=>by
   rcases hb' with hb'|hb'
   ·obtain ⟨cur,k1,_⟩:=t7 b hb'.symm;exact (Array.getElem?_eq_some_iff.1 k1).1
   ·have:=hs.obj.bnd b hb';have:=hg.size;omega⟩
  ⟨hg.os.trans hs.fr.os,hg.tape.trans hs.fr.tape,hg.output.trans hs.fr.output,Nat.le_trans hs.fr.size hg.size,fun b hb' hG=>by
   have hsz0:=hs.fr.size;exact (hg.block b (by omega) (fun e=>by cases e)).trans (hs.fr.block b hb' hG)⟩ (fun i o' b h hb'=>by
   rcases hlive i o' h with ⟨rfl,rfl⟩|⟨h1,h3⟩
   ·simp only [Ctx.add,if_true] at hb';have:=qp b hb';have:=hs.fr.size;exact .inl (by omega)
   ·simp only [Ctx.add,h1,if_false] at hb';exact hs.fresh i o' b h3 hb') (fun b hb'=>.inr (hs.keep b hb')) (fun b hb' ho=>by
   rcases ho with ho|ho
   ·have:=qp b ho.symm;have:=hs.fr.size;omega
   ·exact hs.fO b hb' ho) o.dst (fun d' hd'=>by rw [hd] at hd';cases hd';exact bX hN.2) (.sl id' 0 m) v' (fun _=>hR)
 have hrun':(execOp a.eval o).run P w=.ok (.value v') w':=by
  simp only [execOp,ho,resolve,invoke,builtin,Sem.run_bind,Sem.run_pure,Result.andThen_ok,List.map_toArray,List.map_cons,List.map_nil,Fi,eu,hr]
 unfold Oper.wp;rw [hrun'];refine ⟨_,⟨_,hfin⟩,?_⟩;rw [hd];exact h
end
end Go.Lo
set_option linter.unusedVariables false
set_option linter.unusedSimpArgs false
namespace Go.Lo
section
variable {α:Type} (f:α→Bool) (d:α)
def stepG (s:List α×Nat) (n:α):List α×Nat:=if f n=true then s else (s.1.set s.2 n,s.2+1)
def bM (l:List α) (j:Nat):List α×Nat:=(l.take j).foldl (stepG f) (l,0)
def cT (l:List α):List α:=l.filter (fun x=> !f x)
theorem rj {l:List α} {j:Nat} (h:j<l.length):bM f l (j+1)=stepG f (bM f l j) (l.getD j d):=by
 unfold bM;rw [iA d h,List.foldl_append];rfl
theorem Ge {l:List α} {k:Nat} (h:k<l.length):cT f (l.take (k+1))=cT f (l.take k)++(if f (l.getD k d)=true then [] else [l.getD k d]):=by
 rw [iA d h];simp only [cT,List.filter_append,List.filter_cons,List.filter_nil]
 cases f (l.getD k d)<;>simp
theorem QJ {l:List α} {k:Nat} (h:k<l.length) (hc:f (l.getD k d)=false):cT f (l.take k)++[l.getD k d]=cT f (l.take (k+1)):=by rw [Ge f d h,if_neg (by rw [hc];simp)]
theorem Pn {l:List α} {k:Nat} (h:k<l.length) (hc:f (l.getD k d)=true):cT f (l.take k)=cT f (l.take (k+1)):=by rw [Ge f d h,if_pos hc,List.append_nil]
theorem z_ (l:List α):∀(j:Nat),j≤l.length→(bM f l j).1.length=l.length∧(bM f l j).2≤j∧(∀i,j≤i→(bM f l j).1[i]? =l[i]?)∧(bM f l j).1.take (bM f l j).2=cT f (l.take j)∧(bM f l j).2=(cT f (l.take j)).length:=by
 intro j
 induction j with
 |zero=>intro _;exact ⟨by simp [bM],by simp [bM],fun i _=>by simp [bM],by simp [bM,cT],by simp [bM,cT]⟩
 |succ j ih=>
  intro hj;obtain ⟨h1,h2,h3,h4,h5⟩:=ih (by omega);rw [rj f (l.getD j (l[j]'(by omega))) (by omega)];generalize hx:l.getD j (l[j]'(by omega))=d;have hxd:l.getD j d=d:=by rw [←hx];simp [show j<l.length by omega]
  rw [hxd];unfold stepG;by_cases hd:f d=true
  ·have hw:=Pn f d (l:=l) (k:=j) (by omega) (by rw [hxd];exact hd);rw [if_pos hd];exact ⟨h1,by omega,fun i hi=>h3 i (by omega),by rw [h4,hw],by rw [h5,hw]⟩
  ·have hw:=QJ f d (l:=l) (k:=j) (by omega) (by rw [hxd];simpa using hd);rw [hxd] at hw;rw [if_neg hd];refine ⟨by simp [h1],by simp;omega,fun i hi=>?_,?_,?_⟩
   ·simp only;rw [List.getElem?_set_ne (by omega)];exact h3 i (by omega)
   ·rw [←hw, ←h4];simp only;rw [iA d (by simp;omega)];rw [FF];simp [show (bM f l j).2<(bM f l j).1.length by omega]
   ·rw [←hw];simp [h5]
theorem Az {l:List α} {j:Nat} (h:j<l.length):(bM f l j).1.getD j d=l.getD j d:=by
 have:=(z_ f l j (by omega)).2.2.1 j (Nat.le_refl _);simp only [List.getD_eq_getElem?_getD,this]
theorem GC {l:List α} {j:Nat} (h:j<l.length) (hc:f ((bM f l j).1.getD j d)=false):bM f l (j+1)=((bM f l j).1.set (bM f l j).2 ((bM f l j).1.getD j d),(bM f l j).2+1):=by
 rw [rj f d h,Az f d h] at*;unfold stepG;rw [if_neg (by rw [hc];simp)]
theorem GD {l:List α} {j:Nat} (h:j<l.length) (hc:f ((bM f l j).1.getD j d)=true):bM f l (j+1)=bM f l j:=by
 rw [Az f d h] at hc;rw [rj f d h];unfold stepG;rw [if_pos hc]
include d in
theorem OA {l:List α}:∀(i:Nat),i<l.length→(l.take i).any f=false→bM f l i=(l,i):=by
 intro i
 induction i with
 |zero=>intro _ _;simp [bM]
 |succ i ih=>
  intro hi h;rw [iA d (by omega),List.any_append,Bool.or_eq_false_iff] at h;rw [rj f d (by omega),ih (by omega) h.1];unfold stepG;rw [if_neg (by simpa using h.2)];simp only [Prod.mk.injEq,and_true];refine List.ext_getElem? (fun k=>?_);rw [List.getElem?_set]
  split
  ·rename_i e;subst e;simp [show i<l.length by omega]
  ·rfl
theorem zI {l:List α} {i:Nat} (hi:i<l.length) (h:(l.take i).any f=false) (hd:f (l.getD i d)=true):bM f l (i+1)=(l,i):=by
 rw [rj f d hi,OA f d i hi h];unfold stepG;rw [if_pos hd]
theorem HO {l:List α} {i:Nat} (hi:i<l.length) (h:(l.take i).any f=false) (hd:f (l.getD i d)=true):∀k,i+1+k≤l.length→(bM f l (i+1+k)).2<i+1+k:=by
 intro k
 induction k with
 |zero=>intro _;rw [Nat.add_zero,zI f d hi h hd];simp
 |succ k ih=>
  intro hk;have:=ih (by omega);rw [show i+1+(k+1)=(i+1+k)+1 by omega,rj f d (by omega)];unfold stepG
  split
  ·omega
  ·simp;omega
theorem F5 {l:List α} (h:l.any f=false):cT f l=l:=by
 unfold cT;rw [List.filter_eq_self];intro a ha;have:=List.any_eq_false.1 h a ha;simpa using this
include d in
theorem any_none {l:List α} (h:bL f l= -1):l.any f=false:=by
 cases ha:l.any f with
 |false=>rfl
 |true=>obtain ⟨k,h1,h2,h3⟩:=vB d l ha;rw [hJ d h1 h2 h3] at h;omega
end
theorem GG {α:Type} {e:α→List AV} {z:Array Value} {v:α} (hv:z.toList.map AV.v=e v) (hz:0<z.size):∀n:Nat,(Builtin.zeroCells z n).toList.map AV.v=enc e (List.replicate n v):=by
 have key:∀n,(Builtin.zeroCells z (n+1)).toList=(Builtin.zeroCells z n).toList++z.toList:=by
  intro n;simp only [Builtin.zeroCells,Array.toList_map,Array.toList_range];rw [show (n+1)*z.size=n*z.size+z.size from Nat.succ_mul _ _,List.range_add,List.map_append,List.map_map]
  congr 1
  apply List.ext_getElem
  ·simp
  ·intro i h1 h2;have hi:i<z.size:=by simpa using h2
   simp only [List.getElem_map,List.getElem_range,Function.comp,Nat.mul_add_mod_self_right,Nat.mod_eq_of_lt hi];simp [hi]
 intro n
 induction n with
 |zero=>simp [Builtin.zeroCells,enc]
 |succ n ih=>rw [key n,List.map_append,ih,List.replicate_succ',oB,hv]
theorem F6 {α:Type} {e:α→List AV} {z:Array Value} {v:α} {s:Nat} (hf:∀x,(e x).length=s) (hz:∀n:Nat,(Builtin.zeroCells z n).toList.map AV.v=enc e (List.replicate n v)) {l:List α} {i n:Nat} (h:i+n=l.length):spl (enc e l) (0+i*s) ((Builtin.zeroCells z n).toList.map AV.v)=enc e (l.take i++List.replicate n v):=by
 have hl:(enc e (List.replicate n v)).length=n*s:=by rw [fI (f:=e) (s:=s) hf];simp
 rw [hz];unfold spl;rw [hl,Nat.zero_add,s3 (f:=e) (s:=s) hf,me,List.drop_of_length_le (by rw [fI (f:=e) (s:=s) hf, ←Nat.add_mul];exact Nat.mul_le_mul_right _ (by omega)),List.append_nil]
theorem GF {α:Type} {e:α→List AV} {s i n:Nat} {l:List α} (hf:∀x,(e x).length=s) (h:i+n=l.length):0+i*s+n*s≤(enc e l).length:=by
 rw [fI (f:=e) (s:=s) hf,Nat.zero_add, ←Nat.add_mul];exact Nat.mul_le_mul_right _ (by omega)
theorem Qq {α:Type} {f:α→Bool} (d:α) {l:List α} {k:Nat} (h:k<l.length) (h2:f (l.getD k d)=true):l.any f=true:=List.any_eq_true.2 ⟨_,c8 d h,h2⟩
theorem RV {α:Type} {f:α→Bool} {l:List α} {k:Nat} (hk:l.length≤k) (h:(l.take k).any f=false):l.any f=false:=by rw [List.take_of_length_le hk] at h;exact h
theorem O0 (l:List Int) (v:Int):decide (bL (fun x=>decide (v=x)) l≥0)=decide (v∈l):=by
 rw [nB 0];by_cases h:v∈l
 ·rw [decide_eq_true h];exact List.any_eq_true.2 ⟨v,h,decide_eq_true rfl⟩
 ·rw [decide_eq_false h]
  cases ha:l.any (fun x=>decide (v=x)) with
  |false=>rfl
  |true=>obtain ⟨x,h1,h2⟩:=List.any_eq_true.1 ha;exact absurd (by rw [of_decide_eq_true h2];exact h1) h
def eZ (secs:List ax) (s:Int):Bool:=decide (s<0)||decide (s≥(secs.length:Int))
def gx (secs:List ax) (s:Int):ax:=if eZ secs s then dS else secs.getD s.toNat dS
theorem Rc {secs:List ax} {s:Int} (h:eZ secs s=true):gx secs s=dS:=by unfold gx;rw [if_pos h]
theorem vH {secs:List ax} {s:Int} (h:eZ secs s=false):gx secs s=secs.getD s.toNat dS:=by unfold gx;rw [if_neg (by simp [h])]
theorem zA {secs:List ax} {s:Int} (h:eZ secs s=false):0≤s∧s<(secs.length:Int):=by
 simp only [eZ,Bool.or_eq_false_iff,decide_eq_false_iff_not] at h;omega
theorem zR (secs:List ax) (k:Nat):eZ secs (k:Int)= !decide (k<secs.length):=by
 unfold eZ;rw [decide_eq_false (show ¬((k:Int)<0) by omega),Bool.false_or, ←decide_not];exact decide_eq_decide.2 (by omega)
theorem z9 {secs:List ax} {k:Nat} (h:k<secs.length):gx secs (k:Int)=secs.getD k dS:=by
 rw [vH (by rw [zR];simp [h])];rfl
theorem SK {secs:List ax} {s e:Int} (h:eZ secs s=false) (he:e=0):aF secs s e=(gx secs s).a∧eD secs s e=false:=by
 have hb:=zA h
 have hn:eD secs s e=false:=by
  unfold eD;subst he;simp;omega
 exact ⟨by rw [HJ hn he,vH h],hn⟩
theorem SL {secs:List ax} {s e:Int} (h:eZ secs s=false) (he:e=1):aF secs s e=(gx secs s).b∧eD secs s e=false:=by
 have hb:=zA h
 have hn:eD secs s e=false:=by
  unfold eD;subst he;simp;omega
 exact ⟨by rw [HK hn (by omega),vH h],hn⟩
theorem Re {secs:List ax} {s e:Int} (h:eZ secs s=true∨(¬e=0∧¬e=1)):aF secs s e=0∧eD secs s e=true:=by
 have hn:eD secs s e=true:=by
  rcases h with h|h
  ·simp only [eZ,Bool.or_eq_true,decide_eq_true_eq] at h;simp only [eD,Bool.or_eq_true,decide_eq_true_eq];omega
  ·simp only [eD,Bool.or_eq_true,decide_eq_true_eq];omega
 exact ⟨G6 hn,hn⟩
def iO (secs:List ax) (n:Int) (k j:Nat):List En:=ek secs n k++(if 0<j∧(secs.getD k dS).a=n then [⟨(k:Int),0⟩] else [])++(if 1<j∧(secs.getD k dS).b=n then [⟨(k:Int),1⟩] else [])
def m6 (secs:List ax) (k j:Nat):Int:=if j=0 then (secs.getD k dS).a else (secs.getD k dS).b
theorem zH (secs:List ax) (n:Int) (k:Nat):iO secs n k 0=ek secs n k:=by
 unfold iO;rw [if_neg (by omega),if_neg (by omega),List.append_nil,List.append_nil]
theorem OZ (secs:List ax) (n:Int) (k:Nat):iO secs n k 2=ek secs n (k+1):=by
 unfold iO;rw [pB];simp only [show (0:Nat)<2 by decide,show (1:Nat)<2 by decide,true_and]
theorem P5 {secs:List ax} {n:Int} {k j:Nat} (hj:j<2) (h:m6 secs k j=n):iO secs n k (j+1)=iO secs n k j++[⟨(k:Int),(j:Int)⟩]:=by
 have:j=0∨j=1:=by omega
 rcases this with rfl|rfl
 ·unfold m6 at h;rw [if_pos rfl] at h;rw [zH];unfold iO;rw [if_pos ⟨by omega,h⟩,if_neg (by omega),List.append_nil];rfl
 ·unfold m6 at h;rw [if_neg (by omega)] at h;have h':(secs[k]?.getD dS).b=n:=by rw [←List.getD_eq_getElem?_getD];exact h
  unfold iO;simp [h']
theorem OY {secs:List ax} {n:Int} {k j:Nat} (hj:j<2) (h:¬m6 secs k j=n):iO secs n k (j+1)=iO secs n k j:=by
 have:j=0∨j=1:=by omega
 rcases this with rfl|rfl
 ·unfold m6 at h;rw [if_pos rfl] at h;rw [zH];unfold iO;rw [if_neg (fun e=>h e.2),if_neg (by omega),List.append_nil,List.append_nil]
 ·unfold m6 at h;rw [if_neg (by omega)] at h;have h':¬(secs[k]?.getD dS).b=n:=by rw [←List.getD_eq_getElem?_getD];exact h
  unfold iO;simp [h']
theorem OW (secs:List ax) (n:Int) (k j:Nat):(iO secs n k j).length≤2*k+2:=by
 have:=vu secs n k;unfold iO;simp only [List.length_append]
 split<;>split<;>simp<;>omega
theorem Rf {secs:List ax} {k j:Nat} (hk:k<secs.length) (hj:j<2):tJ false [.v (.int .i64 (gx secs (k:Int)).a),.v (.int .i64 (gx secs (k:Int)).b)] ((j:Int).toNat*1) 1=some (.v (.int .i64 (m6 secs k j))):=by
 have:j=0∨j=1:=by omega
 rcases this with rfl|rfl
 ·rw [z9 hk];rfl
 ·rw [z9 hk];rfl
theorem zB (secs:List ax) (n s e:Int):lH secs n s e=cT (fun x:En=>decide (x.sec=s∧x.en=e)) (cM secs n):=rfl
theorem z2 {secs:List ax} {n:Int} {x:En}:∀{k:Nat},x∈ek secs n k→∃i,i<k∧x.sec=(i:Int)
 |0,h=>by cases h
 |k+1,h=>by
  rw [pB] at h;rcases List.mem_append.1 h with h|h
  ·rcases List.mem_append.1 h with h|h
   ·obtain ⟨i,h1,h2⟩:=z2 h;exact ⟨i,by omega,h2⟩
   ·split at h
    ·simp at h;subst h;exact ⟨k,by omega,rfl⟩
    ·cases h
  ·split at h
   ·simp at h;subst h;exact ⟨k,by omega,rfl⟩
   ·cases h
theorem OB {secs:List ax} {pts:List aH} {s e:Int} {x:En} (h:x∈bo secs pts s e):0≤x.sec∧x.sec<(secs.length:Int):=by
 have h1:∀{a b:Int},x∈dU secs a b→0≤x.sec∧x.sec<(secs.length:Int):=fun hx=>by
  obtain ⟨i,h2,h3⟩:=z2 (Gf hx);omega
 unfold bo at h
 repeat' split at h
 ·cases h
 ·rcases List.mem_append.1 h with h|h
  ·exact h1 h
  ·exact h1 h
 ·exact h1 h
 ·cases h
 ·obtain ⟨i,h2,h3⟩:=z2 (List.mem_filter.1 h).1;omega
 ·cases h
theorem VO {a:Int} (h: -9223372036854775808≤a∧a≤9223372036854775807):hY .i64 .sub a 0=.int .i64 a:=by
 rw [kM (by omega),Int.sub_zero]
def ZR (x:List En):List AV:=[.ro x.length (enc bH x)]
instance (x:List En):cU (ZR x):=by unfold ZR;infer_instance
def gJ {α:Type} (ls:List (List α)) (k:Nat):List α:=(ls.take k).flatten
theorem zS {α:Type} {ls:List (List α)} {k:Nat} {d:List α} (h:k<ls.length):gJ ls (k+1)=gJ ls k++ls.getD k d:=by
 unfold gJ;rw [iA d h,List.flatten_append,List.flatten_singleton]
theorem Hb {α:Type} {ls:List (List α)} {m:Nat} (hx:∀x,x∈ls→x.length≤m) (k:Nat):(gJ ls k).length≤k*m:=by
 induction k with
 |zero=>simp [gJ]
 |succ k ih=>
  rcases Nat.lt_or_ge k ls.length with h|h
  ·rw [zS (d:=[]) h,List.length_append,Nat.succ_mul];have:=hx _ (c8 [] h);omega
  ·have:gJ ls (k+1)=gJ ls k:=by unfold gJ;rw [List.take_of_length_le h,List.take_of_length_le (by omega)]
   rw [this,Nat.succ_mul];omega
def iQ (l out:List Int) (b:Int) (i:Nat):Bool:=(decide (out.length=0)||decide (l.getD i 0>out.getD (out.length-1) 0))&&(decide (b<0)||decide (l.getD i 0<l.getD b.toNat 0))
def cQ (l out:List Int):Nat→Int
 |0=> -1
 |i+1=>if iQ l out (cQ l out i) i then (i:Int) else cQ l out i
theorem oC {l out:List Int} {i:Nat} (h:iQ l out (cQ l out i) i=true):cQ l out (i+1)=(i:Int):=by unfold cQ;rw [if_pos h]
theorem oy {l out:List Int} {i:Nat} (h:iQ l out (cQ l out i) i=false):cQ l out (i+1)=cQ l out i:=by
 conv=>lhs;unfold cQ
 rw [if_neg (by simp [h])]
theorem sP (l out:List Int) (i:Nat):cQ l out i= -1∨(0≤cQ l out i∧cQ l out i<(i:Int)):=by
 induction i with
 |zero=>exact .inl rfl
 |succ i ih=>
  unfold cQ
  split
  ·right;omega
  ·omega
def rO (out:List Int) (x:Int):Prop:=out.length=0∨x>out.getD (out.length-1) 0
theorem zK (l out:List Int) (i:Nat):(cQ l out i= -1→∀j,j<i→¬rO out (l.getD j 0))∧(∀b:Nat,cQ l out i=(b:Int)→rO out (l.getD b 0)∧∀j,j<i→rO out (l.getD j 0)→l.getD b 0≤l.getD j 0):=by
 induction i with
 |zero=>exact ⟨fun _ j h=>by omega,fun b h=>by simp [cQ] at h⟩
 |succ i ih=>
  have hr:=sP l out i
  cases hc:iQ l out (cQ l out i) i with
  |true=>
   rw [oC hc];simp only [iQ,Bool.and_eq_true,Bool.or_eq_true,decide_eq_true_eq] at hc;refine ⟨fun h=>by omega,fun b h=>?_⟩;have hb:b=i:=by omega
   subst hb;refine ⟨hc.1,fun j hj ho=>?_⟩;rcases Nat.lt_or_ge j b with hlt|hge
   ·rcases hr with hr|hr
    ·exact absurd ho (ih.1 hr j hlt)
    ·have h2:=ih.2 (cQ l out b).toNat (by omega);have h3:=h2.2 j hlt ho;rcases hc.2 with h4|h4<;>omega
   ·have:j=b:=by omega
    subst this;omega
  |false=>
   rw [oy hc];simp only [iQ,Bool.and_eq_false_iff,Bool.or_eq_false_iff,decide_eq_false_iff_not] at hc;refine ⟨fun h j hj=>?_,fun b h=>?_⟩
   ·rcases Nat.lt_or_ge j i with hlt|hge
    ·exact ih.1 h j hlt
    ·have:j=i:=by omega
     subst this;intro ho;rcases hc with hc|hc
     ·rcases ho with ho|ho
      ·exact hc.1 ho
      ·exact hc.2 ho
     ·omega
   ·obtain ⟨h1,h2⟩:=ih.2 b h;refine ⟨h1,fun j hj ho=>?_⟩;rcases Nat.lt_or_ge j i with hlt|hge
    ·exact h2 j hlt ho
    ·have:j=i:=by omega
     subst this;rcases hc with hc|hc
     ·rcases ho with ho|ho
      ·exact absurd ho hc.1
      ·exact absurd ho hc.2
     ·rw [h,Int.toNat_natCast] at hc;omega
def a8 (l:List Int):Nat→List Int
 |0=>[]
 |k+1=>if cQ l (a8 l k) l.length<0 then a8 l k else a8 l k++[l.getD (cQ l (a8 l k) l.length).toNat 0]
def kd (l:List Int):List Int:=a8 l l.length
theorem Ab {l:List Int} {k:Nat} (h:¬cQ l (a8 l k) l.length<0):a8 l (k+1)=a8 l k++[l.getD (cQ l (a8 l k) l.length).toNat 0]:=by
 conv=>lhs;unfold a8
 rw [if_neg h]
theorem vq {l:List Int} {k:Nat} (h:cQ l (a8 l k) l.length<0) (j:Nat):a8 l (k+j)=a8 l k:=by
 induction j with
 |zero=>rfl
 |succ j ih=>
  rw [←Nat.add_assoc]
  conv=>lhs;unfold a8
  rw [ih,if_pos h]
structure tp (l out:List Int):Prop where
 sub:∀x,x∈out→x∈l
 Fh:out.Pairwise (· < ·)
 all:∀x,x∈l→¬rO out x→x∈out
theorem Se {out:List Int} (h:out.Pairwise (· < ·)) (h0:0<out.length) {x:Int} (hx:x∈out):x≤out.getD (out.length-1) 0:=by
 obtain ⟨i,hi,rfl⟩:=List.getElem_of_mem hx;rw [List.getD_eq_getElem?_getD,List.getElem?_eq_getElem (by omega)];show out[i]≤out[out.length-1];rcases Nat.lt_or_ge i (out.length-1) with hlt|hge
 ·exact Int.le_of_lt (List.pairwise_iff_getElem.1 h i (out.length-1) hi (by omega) hlt)
 ·have:i=out.length-1:=by omega
  subst this;exact Int.le_refl _
theorem pX (l:List Int):∀k,tp l (a8 l k)
 |0=>⟨fun x h=>(by cases h),List.Pairwise.nil,fun x _ h=>absurd (show rO [] x from Or.inl rfl) h⟩
 |k+1=>by
  have ih:=pX l k;by_cases hb:cQ l (a8 l k) l.length<0
  ·rw [vq hb 1];exact ih
  ·rw [Ab hb];have hr:=sP l (a8 l k) l.length;obtain ⟨b,hbn⟩:∃b:Nat,cQ l (a8 l k) l.length=(b:Int):=⟨(cQ l (a8 l k) l.length).toNat,by omega⟩
   have hs:=(zK l (a8 l k) l.length).2 b hbn;rw [hbn,Int.toNat_natCast];have hbl:b<l.length:=by omega
   have hlast:(a8 l k++[l.getD b 0]).getD ((a8 l k++[l.getD b 0]).length-1) 0=l.getD b 0:=by
    simp
   refine ⟨fun x hx=>?_,?_,fun x hx ho=>?_⟩
   ·rcases List.mem_append.1 hx with hx|hx
    ·exact ih.sub x hx
    ·rw [List.mem_singleton.1 hx];exact c8 0 hbl
   ·refine List.pairwise_append.2 ⟨ih.Fh,List.pairwise_singleton _ _,fun x hx y hy=>?_⟩;rw [List.mem_singleton.1 hy];rcases hs.1 with h1|h1
    ·rw [List.length_eq_zero_iff.1 h1] at hx;cases hx
    ·have:=Se ih.Fh (List.length_pos_of_mem hx) hx;omega
   ·have hle:¬x>l.getD b 0:=fun h=>ho (.inr (by rw [hlast];exact h));by_cases hov:rO (a8 l k) x
    ·obtain ⟨j,hj,rfl⟩:=List.getElem_of_mem hx;have hg:l.getD j 0=l[j]:=by simp [hj]
     have:=hs.2 j hj (by rw [hg];exact hov);rw [hg] at this;exact List.mem_append_right _ (List.mem_singleton.2 (by omega))
    ·exact List.mem_append_left _ (ih.all x hx hov)
theorem vD {α:Type} [DecidableEq α]:∀(a l:List α),a.Nodup→(∀x,x∈a→x∈l)→a.length≤l.length
 | [],l,_,_=>by simp
 |x::a,l,hn,hs=>by
  have hx:=hs x List.mem_cons_self;have:=vD a (l.erase x) (List.nodup_cons.1 hn).2 (fun y hy=>(List.mem_erase_of_ne (fun e=>(List.nodup_cons.1 hn).1 (by rw [←e];exact hy))).2 (hs y (List.mem_cons_of_mem _ hy)));rw [List.length_erase_of_mem hx] at this;have:=List.length_pos_of_mem hx;simp;omega
theorem tp.nodup {l out:List Int} (h:tp l out):out.Nodup:=h.Fh.imp (fun h e=>by omega)
theorem tp.len {l out:List Int} (h:tp l out):out.length≤l.length:=vD _ _ h.nodup h.sub
theorem zT {l:List Int} {k:Nat} (hk:(a8 l k).length=k) (hb:¬cQ l (a8 l k) l.length<0):(a8 l (k+1)).length=k+1∧k+1≤l.length:=by
 have h1:(a8 l (k+1)).length=k+1:=by rw [Ab hb,List.length_append,hk];rfl
 exact ⟨h1,by rw [←h1];exact (pX l (k+1)).len⟩
theorem O1 {l:List Int} {k:Nat} (hk:(a8 l k).length=k) (hb:cQ l (a8 l k) l.length<0):a8 l k=kd l:=by
 have:k≤l.length:=by rw [←hk];exact (pX l k).len
 unfold kd;rw [show l.length=k+(l.length-k) by omega,vq hb]
theorem Gg (l:List Int):∀k,(a8 l k).length=k∨cQ l (a8 l k) l.length<0
 |0=>.inl rfl
 |k+1=>by
  rcases Gg l k with h|h
  ·by_cases hb:cQ l (a8 l k) l.length<0
   ·right;rw [vq hb 1];exact hb
   ·left;exact (zT h hb).1
  ·right;rw [vq h 1];exact h
theorem Po {l:List Int} {x:Int} (h:x∈l):x∈kd l:=by
 have hok:=pX l l.length;show x∈a8 l l.length;refine hok.all x h fun ho=>?_;obtain ⟨j,hj,rfl⟩:=List.getElem_of_mem h;have hg:l.getD j 0=l[j]:=by simp [hj]
 rcases Gg l l.length with h1|h1
 ·
  by_cases hb:cQ l (a8 l l.length) l.length<0
  ·have hr:=sP l (a8 l l.length) l.length;exact (zK l (a8 l l.length) l.length).1 (by omega) j hj (by rw [hg];exact ho)
  ·have:=(zT h1 hb).2;omega
 ·have hr:=sP l (a8 l l.length) l.length;exact (zK l (a8 l l.length) l.length).1 (by omega) j hj (by rw [hg];exact ho)
theorem Pp (l:List Int):(kd l).length≤l.length:=(pX l l.length).len
theorem Pq {l:List Int} {x:Int} (h:x∈kd l):x∈l:=(pX l l.length).sub x h
theorem N0 {l:List Int} (h:l.Nodup):(kd l).length=l.length:=Nat.le_antisymm (Pp l) (vD _ _ h fun x hx=>Po hx)
theorem shorter {l:List Int} (h:¬l.Nodup):∃m:List Int,m.length<l.length∧∀x,x∈l→x∈m:=by
 induction l with
 |nil=>exact absurd List.nodup_nil h
 |cons a l ih=>
  by_cases ha:a∈l
  ·exact ⟨l,by simp,fun x hx=>(List.mem_cons.1 hx).elim (fun e=>e▸ha) id⟩
  ·obtain ⟨m,h1,h2⟩:=ih fun hn=>h (List.nodup_cons.2 ⟨ha,hn⟩);exact ⟨a::m,by simpa using h1,fun x hx=>(List.mem_cons.1 hx).elim (fun e=>by rw [e];exact List.mem_cons_self) (fun hx=>List.mem_cons_of_mem _ (h2 x hx))⟩
theorem GN (l:List Int):(kd l).length=l.length↔l.Nodup:=by
 refine ⟨fun h=>?_,N0⟩;apply Classical.byContradiction;intro hn;obtain ⟨m,h1,h2⟩:=shorter hn;have:=vD (kd l) m (pX l l.length).nodup fun x hx=>h2 x (Pq hx);omega
end Go.Lo
set_option linter.unusedVariables false
set_option linter.unusedSimpArgs false
namespace Go.Lo
structure WY where
 s:Int
 e:Int
 ns:List Need
section
variable (secs:List ax) (pts:List aH)
def dZ (s e p:Int):Int:=bL (fun x:En=>decide (x.sec=p)) (bo secs pts s e)
def JF (s e p:Int):Bool:=decide ((pts.getD (aX pts (aF secs s e)).toNat dP).right=(if (pts.getD (aX pts (aF secs s e)).toNat dP).stem=p then s else p))
def fP (s e p:Int):List Need:=if aX pts (aF secs s e)<0 then [] else [⟨aX pts (aF secs s e),JF secs pts s e p⟩]
def iH (p:Int) (w:WY):En:=(bo secs pts w.s w.e).getD (dZ secs pts w.s w.e p).toNat dE
def ze (p:Int) (w:WY):WY:=⟨p,1-(iH secs pts p w).en,w.ns++fP secs pts w.s w.e (iH secs pts p w).sec⟩
def az (path:List Int) (w:WY):Nat→WY
 |0=>w
 |k+1=>ze secs pts (path.getD k 0) (az path w k)
def js:List Int→WY→Option (List Need)
 | [],w=>some w.ns
 |p::l,w=>if dZ secs pts w.s w.e p<0 then none else js l (ze secs pts p w)
def jt (s e:Int) (path:List Int):Option (List Need):=js secs pts path ⟨s,e,[]⟩
def jb (s e:Int) (path:List Int):List Need:=(jt secs pts s e path).getD []
def g5 (s e:Int) (path:List Int):Bool:=(jt secs pts s e path).isSome
def kX (path:List Int):Option (List Need):=
 if path.length<2 then none else if ¬path.Nodup then none
 else if g5 secs pts (path.getD 0 0) 0 (path.drop 1) then jt secs pts (path.getD 0 0) 0 (path.drop 1) else jt secs pts (path.getD 0 0) 1 (path.drop 1)
def bz (path:List Int):List Need:=(kX secs pts path).getD []
def gC (path:List Int):Bool:=(kX secs pts path).isSome
end
section
variable {secs:List ax} {pts:List aH} {s e p:Int} {path:List Int}
theorem Av (h:aX pts (aF secs s e)<0):fP secs pts s e p=[]:=by unfold fP;rw [if_pos h]
theorem Ac (h:¬aX pts (aF secs s e)<0) {Nv:Int} (hl:Nv=if (pts.getD (aX pts (aF secs s e)).toNat dP).stem=p then s else p) {r:Bool} (hr:r=decide ((pts.getD (aX pts (aF secs s e)).toNat dP).right=Nv)):
  fP secs pts s e p=[⟨aX pts (aF secs s e),r⟩]:=by unfold fP JF;rw [if_neg h,hr,hl]
theorem Ad:(fP secs pts s e p).length≤1:=by unfold fP;split<;>simp
theorem Aw (w:WY) (hw:w.ns=[]):∀k,(az secs pts path w k).ns.length≤k
 |0=>by simp [az,hw]
 |k+1=>by
  have h1:=Aw w hw k;have h2:=Ad (secs:=secs) (pts:=pts) (s:=(az secs pts path w k).s) (e:=(az secs pts path w k).e) (p:=(iH secs pts (path.getD k 0) (az secs pts path w k)).sec);show ((az secs pts path w k).ns++_).length≤k+1;rw [List.length_append];omega
theorem drop_at {l:List Int} {k:Nat} (h:k<l.length):l.drop k=l.getD k 0::l.drop (k+1):=by
 rw [List.drop_eq_getElem_cons h];simp [h]
theorem td {w:WY} (h:¬dZ secs pts w.s w.e p<0):((iH secs pts p w).en=0∨(iH secs pts p w).en=1)∧(iH secs pts p w).sec=p∧(dZ secs pts w.s w.e p).toNat<(bo secs pts w.s w.e).length:=by
 obtain ⟨j,h1,h2,_,h4⟩:=pA dE (show ¬bL (fun x:En=>decide (x.sec=p)) (bo secs pts w.s w.e)= -1 by unfold dZ at h;omega);have hj:(dZ secs pts w.s w.e p).toNat=j:=by unfold dZ;rw [h1];rfl
 unfold iH;rw [hj];exact ⟨Gt (c8 dE h2),of_decide_eq_true h4,h2⟩
theorem s5 {R:Option (List Need)} {w:WY} {k:Nat} (hk:k<path.length) (h:js secs pts (path.drop k) w=R) (hi:¬dZ secs pts w.s w.e (path.getD k 0)<0):js secs pts (path.drop (k+1)) (ze secs pts (path.getD k 0) w)=R:=by
 rw [drop_at hk] at h;unfold js at h;rw [if_neg hi] at h;exact h
theorem Ax {R:Option (List Need)} {w:WY} {k:Nat} (hk:k<path.length) (h:js secs pts (path.drop k) w=R) (hi:dZ secs pts w.s w.e (path.getD k 0)<0):R=none:=by
 rw [drop_at hk] at h;unfold js at h;rw [if_pos hi] at h;exact h.symm
theorem Iz {R:Option (List Need)} {w:WY} {k:Nat} (hk:path.length≤k) (h:js secs pts (path.drop k) w=R):R=some w.ns:=by
 rw [List.drop_of_length_le hk] at h;exact h.symm
theorem oD (h:jt secs pts s e path=none):jb secs pts s e path=[]∧g5 secs pts s e path=false:=by unfold jb g5;rw [h];exact ⟨rfl,rfl⟩
theorem sY {l:List Need} (h:jt secs pts s e path=some l):jb secs pts s e path=l∧g5 secs pts s e path=true:=by unfold jb g5;rw [h];exact ⟨rfl,rfl⟩
theorem An (h:kX secs pts path=none):bz secs pts path=[]∧gC secs pts path=false:=by unfold bz gC;rw [h];exact ⟨rfl,rfl⟩
theorem vJ (h:path.length<2):bz secs pts path=[]∧gC secs pts path=false:=An (by unfold kX;rw [if_pos h])
theorem IA (h:¬path.Nodup):bz secs pts path=[]∧gC secs pts path=false:=by
 apply An;unfold kX
 split
 ·rfl
 ·rfl
theorem Jg {k:Nat} (h1:¬path.length<2) (h2:path.Nodup) (hk:k<2) (h:∀j,j<k→g5 secs pts (path.getD 0 0) (j:Int) (path.drop 1)=false) (hb:g5 secs pts (path.getD 0 0) (k:Int) (path.drop 1)=true):
  bz secs pts path=jb secs pts (path.getD 0 0) (k:Int) (path.drop 1)∧gC secs pts path=true:=by
 have hp:kX secs pts path=jt secs pts (path.getD 0 0) (k:Int) (path.drop 1):=by
  unfold kX;rw [if_neg h1,if_neg (fun h=>h h2)];rcases Nat.lt_or_ge 0 k with h0|h0
  ·obtain rfl:k=1:=by omega
   rw [if_neg (by have h9:=h 0 h0;intro h8;rw [show ((0:Nat):Int)=0 from rfl,h8] at h9;cases h9)];rfl
  ·obtain rfl:k=0:=by omega
   rw [if_pos (by exact hb)];rfl
 unfold bz gC;rw [hp];exact ⟨rfl,hb⟩
theorem IB {k:Nat} (h1:¬path.length<2) (h2:path.Nodup) (hk:2≤k) (h:∀j,j<k→g5 secs pts (path.getD 0 0) (j:Int) (path.drop 1)=false):bz secs pts path=[]∧gC secs pts path=false:=by
 have a:=h 0 (by omega);have b:=h 1 (by omega);apply An;unfold kX;rw [if_neg h1,if_neg (fun h=>h h2),if_neg (by intro h8;rw [show ((0:Nat):Int)=0 from rfl,h8] at a;cases a)]
 cases hq:jt secs pts (path.getD 0 0) 1 (path.drop 1) with
 |none=>rfl
 |some l=>have:=(sY hq).2;rw [show (1:Int)=((1:Nat):Int) from rfl,b] at this;cases this
theorem SP (h:(path.length:Int)<2∨¬((kd path).length:Int)=(path.length:Int)):bz secs pts path=[]∧gC secs pts path=false:=by
 rcases h with h|h
 ·exact vJ (by omega)
 ·exact IA (fun h2=>h (by rw [(GN path).2 h2]))
theorem Ri (h:2≤(path.length:Int)∧((kd path).length:Int)=(path.length:Int)):¬path.length<2∧path.Nodup:=⟨by omega,(GN path).1 (by have:=h.2;omega)⟩
theorem O2 {k:Nat} (hk:k<path.length) (h:(path.take k).Nodup) (hn:¬path.getD k 0∈path.take k):(path.take (k+1)).Nodup:=by
 rw [iA 0 hk];exact List.nodup_append.2 ⟨h,List.nodup_cons.2 ⟨by simp,List.nodup_nil⟩,fun a ha b hb e=>by rw [List.mem_singleton.1 hb] at e;rw [e] at ha;exact hn ha⟩
theorem P9 {k:Nat} (hk:k<path.length) (hn:path.getD k 0∈path.take k):¬path.Nodup:=fun h=>by
 have h2:(path.take (k+1)).Nodup:=h.sublist (List.take_sublist _ _);rw [iA 0 hk] at h2;exact (List.nodup_append.1 h2).2.2 _ hn _ (List.mem_singleton.2 rfl) rfl
theorem Ii:∀(l:List Int) (w:WY) (r:List Need),js secs pts l w=some r→r.length≤w.ns.length+l.length
 | [],w,r,h=>by cases h;simp
 |p::l,w,r,h=>by
  unfold js at h
  split at h
  ·cases h
  ·have h1:=Ii l _ r h;have h2:=Ad (secs:=secs) (pts:=pts) (s:=w.s) (e:=w.e) (p:=(iH secs pts p w).sec);simp only [ze,List.length_append,List.length_cons] at h1 ⊢;omega
theorem nF:(bz secs pts path).length≤path.length:=by
 unfold bz
 cases h:kX secs pts path with
 |none=>simp
 |some r=>
  unfold kX at h
  have key:∀e,jt secs pts (path.getD 0 0) e (path.drop 1)=some r→r.length≤path.length:=fun e hq=>by
   have:=Ii _ _ _ hq;simp only [List.length_drop,List.length_nil] at this;omega
  split at h
  ·cases h
  ·split at h
   ·cases h
   ·split at h
    ·exact key _ h
    ·exact key _ h
end
end Go.Lo
