/- Part of the logic of values: what the law reaches. -/
import Derived.Test.YtdeajfldegcdaaaGreatPFnApm3
import Derived.Laws.Tables
import Derived.IntWalk
set_option linter.unusedVariables false
set_option linter.unusedSimpArgs false
namespace Go.Lo
section
variable {P:Program} {E:VC} {st:St} {K:St→Prop}
def aa9 (place:Nat→Option (Nat×Nat)) (cells:List AV):List (Nat×AV)→Option (List AV)
 | []=>some cells
 |(i,av)::rest=>
  match place i,XN av with
  |some (off,size),some cs=>if cs.length=size∧off+size≤cells.length then aa9 place (spl cells off cs) rest else none
  |_,_=>none
theorem foldl_set (off:Nat):∀(vs:List Value) (s:Nat) (cs:Array Value) (j:Nat),off+s+vs.length≤cs.size→
  ((vs.zipIdx s).foldl (fun cs (x:Value×Nat)=>cs.setIfInBounds (off+x.2) x.1) cs).size=cs.size∧
  ((vs.zipIdx s).foldl (fun cs (x:Value×Nat)=>cs.setIfInBounds (off+x.2) x.1) cs)[j]? =if off+s≤j∧j<off+s+vs.length then vs[j-(off+s)]? else cs[j]?
 | [],s,cs,j,_=>by simp;omega
 |v::vs,s,cs,j,h=>by
  have ih:=foldl_set off vs (s+1) (cs.setIfInBounds (off+s) v) j (by simp at h ⊢;omega);simp only [List.zipIdx_cons,List.foldl_cons];refine ⟨by rw [ih.1];simp,?_⟩;rw [ih.2];simp only [List.length_cons] at h ⊢;by_cases hj:j=off+s
  ·subst hj;rw [if_neg (by omega),if_pos (by omega)];rw [Array.getElem?_setIfInBounds_self_of_lt (by omega)];simp
  ·by_cases h1:off+(s+1)≤j∧j<off+(s+1)+vs.length
   ·rw [if_pos h1,if_pos (by omega)];rw [show j-(off+s)=(j-(off+(s+1)))+1 by omega,List.getElem?_cons_succ]
   ·rw [if_neg h1,if_neg (by omega),Array.getElem?_setIfInBounds_ne (by omega)]
theorem IZ {cells cs:List AV} {off j:Nat} (h:off+cs.length≤cells.length):(spl cells off cs)[j]? =if off≤j∧j<off+cs.length then cs[j-off]? else cells[j]? :=by
 unfold spl;have h1:(cells.take off).length=off:=by simp;omega
 by_cases ha:j<off
 ·rw [List.getElem?_append_left (by simp;omega),List.getElem?_append_left (by omega),List.getElem?_take,if_pos ha,if_neg (by omega)]
 ·by_cases hb:j<off+cs.length
  ·rw [List.getElem?_append_left (by simp;omega),List.getElem?_append_right (by omega),h1,if_pos (by omega)]
  ·rw [List.getElem?_append_right (by simp;omega),if_neg (by omega),List.getElem?_drop]
   congr 1
   simp;omega
theorem FX {cells cs:List AV} {off:Nat} (h:off+cs.length≤cells.length):(spl cells off cs).length=cells.length:=by
 unfold spl;simp;omega
theorem vw {w:World} {C:Ctx} {place:Nat→Option (Nat×Nat)}:∀(parts:List (Nat×AV)) (pv:List (Nat×Value)) (cells cells':List AV) (vals:Array Value),pv.length=parts.length→
  (∀(j i:Nat) (av:AV),parts[j]? =some (i,av)→∃u:Value,pv[j]? =some (i,u)∧R w C av u)→vals.size=cells.length→(∀j c,cells[j]? =some c→R w C c (vals.getD j undef))→aa9 place cells parts=some cells'→
  ∃vals',Instr.fill place vals pv=some vals'∧vals'.size=cells'.length∧∀j c,cells'[j]? =some c→R w C c (vals'.getD j undef)
 | [],[],cells,cells',vals,_,_,hs,hr,h=>by
  simp only [aa9,Option.some.injEq] at h;subst h;exact ⟨vals,rfl,hs,hr⟩
 |(i,av)::parts,(i',u)::pv,cells,cells',vals,hl,hp,hs,hr,h=>by
  obtain ⟨u',hu',hR⟩:=hp 0 i av rfl;simp only [List.getElem?_cons_zero,Option.some.injEq,Prod.mk.injEq] at hu';obtain ⟨rfl,rfl⟩:=hu';simp only [aa9] at h
  cases hpl:place i' with
  |none=>simp [hpl] at h
  |some os=>
   obtain ⟨off,size⟩:=os
   cases hcs:XN av with
   |none=>simp [hpl,hcs] at h
   |some cs=>
    simp only [hpl,hcs] at h
    split at h
    ·rename_i hc;obtain ⟨rfl,hle⟩:=hc;obtain ⟨hsz,hrel⟩:=aeM hR hcs;have hf:=fun j=>foldl_set off u.cells.toList 0 vals j (by simp [hsz,hs];omega)
     have Ot:u.cells.zipIdx.foldl (fun cs (x:Value×Nat)=>cs.setIfInBounds (off+x.2) x.1) vals=(u.cells.toList.zipIdx 0).foldl (fun cs (x:Value×Nat)=>cs.setIfInBounds (off+x.2) x.1) vals:=by
      rw [←Array.foldl_toList,Array.toList_zipIdx]
     obtain ⟨vals',h1,h2,h3⟩:=vw parts pv (spl cells off cs) cells' ((u.cells.toList.zipIdx 0).foldl (fun cs (x:Value×Nat)=>cs.setIfInBounds (off+x.2) x.1) vals) (by simpa using hl)
      (fun j i av hj=>hp (j+1) i av (by simpa using hj)) (by rw [(hf 0).1,hs,FX hle]) (fun j c hj=>by
       rw [IZ hle] at hj;rw [Array.getD_eq_getD_getElem?,(hf j).2];simp only [Nat.add_zero,Array.length_toList,hsz] at*;by_cases hin:off≤j∧j<off+cs.length
       ·rw [if_pos hin] at hj ⊢;have:=hrel (j-off) c hj;simpa using this
       ·rw [if_neg hin] at hj ⊢;have:=hr j c hj;simpa using this) h
     refine ⟨vals',?_,h2,h3⟩;simp only [Instr.fill,hpl];rw [if_neg (by simp [hsz,hs];omega)];rw [←h1]
     congr 1
    ·cases h
 | [],_::_,_,_,_,hl,_,_,_,_=>by simp at hl
 |_::_,[],_,_,_,hl,_,_,_,_=>by simp at hl
def WL (env:Nat→AV) (ps:List (Nat×Operand)):List (Nat×AV):=ps.map fun x=>(x.1,aO env x.2)
theorem SR.parts {C:Ctx} {a:Act} {w:World} (hs:SR E C st a w) (ps:List (Nat×Operand)) (hok:(ps.all fun p=>aT E.N p.2)=true):∀(j i:Nat) (av:AV),(WL st.env ps)[j]? =some (i,av)→∃u:Value,(ps.map fun (x:Nat×Operand)=>(x.1,a.eval x.2))[j]? =some (i,u)∧R w C av u:=by
 intro j i av hj;unfold WL at hj;rw [List.getElem?_map,Option.map_eq_some_iff] at hj;obtain ⟨⟨i',x⟩,hj,he⟩:=hj;simp only [Prod.mk.injEq] at he;obtain ⟨rfl,rfl⟩:=he;have hmem:=List.mem_of_getElem? hj;have:=List.all_eq_true.1 hok _ hmem;exact ⟨a.eval x,by rw [List.getElem?_map,hj];rfl,hs.ev x this⟩
def placesOf (P:Program) (t:TypeId):Option (Value×(Nat→Option (Nat×Nat))):=
 match P.info? t,P.underlying t with
 |some it,some (.array _ e)=>
  match it.zero,P.info? e with
  |some z,some ie=>some (z,fun i=>some (i*ie.size,ie.size))
  |_,_=>none
 |some it,some (.struct fields)=>
  match it.zero,fields.toList.mapM (fun f=>(P.info? f.type).map fun i=>(f.offset,i.size)) with
  |some z,some places=>some (z,(places.toArray[·]?))
  |_,_=>none
 |_,_=>none
theorem ajR {t:TypeId} {z:Value} {pl:Nat→Option (Nat×Nat)} (h:placesOf P t=some (z,pl)) (parts:List (Nat×Value)):P.built t parts=Instr.fill pl z.cells parts:=by
 unfold placesOf at h;unfold Program.built
 split at h<;>(try (simp at h;done))
 ·split at h
  ·simp only [Option.some.injEq,Prod.mk.injEq] at h;obtain ⟨rfl,rfl⟩:=h;simp [*]
  ·cases h
 ·split at h
  ·simp only [Option.some.injEq,Prod.mk.injEq] at h;obtain ⟨rfl,rfl⟩:=h;simp [*]
  ·cases h
theorem kE {o:Oper} {t:TypeId} {ps:List (Nat×Operand)} {d:Nat} {z:Value} {pl:Nat→Option (Nat×Nat)} {cells:List AV} (ho:o.op=.build t ps.toArray) (hd:o.dst=some d) (hN:((ps.all fun p=>aT E.N p.2)&&Nat.blt d E.N)=true)
  (hpl:placesOf P t=some (z,pl)) (hf:aa9 pl (z.cells.toList.map .v) (WL st.env ps)=some cells) (h:K ⟨upd st.env d (.agg cells),st.ob⟩):Vo P E o st K:=by
 simp only [Bool.and_eq_true] at hN;refine W4 (.agg cells) (fun d' hd'=>by rw [hd] at hd';cases hd';exact aS hN.2) (fun a w C hs=>?_) (by rw [hd];exact h)
 obtain ⟨vals',h1,h2,h3⟩:=vw (w:=w) (C:=C) (WL st.env ps) (ps.map fun (x:Nat×Operand)=>(x.1,a.eval x.2)) (z.cells.toList.map .v) cells z.cells (by simp [WL]) (hs.parts ps hN.1) (by simp) (fun j c hj=>by
  rw [List.getElem?_map,Option.map_eq_some_iff] at hj;obtain ⟨y,hy,rfl⟩:=hj
  have:z.cells.getD j undef=y:=by
   simp at hy;simp [hy]
  rw [this];exact .v y) hf
 refine ⟨.agg vals',?_,.agg cells vals' h2 h3⟩
 have hb:P.built t ((ps.toArray.map fun (i,x)=>(i,a.eval x)).toList)=some vals':=by
  rw [ajR hpl];simpa using h1
 simp only [execOp,ho,Sem.run_bind,run_build w t _ _ hb,Result.andThen_ok];rfl
def adG (n size:Nat) (z:Value) (ps:List (Nat×AV)):Option (List AV):=aa9 (fun i=>some (i*size,size)) ((List.range (n*size)).map fun i=>.v (z.cells[i % z.cells.size]!)) ps
theorem akj {t e n size:Nat} {z:Value} {C:Ctx} {a:Act} {w:World} {ps:List (Nat×Operand)} {cells:List AV} (hs:SR E C st a w) (hok:(ps.all fun p=>aT E.N p.2)=true) (ht:P.underlying t=some (.slice e)) (hinfo:(P.info? e).map (fun i=>(i.zero,i.size))=some (some z,size)) (hn:n*size≤16777216)
  (hf:adG n size z (WL st.env ps)=some cells) (h1:cells.all je=true):∃vals:Array Value,(Instr.buildSlice t n (ps.toArray.map fun (i,x)=>(i,a.eval x))).run P w=.ok (.slice (some ⟨w.heap.size,0,none⟩) n n) (w.alloc (.cells vals e))∧vals.size=cells.length∧
   ∀(j:Nat) (c:AV),cells[j]? =some c→∃u:Value,vals[j]? =some u∧u.oneCell'=true∧R w C c u:=by
 obtain ⟨i0,hi,hzz⟩:=Option.map_eq_some_iff.1 hinfo;simp only [Prod.mk.injEq] at hzz;obtain ⟨hz,rfl⟩:=hzz
 obtain ⟨vals',h1',h2,h3⟩:=vw (w:=w) (C:=C) (WL st.env ps) (ps.map fun (x:Nat×Operand)=>(x.1,a.eval x.2)) _ cells ((Array.range (n*i0.size)).map fun i=>z.cells[i % z.cells.size]!) (by simp [WL]) (hs.parts ps hok) (by simp) (fun j c hj=>by
  rw [List.getElem?_map,Option.map_eq_some_iff] at hj;obtain ⟨y,hy,rfl⟩:=hj;obtain ⟨hlt,rfl⟩:=List.getElem?_eq_some_iff.1 hy;simp at hlt;have:((Array.range (n*i0.size)).map fun i=>z.cells[i % z.cells.size]!).getD j undef=z.cells[j % z.cells.size]! :=by simp [hlt]
  rw [this];simp only [List.getElem_range];exact .v _) hf
 refine ⟨vals',?_,h2,fun j c hj=>?_⟩
 ·have rX:Instr.fill (fun i=>some (i*i0.size,i0.size)) ((Array.range (n*i0.size)).map ((if n*i0.size=0 then #[] else z.cells)[· % (if n*i0.size=0 then #[] else z.cells).size]!)) (ps.toArray.map fun (i,x)=>(i,a.eval x)).toList=some vals':=by
   by_cases h0:n*i0.size=0
   ·have e1:((Array.range (n*i0.size)).map fun i=>z.cells[i % z.cells.size]!)= #[]:=by rw [h0];simp
    rw [e1] at h1';have e2:((Array.range (n*i0.size)).map ((if n*i0.size=0 then (#[]:Array Value) else z.cells)[· % (if n*i0.size=0 then (#[]:Array Value) else z.cells).size]!))= #[]:=by rw [h0];simp
    rw [e2];simpa using h1'
   ·simp only [if_neg h0];simpa using h1'
  simp only [Instr.buildSlice,Sem.run_bind,run_underlying ht,Result.andThen_ok,run_sizeOf (show (P.info? e).map (·.size)=some i0.size by rw [hi];rfl)];rw [if_neg (by simp;omega)];by_cases h0:n*i0.size=0
  ·rw [if_pos h0];simp only [if_pos h0] at rX;simp only [Sem.run_bind,Sem.run_pure,Result.andThen_ok,rX,newRow,run_newObj];rfl
  ·rw [if_neg h0];simp only [if_neg h0] at rX;have qA:(zeroValue e).run P w=.ok z w:=by simp [zeroValue,typeInfo,hi,hz]
   simp only [Sem.run_bind,Sem.run_pure,qA,Result.andThen_ok,rX,newRow,run_newObj];rfl
 ·have hlt:j<vals'.size:=by rw [h2];exact (List.getElem?_eq_some_iff.1 hj).1
  have hr:=h3 j c hj;have he:vals'.getD j undef=vals'[j]:=by simp [hlt]
  rw [he] at hr;exact ⟨vals'[j],Array.getElem?_eq_getElem hlt,rV hr (List.all_eq_true.1 h1 c (List.mem_of_getElem? hj)),hr⟩
theorem zJ {o:Oper} {t e n size d:Nat} {ps:List (Nat×Operand)} {z:Value} {cells:List AV} {C:Ctx} {a:Act} {w:World} (ho:o.op=.buildSlice t n ps.toArray) (hs:SR E C st a w) (hok:(ps.all fun p=>aT E.N p.2)=true)
  (ht:P.underlying t=some (.slice e)) (hinfo:(P.info? e).map (fun i=>(i.zero,i.size))=some (some z,size)) (hn:n*size≤16777216) (hf:adG n size z (WL st.env ps)=some cells) (h1:cells.all je=true):
  ∃vals:Array Value,(execOp a.eval o).run P w=.ok (.value (.slice (some ⟨w.heap.size,0,none⟩) n n)) (w.alloc (.cells vals e))∧vals.size=cells.length∧
   ∀(j:Nat) (c:AV),cells[j]? =some c→∃u:Value,vals[j]? =some u∧u.oneCell'=true∧R w C c u:=by
 obtain ⟨vals,hr,hvl,hc⟩:=akj hs hok ht hinfo hn hf h1;refine ⟨vals,?_,hvl,hc⟩;simp only [execOp,ho,Sem.run_bind,hr,Result.andThen_ok];rfl
theorem V_ {o:Oper} {t e n size d:Nat} {ps:List (Nat×Operand)} {z:Value} {cells:List AV} (ho:o.op=.buildSlice t n ps.toArray) (hd:o.dst=some d) (hN:((ps.all fun p=>aT E.N p.2)&&Nat.blt d E.N)=true)
  (ht:P.underlying t=some (.slice e)) (hinfo:(P.info? e).map (fun i=>(i.zero,i.size))=some (some z,size)) (hn:n*size≤16777216) (hnn:n≤16777216) (hf:adG n size z (WL st.env ps)=some cells) (h1:cells.all je=true)
  (h:K ⟨upd st.env d (.ro n cells),st.ob⟩):Vo P E o st K:=by
 simp only [Bool.and_eq_true] at hN;rintro a w q ⟨C,hs⟩;obtain ⟨vals,hrun,hvl,hc⟩:=zJ (d:=d) ho hs hN.1 ht hinfo hn hf h1;have hext:Ext w C (w.alloc (.cells vals e)) C:=⟨fun _ h=>⟨h,rfl,rfl,rfl⟩,fun _ _ h=>h,fun x hx _=>heap_alloc_old w _ x hx⟩
 have hR:R (w.alloc (.cells vals e)) C (.ro n cells) (.slice (some ⟨w.heap.size,0,none⟩) n n):=by
  refine .ro n n _ cells (fun j=>vals.getD j undef) (Nat.le_refl _) (by unfold maxLen;omega) (fun h=>by cases h) (fun j hj=>⟨_,rfl,fun ho=>?_,?_,?_⟩) (fun j av hj=>?_)
  ·have:=hs.obj.bnd _ ho;simp at this
  ·obtain ⟨u,hu,_,_⟩:=hc j _ (List.getElem?_eq_getElem hj);rw [add_plain];simp only [World.cell?,heap_alloc_new];simp [hu]
  ·obtain ⟨u,hu,h2,_⟩:=hc j _ (List.getElem?_eq_getElem hj);simpa [hu] using h2
  ·obtain ⟨u,hu,_,h3⟩:=hc j _ hj;simpa [hu] using h3.ext hext
 have hnew:=hs.akE (.cells vals e) o.dst (fun d' hd'=>by rw [hd] at hd';cases hd';exact aS hN.2) (.ro n cells) (.slice (some ⟨w.heap.size,0,none⟩) n n) (fun _=>hR);unfold Oper.wp;rw [hrun];refine ⟨_,⟨_,hnew⟩,?_⟩;rw [hd];exact h
theorem aau {o:Oper} {t e n size d:Nat} {ps:List (Nat×Operand)} {z:Value} {cells:List AV} (id:Nat) (ho:o.op=.buildSlice t n ps.toArray) (hd:o.dst=some d) (hN:((ps.all fun p=>aT E.N p.2)&&Nat.blt d E.N)=true)
  (ht:P.underlying t=some (.slice e)) (hinfo:(P.info? e).map (fun i=>(i.zero,i.size))=some (some z,size)) (hn:n*size≤16777216) (hnn:n≤16777216) (hfree:st.ob id=.free) (hf:adG n size z (WL st.env ps)=some cells) (hcl:cells.length=n*size) (h1:cells.all je=true)
  (h:K ⟨upd st.env d (.sl id 0 n),U4 st.ob id (.live ⟨cells,e,size⟩)⟩):Vo P E o st K:=by
 simp only [Bool.and_eq_true] at hN;rintro a w q ⟨C,hs⟩;obtain ⟨vals,hrun,hvl,hc⟩:=zJ (d:=d) ho hs hN.1 ht hinfo hn hf h1
 have hnew:=hs.new id hfree ⟨cells,e,size⟩ vals (by simp [hvl]) hc o.dst (fun d' hd'=>by rw [hd] at hd';cases hd';exact aS hN.2) (.sl id 0 n) (.slice (some ⟨w.heap.size,0,none⟩) n n)
  (fun _=>.sl id 0 n n w.heap.size (.inl rfl) (by simp [Ctx.add]) (Nat.le_refl _) (by unfold maxLen;omega) (by simp [Ctx.add,hvl,hcl]))
 unfold Oper.wp;rw [hrun];refine ⟨_,⟨_,hnew⟩,?_⟩;rw [hd];exact h
theorem ajS {o:Oper} {t e bytes d n:Nat} {x y:Operand} {z:Value} {k k':IntKind} {m:Int} (id:Nat) (ho:o.op=.makeSlice t x y) (hd:o.dst=some d) (hN:(aT E.N x&&aT E.N y&&Nat.blt d E.N)=true)
  (ht:P.underlying t=some (.slice e)) (hinfo:(P.info? e).map (fun i=>(i.zero,i.size,i.bytes))=some (some z,1,bytes)) (hz1:z.oneCell'=true) (hx:aO st.env x=.v (.int k m)) (hy:aO st.env y=.v (.int k' m)) (hm:m=(n:Int)) (hnn:n≤281474976710656) (hb:bytes*n≤281474976710656) (hfree:st.ob id=.free)
  (h:K ⟨upd st.env d (.sl id 0 n),U4 st.ob id (.live ⟨List.replicate n (.v z),e,1⟩)⟩):Vo P E o st K:=by
 simp only [Bool.and_eq_true] at hN;subst hm;rintro a w q ⟨C,hs⟩;have h1:=hs.ev x hN.1.1;rw [hx] at h1;have h2:=hs.ev y hN.1.2;rw [hy] at h2;obtain ⟨i0,hi,hzz⟩:=Option.map_eq_some_iff.1 hinfo;simp only [Prod.mk.injEq] at hzz;obtain ⟨hz,hsz,hby⟩:=hzz;have hwrap:IntKind.i64.wrap (n:Int)=n:=IntWalk.i64_in _ (by omega)
 have hb':(bytes:Int)*(n:Int)≤281474976710656:=by
  have:((bytes*n:Nat):Int)≤281474976710656:=by omega
  rwa [Int.natCast_mul] at this
 have hzc:z.cells= #[z]:=cells_one hz1
 have hrun:(execOp a.eval o).run P w=.ok (.value (.slice (some ⟨w.heap.size,0,none⟩) n n)) (w.alloc (.cells (Array.replicate n z) e)):=by
  have hrow:(Array.range n).map (fun i=>(if n=0 then (#[]:Array Value) else z.cells)[i % (if n=0 then (#[]:Array Value) else z.cells).size]!)=Array.replicate n z:=by
   apply Array.ext
   ·simp
   ·intro i h1 h2;simp at h1;have h0:¬n=0:=by omega
    simp [h0,hzc,Nat.mod_one]
  have hneg:¬((n:Int)<0):=by omega
  have qA:(zeroValue e).run P w=.ok z w:=by simp [zeroValue,typeInfo,hi,hz]
  simp only [execOp,ho,h1.dM,h2.dM,Instr.makeSlice,asInt,asIntOf,Sem.run_bind,Sem.run_pure,run_underlying ht,Result.andThen_ok,typeInfo,run_program,hi,hby,hwrap,hsz,sizeOf,Nat.mul_one,Int.toNat_natCast];rw [if_neg (by simp [hneg,hb'])];simp only [Sem.run_bind,run_askRoom,Result.andThen_ok,run_program,hi,Sem.run_pure,hsz,Nat.mul_one];by_cases h0:n=0
  ·rw [if_pos h0];simp only [if_pos h0] at hrow;simp only [Sem.run_bind,Sem.run_pure,Result.andThen_ok,hrow,newRow,run_newObj];rfl
  ·rw [if_neg h0];simp only [if_neg h0] at hrow;simp only [Sem.run_bind,Sem.run_pure,qA,Result.andThen_ok,hrow,newRow,run_newObj];rfl
 have hnew:=hs.new id hfree ⟨List.replicate n (.v z),e,1⟩ (Array.replicate n z) (by simp) (fun j c hj=>by
   obtain ⟨hlt,rfl⟩:=List.getElem?_eq_some_iff.1 hj;simp at hlt;refine ⟨z,by simp [hlt],hz1,?_⟩;simp only [List.getElem_replicate];exact .v z) o.dst (fun d' hd'=>by rw [hd] at hd';cases hd';exact aS hN.2) (.sl id 0 n) (.slice (some ⟨w.heap.size,0,none⟩) n n)
  (fun _=>.sl id 0 n n w.heap.size (.inl rfl) (by simp [Ctx.add]) (Nat.le_refl _) (by unfold maxLen;omega) (by simp [Ctx.add]))
 unfold Oper.wp;rw [hrun];refine ⟨_,⟨_,hnew⟩,?_⟩;rw [hd];exact h
def kX (env:Nat→AV) (x:Option Operand) (dflt:Nat) (n:Nat):Prop:=
 match x with
 |none=>n=dflt
 |some o=>∃k,aO env o=.v (.int k (n:Int))
def okO (N:Nat):Option Operand→Bool
 |none=>true
 |some o=>aT N o
theorem oK {t e sz:Nat} {A:Option Addr} {n c l hgh:Nat} {vl vh:Option Value} (ht:P.underlying t=some (.slice e)) (hsz:(P.info? e).map (·.size)=some sz) (hl:(vl=none∧l=0)∨∃k,vl=some (.int k (l:Int))) (hh:(vh=none∧hgh=n)∨∃k,vh=some (.int k (hgh:Int)))
  (h1:l≤hgh) (h2:hgh≤c) (w:World):(Instr.sliceAt t (.slice A n c) vl vh none).run P w=.ok (.slice (if c=l then A else A.map (·.add (l*sz))) (hgh-l) (c-l)) w:=by
 have hb:(Instr.sliceBounds true n c vl vh none).run P w=.ok (l,hgh,c) w:=by
  rcases hl with ⟨rfl,rfl⟩|⟨k,rfl⟩<;>rcases hh with ⟨rfl,rfl⟩|⟨k',rfl⟩<;>simp [Instr.sliceBounds,Instr.sliceBound,asIntOf,h1,h2,Int.ofNat_le.2 h1,Int.ofNat_le.2 h2]
 simp [Instr.sliceAt,Instr.slice,run_underlying ht,hb,run_sizeOf hsz]
theorem mh {C:Ctx} {a:Act} {w:World} (hs:SR E C st a w) {x:Option Operand} {dflt n:Nat} (hx:okO E.N x=true) (h:kX st.env x dflt n):(x.map a.eval=none∧n=dflt)∨∃k,x.map a.eval=some (.int k (n:Int)):=by
 cases x with
 |none=>exact .inl ⟨rfl,h⟩
 |some o=>
  obtain ⟨k,h⟩:=h;have:=hs.ev o hx;rw [h] at this;exact .inr ⟨k,by simp [this.dM]⟩
theorem yR {o:Oper} {t e sz d n l hgh:Nat} {x:Operand} {lo hi:Option Operand} {cells cells':List AV} (ho:o.op=.slice t x lo hi none) (hd:o.dst=some d) (hN:(aT E.N x&&okO E.N lo&&okO E.N hi&&Nat.blt d E.N)=true)
  (ht:P.underlying t=some (.slice e)) (hsz:(P.info? e).map (·.size)=some sz) (hx:aO st.env x=.ro n cells) (hlo:kX st.env lo 0 l) (hhi:kX st.env hi n hgh) (h1:l≤hgh) (h2:hgh≤n) (hc':(cells.drop (l*sz)).take ((hgh-l)*sz)=cells')
  (h:K ⟨upd st.env d (.ro (hgh-l) cells'),st.ob⟩):Vo P E o st K:=by
 simp only [Bool.and_eq_true] at hN;subst hc';refine W4 _ (fun d' hd'=>by rw [hd] at hd';cases hd';exact aS hN.2) (fun a w C hs=>?_) (by rw [hd];exact h);have hx1:=hs.ev x hN.1.1.1;rw [hx] at hx1;generalize Wd:a.eval x=ux at hx1
 cases hx1 with
 |ro _ c A _ us hc hm h0 hcell hrel=>
  have hr:=oK (P:=P) (A:=A) (n:=n) (c:=c) ht hsz (mh hs hN.1.1.2 hlo) (mh hs hN.1.2 hhi) h1 (by omega) w;refine ⟨_,by simp only [execOp,ho,Wd,Option.map_none,Sem.run_bind,hr,Result.andThen_ok];rfl,.ro _ _ _ _ (fun j=>us (l*sz+j)) (by omega) (by omega) (fun hA=>?_) (fun j hj=>?_) (fun j av hj=>?_)⟩
  ·by_cases hcl:c=l
   ·rw [if_pos hcl] at hA;obtain ⟨hn0,hc0⟩:=h0 hA;omega
   ·rw [if_neg hcl] at hA;have:A=none:=by simpa using hA
    obtain ⟨hn0,hc0⟩:=h0 this;omega
  ·simp at hj
   have hgl:l<hgh:=by
    rcases Nat.lt_or_ge l hgh with h3|h3
    ·exact h3
    ·rw [show hgh-l=0 by omega] at hj;simp at hj
   obtain ⟨ad,hA,h3,h4,h5⟩:=hcell (l*sz+j) (by omega);rw [if_neg (by omega)];exact ⟨ad.add (l*sz),by simp [hA],by rw [add_block];exact h3,by rw [add_add];exact h4,h5⟩
  ·have hlt:=(List.getElem?_eq_some_iff.1 hj).1;simp at hlt;rw [List.getElem?_take,if_pos (by omega),List.getElem?_drop] at hj;exact hrel _ _ hj
theorem abx {o:Oper} {t e sz d id off n hgh:Nat} {x:Operand} {hi:Option Operand} (ho:o.op=.slice t x none hi none) (hd:o.dst=some d) (hN:(aT E.N x&&okO E.N hi&&Nat.blt d E.N)=true)
  (ht:P.underlying t=some (.slice e)) (hsz:(P.info? e).map (·.size)=some sz) (hx:aO st.env x=.sl id off n) (hhi:kX st.env hi n hgh) (h2:hgh≤n)
  (h:K ⟨upd st.env d (.sl id off hgh),st.ob⟩):Vo P E o st K:=by
 simp only [Bool.and_eq_true] at hN;refine W4 _ (fun d' hd'=>by rw [hd] at hd';cases hd';exact aS hN.2) (fun a w C hs=>?_) (by rw [hd];exact h);have hx1:=hs.ev x hN.1.1;rw [hx] at hx1;generalize Wd:a.eval x=ux at hx1
 cases hx1 with
 |sl _ _ _ c b gT hb hnc hm hss=>
  have hr:=oK (P:=P) (A:=some ⟨b,off,none⟩) (n:=n) (c:=c) (l:=0) (vl:=none) ht hsz (.inl ⟨rfl,rfl⟩) (mh hs hN.1.2 hhi) (Nat.zero_le _) (by omega) w;refine ⟨_,by simp only [execOp,ho,Wd,Option.map_none,Sem.run_bind,hr,Result.andThen_ok];rfl,?_⟩
  have:(if c=0 then some (⟨b,off,none⟩:Addr) else (some (⟨b,off,none⟩:Addr)).map (·.add (0*sz)))=some ⟨b,off,none⟩:=by
   split
   ·rfl
   ·simp [add_plain]
  rw [this];exact .sl id off (hgh-0) (c-0) b gT hb (by omega) (by omega) (by simpa using hss)
 |slnil _ gT hb=>
  have h0:hgh=0:=by omega
  subst h0;have hr:=oK (P:=P) (A:=none) (n:=0) (c:=0) (l:=0) (vl:=none) ht hsz (.inl ⟨rfl,rfl⟩) (mh hs hN.1.2 hhi) (Nat.zero_le _) (Nat.zero_le _) w;refine ⟨_,by simp only [execOp,ho,Wd,Option.map_none,Sem.run_bind,hr,Result.andThen_ok];rfl,?_⟩;exact .slnil id gT hb
end
end Go.Lo
set_option linter.unusedVariables false
set_option linter.unusedSimpArgs false
namespace Go.Lo
theorem iH {E:VC} {s:St} (d id e z:Nat) (hd:s.env d=.v (.slice none 0 0)) (hf:s.ob id=.free):Vv E s ⟨upd s.env d (.sl id 0 0),U4 s.ob id (.live ⟨[],e,z⟩)⟩:=fun _ _ h=>h.adopt d id e z hd hf
def rn:List (Nat×Nat)→Nat→Nat
 | [],_=>0
 |(o,n)::r,x=>cond (Nat.beq x o) n (rn r x)
def iX:List (Nat×Nat)→Nat→Option Nat
 | [],_=>none
 |(o,n)::r,x=>cond (Nat.beq x n) (some o) (iX r x)
theorem AP {ps:List (Nat×Nat)} {x:Nat} (hn:(ps.map (·.2)).Nodup) (h:x∈ps.map (·.1)):iX ps (rn ps x)=some x:=by
 induction ps with
 |nil=>simp at h
 |cons p r ih=>
  obtain ⟨o,n⟩:=p;simp only [List.map_cons,List.nodup_cons] at hn;simp only [rn,iX]
  cases hb:Nat.beq x o with
  |true=>simp [Nat.eq_of_beq_eq_true hb]
  |false=>
   have YJ:x∈r.map (·.1):=by
    rcases List.mem_cons.1 (by simpa using h:x∈o::r.map (·.1)) with h1|h1
    ·subst h1;simp at hb
    ·exact h1
   have h2:=ih hn.2 YJ;simp only [cond_false]
   have hne:Nat.beq (rn r x) n=false:=by
    cases hb2:Nat.beq (rn r x) n with
    |false=>rfl
    |true=>
     have he:=Nat.eq_of_beq_eq_true hb2;exfalso;apply hn.1
     have mem:∀(l:List (Nat×Nat)),x∈l.map (·.1)→rn l x∈l.map (·.2):=by
      intro l
      induction l with
      |nil=>intro h;simp at h
      |cons q l ihl=>
       obtain ⟨o',n'⟩:=q;intro h;simp only [rn]
       cases hb3:Nat.beq x o' with
       |true=>simp
       |false=>
        have:x∈l.map (·.1):=by
         rcases List.mem_cons.1 (by simpa using h:x∈o'::l.map (·.1)) with h1|h1
         ·subst h1;simp at hb3
         ·exact h1
        simp only [cond_false,List.map_cons,List.mem_cons];exact .inr (ihl this)
     rw [←he];exact mem r YJ
   rw [hne];exact h2
theorem q9 {ps:List (Nat×Nat)} (hn:(ps.map (·.1)).Nodup) {x y z:Nat} (h1:(x,y)∈ps) (h2:(x,z)∈ps):y=z:=by
 induction ps with
 |nil=>cases h1
 |cons p r ih=>
  simp only [List.map_cons,List.nodup_cons] at hn;rcases List.mem_cons.1 h1 with h1|h1<;>rcases List.mem_cons.1 h2 with h2|h2
  ·rw [←h1] at h2;cases h2;rfl
  ·exact absurd (List.mem_map.2 ⟨_,h2,by rw [←h1]⟩) hn.1
  ·exact absurd (List.mem_map.2 ⟨_,h1,by rw [←h2]⟩) hn.1
  ·exact ih hn.2 h1 h2
def eG (ps:List (Nat×Nat)) (av dA:AV):Prop:=
 dA=.any∨(dA=av∧iw av)∨(Ok (· ∈ps.map (·.1)) True av∧av.map (rn ps)=dA)
structure LeR (ps:List (Nat×Nat)) (s s':St):Prop where
 akw:(ps.map (·.1)).Nodup
 nodup:(ps.map (·.2)).Nodup
 env:∀t,eG ps (s.env t) (s'.env t)
 ob:∀id' o',s'.ob id'=.live o'→∃id o,(id,id')∈ps∧iX ps id'=some id∧s.ob id=.live o∧o'.elem=o.elem∧o'.bC=o.bC∧((o'.cells=o.cells∧gD o.cells)∨(o'.cells=AV.V4 (rn ps) o.cells∧∀c,c∈o.cells→Ok (· ∈ps.map (·.1)) True c))
 live:∀id',id'∈ps.map (·.2)→s'.ob id'≠ .free
theorem Lr {ps:List (Nat×Nat)} {i:Nat} (hn:(ps.map (·.2)).Nodup) (h:(i,i)∈ps):iX ps i=some i:=by
 induction ps with
 |nil=>cases h
 |cons p r ih=>
  obtain ⟨o,n⟩:=p;simp only [List.map_cons,List.nodup_cons] at hn;simp only [iX];rcases List.mem_cons.1 h with h1|h1
  ·cases h1;simp
  ·cases hb:Nat.beq i n with
   |true=>
    have:=Nat.eq_of_beq_eq_true hb;subst this;exact absurd (List.mem_map.2 ⟨_,h1,rfl⟩) hn.1
   |false=>exact ih hn.2 h1
theorem ru {ps:List (Nat×Nat)} {m:Nat} (h:((List.range m).all fun i=>ps.any fun p=>p.1==i&&p.2==i)=true):∀i,i<m→(i,i)∈ps:=fun i hi=>by
 have:=List.all_eq_true.1 h i (List.mem_range.2 hi);obtain ⟨p,hp,h2⟩:=List.any_eq_true.1 this;simp only [Bool.and_eq_true,beq_iff_eq] at h2;obtain ⟨rfl,h3⟩:=h2;obtain ⟨a,b⟩:=p;simp only at h3;subst h3;exact hp
theorem abI {E:VC} {s s':St} (ps:List (Nat×Nat)) (h:LeR ps s s') (hkp:∀i,i<E.m→(i,i)∈ps):Vv E s s':=by
 rintro a w ⟨C,hs⟩
 let C2:Ctx:=⟨fun i=>(iX ps i).bind C.blk,fun i=>((iX ps i).map C.sz).getD 0,fun i=>((iX ps i).map C.bC).getD 0,fun i=>i∈ps.map (·.2),C.own⟩
 have hmem:∀(l:List (Nat×Nat)) x,x∈l.map (·.1)→rn l x∈l.map (·.2):=by
  intro l x
  induction l with
  |nil=>intro h;simp at h
  |cons q l ihl=>
   obtain ⟨o',n'⟩:=q;intro h;simp only [rn]
   cases hb3:Nat.beq x o' with
   |true=>simp
   |false=>
    have:x∈l.map (·.1):=by
     rcases List.mem_cons.1 (by simpa using h:x∈o'::l.map (·.1)) with h1|h1
     ·subst h1;simp at hb3
     ·exact h1
    simp only [cond_false,List.map_cons,List.mem_cons];exact .inr (ihl this)
 have hid:∀id,id∈ps.map (·.1)→C.dom id→C2.dom (rn ps id)∧C2.blk (rn ps id)=C.blk id∧C2.sz (rn ps id)=C.sz id∧C2.bC (rn ps id)=C.bC id:=fun id hm _=>by
  have hb:=AP h.nodup hm;exact ⟨hmem ps id hm,by simp [C2,hb],by simp [C2,hb],by simp [C2,hb]⟩
 have hown:True→∀b,¬C.own b→¬C2.own b:=fun _ b h=>h;have hmap:∀{av:AV} {u:Value},R w C av u→Ok (· ∈ps.map (·.1)) True av→R w C2 (av.map (rn ps)) u:=fun hr hok=>R.map hid hown hr hok
 have hno:∀{av:AV} {u:Value},R w C av u→iw av→R w C2 av u:=fun hr hn=>by
  have:=R.map (C2:=C2) (σ:=id) (p:=fun _=>False) (ro:=True) (fun _ h=>h.elim) hown hr hn
  rwa [jy hn] at this
 refine ⟨C2,hs.size,hs.defers,fun t ht=>?_,⟨fun i o hl=>?_,fun i o b hl hb=>?_,fun i i' o1 o2 b h1 h2 h3 h4=>?_,fun i hi=>h.live i hi,hs.obj.bnd⟩,hs.fr,fun i o b hl hb=>?_,hs.keep,hs.WE,fun i hi=>?_,hs.X4⟩
 ·rcases h.env t with h1|⟨h1,h2⟩|⟨h1,h2⟩
  ·rw [h1];exact .any _
  ·rw [h1];exact hno (hs.env t ht) h2
  ·rw [←h2];exact hmap (hs.env t ht) h1
 ·obtain ⟨id,o0,hp,hb,hl0,he,hz,hc⟩:=h.ob i o hl;obtain ⟨k1,k2,k3⟩:=hs.obj.nil id o0 hl0;refine ⟨List.mem_map.2 ⟨_,hp,rfl⟩,by simp [C2,hb,k2,hz],fun hbn=>?_⟩;have:C.blk id=none:=by simpa [C2,hb] using hbn
  have h0:=k3 this;rcases hc with ⟨hc,_⟩|⟨hc,_⟩
  ·rw [hc,h0]
  ·rw [hc,h0];rfl
 ·obtain ⟨id,o0,hp,hb0,hl0,he,hz,hc⟩:=h.ob i o hl;have hb':C.blk id=some b:=by simpa [C2,hb0] using hb
  obtain ⟨k1,cur,k2,k3,k4,k5⟩:=hs.obj.live id o0 b hl0 hb';refine ⟨k1,cur,by rw [he];exact k2,by simp [C2,hb0,k3],?_,fun j av hj=>?_⟩
  ·rcases hc with ⟨hc,_⟩|⟨hc,_⟩
   ·rw [hc];exact k4
   ·rw [hc,WR];simpa using k4
  ·rcases hc with ⟨hc,hn⟩|⟨hc,hn⟩
   ·rw [hc] at hj;obtain ⟨u,hu,k6,k7⟩:=k5 j av hj;exact ⟨u,hu,k6,hno k7 (hn av (List.mem_of_getElem? hj))⟩
   ·rw [hc,WR,List.getElem?_map,Option.map_eq_some_iff] at hj;obtain ⟨c,hj,rfl⟩:=hj;obtain ⟨u,hu,k6,k7⟩:=k5 j c hj;exact ⟨u,hu,k6,hmap k7 (hn c (List.mem_of_getElem? hj))⟩
 ·obtain ⟨id,p1,q1,r1,l1,_⟩:=h.ob i o1 h1;obtain ⟨id2,p2,q2,r2,l2,_⟩:=h.ob i' o2 h2;have e1:C.blk id=some b:=by simpa [C2,r1] using h3
  have e2:C.blk id2=some b:=by simpa [C2,r2] using h4
  have e3:=hs.obj.inj id id2 p1 p2 b l1 l2 e1 e2;subst e3;exact q9 h.akw q1 q2
 ·obtain ⟨id,o0,hp,hb0,hl0,_⟩:=h.ob i o hl;have hb':C.blk id=some b:=by simpa [C2,hb0] using hb
  exact hs.fresh id o0 b hl0 hb'
 ·have hp:=hkp i hi;have hb:=Lr h.nodup hp;obtain ⟨k1,k2,k3,k4⟩:=hs.init i hi;exact ⟨List.mem_map.2 ⟨_,hp,rfl⟩,by simp [C2,hb,k2],by simp [C2,hb,k3],by simp [C2,hb,k4]⟩
theorem b_ {ps:List (Nat×Nat)} {e:Nat→AV}:∀t,eG ps (e t) (none_ t):=fun _=>.inl rfl
theorem akk {ps:List (Nat×Nat)} {e e':Nat→AV} (d:Nat) (av:AV) (hd:e d=av) (hn:iw av) (h:∀t,eG ps (e t) (e' t)):∀t,eG ps (e t) (upd e' d av t):=by
 intro t;by_cases ht:t=d
 ·subst ht;rw [upd_same];exact .inr (.inl ⟨hd.symm,by rw [hd];exact hn⟩)
 ·rw [upd_ne _ _ ht];exact h t
theorem Kg {ps:List (Nat×Nat)} {e e':Nat→AV} (d:Nat) (av:AV) (hok:Ok (· ∈ps.map (·.1)) True (e d)) (hd:(e d).map (rn ps)=av) (h:∀t,eG ps (e t) (e' t)):∀t,eG ps (e t) (upd e' d av t):=by
 intro t;by_cases ht:t=d
 ·subst ht;rw [upd_same];exact .inr (.inr ⟨hok,hd⟩)
 ·rw [upd_ne _ _ ht];exact h t
def U5:Nat→aH:=fun _=>.free
theorem Nj {s:St} {e':Nat→AV} (x y:Nat) (o o':aC) (hl:s.ob x=.live o) (WG:o'=o) (hn:gD o.cells) (he:∀t,eG [(x,y)] (s.env t) (e' t)):LeR [(x,y)] s ⟨e',U4 U5 y (.live o')⟩:=by
 subst WG;refine ⟨by simp,by simp,he,fun id' o1 h=>?_,fun id' h=>?_⟩
 ·by_cases hi:id'=y
  ·subst hi;have h':U4 U5 id' (.live o') id'=.live o1:=h;rw [V9] at h'
   cases h'
   exact ⟨x,o',by simp,by simp [iX],hl,rfl,rfl,.inl ⟨rfl,hn⟩⟩
  ·have h':U4 U5 y (.live o') id'=.live o1:=h;rw [VX _ _ hi] at h'
   cases h'
 ·simp at h;subst h;show U4 U5 id' (.live o') id'≠_;rw [V9];intro h;cases h
theorem Nk {s:St} {e':Nat→AV} (he:∀t,eG [] (s.env t) (e' t)):LeR [] s ⟨e',U5⟩:=
 ⟨by simp,by simp,he,(fun id' o1 h=>by cases h),(fun id' h=>by simp at h)⟩
theorem Nl {s:St} {e':Nat→AV} (x y x2 y2:Nat) (o o' o2 iC:aC) (hx:x≠x2) (hy:y≠y2) (hl:s.ob x=.live o) (hl2:s.ob x2=.live o2) (WG:o'=o) (pV:iC=o2) (hn:gD o.cells) (hn2:gD o2.cells)
  (he:∀t,eG [(x,y),(x2,y2)] (s.env t) (e' t)):LeR [(x,y),(x2,y2)] s ⟨e',U4 (U4 U5 y (.live o')) y2 (.live iC)⟩:=by
 subst WG;subst pV
 have hyb:Nat.beq y2 y=false:=by
  cases hb:Nat.beq y2 y with
  |false=>rfl
  |true=>exact absurd (Nat.eq_of_beq_eq_true hb).symm hy
 refine ⟨by simp [hx],by simp [hy],he,fun id' o1 h=>?_,fun id' h=>?_⟩
 ·have h':U4 (U4 U5 y (.live o')) y2 (.live iC) id'=.live o1:=h;by_cases hi2:id'=y2
  ·subst hi2;rw [V9] at h'
   cases h'
   exact ⟨x2,iC,by simp,by simp [iX,hyb],hl2,rfl,rfl,.inl ⟨rfl,hn2⟩⟩
  ·rw [VX _ _ hi2] at h';by_cases hi:id'=y
   ·subst hi;rw [V9] at h'
    cases h'
    exact ⟨x,o',by simp,by simp [iX],hl,rfl,rfl,.inl ⟨rfl,hn⟩⟩
   ·rw [VX _ _ hi] at h'
    cases h'
 ·show U4 (U4 U5 y (.live o')) y2 (.live iC) id'≠_;by_cases hi2:id'=y2
  ·subst hi2;rw [V9];intro h;cases h
  ·rw [VX _ _ hi2];have:id'=y:=by simpa [hi2] using h
   subst this;rw [V9];intro h;cases h
section
variable {P:Program} {E:VC} {st:St} {Q:Exit→St→Prop}
theorem VD.imp {c:Code} {s s':St} (h:VD P E c s' Q) (hl:Vv E s s'):VD P E c s Q:=fun a w hs=>h a w (hl a w hs)
theorem VA {c:Code} (s':St) (hl:Vv E st s') (h:VD P E c s' Q):VD P E c st Q:=fun a w hs=>h a w (hl a w hs)
theorem zK {ι:Type} {c:Code} (I:ι→St) (μ:ι→Nat) (i0:ι) (h0:Vv E st (I i0))
  (round:∀i,VD P E c (I i) (ZJ (fun s=>∃j,μ j<μ i∧Vv E s (I j)) Q)):VD P E (.loop c) st Q:=by
 intro a w hs;refine FV (fun i a w=>Wm E (I i) a w) μ (fun i a w hi=>?_) i0 a w (h0 a w hs);refine wp_mono (round i a w hi) ?_;rintro e a' w' ⟨s,h1,h2⟩
 cases e with
 |normal=>
  obtain ⟨j,hj,hl⟩:=h2;exact ⟨j,hj,hl a' w' h1⟩
 |_=>exact ⟨s,h1,h2⟩
theorem Rk {c:Code} (I:Nat→St) (n:Nat) (h0:Vv E st (I 0))
  (round:∀k,k≤n→VD P E c (I k) (ZJ (fun s=>k<n∧Vv E s (I (k+1))) Q)):VD P E (.loop c) st Q:=by
 refine zK (ι:={ k:Nat // k≤n }) (fun k=>I k.1) (fun k=>n-k.1) ⟨0,Nat.zero_le _⟩ h0 (fun k=>?_);refine VD.mono (round k.1 k.2) (fun e s h=>?_)
 cases e with
 |normal=>
  obtain ⟨h1,h2⟩:=h;exact ⟨⟨k.1+1,h1⟩,by show n-(k.1+1)<n-k.1;omega,h2⟩
 |_=>exact h
theorem cB {c:Code} (I:Nat→St) (Inv:Nat→Prop) (n:Nat) (h0:Vv E st (I 0)) (hi:Inv 0)
  (round:∀k,k≤n→Inv k→VD P E c (I k) (ZJ (fun s=>k<n∧Inv (k+1)∧Vv E s (I (k+1))) Q)):VD P E (.loop c) st Q:=by
 refine zK (ι:={ k:Nat // k≤n∧Inv k }) (fun k=>I k.1) (fun k=>n-k.1) ⟨0,Nat.zero_le _,hi⟩ h0 (fun k=>?_);refine VD.mono (round k.1 k.2.1 k.2.2) (fun e s h=>?_)
 cases e with
 |normal=>
  obtain ⟨h1,h2,h3⟩:=h;exact ⟨⟨k.1+1,h1,h2⟩,by show n-(k.1+1)<n-k.1;omega,h3⟩
 |_=>exact h
theorem aj {id:Nat} {ops:Array Oper} {y:Code} (h:VL P E ops ops.toList st (fun s=>VD P E y s Q)):VD P E (.seq (.region id ops false) y) st Q:=aF (agb h)
theorem bn {id:Nat} {ops:Array Oper} (h:VL P E ops ops.toList st (fun s=>Q .normal s)):VD P E (.region id ops false) st Q:=agb h
theorem tJ {ops:Array Oper} {o:Oper} {r:List Oper} {K:St→Prop} (hg:o.guard=none) (h:Vo P E o st fun s=>VL P E ops r s K):VL P E ops (o::r) st K:=by
 unfold VL;refine ⟨st,Vv.refl E st,?_⟩;rw [hg];exact h
theorem ZO {ops:Array Oper} {o:Oper} {r:List Oper} {K:St→Prop} {j t:Nat} {want:Bool} (hg:o.guard=some (j,want)) (hj:(ops[j]?).bind (·.dst)=some t) (ht:Nat.blt t E.N=true) (he:st.env t=.v (.bool want)) (h:Vo P E o st fun s=>VL P E ops r s K):VL P E ops (o::r) st K:=by
 unfold VL;refine ⟨st,Vv.refl E st,?_⟩;rw [hg];exact ⟨t,.bool want,hj,aS ht,he,fun _=>h,fun hne=>absurd rfl hne⟩
theorem ZP {ops:Array Oper} {o:Oper} {r:List Oper} {K:St→Prop} {j t d:Nat} {want:Bool} {u:Value} (hg:o.guard=some (j,want)) (hj:(ops[j]?).bind (·.dst)=some t) (ht:Nat.blt t E.N=true) (he:st.env t=.v u) (hu:yv u≠some want) (hd:o.dst=some d) (hdN:Nat.blt d E.N=true)
  (h:VL P E ops r ⟨upd st.env d (.v undef),st.ob⟩ K):VL P E ops (o::r) st K:=by
 unfold VL;refine ⟨st,Vv.refl E st,?_⟩;rw [hg];refine ⟨t,u,hj,aS ht,he,fun h=>absurd h hu,fun _=>⟨fun d' hd'=>by rw [hd] at hd';cases hd';exact aS hdN,?_⟩⟩;rw [hd];exact h
theorem ak {ops:Array Oper} {K:St→Prop} (h:K st):VL P E ops [] st K:=⟨st,Vv.refl E st,h⟩
theorem Fp {ops:Array Oper} {l2:List Oper} {K:St→Prop} {mid:St} (h2:VL P E ops l2 mid K) (l1:List Oper):∀(st:St),VL P E ops l1 st (fun s=>Vv E s mid)→VL P E ops (l1++l2) st K:=by
 induction l1 with
 |nil=>
  rintro st ⟨s,h1,h3⟩;exact uX (h1.trans h3) h2
 |cons o r ih=>
  intro st h;rw [List.cons_append];unfold VL at h ⊢;obtain ⟨s0,hi,h⟩:=h;refine ⟨s0,hi,?_⟩
  cases hg:o.guard with
  |none=>rw [hg] at h;exact Vo.mono h (fun s hs=>ih s hs)
  |some jw=>
   rw [hg] at h;obtain ⟨t,u,h1,h2,h3,h4,h5⟩:=h;exact ⟨t,u,h1,h2,h3,fun hu=>Vo.mono (h4 hu) (fun s hs=>ih s hs),fun hu=>⟨(h5 hu).1,ih _ (h5 hu).2⟩⟩
theorem ajT {ops:Array Oper} {l:List Oper} {K:St→Prop} (n:Nat) (mid:St) (h1:VL P E ops (l.take n) st (fun s=>Vv E s mid)) (h2:VL P E ops (l.drop n) mid K):VL P E ops l st K:=by
 have:=Fp h2 (l.take n) st h1
 rwa [List.take_append_drop] at this
theorem Wi {ops:Array Oper} {l:List Oper} {K:St→Prop} (n d:Nat) (av:AV) (h1:VL P E ops (l.take n) st (fun s=>Vv E s ⟨upd st.env d av,st.ob⟩)) (h2:VL P E ops (l.drop n) ⟨upd st.env d av,st.ob⟩ K):VL P E ops l st K:=
 ajT n _ h1 h2
theorem JD {x y:Code} (mid:St) (h1:VD P E x st (ZJ (fun s=>Vv E s mid) Q)) (h2:VD P E y mid Q):VD P E (.seq x y) st Q:=by
 refine aF (h1.mono fun e s h=>?_)
 cases e with
 |normal=>exact h2.imp h
 |_=>exact h
theorem Vy {e e':Nat→AV} {o:Nat→aH} (h:∀t,e' t=.any∨e' t=e t):Vv E ⟨e,o⟩ ⟨e',o⟩:=vk ⟨h,fun _=>.inl rfl⟩
theorem akl {e e':Nat→AV} (d:Nat) (av:AV) (hd:e' d=.any) (h:∀t,e' t=.any∨e' t=e t):∀t,e' t=.any∨e' t=upd e d av t:=by
 intro t;by_cases ht:t=d
 ·subst ht;exact .inl hd
 ·rw [upd_ne _ _ ht];exact h t
theorem Vx {e e':Nat→AV} (d:Nat) (av dA:AV) (jS:dA=av) (h:∀t,e' t=.any∨e' t=e t):∀t,upd e' d dA t=.any∨upd e' d dA t=upd e d av t:=by
 intro t;by_cases ht:t=d
 ·subst ht;rw [upd_same,upd_same];exact .inr jS
 ·rw [upd_ne _ _ ht,upd_ne _ _ ht];exact h t
theorem ajU (e:Nat→AV):∀t,e t=.any∨e t=e t:=fun _=>.inr rfl
end
end Go.Lo
set_option linter.unusedVariables false
set_option linter.unusedSimpArgs false
namespace Go.Lo
def enc {α:Type} (f:α→List AV) (l:List α):List AV:=l.flatMap f
theorem jV {α:Type} (f:α→List AV) (l m:List α):enc f (l++m)=enc f l++enc f m:=by simp [enc]
theorem oL {α:Type} (f:α→List AV) (l:List α) (x:α):enc f (l++[x])=enc f l++f x:=by simp [enc]
theorem kG {α:Type} (f:α→List AV) (l:List α) (x:α):enc f (x::l)=f x++enc f l:=by simp [enc]
theorem eO {α:Type} {f:α→List AV} {s:Nat} (hf:∀x,(f x).length=s) (l:List α):(enc f l).length=l.length*s:=by
 induction l with
 |nil=>simp [enc]
 |cons a l ih=>rw [kG,List.length_append,hf,ih,List.length_cons,Nat.add_mul];omega
theorem abE {α:Type} {f:α→List AV} {s:Nat} (hf:∀x,(f x).length=s) (d:α):∀(l:List α) (i:Nat),i<l.length→(enc f l).drop (i*s)=f (l.getD i d)++(enc f l).drop ((i+1)*s):=by
 intro l
 induction l with
 |nil=>intro i h;simp at h
 |cons a l ih=>
  intro i h;rw [kG]
  cases i with
  |zero=>
   simp only [Nat.zero_mul,List.drop_zero,List.getD_cons_zero,Nat.zero_add,Nat.one_mul];rw [List.drop_append_of_le_length (by rw [hf];exact Nat.le_refl _),List.drop_of_length_le (by rw [hf];exact Nat.le_refl _),List.nil_append]
  |succ i=>
   have e1:(f a++enc f l).drop ((i+1)*s)=(enc f l).drop (i*s):=by
    rw [List.drop_append,hf,List.drop_of_length_le (by rw [hf,Nat.add_mul];omega),List.nil_append]
    congr 1
    rw [Nat.add_mul];omega
   have e2:(f a++enc f l).drop ((i+1+1)*s)=(enc f l).drop ((i+1)*s):=by
    rw [List.drop_append,hf,List.drop_of_length_le (by rw [hf,Nat.add_mul];omega),List.nil_append]
    congr 1
    rw [Nat.add_mul (i+1)];omega
   rw [e1,e2,List.getD_cons_succ];exact ih i (by simpa using h)
theorem oP {α:Type} {f:α→List AV} {s:Nat} (hf:∀x,(f x).length=s) (l:List α) (i:Nat):(enc f l).take (i*s)=enc f (l.take i):=by
 induction l generalizing i with
 |nil=>simp [enc]
 |cons a l ih=>
  cases i with
  |zero=>simp [enc]
  |succ i=>
   rw [kG,List.take_succ_cons,kG,List.take_append,hf,List.take_of_length_le (by rw [hf,Nat.add_mul];omega)];rw [show (i+1)*s-s=i*s by rw [Nat.add_mul];omega,ih]
theorem uo {α:Type} {f:α→List AV} {s:Nat} (hf:∀x,(f x).length=s) (l:List α) (i:Nat):(enc f l).drop (i*s)=enc f (l.drop i):=by
 induction l generalizing i with
 |nil=>simp [enc]
 |cons a l ih=>
  cases i with
  |zero=>simp
  |succ i=>
   rw [kG,List.drop_succ_cons,List.drop_append,hf,List.drop_of_length_le (by rw [hf,Nat.add_mul];omega),List.nil_append];rw [show (i+1)*s-s=i*s by rw [Nat.add_mul];omega,ih]
class W6 (av:AV):Prop where out:iw av
class VB (l:List AV):Prop where out:gD l
instance:W6 .any:=⟨.any⟩
instance:W6 .one:=⟨.one⟩
instance (x:Value):W6 (.v x):=⟨.v x⟩
instance (n:Nat) (cells:List AV) [h:VB cells]:W6 (.ro n cells):=⟨.ro n cells trivial h.out⟩
instance (cells:List AV) [h:VB cells]:W6 (.rp cells):=⟨.rp cells trivial h.out⟩
instance (cells:List AV) [h:VB cells]:W6 (.agg cells):=⟨.agg cells h.out⟩
instance (cells:List AV) [h:VB cells]:W6 (.Vm cells):=⟨.Vm cells h.out⟩
instance (f:FuncId) (cells:List AV) [h:VB cells]:W6 (.fn f cells):=⟨.fn f cells h.out⟩
instance:VB []:=⟨aeN⟩
instance (a:AV) (l:List AV) [h:W6 a] [k:VB l]:VB (a::l):=⟨uL h.out k.out⟩
instance (a l:List AV) [h:VB a] [k:VB l]:VB (a++l):=⟨aby h.out k.out⟩
instance (a:List AV) (n:Nat) [h:VB a]:VB (a.drop n):=⟨fun c hc=>h.out c (List.mem_of_mem_drop hc)⟩
instance (a:List AV) (n:Nat) [h:VB a]:VB (a.take n):=⟨fun c hc=>h.out c (List.mem_of_mem_take hc)⟩
instance (a:List AV) (n:Nat) (x:AV) [h:VB a] [k:W6 x]:VB (a.set n x):=⟨fun c hc=>by
 rcases List.mem_or_eq_of_mem_set hc with h1|h1
 ·exact h.out c h1
 ·rw [h1];exact k.out⟩
instance (n:Nat) (x:AV) [k:W6 x]:VB (List.replicate n x):=⟨fun c hc=>by rw [List.eq_of_mem_replicate hc];exact k.out⟩
instance {α:Type} (f:α→List AV) (l:List α) [h:∀x,VB (f x)]:VB (enc f l):=⟨fun c hc=>by
 obtain ⟨x,_,hx⟩:=List.mem_flatMap.1 hc;exact (h x).out c hx⟩
class Flat (av:AV):Prop where out:Ok (fun _=>False) False av
instance:Flat .any:=⟨.any⟩
instance:Flat .one:=⟨.one⟩
instance (x:Value):Flat (.v x):=⟨.v x⟩
class XA (l:List AV):Prop where out:∀c,c∈l→Ok (fun _=>False) False c
instance:XA []:=⟨aeN⟩
instance (a:AV) (l:List AV) [h:Flat a] [k:XA l]:XA (a::l):=⟨uL h.out k.out⟩
instance (a l:List AV) [h:XA a] [k:XA l]:XA (a++l):=⟨aby h.out k.out⟩
instance (cells:List AV) [h:XA cells]:Flat (.agg cells):=⟨.agg cells h.out⟩
instance (cells:List AV) [h:XA cells]:Flat (.Vm cells):=⟨.Vm cells h.out⟩
instance {α:Type} (f:α→List AV) (l:List α) [h:∀x,XA (f x)]:XA (enc f l):=⟨fun c hc=>by
 obtain ⟨x,_,hx⟩:=List.mem_flatMap.1 hc;exact (h x).out c hx⟩
section
variable {P:Program} {E:VC} {st:St} {K:St→Prop}
theorem aaw {o:Oper} {t e:TypeId} {x ix:Operand} {d n sz k:Nat} {kk:IntKind} {α:Type} {f:α→List AV} {l:List α} (df:α) (ho:o.op=.indexAddr t x ix) (hd:o.dst=some d) (hN:(aT E.N x&&aT E.N ix&&Nat.blt d E.N)=true)
  (ht:P.underlying t=some (.slice e)) (hsz:(P.info? e).map (·.size)=some sz) (hx:aO st.env x=.ro n (enc f l)) (hi:aO st.env ix=.v (.int kk (k:Int))) (hf:∀x,(f x).length=sz) (hn:n=l.length) (h1:k<l.length)
  (h:K ⟨upd st.env d (.rp (f (l.getD k df)++(enc f l).drop ((k+1)*sz))),st.ob⟩):Vo P E o st K:=by
 subst hn;refine qI ho hd hN ht hsz hx rfl hi (by omega) (by omega) ?_ h;simp only [qz,Int.toNat_natCast];rw [abE hf df l k h1]
theorem Wo {o:Oper} {t e:TypeId} {x ix:Operand} {d n sz:Nat} {i:Int} {kk:IntKind} {α:Type} {f:α→List AV} {l:List α} (df:α) (ho:o.op=.indexAddr t x ix) (hd:o.dst=some d) (hN:(aT E.N x&&aT E.N ix&&Nat.blt d E.N)=true)
  (ht:P.underlying t=some (.slice e)) (hsz:(P.info? e).map (·.size)=some sz) (hx:aO st.env x=.ro n (enc f l)) (hi:aO st.env ix=.v (.int kk i)) (hf:∀x,(f x).length=sz) (hn:n=l.length) (h0:0≤i) (h1:i<l.length)
  (h:K ⟨upd st.env d (.rp (f (l.getD i.toNat df)++(enc f l).drop ((i.toNat+1)*sz))),st.ob⟩):Vo P E o st K:=by
 subst hn;refine qI ho hd hN ht hsz hx rfl hi h0 h1 ?_ h;simp only [qz];rw [abE hf df l i.toNat (by omega)]
theorem gY {a b:Bool} (h:(a&&b)=true):a=true∧b=true:=by cases a<;>cases b<;>simp_all
theorem XB {a b:Bool} (h:(a||b)=false):a=false∧b=false:=by cases a<;>cases b<;>simp_all
theorem kP {a:Bool} (h:(!a)=true):a=false:=by cases a<;>simp_all
theorem Xz {a:Bool} (h:(!a)=false):a=true:=by cases a<;>simp_all
theorem XO {a b:Int} (h: -9223372036854775808≤a+b∧a+b≤9223372036854775807):Xv .i64 .add a b=.int .i64 (a+b):=by
 simp only [Xv];rw [IntWalk.i64_in _ h]
theorem addN {k:Nat} (h:k+1≤9223372036854775807):Xv .i64 .add (k:Int) 1=.int .i64 ((k+1:Nat):Int):=by
 simp only [Xv];rw [IntWalk.i64_in _ (by omega)];rfl
theorem mE {a b:Int} (h: -9223372036854775808≤a-b∧a-b≤9223372036854775807):Xv .i64 .sub a b=.int .i64 (a-b):=by
 simp only [Xv];rw [IntWalk.i64_in _ h]
theorem adF {a b:Int} (h: -9223372036854775808≤a*b∧a*b≤9223372036854775807):Xv .i64 .mul a b=.int .i64 (a*b):=by
 simp only [Xv];rw [IntWalk.i64_in _ h]
theorem fV {k:IntKind} {a b:Int} (h:0≤a):Xv k .rem a b=.int k (a % b):=by
 simp only [Xv];rw [Int.tmod_eq_emod_of_nonneg h]
theorem XG {o:Oper} {s t:TypeId} {x:Operand} {d:Nat} {k k':IntKind} {n n':Int} (ho:o.op=.convert s t x) (hd:o.dst=some d) (hN:(aT E.N x&&Nat.blt d E.N)=true)
  (hs0:P.underlying s=some (.int k')) (ht:P.underlying t=some (.int k)) (hx:aO st.env x=.v (.int k' n)) (hw:k.wrap n=n') (h:K ⟨upd st.env d (.v (.int k n')),st.ob⟩):Vo P E o st K:=by
 subst hw;exact ajp ho hd hN hs0 ht hx h
theorem fF {o:Oper} {c x y:Operand} {d:Nat} {b:Bool} {av:AV} (ho:o.op=.pick c x y) (hd:o.dst=some d) (hN:(aT E.N c&&aT E.N x&&aT E.N y&&Nat.blt d E.N)=true)
  (hc:aO st.env c=.v (.bool b)) (hr:cond b (aO st.env x) (aO st.env y)=av) (h:K ⟨upd st.env d av,st.ob⟩):Vo P E o st K:=by
 simp only [Bool.and_eq_true] at hN;refine W4 av (fun d' hd'=>by rw [hd] at hd';cases hd';exact aS hN.2) (fun a w C hs=>?_) (by rw [hd];exact h);have h1:=hs.ev c hN.1.1.1;rw [hc] at h1;subst hr
 cases b with
 |true=>exact ⟨a.eval x,by simp [execOp,ho,h1.dM,asBool],hs.ev x hN.1.1.2⟩
 |false=>exact ⟨a.eval y,by simp [execOp,ho,h1.dM,asBool],hs.ev y hN.1.2⟩
theorem Yd {o:Oper} {t:TypeId} {x:Operand} {d:Nat} {p av:AV} {rest:List AV} (ho:o.op=.load t x) (hd:o.dst=some d) (hN:(aT E.N x&&Nat.blt d E.N)=true)
  (hb:V0 P t=some false) (hx:aO st.env x=p) (hp:aB st.ob p=some (av::rest)) (h:K ⟨upd st.env d av,st.ob⟩):Vo P E o st K:=ajO ho hd hN hb (by rw [hx];exact hp) h
theorem AQ {o:Oper} {t:TypeId} {x:Operand} {d s:Nat} {p:AV} {cells cells':List AV} (ho:o.op=.load t x) (hd:o.dst=some d) (hN:(aT E.N x&&Nat.blt d E.N)=true)
  (hb:V0 P t=some true) (hsz:(P.info? t).map (·.size)=some s) (hx:aO st.env x=p) (hp:aB st.ob p=some cells) (hl:s≤cells.length) (hc':cells.take s=cells') (h:K ⟨upd st.env d (.agg cells'),st.ob⟩):Vo P E o st K:=
 ai_ ho hd hN hb hsz (by rw [hx];exact hp) hl hc' h
theorem call_ {o:Oper} {c:Call} {bZ:Operand} {args:List Operand} {tys:Array TypeId} {f d:Nat} {caps bU:List AV} {res:AV} (hF:Fn P f bU res)
  (ho:o.op=.call c) (hc:c={ callee:=.value bZ,args:=args.toArray,argTypes:=tys }) (hd:o.dst=some d) (hN:(aT E.N bZ&&args.all (aT E.N)&&Nat.blt d E.N)=true)
  (dQ:aO st.env bZ=.fn f caps) (hb:Vp P f=true) (ha:args.map (aO st.env)++caps=bU) [hno:VB bU] [hres:W6 res]
  (h:K ⟨upd st.env d res,st.ob⟩):Vo P E o st K:=ajP ho hc hd hN dQ hb ha hno.out hF hres.out h
theorem f_ {o:Oper} {c:Call} {bZ:Operand} {args:List Operand} {tys:Array TypeId} {f d:Nat} {caps bU:List AV} {res:AV} (hF:Fn P f bU res)
  (ho:o.op=.call c) (hc:c={ callee:=.value bZ,args:=args.toArray,argTypes:=tys }) (hd:o.dst=some d) (hN:(aT E.N bZ&&args.all (aT E.N)&&Nat.blt d E.N)=true)
  (dQ:aO st.env bZ=.fn f caps) (hb:Vp P f=true) (hl:dV st.ob (args.map (aO st.env)++caps) bU) [hres:Flat res]
  (h:K ⟨upd st.env d res,st.ob⟩):Vo P E o st K:=ajq ho hc hd hN dQ hb hl hF hres.out h
theorem dF {ob:Nat→aH} {av:AV} [h:W6 av]:VN ob av av:=.same av h.out
theorem W8 {ob:Nat→aH} {id n:Nat} {o:aC} (hl:ob id=.live o) (hlen:o.cells.length=n*o.bC) [h:VB o.cells]:VN ob (.sl id 0 n) (.ro n o.cells):=ads hl hlen h.out
theorem bg {ts:List Nat} {N:Nat} {s:St} {av res:AV} (hN:(ts.all fun t=>Nat.blt t N)=true) (hr:Yh (ts.map s.env)=av) (jS:av=res) [hno:W6 res]:aa7 ts (fun r n=>r=res∧n=[]) N s:=
 Ni hN (hr.trans jS) hno.out ⟨rfl,rfl⟩
theorem iK {t N n:Nat} {s:St} {m:Nat} {o o':aC} (id:Nat) (hN:Nat.blt t N=true) (hr:s.env t=.sl id 0 n) (hl:s.ob id=.live o) (hn:n=m) (ho:o=o') [hno:VB o.cells]:aa7 [t] (fun r ns=>r=.sl 0 0 m∧ns=[o']) N s:=by
 subst hn;subst ho;exact ag1 id o (by simpa using hN) (by simp [Yh,hr,AV.map,ix]) (by simp only [List.map_cons,List.map_nil,Yh,hr];exact .sl _ _ _ (by simp)) hl hno.out ⟨rfl,rfl⟩
end
end Go.Lo
set_option linter.unusedVariables false
set_option linter.unusedSimpArgs false
namespace Go.Lo
theorem akm {α:Type} {f:α→List AV} {s:Nat} (hf:∀x,(f x).length=s):∀(l:List α) (k:Nat) (v:α),k<l.length→spl (enc f l) (k*s) (f v)=enc f (l.set k v):=by
 intro l k v hk;have h1:l.set k v=l.take k++v::l.drop (k+1):=List.set_eq_take_append_cons_drop.trans (if_pos hk);rw [h1,jV,kG];unfold spl;rw [hf,oP hf,show k*s+s=(k+1)*s by rw [Nat.add_mul];omega,uo hf,List.append_assoc]
theorem WH {α:Type} {f:α→List AV} {s:Nat} {l:List α} {n:Nat} (hf:∀x,(f x).length=s) (hn:n=l.length):(enc f l).length=n*s:=by rw [hn,eO hf]
theorem ajV {α:Type} {f:α→List AV} {s:Nat} (hf:∀x,(f x).length=s) (d:α) {l:List α} {k:Nat} (hk:k<l.length) {a:AV} {r:List AV} (h:f (l.getD k d)=a::r):(enc f l).drop (k*s)=a::(r++(enc f l).drop ((k+1)*s)):=by
 rw [abE hf d l k hk,h];rfl
section
variable {P:Program} {E:VC} {st:St} {K:St→Prop}
theorem ny {o:Oper} {t:TypeId} {x:Operand} {d s:Nat} {p:AV} {cells cells':List AV} (ho:o.op=.load t x) (hd:o.dst=some d) (hN:(aT E.N x&&Nat.blt d E.N)=true)
  (hb:V0 P t=some true) (hsz:(P.info? t).map (·.size)=some s) (hx:aO st.env x=p) (hp:aB st.ob p=some cells) (hc':cells.take s=cells') (hl:cells'.length=s) (h:K ⟨upd st.env d (.agg cells'),st.ob⟩):Vo P E o st K:=by
 refine AQ ho hd hN hb hsz hx hp ?_ hc' h;have:=List.length_take (i:=s) (l:=cells);rw [hc',hl] at this;omega
theorem iJ {o:Oper} {t e:TypeId} {x ix:Operand} {d n sz id k:Nat} {kk:IntKind} (ho:o.op=.indexAddr t x ix) (hd:o.dst=some d) (hN:(aT E.N x&&aT E.N ix&&Nat.blt d E.N)=true)
  (ht:P.underlying t=some (.slice e)) (hsz:(P.info? e).map (·.size)=some sz) (hx:aO st.env x=.sl id 0 n) (hi:aO st.env ix=.v (.int kk (k:Int))) (h1:k<n)
  (h:K ⟨upd st.env d (.pt id (k*sz)),st.ob⟩):Vo P E o st K:=by
 refine qI ho hd hN ht hsz hx rfl hi (by omega) (by omega) ?_ h;simp [qz]
theorem aac {o:Oper} {t e:TypeId} {x ix:Operand} {d n sz id:Nat} {i:Int} {kk:IntKind} (ho:o.op=.indexAddr t x ix) (hd:o.dst=some d) (hN:(aT E.N x&&aT E.N ix&&Nat.blt d E.N)=true)
  (ht:P.underlying t=some (.slice e)) (hsz:(P.info? e).map (·.size)=some sz) (hx:aO st.env x=.sl id 0 n) (hi:aO st.env ix=.v (.int kk i)) (h0:0≤i) (h1:i<n)
  (h:K ⟨upd st.env d (.pt id (i.toNat*sz)),st.ob⟩):Vo P E o st K:=by
 refine qI ho hd hN ht hsz hx rfl hi h0 h1 ?_ h;simp [qz]
theorem oW {o:Oper} {t:TypeId} {x:Operand} {d id k s:Nat} {α:Type} {f:α→List AV} {l:List α} {ob:aC} {av:AV} {r:List AV} (df:α) (ho:o.op=.load t x) (hd:o.dst=some d) (hN:(aT E.N x&&Nat.blt d E.N)=true)
  (hb:V0 P t=some false) (hx:aO st.env x=.pt id (k*s)) (hl:st.ob id=.live ob) (hc:ob.cells=enc f l) (hf:∀x,(f x).length=s) (hk:k<l.length) (jS:f (l.getD k df)=av::r) (h:K ⟨upd st.env d av,st.ob⟩):Vo P E o st K:=by
 refine Yd (rest:=r++(enc f l).drop ((k+1)*s)) ho hd hN hb hx ?_ h;simp only [aB,hl,hc];rw [ajV hf df hk jS]
theorem uz {o:Oper} {t:TypeId} {x:Operand} {d id k s:Nat} {α:Type} {f:α→List AV} {l:List α} {ob:aC} {cells':List AV} (df:α) (ho:o.op=.load t x) (hd:o.dst=some d) (hN:(aT E.N x&&Nat.blt d E.N)=true)
  (hb:V0 P t=some true) (hsz:(P.info? t).map (·.size)=some s) (hx:aO st.env x=.pt id (k*s)) (hl:st.ob id=.live ob) (hc:ob.cells=enc f l) (hf:∀x,(f x).length=s) (hk:k<l.length) (jS:f (l.getD k df)=cells') (h:K ⟨upd st.env d (.agg cells'),st.ob⟩):Vo P E o st K:=by
 refine AQ (cells:=(enc f l).drop (k*s)) ho hd hN hb hsz hx ?_ ?_ ?_ h
 ·simp only [aB,hl,hc]
 ·rw [abE hf df l k hk,List.length_append,hf];omega
 ·rw [abE hf df l k hk,List.take_append_of_le_length (by rw [hf];exact Nat.le_refl _),List.take_of_length_le (by rw [hf];exact Nat.le_refl _)];exact jS
theorem l9 {o:Oper} {t:TypeId} {x y:Operand} {id k s:Nat} {av:AV} {α:Type} {f:α→List AV} {l l':List α} {ob:aC} (v:α) (ho:o.op=.store t x y) (hd:o.dst=none) (hN:(aT E.N x&&aT E.N y)=true)
  (hsz:(P.info? t).map (·.size)=some s) (hx:aO st.env x=.pt id (k*s)) (hl:st.ob id=.live ob) (hc:ob.cells=enc f l) (hy:aO st.env y=av) (hcv:XN av=some (f v)) (hf:∀x,(f x).length=s) (hk:k<l.length) (h1:(f v).all je=true)
  (hl':l.set k v=l') (h:K ⟨st.env,U4 st.ob id (.live ⟨enc f l',ob.elem,ob.bC⟩)⟩):Vo P E o st K:=by
 subst hl';refine Z_ ho hd hN hsz hx hl hy hcv (hf v) ?_ h1 ?_ h
 ·have:=eO hf l;rw [hc,this];have h2:(k+1)*s≤l.length*s:=Nat.mul_le_mul_right s hk;rw [Nat.add_mul] at h2;omega
 ·rw [hc,akm hf l k v hk]
theorem gU {o:Oper} {c:Call} {t e:TypeId} {s x:Operand} {d id n size bytes:Nat} {z:Value} {ob:aC} {cells:List AV} {α:Type} {f:α→List AV} {l:List α} (id':Nat) (v:α) (ho:o.op=.call c) (hc:c={ callee:=.builtin .append,args:= #[s,x],argTypes:= #[t,t] }) (hd:o.dst=some d)
  (hN:(aT E.N s&&aT E.N x&&Nat.blt d E.N)=true) (ht:P.underlying t=some (.slice e)) (hinfo:(P.info? e).map (fun i=>(i.zero,i.size,i.bytes))=some (some z,size,bytes)) (hzs:z.cells.size=size) (hsz:0<size)
  (hs0:aO st.env s=.sl id 0 n) (hl:st.ob id=.live ob) (hoe:ob.elem=e) (hoz:ob.bC=size) (hcl:ob.cells=enc f l) (hn:n=l.length) (hfs:∀x,(f x).length=size) (hx0:aO st.env x=.ro 1 cells) (hcv:cells=f v)
  (hb:(l.length+1)*bytes≤140737488355328) (hb0:l.length+1≤140737488355328) (hf:st.ob id'=.free) (h:K ⟨upd st.env d (.sl id' 0 (l++[v]).length),U4 (U4 st.ob id .dead) id' (.live ⟨enc f (l++[v]),e,size⟩)⟩):Vo P E o st K:=by
 subst hn;subst hcv;rw [List.length_append] at h;exact PG id' ho hc hd hN ht hinfo hzs hsz hs0 hl hoe hoz (by rw [hcl,eO hfs]) hx0 (by rw [hfs];omega) hb hb0 hf (by rw [hcl,oL]) h
theorem kF {o:Oper} {c:Call} {t e:TypeId} {s x:Operand} {d id n m size bytes:Nat} {z:Value} {ob:aC} {cells:List AV} {α:Type} {f:α→List AV} {l l2:List α} (id':Nat) (ho:o.op=.call c) (hc:c={ callee:=.builtin .append,args:= #[s,x],argTypes:= #[t,t] }) (hd:o.dst=some d)
  (hN:(aT E.N s&&aT E.N x&&Nat.blt d E.N)=true) (ht:P.underlying t=some (.slice e)) (hinfo:(P.info? e).map (fun i=>(i.zero,i.size,i.bytes))=some (some z,size,bytes)) (hzs:z.cells.size=size) (hsz:0<size)
  (hs0:aO st.env s=.sl id 0 n) (hl:st.ob id=.live ob) (hoe:ob.elem=e) (hoz:ob.bC=size) (hcl:ob.cells=enc f l) (hn:n=l.length) (hfs:∀x,(f x).length=size) (hx0:aO st.env x=.ro m cells) (hcv:cells=enc f l2) (hm:m=l2.length)
  (hb:(l.length+l2.length)*bytes≤140737488355328) (hb0:l.length+l2.length≤140737488355328) (hf:st.ob id'=.free) (h:K ⟨upd st.env d (.sl id' 0 (l++l2).length),U4 (U4 st.ob id .dead) id' (.live ⟨enc f (l++l2),e,size⟩)⟩):Vo P E o st K:=by
 subst hn;subst hcv;subst hm;rw [List.length_append] at h;exact PG id' ho hc hd hN ht hinfo hzs hsz hs0 hl hoe hoz (by rw [hcl,eO hfs]) hx0 (by rw [eO hfs]) hb hb0 hf (by rw [hcl,jV]) h
theorem agB {α:Type} {f:α→List AV} (n:Nat) (v:α) (a:AV) (h:f v=[a]):enc f (List.replicate n v)=List.replicate n a:=by
 induction n with
 |zero=>rfl
 |succ n ih=>rw [List.replicate_succ,List.replicate_succ,kG,ih,h];rfl
theorem oH {o:Oper} {t e bytes d n:Nat} {x y:Operand} {z:Value} {k k':IntKind} {m:Int} {α:Type} {f:α→List AV} (id:Nat) (v:α) (ho:o.op=.makeSlice t x y) (hd:o.dst=some d) (hN:(aT E.N x&&aT E.N y&&Nat.blt d E.N)=true)
  (ht:P.underlying t=some (.slice e)) (hinfo:(P.info? e).map (fun i=>(i.zero,i.size,i.bytes))=some (some z,1,bytes)) (hz1:z.oneCell'=true) (hx:aO st.env x=.v (.int k m)) (hy:aO st.env y=.v (.int k' m)) (hm:m=(n:Int)) (hnn:n≤281474976710656) (hb:bytes*n≤281474976710656) (hfree:st.ob id=.free) (hv:f v=[.v z])
  (h:K ⟨upd st.env d (.sl id 0 (List.replicate n v).length),U4 st.ob id (.live ⟨enc f (List.replicate n v),e,1⟩)⟩):Vo P E o st K:=by
 rw [List.length_replicate,agB n v _ hv] at h;exact ajS id ho hd hN ht hinfo hz1 hx hy hm hnn hb hfree h
theorem jB {o:Oper} {c:Call} {bZ:Operand} {args:List Operand} {tys:Array TypeId} {f d:Nat} {caps bU:List AV} {res res':AV} {news news':List aC} (s:Nat) (hF:Yr P f bU res news)
  (ho:o.op=.call c) (hc:c={ callee:=.value bZ,args:=args.toArray,argTypes:=tys }) (hd:o.dst=some d) (hN:(aT E.N bZ&&args.all (aT E.N)&&Nat.blt d E.N)=true)
  (dQ:aO st.env bZ=.fn f caps) (hb:Vp P f=true) (hl:dV st.ob (args.map (aO st.env)++caps) bU) (hro:Ok (fun _=>True) False res) (hno:∀o,o∈news→∀c,c∈o.cells→Ok (fun _=>False) False c)
  (hfree:∀i,i<news.length→st.ob (s+i)=.free) (hres:res.map (· +s)=res') (hnews:news=news')
  (h:K ⟨upd st.env d res',Wc st.ob s news'⟩):Vo P E o st K:=by
 refine zH (news':=news') s true ho hc hd hN dQ hb hl (fun h=>by cases h) hF (fun _=>⟨hro,fun o ho c hc=>(hno o ho c hc).mono (fun _ h=>h.elim) id⟩) hfree hres ?_ h;subst hnews;rw [List.map_congr_left (g:=id) (fun o ho=>?_),List.map_id];have:AV.V4 (· +s) o.cells=o.cells:=oI fun c hc=>(hno o ho c hc).mono (fun _ h=>h) (fun h=>h.elim);show aC.mk _ _ _=o;rw [this]
theorem jF:∀o:aC,o∈([]:List aC)→∀c,c∈o.cells→Ok (fun _=>False) False c:=fun _ h=>by cases h
theorem jE {o:aC} {l:List aC} [h:XA o.cells] (k:∀o:aC,o∈l→∀c,c∈o.cells→Ok (fun _=>False) False c):∀o':aC,o'∈o::l→∀c,c∈o'.cells→Ok (fun _=>False) False c:=fun o' ho=>by
 rcases List.mem_cons.1 ho with rfl|ho
 ·exact h.out
 ·exact k o' ho
theorem ajW {ob:Nat→aH}:VN ob (.v (.slice none 0 0)) (.ro 0 []):=.nil
theorem iM {s:Nat} {ob:Nat→aH} (h:ob s=.free):∀i,i<1→ob (s+i)=.free:=fun i hi=>by
 have:i=0:=by omega
 subst this;exact h
end
end Go.Lo
