/- Part of the logic of values: what the law reaches. -/
import Derived.Test.YtdeajfldegcdaaaGreatPFnApm1
set_option linter.unusedVariables false
set_option linter.unusedSimpArgs false
namespace Go.Lo
section
variable {P:Program} {E:VC} {st:St} {K:St→Prop}
def XN:AV→Option (List AV)
 | .agg cs=>some cs
 | .v x=>some (x.cells.toList.map .v)
 | .any=>none
 | .Vm _=>none
 |av=>some [av]
def je:AV→Bool
 | .v x=>x.oneCell'
 | .any=>false
 | .Vm _=>false
 | .agg _=>false
 |_=>true
theorem rV {w:World} {C:Ctx} {av:AV} {u:Value} (h:R w C av u) (h1:je av=true):u.oneCell'=true:=by
 cases h with
 |one _ h=>exact h
 |v x=>exact h1
 |any|agg|Vm=>simp [je] at h1
 |_=>rfl
theorem cells_one {u:Value} (h:u.oneCell'=true):u.cells= #[u]:=by
 cases u<;>simp_all [Value.cells,Value.oneCell']
theorem aeM {w:World} {C:Ctx} {av:AV} {u:Value} (h:R w C av u) {cs:List AV} (hc:XN av=some cs):u.cells.size=cs.length∧∀j c,cs[j]? =some c→R w C c (u.cells.getD j undef):=by
 have single:∀{av:AV} {u:Value},R w C av u→u.cells= #[u]→[av]=cs→u.cells.size=cs.length∧∀j c,cs[j]? =some c→R w C c (u.cells.getD j undef):=by
  intro av u h hu hcs;subst hcs;refine ⟨by simp [hu],fun j c hj=>?_⟩
  cases j with
  |zero=>simp at hj;subst hj;simpa [hu] using h
  |succ j=>simp at hj
 cases h with
 |any=>simp [XN] at hc
 |one u h1=>exact single (.one u h1) (cells_one h1) (by simpa [XN] using hc)
 |v x=>
  simp only [XN,Option.some.injEq] at hc;subst hc;refine ⟨by simp,fun j c hj=>?_⟩;rw [List.getElem?_map,Option.map_eq_some_iff] at hj;obtain ⟨y,hy,rfl⟩:=hj
  have:u.cells.getD j undef=y:=by
   simp at hy;simp [hy]
  rw [this];exact .v y
 |agg cells us hs hrel=>
  simp only [XN,Option.some.injEq] at hc;subst hc;exact ⟨hs,hrel⟩
 |Vm=>simp [XN] at hc
 |ro n c A cells us hc' hm h0 hcell hrel=>exact single (.ro n c A cells us hc' hm h0 hcell hrel) rfl (by simpa [XN] using hc)
 |rp ad cells us hcell hrel=>exact single (.rp ad cells us hcell hrel) rfl (by simpa [XN] using hc)
 |sl id off n c b hd hb hn hm hs=>exact single (.sl id off n c b hd hb hn hm hs) rfl (by simpa [XN] using hc)
 |slnil id hd hb=>exact single (.slnil id hd hb) rfl (by simpa [XN] using hc)
 |pt id off b hd hb=>exact single (.pt id off b hd hb) rfl (by simpa [XN] using hc)
 |fn f cells us hs hrel=>exact single (.fn f cells us hs hrel) rfl (by simpa [XN] using hc)
def Ctx.add (C:Ctx) (id:Nat) (b:Option Nat) (s z:Nat):Ctx where
 blk:=fun i=>if i=id then b else C.blk i
 sz:=fun i=>if i=id then s else C.sz i
 bC:=fun i=>if i=id then z else C.bC i
 dom:=fun i=>i=id∨C.dom i
 own:=fun x=>some x=b∨C.own x
theorem Ext.add {w w':World} {C:Ctx} {id s z:Nat} {b:Option Nat} (hd:¬C.dom id) (hb:∀x,b=some x→w.heap.size≤x∨C.own x) (hh:∀x,x<w.heap.size→¬C.own x→w'.heap[x]? =w.heap[x]?):
  Ext w C w' (C.add id b s z) where
 dom:=fun i hi=>by
  have hne:i≠id:=fun e=>hd (e▸hi);simp [Ctx.add,hne,hi]
 own:=fun x hx ho=>by
  simp only [Ctx.add];rintro (h|h)
  ·rcases hb x h.symm with h1|h1
   ·omega
   ·exact ho h1
  ·exact ho h
 heap:=hh
theorem SR.new {C:Ctx} {a:Act} {w:World} (hs:SR E C st a w) (id:Nat) (hf:st.ob id=.free) (o:aC) (cur:Array Value) (hl:o.cells.length≤cur.size)
  (hc:∀(j:Nat) (av:AV),o.cells[j]? =some av→∃u:Value,cur[j]? =some u∧u.oneCell'=true∧R w C av u) (dst:Option Nat) (hd:∀d,dst=some d→d<E.N) (av:AV) (u:Value)
  (hu:dst≠none→R (w.alloc (.cells cur o.elem)) (C.add id (some w.heap.size) cur.size o.bC) av u):
  SR E (C.add id (some w.heap.size) cur.size o.bC) (St.put ⟨st.env,U4 st.ob id (.live o)⟩ dst av) (a.put dst u) (w.alloc (.cells cur o.elem)):=by
 have hdom:¬C.dom id:=fun h=>hs.obj.dom id h hf
 have hext:Ext w C (w.alloc (.cells cur o.elem)) (C.add id (some w.heap.size) cur.size o.bC):=
  Ext.add hdom (fun x hx=>by cases hx;exact .inl (Nat.le_refl _)) (fun x hx _=>heap_alloc_old w _ x hx)
 have hlive:∀id' o',U4 st.ob id (.live o) id'=.live o'→(id'=id∧o'=o)∨(id'≠id∧st.ob id'=.live o'):=fun id' o' h=>by
  by_cases he:id'=id
  ·subst he;rw [V9] at h;cases h;exact .inl ⟨rfl,rfl⟩
  ·rw [VX _ _ he] at h;exact .inr ⟨he,h⟩
 refine hs.put hext _ ⟨fun id' o' h=>?_,fun id' o' b h hb=>?_,fun i i' o1 o2 b h1 h2 h3 h4=>?_,fun i hi=>?_,fun b hb=>?_⟩ ⟨hs.fr.os,hs.fr.tape,hs.fr.output,?_,fun b hb hg=>?_⟩ (fun id' o' b h hb=>?_) (fun b hb=>.inr (hs.keep b hb)) (fun b hb ho=>?_) dst hd av u hu
 ·rcases hlive id' o' h with ⟨rfl,rfl⟩|⟨hne,h'⟩
  ·simp [Ctx.add]
  ·obtain ⟨h1,h2,h3⟩:=hs.obj.nil id' o' h';simp [Ctx.add,hne,h1,h2,h3];exact h3
 ·rcases hlive id' o' h with ⟨rfl,rfl⟩|⟨hne,h'⟩
  ·simp only [Ctx.add,if_true,Option.some.injEq] at hb;subst hb;refine ⟨.inl rfl,cur,heap_alloc_new w _,by simp [Ctx.add],hl,fun j av hj=>?_⟩;obtain ⟨x,hx,h1,hr⟩:=hc j av hj;exact ⟨x,hx,h1,hr.ext hext⟩
  ·simp only [Ctx.add,hne,if_false] at hb;obtain ⟨h1,cur',h2,h3,h4,h5⟩:=hs.obj.live id' o' b h' hb;have hlt:=hs.obj.bnd b h1;refine ⟨.inr h1,cur',(heap_alloc_old w _ b hlt).trans h2,by simp [Ctx.add,hne,h3],h4,fun j av hj=>?_⟩;obtain ⟨x,hx,h6,hr⟩:=h5 j av hj;exact ⟨x,hx,h6,hr.ext hext⟩
 ·have old:∀i o b,st.ob i=.live o→C.blk i=some b→b<w.heap.size:=fun i o b h1 h2=>hs.obj.bnd b (hs.obj.live i o b h1 h2).1;rcases hlive i o1 h1 with ⟨rfl,rfl⟩|⟨hne,h1'⟩<;>rcases hlive i' o2 h2 with ⟨rfl,rfl⟩|⟨hne',h2'⟩
  ·rfl
  ·simp only [Ctx.add,if_true,Option.some.injEq] at h3;simp only [Ctx.add,hne',if_false] at h4;have:=old i' o2 b h2' h4;omega
  ·simp only [Ctx.add,if_true,Option.some.injEq] at h4;simp only [Ctx.add,hne,if_false] at h3;have:=old i o1 b h1' h3;omega
  ·simp only [Ctx.add,hne,if_false] at h3;simp only [Ctx.add,hne',if_false] at h4;exact hs.obj.inj i i' o1 o2 b h1' h2' h3 h4
 ·by_cases he:i=id
  ·subst he;rw [V9];intro h;cases h
  ·rw [VX _ _ he];rcases hi with hi|hi
   ·exact absurd hi he
   ·exact hs.obj.dom i hi
 ·have hsz:(w.alloc (.cells cur o.elem)).heap.size=w.heap.size+1:=by simp
  rcases hb with hb|hb
  ·cases hb;omega
  ·have:=hs.obj.bnd b hb;omega
 ·have:=hs.fr.size;simp;omega
 ·have:=hs.fr.size;exact (heap_alloc_old w _ b (by omega)).trans (hs.fr.block b hb hg)
 ·rcases hlive id' o' h with ⟨rfl,rfl⟩|⟨hne,h'⟩
  ·simp only [Ctx.add,if_true,Option.some.injEq] at hb;subst hb;exact .inl hs.fr.size
  ·simp only [Ctx.add,hne,if_false] at hb;exact hs.fresh id' o' b h' hb
 ·rcases ho with ho|ho
  ·cases ho;have:=hs.fr.size;omega
  ·exact hs.WE b hb ho
theorem SR.akE {C:Ctx} {a:Act} {w:World} (hs:SR E C st a w) (ob:Obj) (dst:Option Nat) (hd:∀d,dst=some d→d<E.N) (av:AV) (u:Value)
  (hu:dst≠none→R (w.alloc ob) C av u):SR E C (St.put ⟨st.env,st.ob⟩ dst av) (a.put dst u) (w.alloc ob):=by
 have hext:Ext w C (w.alloc ob) C:=⟨fun _ h=>⟨h,rfl,rfl,rfl⟩,fun _ _ h=>h,fun x hx _=>heap_alloc_old w _ x hx⟩
 have hsz:(w.alloc ob).heap.size=w.heap.size+1:=by simp
 refine hs.put hext st.ob ⟨hs.obj.nil,fun id o b h hb=>?_,hs.obj.inj,hs.obj.dom,fun b hb=>?_⟩ ⟨hs.fr.os,hs.fr.tape,hs.fr.output,?_,fun b hb hg=>?_⟩ hs.fresh hs.keep hs.WE dst hd av u hu
 ·obtain ⟨h1,cur',h2,h3,h4,h5⟩:=hs.obj.live id o b h hb;refine ⟨h1,cur',(heap_alloc_old w _ b (hs.obj.bnd b h1)).trans h2,h3,h4,fun j av hj=>?_⟩;obtain ⟨x,hx,h6,hr⟩:=h5 j av hj;exact ⟨x,hx,h6,hr.ext hext⟩
 ·have:=hs.obj.bnd b hb;omega
 ·have:=hs.fr.size;omega
 ·have:=hs.fr.size;exact (heap_alloc_old w _ b (by omega)).trans (hs.fr.block b hb hg)
theorem AA {o:Oper} {t:TypeId} {x:Operand} {d:Nat} {av:AV} {cs:List AV} (id:Nat) (ho:o.op=.box t x) (hd:o.dst=some d) (hN:(aT E.N x&&Nat.blt d E.N)=true) (hf:st.ob id=.free)
  (hx:aO st.env x=av) (hc:XN av=some cs) (h1:cs.all je=true) (h:K ⟨upd st.env d (.pt id 0),U4 st.ob id (.live ⟨cs,t,1⟩)⟩):Vo P E o st K:=by
 simp only [Bool.and_eq_true] at hN;rintro a w q ⟨C,hs⟩;have hr:=hs.ev x hN.1;rw [hx] at hr;obtain ⟨hsz,hrel⟩:=aeM hr hc
 have hrun:(execOp a.eval o).run P w=.ok (.value (.pointer (some ⟨w.heap.size,0,none⟩))) (w.alloc (.cells (a.eval x).cells t)):=by
  simp [execOp,ho,Instr.box,newVar,newRow]
 have hnew:=hs.new id hf ⟨cs,t,1⟩ (a.eval x).cells (by simp [hsz]) (fun j c hj=>by
  have hlt:j<cs.length:=(List.getElem?_eq_some_iff.1 hj).1;have hlt':j<(a.eval x).cells.size:=by omega
  refine ⟨(a.eval x).cells[j],by simp [hlt'],?_,?_⟩
  ·have:=rV (hrel j c hj) (List.all_eq_true.1 h1 c (List.mem_of_getElem? hj));simpa [hlt'] using this
  ·have:=hrel j c hj;simpa [hlt'] using this) o.dst (fun d' hd'=>by rw [hd] at hd';cases hd';exact aS hN.2) (.pt id 0) (.pointer (some ⟨w.heap.size,0,none⟩)) (fun _=>.pt id 0 _ (.inl rfl) (by simp [Ctx.add]))
 unfold Oper.wp;rw [hrun];refine ⟨_,⟨_,hnew⟩,?_⟩;rw [hd];exact h
theorem WW {o:Oper} {t:TypeId} {d:Nat} {z:Value} (id:Nat) (ho:o.op=.alloc t) (hd:o.dst=some d) (hN:Nat.blt d E.N=true) (hf:st.ob id=.free)
  (hz:(P.info? t).bind (·.zero)=some z) (h1:z.cells.toList.all Value.oneCell'=true) (h:K ⟨upd st.env d (.pt id 0),U4 st.ob id (.live ⟨z.cells.toList.map .v,t,1⟩)⟩):Vo P E o st K:=by
 rintro a w q ⟨C,hs⟩
 have qA:(zeroValue t).run P w=.ok z w:=by
  obtain ⟨i,hi,hz'⟩:=Option.bind_eq_some_iff.1 hz;simp [zeroValue,typeInfo,hi,hz']
 have hrun:(execOp a.eval o).run P w=.ok (.value (.pointer (some ⟨w.heap.size,0,none⟩))) (w.alloc (.cells z.cells t)):=by
  simp [execOp,ho,Instr.alloc,qA,newVar,newRow]
 have hnew:=hs.new id hf ⟨z.cells.toList.map .v,t,1⟩ z.cells (by simp) (fun j c hj=>by
  rw [List.getElem?_map,Option.map_eq_some_iff] at hj;obtain ⟨y,hy,rfl⟩:=hj;exact ⟨y,by simpa using hy,List.all_eq_true.1 h1 y (List.mem_of_getElem? hy),.v y⟩) o.dst (fun d' hd'=>by rw [hd] at hd';cases hd';exact aS hN) (.pt id 0) (.pointer (some ⟨w.heap.size,0,none⟩)) (fun _=>.pt id 0 _ (.inl rfl) (by simp [Ctx.add]))
 unfold Oper.wp;rw [hrun];refine ⟨_,⟨_,hnew⟩,?_⟩;rw [hd];exact h
theorem SR.ae1 {C:Ctx} {a:Act} {w:World} (hs:SR E C st a w) {id g:Nat} {o:aC} (hl:st.ob id=.live o) (hb:C.blk id=some g) (cells':List AV) (cur':Array Value) (hsz:cur'.size=C.sz id) (hlen:cells'.length≤cur'.size)
  (hc:∀(j:Nat) (av:AV),cells'[j]? =some av→∃u:Value,cur'[j]? =some u∧u.oneCell'=true∧R w C av u) (dst:Option Nat) (hd:∀d,dst=some d→d<E.N) (av:AV) (u:Value) (hu:dst≠none→R w C av u):
  SR E C (St.put ⟨st.env,U4 st.ob id (.live ⟨cells',o.elem,o.bC⟩)⟩ dst av) (a.put dst u) (w.setRow g cur'):=by
 obtain ⟨hown,cur,hh,_,_,_⟩:=hs.obj.live id o g hl hb;have hext:Ext w C (w.setRow g cur') C:=⟨fun _ h=>⟨h,rfl,rfl,rfl⟩,fun _ _ h=>h,fun x _ ho=>setRow_other w g x cur' (fun e=>ho (e▸hown))⟩
 have hlive:∀id' o',U4 st.ob id (.live ⟨cells',o.elem,o.bC⟩) id'=.live o'→(id'=id∧o'=⟨cells',o.elem,o.bC⟩)∨(id'≠id∧st.ob id'=.live o'):=fun id' o' h=>by
  by_cases he:id'=id
  ·subst he;rw [V9] at h;cases h;exact .inl ⟨rfl,rfl⟩
  ·rw [VX _ _ he] at h;exact .inr ⟨he,h⟩
 have aaZ:∀id' o',U4 st.ob id (.live ⟨cells',o.elem,o.bC⟩) id'=.live o'→∃o'',st.ob id'=.live o'':=fun id' o' h=>by
  rcases hlive id' o' h with ⟨rfl,_⟩|⟨_,h⟩
  ·exact ⟨o,hl⟩
  ·exact ⟨o',h⟩
 refine hs.put hext _ ⟨fun id' o' h=>?_,fun id' o' b h hb'=>?_,fun i i' o1 o2 b h1 h2 h3 h4=>?_,fun i hi=>?_,fun b hb'=>by rw [setRow_size];exact hs.obj.bnd b hb'⟩
  ⟨hs.fr.os,hs.fr.tape,hs.fr.output,by rw [setRow_size];exact hs.fr.size,fun b hb' hg=>?_⟩ (fun id' o' b h hb'=>?_) hs.keep hs.WE dst hd av u (fun h=>(hu h).ext hext)
 ·rcases hlive id' o' h with ⟨rfl,rfl⟩|⟨hne,h'⟩
  ·obtain ⟨h1,h2,h3⟩:=hs.obj.nil id' o hl;exact ⟨h1,h2,fun h=>by rw [hb] at h;cases h⟩
  ·exact hs.obj.nil id' o' h'
 ·rcases hlive id' o' h with ⟨rfl,rfl⟩|⟨hne,h'⟩
  ·rw [hb] at hb'
   cases hb'
   refine ⟨hown,cur',setRow_heap w g cur cur' _ _ hh,hsz,hlen,fun j av hj=>?_⟩;obtain ⟨x,hx,h1,hr⟩:=hc j av hj;exact ⟨x,hx,h1,hr.ext hext⟩
  ·obtain ⟨h1,pQ,h2,h3,h4,h5⟩:=hs.obj.live id' o' b h' hb';have hbg:b≠g:=fun e=>hne (hs.obj.inj id' id o' o g h' hl (e▸hb') hb);refine ⟨h1,pQ,(setRow_other w g b cur' hbg).trans h2,h3,h4,fun j av hj=>?_⟩;obtain ⟨x,hx,h6,hr⟩:=h5 j av hj;exact ⟨x,hx,h6,hr.ext hext⟩
 ·obtain ⟨NZ,h1'⟩:=aaZ i o1 h1;obtain ⟨iC,h2'⟩:=aaZ i' o2 h2;exact hs.obj.inj i i' NZ iC b h1' h2' h3 h4
 ·by_cases he:i=id
  ·subst he;rw [V9];intro h;cases h
  ·rw [VX _ _ he];exact hs.obj.dom i hi
 ·rcases hs.fresh id o g hl hb with hfr|hfr
  ·exact (setRow_other w g b cur' (by omega)).trans (hs.fr.block b hb' hg)
  ·exact (setRow_other w g b cur' (fun e=>hg (e▸hfr))).trans (hs.fr.block b hb' hg)
 ·obtain ⟨o'',h''⟩:=aaZ id' o' h;exact hs.fresh id' o'' b h'' hb'
def spl (cells:List AV) (off:Nat) (cs:List AV):List AV:=cells.take off++cs++cells.drop (off+cs.length)
theorem Z_ {o:Oper} {t:TypeId} {x y:Operand} {id off s:Nat} {av:AV} {cs cells':List AV} {ob:aC} (ho:o.op=.store t x y) (hd:o.dst=none) (hN:(aT E.N x&&aT E.N y)=true)
  (hsz:(P.info? t).map (·.size)=some s) (hx:aO st.env x=.pt id off) (hl:st.ob id=.live ob) (hy:aO st.env y=av) (hc:XN av=some cs) (hcl:cs.length=s) (hfit:off+s≤ob.cells.length) (h1:cs.all je=true)
  (hsp:spl ob.cells off cs=cells') (h:K ⟨st.env,U4 st.ob id (.live ⟨cells',ob.elem,ob.bC⟩)⟩):Vo P E o st K:=by
 simp only [Bool.and_eq_true] at hN;rintro a w q ⟨C,hs⟩;have hrx:=hs.ev x hN.1;rw [hx] at hrx;have EP:=hs.ev y hN.2;rw [hy] at EP;obtain ⟨hsz',hrel⟩:=aeM EP hc;generalize Wd:a.eval x=ux at hrx
 cases hrx with
 |pt _ _ b gT hb=>
  obtain ⟨hown,cur,hh,hcs,hle,hcell⟩:=hs.obj.live id ob b hl hb
  have hone:∀v∈(a.eval y).cells.toList,v.oneCell'=true:=by
   intro v hv;obtain ⟨j,hj,rfl⟩:=List.getElem_of_mem hv;have hj':j<(a.eval y).cells.size:=by simpa using hj
   have hc':=hrel j cs[j] (by simp [show j<cs.length by omega]);have:=rV hc' (List.all_eq_true.1 h1 _ (List.getElem_mem _));simpa [hj'] using this
  have hlen:(a.eval y).cells.toList.length=s:=by simp;omega
  have hst:=run_storeCells_at P b off ob.elem (a.eval y).cells.toList 0 cur w hh (by rw [hlen];omega) hone
  have hrun:(execOp a.eval o).run P w=.ok .skip (w.setRow b (cur.toList.take off++(a.eval y).cells.toList++cur.toList.drop (off+s)).toArray):=by
   rw [hlen] at hst;simp only [Nat.add_zero] at hst;simp [execOp,ho,Wd,Instr.storeAt,Instr.sureAddr,storeVar,run_sizeOf hsz,hsz',hcl,hst]
  have hnew:=hs.ae1 hl hb cells' (cur.toList.take off++(a.eval y).cells.toList++cur.toList.drop (off+s)).toArray (by simp;omega) (by rw [←hsp];simp [spl];omega) (fun j c hj=>by
   rw [←hsp] at hj;unfold spl at hj
   have hjl:j<ob.cells.length:=by
    have:=(List.getElem?_eq_some_iff.1 hj).1;simp at this;omega
   by_cases ha:j<off
   ·rw [List.getElem?_append_left (by simp;omega),List.getElem?_append_left (by simp;omega),List.getElem?_take,if_pos ha] at hj;obtain ⟨u,hu,h2,hr⟩:=hcell j c hj;refine ⟨u,?_,h2,hr⟩;rw [List.getElem?_toArray,List.getElem?_append_left (by simp;omega),List.getElem?_append_left (by simp;omega),List.getElem?_take,if_pos ha];simpa using hu
   ·by_cases hb2:j<off+s
    ·rw [List.getElem?_append_left (by simp;omega),List.getElem?_append_right (by simp;omega)] at hj;have hmin:(ob.cells.take off).length=off:=by simp;omega
     rw [hmin] at hj;have hj2:j-off<(a.eval y).cells.size:=by omega
     refine ⟨(a.eval y).cells[j-off],?_,?_,?_⟩
     ·rw [List.getElem?_toArray,List.getElem?_append_left (by simp;omega),List.getElem?_append_right (by simp;omega)];have:(cur.toList.take off).length=off:=by simp;omega
      rw [this];simp [hj2]
     ·exact hone _ (by simp)
     ·have:=hrel (j-off) c hj;simpa [hj2] using this
    ·rw [List.getElem?_append_right (by simp;omega)] at hj;have e1:(ob.cells.take off++cs).length=off+s:=by simp;omega
     rw [e1,List.getElem?_drop,hcl,show off+s+(j-(off+s))=j by omega] at hj;obtain ⟨u,hu,h2,hr⟩:=hcell j c hj;refine ⟨u,?_,h2,hr⟩;have e2:(cur.toList.take off++(a.eval y).cells.toList).length=off+s:=by simp;omega
     rw [List.getElem?_toArray,List.getElem?_append_right (by rw [e2];omega),e2,List.getElem?_drop,show off+s+(j-(off+s))=j by omega];simpa using hu) o.dst (fun d' hd'=>by rw [hd] at hd';cases hd') .any undef (fun _=>.any _)
  unfold Oper.wp;rw [hrun];refine ⟨_,⟨_,hnew⟩,?_⟩;rw [hd];exact h
theorem Wm.adopt {a:Act} {w:World} (h:Wm E st a w) (d id:Nat) (e z:Nat) (hd:st.env d=.v (.slice none 0 0)) (hf:st.ob id=.free):Wm E ⟨upd st.env d (.sl id 0 0),U4 st.ob id (.live ⟨[],e,z⟩)⟩ a w:=by
 obtain ⟨C,hs⟩:=h;have hdom:¬C.dom id:=fun h=>hs.obj.dom id h hf;have hext:Ext w C w (C.add id none 0 z):=Ext.add hdom (fun x hx=>by cases hx) (fun _ _ _=>rfl)
 have hlive:∀id' o',U4 st.ob id (.live ⟨[],e,z⟩) id'=.live o'→(id'=id∧o'=⟨[],e,z⟩)∨(id'≠id∧st.ob id'=.live o'):=fun id' o' h=>by
  by_cases he:id'=id
  ·subst he;rw [V9] at h;cases h;exact .inl ⟨rfl,rfl⟩
  ·rw [VX _ _ he] at h;exact .inr ⟨he,h⟩
 refine ⟨C.add id none 0 z,hs.size,hs.defers,fun t ht=>?_,⟨fun id' o' h=>?_,fun id' o' b h hb=>?_,fun i i' o1 o2 b h1 h2 h3 h4=>?_,fun i hi=>?_,fun b hb=>?_⟩,hs.fr,fun id' o' b h hb=>?_,fun b hb=>.inr (hs.keep b hb),fun b hb ho=>?_,hext.init hs.init,hs.X4⟩
 ·by_cases htd:t=d
  ·subst htd;have:=hs.env t ht;rw [hd] at this;show R w _ (upd st.env t _ t) _;rw [upd_same,this.dM];exact .slnil id (.inl rfl) (by simp [Ctx.add])
  ·show R w _ (upd st.env d _ t) _;rw [upd_ne _ _ htd];exact (hs.env t ht).ext hext
 ·rcases hlive id' o' h with ⟨rfl,rfl⟩|⟨hne,h'⟩
  ·simp [Ctx.add]
  ·obtain ⟨h1,h2,h3⟩:=hs.obj.nil id' o' h';simp [Ctx.add,hne,h1,h2];exact h3
 ·rcases hlive id' o' h with ⟨rfl,rfl⟩|⟨hne,h'⟩
  ·simp [Ctx.add] at hb
  ·simp only [Ctx.add,hne,if_false] at hb;obtain ⟨h1,cur',h2,h3,h4,h5⟩:=hs.obj.live id' o' b h' hb;refine ⟨.inr h1,cur',h2,by simp [Ctx.add,hne,h3],h4,fun j av hj=>?_⟩;obtain ⟨x,hx,h6,hr⟩:=h5 j av hj;exact ⟨x,hx,h6,hr.ext hext⟩
 ·rcases hlive i o1 h1 with ⟨rfl,rfl⟩|⟨hne,h1'⟩
  ·simp [Ctx.add] at h3
  ·rcases hlive i' o2 h2 with ⟨rfl,rfl⟩|⟨hne',h2'⟩
   ·simp [Ctx.add] at h4
   ·simp only [Ctx.add,hne,if_false] at h3;simp only [Ctx.add,hne',if_false] at h4;exact hs.obj.inj i i' o1 o2 b h1' h2' h3 h4
 ·show U4 st.ob id _ i≠_;by_cases he:i=id
  ·subst he;rw [V9];intro h;cases h
  ·rw [VX _ _ he];rcases hi with hi|hi
   ·exact absurd hi he
   ·exact hs.obj.dom i hi
 ·rcases hb with hb|hb
  ·cases hb
  ·exact hs.obj.bnd b hb
 ·rcases hlive id' o' h with ⟨rfl,rfl⟩|⟨hne,h'⟩
  ·simp [Ctx.add] at hb
  ·simp only [Ctx.add,hne,if_false] at hb;exact hs.fresh id' o' b h' hb
 ·rcases ho with ho|ho
  ·cases ho
  ·exact hs.WE b hb ho
theorem zq {o:Oper} (d id e z:Nat) (hd:st.env d=.v (.slice none 0 0)) (hf:st.ob id=.free) (h:Vo P E o ⟨upd st.env d (.sl id 0 0),U4 st.ob id (.live ⟨[],e,z⟩)⟩ K):Vo P E o st K:=
 fun a w q hs=>h a w q (hs.adopt d id e z hd hf)
theorem yG (w:World) (base:Nat) (t ty e:TypeId) (i:TypeInfo) (size:Nat) (ht:P.underlying t=some (.slice e)) (hi:P.info? e=some i)
  (v:Value) (n:Nat) (xs:List Value) (hown:w.ownsRow base e size v n xs) (c:Nat):(Builtin.append_ #[t,t] ty #[v,.slice none 0 c]).run P w=.ok v w:=by
 rcases hown.2 with ⟨rfl,rfl⟩|⟨g,cap,cur,rfl,_,_,hnc,_⟩
 ·simp [Builtin.append_,run_underlying ht,sizeOf,typeInfo,hi,Builtin.lenOf,Builtin.firstCells]
 ·simp [Builtin.append_,run_underlying ht,sizeOf,typeInfo,hi,Builtin.lenOf,Builtin.firstCells,hnc,storeCells]
theorem uK {w:World} {C:Ctx} {m:Nat} {cells:List AV} {u:Value} (h:R w C (.ro m cells) u):∃A c,u=.slice A m c∧(A=none→m=0∧c=0)∧∃us:List Value,us.length=cells.length∧
  (∀ad,A=some ad→∀(j:Nat) (x:Value),us[j]? =some x→w.cell? (ad.add j)=some x)∧(∀x∈us,x.oneCell'=true)∧(∀(j:Nat) (c:AV),cells[j]? =some c→∃x:Value,us[j]? =some x∧R w C c x):=by
 cases h with
 |ro _ c A _ us hc hm h0 hcell hrel=>
  refine ⟨A,c,rfl,h0,(List.range cells.length).map us,by simp,fun ad hA j x hj=>?_,fun x hx=>?_,fun j c hj=>?_⟩
  ·rw [List.getElem?_map,Option.map_eq_some_iff] at hj;obtain ⟨j',hj',rfl⟩:=hj;have hlt:=(List.getElem?_eq_some_iff.1 hj')
   obtain ⟨h1,h2⟩:=hlt;simp at h1 h2;subst h2;obtain ⟨NY,hA',_,h3,_⟩:=hcell j h1;rw [hA] at hA'
   cases hA'
   exact h3
  ·simp only [List.mem_map,List.mem_range] at hx;obtain ⟨j,hj,rfl⟩:=hx;obtain ⟨_,_,_,_,h4⟩:=hcell j hj;exact h4
  ·have hlt:=(List.getElem?_eq_some_iff.1 hj).1;exact ⟨us j,by simp [hlt],hrel j c hj⟩
theorem SR.ownsRow {C:Ctx} {a:Act} {w:World} (hs:SR E C st a w) {id n:Nat} {o:aC} {u:Value} (hl:st.ob id=.live o) (hn:o.cells.length=n*o.bC) (h:R w C (.sl id 0 n) u):
  ∃xs:List Value,w.ownsRow 0 o.elem o.bC u n xs∧(∀x∈xs,x.oneCell'=true)∧(∀(j:Nat) (c:AV),o.cells[j]? =some c→∃x:Value,xs[j]? =some x∧R w C c x)∧u.ownBlock=C.blk id:=by
 obtain ⟨h1,h2,h3⟩:=hs.obj.nil id o hl
 cases h with
 |sl _ _ _ c b hd hb hnc hm hss=>
  obtain ⟨_,cur,hh,hcs,hle,hcell⟩:=hs.obj.live id o b hl hb;rw [h2, ←hcs] at hss;simp only [Nat.zero_add] at hss;have hlen:(cur.toList.take (n*o.bC)).length=n*o.bC:=by simp;omega
  refine ⟨cur.toList.take (n*o.bC),⟨hlen,.inr ⟨b,c,cur,rfl,Nat.zero_le _,hh,hnc,hm,hss.symm,rfl⟩⟩,fun x hx=>?_,fun j c' hj=>?_,by simp [Value.ownBlock,hb]⟩
  ·obtain ⟨j,hj,rfl⟩:=List.getElem_of_mem hx;obtain ⟨y,hy,h4,_⟩:=hcell j o.cells[j] (by simp);rw [List.getElem_take];have hj':j<cur.size:=by omega
   simp [hj'] at hy;simpa [hy] using h4
  ·obtain ⟨y,hy,_,hr⟩:=hcell j c' hj;have:=(List.getElem?_eq_some_iff.1 hj).1;refine ⟨y,?_,hr⟩;rw [List.getElem?_take,if_pos (by omega)];simpa using hy
 |slnil _ hd hb=>
  have hc:=h3 hb;exact ⟨[],⟨by simp,.inl ⟨rfl,rfl⟩⟩,by simp,by simp [hc],by simp [Value.ownBlock,hb]⟩
theorem PG {o:Oper} {c:Call} {t e:TypeId} {s x:Operand} {d id n m size bytes:Nat} {z:Value} {ob:aC} {cells cells':List AV} (id':Nat) (ho:o.op=.call c) (hc:c={ callee:=.builtin .append,args:= #[s,x],argTypes:= #[t,t] }) (hd:o.dst=some d)
  (hN:(aT E.N s&&aT E.N x&&Nat.blt d E.N)=true) (ht:P.underlying t=some (.slice e)) (hinfo:(P.info? e).map (fun i=>(i.zero,i.size,i.bytes))=some (some z,size,bytes)) (hzs:z.cells.size=size) (hsz:0<size)
  (hs0:aO st.env s=.sl id 0 n) (hl:st.ob id=.live ob) (hoe:ob.elem=e) (hoz:ob.bC=size) (hlen:ob.cells.length=n*size) (hx0:aO st.env x=.ro m cells) (hm:cells.length=m*size)
  (hb:(n+m)*bytes≤140737488355328) (hb0:n+m≤140737488355328) (hf:st.ob id'=.free) (hcs:ob.cells++cells=cells') (h:K ⟨upd st.env d (.sl id' 0 (n+m)),U4 (U4 st.ob id .dead) id' (.live ⟨cells',e,size⟩)⟩):Vo P E o st K:=by
 subst hc;subst hoe;subst hoz;subst hcs;simp only [Bool.and_eq_true] at hN;rintro a w q ⟨C,hs⟩;obtain ⟨i0,hi,hzz⟩:=Option.map_eq_some_iff.1 hinfo;simp only [Prod.mk.injEq] at hzz;obtain ⟨hz0,hz1,hz2⟩:=hzz;have hrs:=hs.ev s hN.1.1;rw [hs0] at hrs;have hrx:=hs.ev x hN.1.2;rw [hx0] at hrx;generalize hus:a.eval s=us at hrs;generalize Wd:a.eval x=ux at hrx;obtain ⟨xs,hown,hone,hxs,hblk⟩:=hs.ownsRow hl hlen hrs;obtain ⟨A,cap,rfl,hA0,news,hnl,hnc,hn1,hnr⟩:=uK hrx;have hdom:¬C.dom id':=fun h=>hs.obj.dom id' h hf;have hne:id'≠id:=fun e=>by rw [e] at hf;rw [hf] at hl;cases hl
 have hrun:∃v' w',(Builtin.append_ #[t,t] o.type #[us,.slice A m cap]).run P w=.ok v' w'∧w'.ownsRow 0 ob.elem ob.bC v' (n+m) (xs++news)∧w.grownBy w' us.ownBlock∧(v'.ownBlock=us.ownBlock∨v'.ownBlock=some w.heap.size):=by
  cases A with
  |none=>
   obtain ⟨rfl,rfl⟩:=hA0 rfl;have hn0:news=[]:=List.eq_nil_of_length_eq_zero (by rw [hnl,hm];simp);subst hn0;exact ⟨us,w,yG w 0 t o.type ob.elem i0 ob.bC ht hi us n xs hown 0,by simpa using hown,⟨rfl,rfl,rfl,Nat.le_refl _,fun _ _ _=>rfl⟩,.inl rfl⟩
  |some ad=>
   obtain ⟨v',w',h1,h2,h3,_,h5⟩:=run_append_own_at (P:=P) w 0 t o.type ob.elem i0 z ob.bC bytes ht hi hz0 hz1 hz2 hzs hsz us n xs hown ad m cap news (by rw [hnl,hm]) (hnc ad rfl) hn1 (by unfold maxLen;omega) hb (Nat.zero_le _);exact ⟨v',w',h1,h2,h3,h5⟩
 obtain ⟨v',w',hr,hown',hg,hat⟩:=hrun
 have vW:∀g,us.ownBlock=some g→C.own g:=fun g hgb=>by
  rw [hblk] at hgb;exact (hs.obj.live id ob g hl hgb).1
 obtain ⟨nb,sz',hnb,hR,pR⟩:∃(nb:Option Nat) (sz':Nat),v'.ownBlock=nb∧R w' (C.add id' nb sz' ob.bC) (.sl id' 0 (n+m)) v'∧
   (∀g,nb=some g→∃cur:Array Value,w'.heap[g]? =some (.cells cur ob.elem (0,0))∧cur.size=sz'∧cur.toList.take ((n+m)*ob.bC)=xs++news∧(n+m)*ob.bC≤cur.size):=by
  rcases hown'.2 with ⟨rfl,h0⟩|⟨g,cap',cur,rfl,_,hh,h1,h2,h3,h4⟩
  ·refine ⟨none,0,rfl,?_,fun g hg=>by cases hg⟩;rw [h0];exact .slnil id' (.inl rfl) (by simp [Ctx.add])
  ·refine ⟨some g,cur.size,rfl,.sl id' 0 (n+m) cap' g (.inl rfl) (by simp [Ctx.add]) h1 h2 (by simp [Ctx.add,h3]),fun g' hg'=>?_⟩
   cases hg'
   exact ⟨cur,hh,rfl,h4,by rw [h3];exact Nat.mul_le_mul_right _ h1⟩
 have mI:∀g,nb=some g→w.heap.size≤g∨C.own g:=fun g hg'=>by
  rw [hg'] at hnb;rcases hat with h1|h1
  ·exact .inr (vW g (h1.symm.trans hnb))
  ·rw [hnb] at h1;cases h1;exact .inl (Nat.le_refl _)
 have hnn:nb=none→n+m=0∨ob.bC=0:=fun h0=>by
  rcases hown'.2 with ⟨_,h1⟩|⟨g,cap',cur,rfl,_⟩
  ·exact .inl h1
  ·simp [Value.ownBlock] at hnb;rw [h0] at hnb;cases hnb
 have hheap:∀b,b<w.heap.size→¬C.own b→w'.heap[b]? =w.heap[b]? :=fun b hb' ho=>hg.block b hb' (fun e=>ho (vW b e.symm));have hext:Ext w C w' (C.add id' nb sz' ob.bC):=Ext.add hdom mI hheap
 have hlive:∀i o',U4 (U4 st.ob id .dead) id' (.live ⟨ob.cells++cells,ob.elem,ob.bC⟩) i=.live o'→(i=id'∧o'=⟨ob.cells++cells,ob.elem,ob.bC⟩)∨(i≠id'∧i≠id∧st.ob i=.live o'):=fun i o' h=>by
  by_cases he:i=id'
  ·subst he;rw [V9] at h;cases h;exact .inl ⟨rfl,rfl⟩
  ·rw [VX _ _ he] at h;by_cases he2:i=id
   ·subst he2;rw [V9] at h;cases h
   ·rw [VX _ _ he2] at h;exact .inr ⟨he,he2,h⟩
 have hcl:(ob.cells++cells).length=(n+m)*ob.bC:=by rw [List.length_append,hlen,hm,Nat.add_mul]
 have hxl:xs.length=n*ob.bC:=hown.1
 have hrel:∀(j:Nat) (av:AV),(ob.cells++cells)[j]? =some av→∃u:Value,(xs++news)[j]? =some u∧u.oneCell'=true∧R w C av u:=by
  intro j av hj;by_cases hjl:j<ob.cells.length
  ·rw [List.getElem?_append_left hjl] at hj;obtain ⟨y,hy,hr⟩:=hxs j av hj;exact ⟨y,by rw [List.getElem?_append_left (by omega)];exact hy,hone y (List.mem_of_getElem? hy),hr⟩
  ·rw [List.getElem?_append_right (by omega)] at hj;obtain ⟨y,hy,hr⟩:=hnr _ av hj;exact ⟨y,by rw [List.getElem?_append_right (by omega),hxl, ←hlen];exact hy,hn1 y (List.mem_of_getElem? hy),hr⟩
 have hfin:=hs.put hext (U4 (U4 st.ob id .dead) id' (.live ⟨ob.cells++cells,ob.elem,ob.bC⟩)) ⟨fun i o' h=>by
   rcases hlive i o' h with ⟨rfl,rfl⟩|⟨h1,h2,h3⟩
   ·refine ⟨.inl rfl,by simp [Ctx.add],fun hb0=>?_⟩;simp only [Ctx.add,if_true] at hb0;rcases hnn hb0 with h0|h0
    ·exact List.eq_nil_of_length_eq_zero (by rw [hcl,h0];simp)
    ·omega
   ·obtain ⟨k1,k2,k3⟩:=hs.obj.nil i o' h3;simp [Ctx.add,h1,k1,k2];exact k3,fun i o' b h hb'=>by
   rcases hlive i o' h with ⟨rfl,rfl⟩|⟨h1,h2,h3⟩
   ·simp only [Ctx.add,if_true] at hb';obtain ⟨cur,k1,k2,k3,k4⟩:=pR b hb';refine ⟨.inl hb'.symm,cur,k1,by simp [Ctx.add,k2],by simp only [hcl];exact k4,fun j av hj=>?_⟩;obtain ⟨u,hu,k5,k6⟩:=hrel j av hj;refine ⟨u,?_,k5,k6.ext hext⟩;rw [←k3,List.getElem?_take] at hu
    split at hu
    ·simpa using hu
    ·cases hu
   ·simp only [Ctx.add,h1,if_false] at hb';obtain ⟨k1,pQ,k2,k3,k4,k5⟩:=hs.obj.live i o' b h3 hb';have hbg:some b≠us.ownBlock:=fun e=>h2 (hs.obj.inj i id o' ob b h3 hl hb' (hblk.symm.trans e.symm));refine ⟨.inr k1,pQ,(hg.block b (hs.obj.bnd b k1) hbg).trans k2,by simp [Ctx.add,h1,k3],k4,fun j av hj=>?_⟩;obtain ⟨u,hu,k6,hr⟩:=k5 j av hj;exact ⟨u,hu,k6,hr.ext hext⟩,fun i i' o1 o2 b h1 h2 h3 h4=>by
   have other:∀i o1,st.ob i=.live o1→i≠id→C.blk i=some b→nb=some b→False:=fun i o1 k1 k2 k3 k4=>by
    rcases mI b k4 with k5|k5
    ·have:=hs.obj.bnd b (hs.obj.live i o1 b k1 k3).1;omega
    ·rw [k4] at hnb;rcases hat with k6|k6
     ·exact k2 (hs.obj.inj i id o1 ob b k1 hl k3 (hblk.symm.trans (k6.symm.trans hnb)))
     ·rw [hnb] at k6;cases k6;have:=hs.obj.bnd _ k5;omega
   rcases hlive i o1 h1 with ⟨rfl,rfl⟩|⟨k1,k2,k3⟩<;>rcases hlive i' o2 h2 with ⟨rfl,rfl⟩|⟨l1,l2,l3⟩
   ·rfl
   ·simp only [Ctx.add,if_true] at h3;simp only [Ctx.add,l1,if_false] at h4;exact (other i' o2 l3 l2 h4 h3).elim
   ·simp only [Ctx.add,if_true] at h4;simp only [Ctx.add,k1,if_false] at h3;exact (other i o1 k3 k2 h3 h4).elim
   ·simp only [Ctx.add,k1,if_false] at h3;simp only [Ctx.add,l1,if_false] at h4;exact hs.obj.inj i i' o1 o2 b k3 l3 h3 h4,fun i hi=>by
   by_cases he:i=id'
   ·subst he;rw [V9];intro h;cases h
   ·rw [VX _ _ he];by_cases he2:i=id
    ·subst he2;rw [V9];intro h;cases h
    ·rw [VX _ _ he2];rcases hi with hi|hi
     ·exact absurd hi he
     ·exact hs.obj.dom i hi,fun b hb'=>by
   rcases hb' with hb'|hb'
   ·obtain ⟨cur,k1,_⟩:=pR b hb'.symm;exact (Array.getElem?_eq_some_iff.1 k1).1
   ·have:=hs.obj.bnd b hb';have:=hg.size;omega⟩
  ⟨hg.os.trans hs.fr.os,hg.tape.trans hs.fr.tape,hg.output.trans hs.fr.output,Nat.le_trans hs.fr.size hg.size,fun b hb' hG=>by
   have hsz0:=hs.fr.size;refine (hg.block b (by omega) (fun e=>?_)).trans (hs.fr.block b hb' hG);have hbb:=hblk.symm.trans e.symm;rcases hs.fresh id ob b hl hbb with k1|k1
   ·omega
   ·exact hG k1⟩ (fun i o' b h hb'=>by
   rcases hlive i o' h with ⟨rfl,rfl⟩|⟨h1,h2,h3⟩
   ·simp only [Ctx.add,if_true] at hb';rw [hb'] at hnb;rcases hat with k6|k6
    ·exact hs.fresh id ob b hl (hblk.symm.trans (k6.symm.trans hnb))
    ·rw [hnb] at k6;cases k6;exact .inl hs.fr.size
   ·simp only [Ctx.add,h1,if_false] at hb';exact hs.fresh i o' b h3 hb') (fun b hb'=>.inr (hs.keep b hb')) (fun b hb' ho=>by
   rcases ho with ho|ho
   ·rw [←ho] at hnb;rcases hat with k6|k6
    ·exact hs.WE b hb' (vW b (k6.symm.trans hnb))
    ·rw [hnb] at k6;cases k6;have:=hs.fr.size;omega
   ·exact hs.WE b hb' ho) o.dst (fun d' hd'=>by rw [hd] at hd';cases hd';exact aS hN.2) (.sl id' 0 (n+m)) v' (fun _=>hR)
 have hrun':(execOp a.eval o).run P w=.ok (.value v') w':=by
  simp only [execOp,ho,resolve,invoke,builtin,Sem.run_bind,Sem.run_pure,Result.andThen_ok,List.map_toArray,List.map_cons,List.map_nil,hus,Wd,hr]
 unfold Oper.wp;rw [hrun'];refine ⟨_,⟨_,hfin⟩,?_⟩;rw [hd];exact h
end
end Go.Lo
