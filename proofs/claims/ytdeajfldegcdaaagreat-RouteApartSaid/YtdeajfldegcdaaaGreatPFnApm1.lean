/- Part of the logic of values: what the law reaches. -/
import Derived.Calls
import Derived.Orders
import Derived.Tactics
import Derived.Maps.AppendAt
import Derived.Laws.Rows
import Derived.Laws.NewBlocks
import Derived.Laws.Entries
import Derived.Laws.Cells
import Derived.Laws.CopyRow
namespace Go.Lo
def aa5:List (Nat×List Value):=[]
inductive AV where
 |any
 |one
 |v (x:Value)
 |ro (n:Nat) (cells:List AV)
 |rp (cells:List AV)
 |sl (id off n:Nat)
 |pt (id off:Nat)
 |agg (cells:List AV)
 |Vm (vs:List AV)
 |fn (f:FuncId) (cap:List AV)
 deriving Inhabited
structure aC where
 cells:List AV
 elem:TypeId
 bC:Nat
inductive aH where
 |free
 |dead
 |live (o:aC)
structure St where
 env:Nat→AV
 ob:Nat→aH
structure Ctx where
 blk:Nat→Option Nat
 sz:Nat→Nat
 bC:Nat→Nat
 dom:Nat→Prop
 own:Nat→Prop
inductive R (w:World) (C:Ctx):AV→Value→Prop
 |any (u:Value):R w C .any u
 |one (u:Value) (h:u.oneCell'=true):R w C .one u
 |v (x:Value):R w C (.v x) x
 |ro (n c:Nat) (A:Option Addr) (cells:List AV) (us:Nat→Value) (hc:n≤c) (hm:c≤maxLen) (h0:A=none→n=0∧c=0)
   (hcell:∀j,j<cells.length→∃ad,A=some ad∧¬C.own ad.block∧w.cell? (ad.add j)=some (us j)∧(us j).oneCell'=true)
   (hrel:∀j av,cells[j]? =some av→R w C av (us j)):R w C (.ro n cells) (.slice A n c)
 |rp (ad:Addr) (cells:List AV) (us:Nat→Value)
   (hcell:∀j,j<cells.length→¬C.own ad.block∧w.cell? (ad.add j)=some (us j)∧(us j).oneCell'=true)
   (hrel:∀j av,cells[j]? =some av→R w C av (us j)):R w C (.rp cells) (.pointer (some ad))
 |sl (id off n c b:Nat) (hd:C.dom id) (hb:C.blk id=some b) (hn:n≤c) (hm:c≤maxLen) (hs:off+c*C.bC id=C.sz id):R w C (.sl id off n) (.slice (some ⟨b,off,none⟩) n c)
 |slnil (id:Nat) (hd:C.dom id) (hb:C.blk id=none):R w C (.sl id 0 0) (.slice none 0 0)
 |pt (id off b:Nat) (hd:C.dom id) (hb:C.blk id=some b):R w C (.pt id off) (.pointer (some ⟨b,off,none⟩))
 |agg (cells:List AV) (us:Array Value) (hs:us.size=cells.length) (hrel:∀j av,cells[j]? =some av→R w C av (us.getD j undef)):R w C (.agg cells) (.agg us)
 |Vm (cells:List AV) (us:Array Value) (hs:us.size=cells.length) (hrel:∀j av,cells[j]? =some av→R w C av (us.getD j undef)):R w C (.Vm cells) (.tuple us)
 |fn (f:FuncId) (cells:List AV) (us:Array Value) (hs:us.size=cells.length) (hrel:∀j av,cells[j]? =some av→R w C av (us.getD j undef)):R w C (.fn f cells) (.func (.func f) #[] us)
structure Ext (w:World) (C:Ctx) (w':World) (C':Ctx):Prop where
 dom:∀id,C.dom id→C'.dom id∧C'.blk id=C.blk id∧C'.sz id=C.sz id∧C'.bC id=C.bC id
 own:∀b,b<w.heap.size→¬C.own b→¬C'.own b
 heap:∀b,b<w.heap.size→¬C.own b→w'.heap[b]? =w.heap[b]?
theorem Ext.refl (w:World) (C:Ctx):Ext w C w C:=⟨fun _ h=>⟨h,rfl,rfl,rfl⟩,fun _ _ h=>h,fun _ _ _=>rfl⟩
theorem add_block (ad:Addr) (j:Nat):(ad.add j).block=ad.block:=by
 unfold Addr.add
 split<;>rfl
theorem add_add (ad:Addr) (i j:Nat):(ad.add i).add j=ad.add (i+j):=by
 unfold Addr.add;by_cases hi:i=0<;>by_cases hj:j=0<;>simp [hi,hj,Nat.add_assoc]
theorem add_plain (g i j:Nat):(⟨g,i,none⟩:Addr).add j=⟨g,i+j,none⟩:=by
 unfold Addr.add
 split<;>simp_all
theorem block_lt {w:World} {ad:Addr} {u:Value} (h:w.cell? ad=some u):ad.block<w.heap.size:=by
 unfold World.cell? at h;rcases Nat.lt_or_ge ad.block w.heap.size with hl|hg
 ·exact hl
 ·rw [Array.getElem?_eq_none hg] at h;simp at h
theorem uq {w w':World} {ad:Addr} (h:w'.heap[ad.block]? =w.heap[ad.block]?):w'.cell? ad=w.cell? ad:=by simp [World.cell?,h]
theorem R.ext {w w':World} {C C':Ctx} (he:Ext w C w' C') {av:AV} {u:Value} (h:R w C av u):R w' C' av u:=by
 induction h with
 |any u=>exact .any u
 |one u h=>exact .one u h
 |v x=>exact .v x
 |ro n c A cells us hc hm h0 hcell _ ih=>
  refine .ro n c A cells us hc hm h0 (fun j hj=>?_) ih;obtain ⟨ad,hA,ho,hcl,h1⟩:=hcell j hj;have hl:=block_lt hcl;rw [add_block] at hl;exact ⟨ad,hA,he.own _ hl ho,(uq (w:=w) (w':=w') (by rw [add_block];exact he.heap _ hl ho)).trans hcl,h1⟩
 |rp ad cells us hcell _ ih=>
  refine .rp ad cells us (fun j hj=>?_) ih;obtain ⟨ho,hcl,h1⟩:=hcell j hj;have hl:=block_lt hcl;rw [add_block] at hl;exact ⟨he.own _ hl ho,(uq (w:=w) (w':=w') (by rw [add_block];exact he.heap _ hl ho)).trans hcl,h1⟩
 |sl id off n c b hd hb hn hm hs=>
  obtain ⟨h1,h2,h3,h4⟩:=he.dom id hd;exact .sl id off n c b h1 (by rw [h2];exact hb) hn hm (by rw [h3,h4];exact hs)
 |slnil id hd hb=>
  obtain ⟨h1,h2,_,_⟩:=he.dom id hd;exact .slnil id h1 (by rw [h2];exact hb)
 |pt id off b hd hb=>
  obtain ⟨h1,h2,_,_⟩:=he.dom id hd;exact .pt id off b h1 (by rw [h2];exact hb)
 |agg cells us hs _ ih=>exact .agg cells us hs ih
 |Vm cells us hs _ ih=>exact .Vm cells us hs ih
 |fn f cells us hs _ ih=>exact .fn f cells us hs ih
theorem Ext.trans {w w1 w2:World} {C C1 C2:Ctx} (h:Ext w C w1 C1) (hs:w.heap.size≤w1.heap.size) (k:Ext w1 C1 w2 C2):Ext w C w2 C2 where
 dom:=fun id hd=>by
  obtain ⟨a1,a2,a3,a4⟩:=h.dom id hd;obtain ⟨b1,b2,b3,b4⟩:=k.dom id a1;exact ⟨b1,b2.trans a2,b3.trans a3,b4.trans a4⟩
 own:=fun b hb ho=>k.own b (Nat.lt_of_lt_of_le hb hs) (h.own b hb ho)
 heap:=fun b hb ho=>(k.heap b (Nat.lt_of_lt_of_le hb hs) (h.own b hb ho)).trans (h.heap b hb ho)
structure kY (w:World) (C:Ctx) (ob:Nat→aH):Prop where
 nil:∀id o,ob id=.live o→C.dom id∧C.bC id=o.bC∧(C.blk id=none→o.cells=[])
 live:∀id o b,ob id=.live o→C.blk id=some b→C.own b∧∃cur:Array Value,w.heap[b]? =some (.cells cur o.elem (0,0))∧cur.size=C.sz id∧o.cells.length≤cur.size∧
  ∀(j:Nat) (av:AV),o.cells[j]? =some av→∃u:Value,cur[j]? =some u∧u.oneCell'=true∧R w C av u
 inj:∀id id' o o' b,ob id=.live o→ob id'=.live o'→C.blk id=some b→C.blk id'=some b→id=id'
 dom:∀id,C.dom id→ob id≠ .free
 bnd:∀b,C.own b→b<w.heap.size
structure Fr (G:Nat→Prop) (w0 w:World):Prop where
 os:w.os=w0.os
 tape:w.tape=w0.tape
 output:w.output=w0.output
 size:w0.heap.size≤w.heap.size
 block:∀b,b<w0.heap.size→¬G b→w.heap[b]? =w0.heap[b]?
theorem Fr.refl (G:Nat→Prop) (w:World):Fr G w w:=⟨rfl,rfl,rfl,Nat.le_refl _,fun _ _ _=>rfl⟩
def Laid (w:World) (X:Nat→Prop):Prop:=∀q,q∈aa5→q.1<w.heap.size∧¬X q.1∧∀(j:Nat) (v:Value),q.2[j]? =some v→w.cell? ⟨q.1,j,none⟩=some v∧v.oneCell'=true
def vV (G:Nat→Prop):Prop:=∀q,q∈aa5→¬G q.1
structure VC where
 w0:World
 G:Nat→Prop
 X:Nat→Prop
 N:Nat
 m:Nat
 I:Ctx
 laid:Laid w0 X
 agV:vV G
structure SR (E:VC) (C:Ctx) (st:St) (a:Act) (w:World):Prop where
 size:a.tmps.size=E.N
 defers:a.defers=[]
 env:∀t,t<E.N→R w C (st.env t) (a.tmps.getD t undef)
 obj:kY w C st.ob
 fr:Fr E.G E.w0 w
 fresh:∀id o b,st.ob id=.live o→C.blk id=some b→E.w0.heap.size≤b∨E.G b
 keep:∀b,E.X b→C.own b
 WE:∀b,b<E.w0.heap.size→C.own b→E.X b∨E.G b
 init:∀i,i<E.m→C.dom i∧C.blk i=E.I.blk i∧C.sz i=E.I.sz i∧C.bC i=E.I.bC i
 X4:∀b,E.X b→b<E.w0.heap.size
theorem Ext.init {w w':World} {C C':Ctx} {E:VC} (he:Ext w C w' C') (h:∀i,i<E.m→C.dom i∧C.blk i=E.I.blk i∧C.sz i=E.I.sz i∧C.bC i=E.I.bC i):
  ∀i,i<E.m→C'.dom i∧C'.blk i=E.I.blk i∧C'.sz i=E.I.sz i∧C'.bC i=E.I.bC i:=fun i hi=>by
 obtain ⟨h1,h2,h3,h4⟩:=h i hi;obtain ⟨k1,k2,k3,k4⟩:=he.dom i h1;exact ⟨k1,k2.trans h2,k3.trans h3,k4.trans h4⟩
def Wm (E:VC) (st:St) (a:Act) (w:World):Prop:=∃C,SR E C st a w
def upd (e:Nat→AV) (t:Nat) (v:AV):Nat→AV:=fun x=>cond (Nat.beq x t) v (e x)
def U4 (f:Nat→aH) (t:Nat) (v:aH):Nat→aH:=fun x=>cond (Nat.beq x t) v (f x)
theorem upd_same (e:Nat→AV) (t:Nat) (v:AV):upd e t v t=v:=by simp [upd]
theorem upd_ne (e:Nat→AV) {t s:Nat} (v:AV) (h:s≠t):upd e t v s=e s:=by
 have hb:Nat.beq s t=false:=by
  cases hb:Nat.beq s t with
  |false=>rfl
  |true=>exact absurd (Nat.eq_of_beq_eq_true hb) h
 simp [upd,hb]
theorem V9 (e:Nat→aH) (t:Nat) (v:aH):U4 e t v t=v:=by simp [U4]
theorem VX (e:Nat→aH) {t s:Nat} (v:aH) (h:s≠t):U4 e t v s=e s:=by
 have hb:Nat.beq s t=false:=by
  cases hb:Nat.beq s t with
  |false=>rfl
  |true=>exact absurd (Nat.eq_of_beq_eq_true hb) h
 simp [U4,hb]
def St.put (st:St) (dst:Option Nat) (av:AV):St:=
 match dst with
 |some d=>{ st with env:=upd st.env d av }
 |none=>st
def pz:List (Nat×List Value)→Nat→AV
 | [],_=>.any
 |q::r,g=>cond (Nat.beq g q.1) (.rp (q.2.map .v)) (pz r g)
def aO (env:Nat→AV):Operand→AV
 | .tmp t=>env t
 | .const x=>.v x
 | .global g=>pz aa5 g
 | .func f=>.fn f []
def aT (N:Nat):Operand→Bool
 | .tmp t=>Nat.blt t N
 |_=>true
theorem SR.laid {E:VC} {C:Ctx} {st:St} {a:Act} {w:World} (h:SR E C st a w):Laid w C.own:=fun q hq=>by
 obtain ⟨h1,h2,h3⟩:=E.laid q hq;refine ⟨Nat.lt_of_lt_of_le h1 h.fr.size,fun ho=>(h.WE _ h1 ho).elim h2 (E.agV q hq),fun j v hj=>?_⟩;obtain ⟨h4,h5⟩:=h3 j v hj;exact ⟨by rw [←h4];exact uq (h.fr.block _ h1 (E.agV q hq)),h5⟩
theorem Laid.sub {w:World} {X Y:Nat→Prop} (h:Laid w X) (hs:∀b,Y b→X b):Laid w Y:=fun q hq=>⟨(h q hq).1,fun hy=>(h q hq).2.1 (hs _ hy),(h q hq).2.2⟩
theorem aku {w:World} {C:Ctx} {g:Nat} (h:Laid w C.own):R w C (pz aa5 g) (.pointer (some ⟨g,0,none⟩)):=by
 have key:∀l:List (Nat×List Value),(∀q,q∈l→q∈aa5)→R w C (pz l g) (.pointer (some ⟨g,0,none⟩)):=by
  intro l
  induction l with
  |nil=>intro _;exact .any _
  |cons q r ih=>
   intro hl;simp only [pz]
   cases hb:Nat.beq g q.1 with
   |false=>exact ih fun x hx=>hl x (List.mem_cons_of_mem _ hx)
   |true=>
    have hg:=Nat.eq_of_beq_eq_true hb;obtain ⟨h1,h2,h3⟩:=h q (hl q List.mem_cons_self);refine .rp _ _ (fun j=>(q.2[j]?).getD undef) (fun j hj=>?_) (fun j av hj=>?_)
    ·have hj':j<q.2.length:=by simpa using hj
     obtain ⟨h4,h5⟩:=h3 j q.2[j] (List.getElem?_eq_getElem hj');refine ⟨by show ¬C.own g;rw [hg];exact h2,?_,by rw [List.getElem?_eq_getElem hj'];exact h5⟩;rw [add_plain,Nat.zero_add,List.getElem?_eq_getElem hj',hg];exact h4
    ·rw [List.getElem?_map,Option.map_eq_some_iff] at hj;obtain ⟨v,hv,rfl⟩:=hj;rw [hv];exact .v _
 exact key aa5 fun _ h=>h
theorem SR.ev {E:VC} {C:Ctx} {st:St} {a:Act} {w:World} (h:SR E C st a w) (x:Operand) (hx:aT E.N x=true):R w C (aO st.env x) (a.eval x):=by
 cases x with
 |tmp t=>exact h.env t (by simpa [aT,Nat.blt_eq] using hx)
 |const u=>exact .v u
 |global g=>exact aku h.laid
 |func f=>exact .fn f [] #[] rfl (fun j av hj=>by simp at hj)
theorem E_ {xs:Array Value} {d:Nat} {u:Value} (h:d<xs.size):(xs.setIfInBounds d u).getD d undef=u:=by
 simp [h]
theorem E9 {xs:Array Value} {d t:Nat} {u:Value} (h:d≠t):(xs.setIfInBounds d u).getD t undef=xs.getD t undef:=by
 simp [Array.getElem?_setIfInBounds_ne h]
theorem SR.put {E:VC} {C C':Ctx} {st:St} {a:Act} {w w':World} (h:SR E C st a w) (he:Ext w C w' C') (bI:Nat→aH)
  (ho:kY w' C' bI) (hf:Fr E.G E.w0 w') (hfr:∀id o b,bI id=.live o→C'.blk id=some b→E.w0.heap.size≤b∨E.G b) (hk:∀b,E.X b→C'.own b)
  (hnew:∀b,b<E.w0.heap.size→C'.own b→E.X b∨E.G b)
  (dst:Option Nat) (hd:∀d,dst=some d→d<E.N) (av:AV) (u:Value) (hu:dst≠none→R w' C' av u):SR E C' (St.put ⟨st.env,bI⟩ dst av) (a.put dst u) w':=by
 cases dst with
 |none=>exact ⟨h.size,h.defers,fun t ht=>(h.env t ht).ext he,ho,hf,hfr,hk,hnew,he.init h.init,h.X4⟩
 |some d=>
  have hdN:=hd d rfl;refine ⟨by simp [Act.put,h.size],h.defers,fun t ht=>?_,ho,hf,hfr,hk,hnew,he.init h.init,h.X4⟩;by_cases htd:t=d
  ·subst htd;simp only [St.put,Act.put,upd_same];rw [E_ (by rw [h.size];exact hdN)];exact hu (by simp)
  ·simp only [St.put,Act.put];rw [upd_ne _ _ htd,E9 (fun e=>htd e.symm)];exact (h.env t ht).ext he
theorem SR.set {E:VC} {C:Ctx} {st:St} {a:Act} {w:World} (h:SR E C st a w) (dst:Option Nat) (hd:∀d,dst=some d→d<E.N) (av:AV) (u:Value) (hu:dst≠none→R w C av u):
  SR E C (st.put dst av) (a.put dst u) w:=by
 have:=h.put (Ext.refl w C) st.ob h.obj h.fr h.fresh h.keep h.WE dst hd av u hu;simpa using this
section
variable (P:Program) (E:VC)
def Vo (o:Oper) (st:St) (K:St→Prop):Prop:=
 ∀(a:Act) (w:World) (Q:Exit→Act→World→Prop),Wm E st a w→o.wp P a w (fun a' w'=>∃st',Wm E st' a' w'∧K st') Q
def VD (c:Code) (st:St) (Q:Exit→St→Prop):Prop:=
 ∀(a:Act) (w:World),Wm E st a w→c.wp P (fun e a' w'=>∃st',Wm E st' a' w'∧Q e st') a w
end
section
variable {P:Program} {E:VC} {st:St} {Q:Exit→St→Prop}
theorem Vo.mono {o:Oper} {K K':St→Prop} (h:Vo P E o st K) (hk:∀s,K s→K' s):Vo P E o st K':=
 fun a w q hs=>Oper.wp_mono (fun _ _ ⟨s,h1,h2⟩=>⟨s,h1,hk s h2⟩) (h a w q hs)
theorem W4 {o:Oper} {K:St→Prop} (av:AV) (hd:∀d,o.dst=some d→d<E.N)
  (hrun:∀a w C,SR E C st a w→∃u,(execOp a.eval o).run P w=.ok (.value u) w∧R w C av u) (h:K (st.put o.dst av)):Vo P E o st K:=by
 rintro a w q ⟨C,hs⟩;obtain ⟨u,hr,hu⟩:=hrun a w C hs;unfold Oper.wp;rw [hr];exact ⟨_,⟨C,hs.set o.dst hd av u (fun _=>hu)⟩,h⟩
theorem aX (h:Q .normal st):VD P E .skip st Q:=fun _ _ hs=>wp_skip ⟨st,hs,h⟩
theorem VJ {id:Nat} (h:Q (.exit id) st):VD P E (.exit id) st Q:=fun _ _ hs=>wp_exit ⟨st,hs,h⟩
theorem aZ (h:Q .ret st):VD P E .ret st Q:=fun _ _ hs=>wp_ret ⟨st,hs,h⟩
def ZJ (K:St→Prop) (Q:Exit→St→Prop):Exit→St→Prop
 | .normal,s=>K s
 |e,s=>Q e s
def ae0 (id:Nat) (Q:Exit→St→Prop):Exit→St→Prop
 | .exit id',s=>if id'=id then Q .normal s else Q (.exit id') s
 |e,s=>Q e s
theorem aF {x y:Code} (h:VD P E x st (ZJ (fun s=>VD P E y s Q) Q)):VD P E (.seq x y) st Q:=by
 intro a w hs;refine wp_seq (wp_mono (h a w hs) ?_);rintro e a' w' ⟨s,h1,h2⟩
 cases e with
 |normal=>exact h2 a' w' h1
 |_=>exact ⟨s,h1,h2⟩
theorem bf {id:Nat} {c:Code} (h:VD P E c st (ae0 id Q)):VD P E (.block id c) st Q:=by
 intro a w hs;refine wp_block (wp_mono (h a w hs) ?_);rintro e a' w' ⟨s,h1,h2⟩
 cases e with
 |exit i=>
  simp only [Exit.inBlock];by_cases hi:i=id
  ·simp only [ae0,hi,if_true] at h2 ⊢;exact ⟨s,h1,h2⟩
  ·simp only [ae0,hi,if_false] at h2 ⊢;exact ⟨s,h1,h2⟩
 |_=>exact ⟨s,h1,h2⟩
theorem VD.mono {c:Code} {Q':Exit→St→Prop} (h:VD P E c st Q) (hq:∀e s,Q e s→Q' e s):VD P E c st Q':=
 fun a w hs=>wp_mono (h a w hs) (fun _ _ _ ⟨s,h1,h2⟩=>⟨s,h1,hq _ _ h2⟩)
theorem R.Ad {w:World} {C:Ctx} {u:Value} {x:Value} (h:R w C (.v x) u):u=x:=by cases h;rfl
theorem eP {c:Operand} {x y:Code} (b:Bool) (hok:aT E.N c=true) (hc:aO st.env c=.v (.bool b)) (ht:b=true→VD P E x st Q) (hf:b=false→VD P E y st Q):VD P E (.cond c x y) st Q:=by
 rintro a w ⟨C,hs⟩;have:=hs.ev c hok;rw [hc] at this;have hb:=R.Ad this;exact wp_cond_split hb (fun h=>ht h a w ⟨C,hs⟩) (fun h=>hf h a w ⟨C,hs⟩)
structure Le (s s':St):Prop where
 env:∀t,s'.env t=.any∨s'.env t=s.env t
 ob:∀id,s'.ob id=s.ob id∨(s'.ob id=.dead∧s.ob id≠ .free)
theorem Wm.le {s s':St} {a:Act} {w:World} (h:Wm E s a w) (hl:Le s s'):Wm E s' a w:=by
 obtain ⟨C,h⟩:=h
 have hlive:∀id o,s'.ob id=.live o→s.ob id=.live o:=fun id o ho=>by
  rcases hl.ob id with h1|⟨h1,_⟩
  ·rw [←h1];exact ho
  ·rw [h1] at ho;cases ho
 refine ⟨C,h.size,h.defers,fun t ht=>?_,⟨fun id o ho=>h.obj.nil id o (hlive id o ho),fun id o b ho hb=>h.obj.live id o b (hlive id o ho) hb,
  fun id id' o o' b h1 h2 h3 h4=>h.obj.inj id id' o o' b (hlive _ _ h1) (hlive _ _ h2) h3 h4,fun id hd=>?_,h.obj.bnd⟩,h.fr,fun id o b ho hb=>h.fresh id o b (hlive id o ho) hb,h.keep,h.WE,h.init,h.X4⟩
 ·rcases hl.env t with h1|h1
  ·rw [h1];exact .any _
  ·rw [h1];exact h.env t ht
 ·rcases hl.ob id with h1|⟨h1,_⟩
  ·rw [h1];exact h.obj.dom id hd
  ·rw [h1];intro h;cases h
theorem VD.le {c:Code} {s s':St} (h:VD P E c s' Q) (hl:Le s s'):VD P E c s Q:=fun a w hs=>h a w (hs.le hl)
theorem le_refl (s:St):Le s s:=⟨fun _=>.inr rfl,fun _=>.inl rfl⟩
def none_:Nat→AV:=fun _=>.any
theorem z8 (e:Nat→AV):∀t,none_ t=.any∨none_ t=e t:=fun _=>.inl rfl
theorem aaz {e e':Nat→AV} (d:Nat) (av:AV) (hd:e d=av) (h:∀t,e' t=.any∨e' t=e t):∀t,upd e' d av t=.any∨upd e' d av t=e t:=by
 intro t;by_cases ht:t=d
 ·subst ht;rw [upd_same];exact .inr hd.symm
 ·rw [upd_ne _ _ ht];exact h t
theorem FV {ι:Type} {c:Code} {Q:Exit→Act→World→Prop} (I:ι→Act→World→Prop) (μ:ι→Nat)
  (round:∀i a w,I i a w→c.wp P (Exit.then (fun a' w'=>∃j,μ j<μ i∧I j a' w') Q) a w):∀i a w,I i a w→(Code.loop c).wp P Q a w:=by
 intro i a w h0 b k cs
 have key:∀n i a w,μ i=n→I i a w→∃e a' w',Q e a' w'∧Arrives P (lone (b.at a (.code c:: .inLoop c::k)) cs w) b k cs e a' w':=by
  intro n
  induction n using Nat.strongRecOn with
  |_ n ih=>
   intro i a w hn hI;obtain ⟨e,a1,w1,hq,harr⟩:=round i a w hI b (.inLoop c::k) cs
   cases e with
   |normal=>
    obtain ⟨j,hlt,hj⟩:=hq;obtain ⟨e2,a2,w2,hq2,Lp⟩:=ih (μ j) (hn▸hlt) j a1 w1 rfl hj;exact ⟨e2,a2,w2,hq2,.of_steps (Steps.trans harr (.one step_inLoop)) Lp⟩
   |exit id=>exact ⟨_,a1,w1,hq,.pass (x:=.inLoop c) rfl (fun _ _=>.inl (by simp)) harr⟩
   |goto l=>exact ⟨_,a1,w1,hq,.pass (x:=.inLoop c) rfl (fun _ _=>.inl (by simp)) harr⟩
   |ret=>exact ⟨_,a1,w1,hq,.pass (x:=.inLoop c) rfl (fun _ _=>.inl (by simp)) harr⟩
   |panic ch=>exact ⟨_,a1,w1,hq,.pass (x:=.inLoop c) rfl (fun _ _=>.inl (by simp)) harr⟩
   |outgrown=>exact ⟨_,a1,w1,hq,.pass (x:=.inLoop c) rfl (fun _ _=>.inl (by simp)) harr⟩
 obtain ⟨e,a',w',hq,harr⟩:=key _ i a w rfl h0;exact ⟨e,a',w',hq,.of_steps (.one step_loop) harr⟩
def yv:Value→Option Bool
 | .bool b=>some b
 |_=>none
section
variable (P E)
def Vv (s s':St):Prop:=∀a w,Wm E s a w→Wm E s' a w
def VL (ops:Array Oper):List Oper→St→(St→Prop)→Prop
 | [],st,K=>∃s,Vv E st s∧K s
 |o::rest,st,K=>∃s,Vv E st s∧
  match o.guard with
  |none=>Vo P E o s fun s=>VL ops rest s K
  |some (j,want)=>∃(t:Nat) (u:Value),(ops[j]?).bind (·.dst)=some t∧t<E.N∧s.env t=.v u∧
    (yv u=some want→Vo P E o s fun s=>VL ops rest s K)∧(yv u≠some want→(∀d,o.dst=some d→d<E.N)∧VL ops rest (s.put o.dst (.v undef)) K)
end
theorem Vv.refl (E:VC) (s:St):Vv E s s:=fun _ _ h=>h
theorem Vv.trans {E:VC} {s t u:St} (h:Vv E s t) (k:Vv E t u):Vv E s u:=fun a w x=>k a w (h a w x)
theorem vk {E:VC} {s s':St} (h:Le s s'):Vv E s s':=fun _ _ hs=>hs.le h
theorem uX {ops:Array Oper} {l:List Oper} {s s':St} {K:St→Prop} (hi:Vv E s s') (h:VL P E ops l s' K):VL P E ops l s K:=by
 cases l with
 |nil=>obtain ⟨x,h1,h2⟩:=h;exact ⟨x,hi.trans h1,h2⟩
 |cons o r=>obtain ⟨x,h1,h2⟩:=h;exact ⟨x,hi.trans h1,h2⟩
theorem oF {ops:Array Oper} {C:Ctx} {a:Act} {w:World} {j t:Nat} {u:Value} (hs:SR E C st a w) (hj:(ops[j]?).bind (·.dst)=some t) (ht:t<E.N) (he:st.env t=.v u):yielded ops a.tmps j=yv u:=by
 have h1:=hs.env t ht;rw [he] at h1;have h2:=R.Ad h1;have hlt:t<a.tmps.size:=by rw [hs.size];exact ht
 unfold yielded;rw [hj];simp [hlt] at h2 ⊢;rw [h2]
 cases u<;>rfl
theorem Fa {ops:Array Oper} {Q:Exit→Act→World→Prop} {K:St→Prop} (hq:∀st' a' w',Wm E st' a' w'→K st'→Q .normal a' w') (l:List Nat):
  ∀(os:List Oper),os.map some=l.map (fun i=>ops[i]?)→∀(st:St) (a:Act) (w:World),Wm E st a w→VL P E ops os st K→wpOps P ops Q l a w:=by
 induction l with
 |nil=>
  intro os hl st a w hs h
  cases os with
  |nil=>obtain ⟨s,h1,h2⟩:=h;exact hq s a w (h1 a w hs) h2
  |cons o os=>simp at hl
 |cons i l ih=>
  intro os hl st a w hs h
  cases os with
  |nil=>simp at hl
  |cons o os=>
   simp only [List.map_cons,List.cons.injEq] at hl;obtain ⟨h0,hl⟩:=hl;simp only [wpOps, ←h0];unfold VL at h;obtain ⟨s0,hi0,h⟩:=h
   replace hs:=hi0 a w hs
   cases hg:o.guard with
   |none=>
    rw [hg] at h;have hw:Region.wanted o (yielded ops a.tmps)=true:=by simp [Region.wanted,hg]
    rw [if_pos hw];refine .inl (Oper.wp_mono ?_ (h a w Q hs));rintro a' w' ⟨s,h1,h2⟩;exact ih os hl s a' w' h1 h2
   |some jw=>
    obtain ⟨j,want⟩:=jw;rw [hg] at h;obtain ⟨t,u,hj,ht,he,hyes,hno⟩:=h;obtain ⟨C,hs'⟩:=hs;have hy:=oF hs' hj ht he;by_cases hb:yv u=some want
    ·have hw:Region.wanted o (yielded ops a.tmps)=true:=by simp [Region.wanted,hg,hy,hb]
     rw [if_pos hw];refine .inl (Oper.wp_mono ?_ (hyes hb a w Q ⟨C,hs'⟩));rintro a' w' ⟨s,h1,h2⟩;exact ih os hl s a' w' h1 h2
    ·have hw:Region.wanted o (yielded ops a.tmps)=false:=by simp [Region.wanted,hg,hy,hb]
     rw [if_neg (by simp [hw])];obtain ⟨hd,hr⟩:=hno hb;exact ih os hl _ _ w ⟨C,hs'.set o.dst hd (.v undef) undef (fun _=>.v _)⟩ hr
theorem Fb {α:Type} (l:List α):l.map some=(List.range l.length).map (fun i=>l[i]?):=by
 apply List.ext_getElem?;intro i;simp only [List.getElem?_map];rcases Nat.lt_or_ge i l.length with h|h
 ·rw [List.getElem?_eq_getElem h,List.getElem?_eq_getElem (by simpa using h)];simp [h]
 ·rw [List.getElem?_eq_none h,List.getElem?_eq_none (by simpa using h)];rfl
theorem agb {id:Nat} {ops:Array Oper} (h:VL P E ops ops.toList st (fun s=>Q .normal s)):VD P E (.region id ops false) st Q:=by
 intro a w hs;refine wp_region (Fa (E:=E) (K:=fun s=>Q .normal s) (fun st' a' w' h1 h2=>⟨st',h1,h2⟩) _ ops.toList ?_ st a w hs h);have:=Fb ops.toList;simpa using this
end
end Go.Lo
set_option linter.unusedVariables false
set_option linter.unusedSimpArgs false
namespace Go.Lo
section
variable {P:Program} {E:VC} {st:St} {K:St→Prop}
theorem aS {d n:Nat} (h:Nat.blt d n=true):d<n:=by simpa [Nat.blt_eq] using h
theorem R.dM {w:World} {C:Ctx} {u x:Value} (h:R w C (.v x) u):u=x:=by cases h;rfl
theorem IY {o:Oper} {d:Nat} (a:Act) (w:World) (q:Exit→Act→World→Prop) (C:Ctx) (hs:SR E C st a w) {u:Value} {av:AV} (hr:(execOp a.eval o).run P w=.ok (.value u) w) (hR:R w C av u)
  (hd:o.dst=some d) (hdN:d<E.N) (h:K ⟨upd st.env d av,st.ob⟩):o.wp P a w (fun a' w'=>∃st',Wm E st' a' w'∧K st') q:=by
 unfold Oper.wp;rw [hr];refine ⟨_,⟨C,hs.set o.dst (fun d' hd'=>by rw [hd] at hd';cases hd';exact hdN) av u (fun _=>hR)⟩,?_⟩;rw [hd];exact h
theorem eD {o:Oper} {x:Operand} {d:Nat} {av:AV} (ho:o.op=.move x∨o.op=.assign x) (hd:o.dst=some d) (hN:(aT E.N x&&Nat.blt d E.N)=true) (hx:aO st.env x=av)
  (h:K ⟨upd st.env d av,st.ob⟩):Vo P E o st K:=by
 simp only [Bool.and_eq_true] at hN;refine W4 av (fun d' hd'=>by rw [hd] at hd';cases hd';exact aS hN.2) (fun a w C hs=>⟨a.eval x,?_,?_⟩) (by rw [hd];exact h)
 ·rcases ho with ho|ho<;>simp [execOp,ho]
 ·rw [←hx];exact hs.ev x hN.1
theorem abK {o:Oper} {op:BinOp} {t t':TypeId} {x y:Operand} {d:Nat} {vx vy u:Value} (ho:o.op=.binOp op t x y t') (hd:o.dst=some d) (hN:(aT E.N x&&aT E.N y&&Nat.blt d E.N)=true)
  (hx:aO st.env x=.v vx) (hy:aO st.env y=.v vy) (hrun:∀w,(do eqGuard op t x y vx vy;binOp op t vx vy:Sem Value).run P w=.ok u w)
  (h:K ⟨upd st.env d (.v u),st.ob⟩):Vo P E o st K:=by
 simp only [Bool.and_eq_true] at hN;refine W4 (.v u) (fun d' hd'=>by rw [hd] at hd';cases hd';exact aS hN.2) (fun a w C hs=>⟨u,?_,.v u⟩) (by rw [hd];exact h);have h1:=hs.ev x hN.1.1;have h2:=hs.ev y hN.1.2;rw [hx] at h1;rw [hy] at h2;have hr:=hrun w;rw [←h1.dM, ←h2.dM] at hr;simp only [execOp,ho,Sem.run_bind,hr];rfl
def Xv (k:IntKind) (op:BinOp) (a b:Int):Value:=
 match op with
 | .add=>.int k (k.wrap (a+b))
 | .sub=>.int k (k.wrap (a-b))
 | .mul=>.int k (k.wrap (a*b))
 | .quo=>.int k (k.wrap (a.tdiv b))
 | .rem=>.int k (a.tmod b)
 | .eql=>.bool (a==b)
 | .neq=>.bool (a != b)
 | .lss=>.bool (decide (a<b))
 | .leq=>.bool (decide (a≤b))
 | .gtr=>.bool (decide (a>b))
 | .geq=>.bool (decide (a≥b))
 |_=>.nilFunc
def aa6 (op:BinOp) (b:Int):Prop:=
 match op with
 | .quo| .rem=>b≠0
 | .and| .or| .xor| .andNot| .shl| .shr=>False
 |_=>True
theorem ajM (k:IntKind) (op:BinOp) (t:TypeId) (x y:Operand) (a b:Int) (hb:aa6 op b) (w:World):
  (do eqGuard op t x y (.int k a) (.int k b);binOp op t (.int k a) (.int k b):Sem Value).run P w=.ok (Xv k op a b) w:=by
 cases op<;>simp only [aa6] at hb<;>first
  |exact hb.elim
  |(simp [eqGuard,binOp,Xv,Op.intArith,Op.intDiv,Op.intCmp];done)
  |(simp [eqGuard,binOp,Xv,Op.intArith,Op.intDiv,Op.intCmp,hb];done)
theorem WC {o:Oper} {op:BinOp} {t t':TypeId} {x y:Operand} {d:Nat} {k:IntKind} {a b:Int} {u:Value} (ho:o.op=.binOp op t x y t') (hd:o.dst=some d)
  (hN:(aT E.N x&&aT E.N y&&Nat.blt d E.N)=true) (hx:aO st.env x=.v (.int k a)) (hy:aO st.env y=.v (.int k b)) (hb:aa6 op b) (hu:Xv k op a b=u)
  (h:K ⟨upd st.env d (.v u),st.ob⟩):Vo P E o st K:=abK ho hd hN hx hy (fun w=>by rw [←hu];exact ajM k op t x y a b hb w) h
theorem lq (t:TypeId) (x y:Value):Op.equal t x y=Op.equalIn (9999+1) t x y:=rfl
theorem yN {t:TypeId} (ht:P.underlying t=some .bool) (d:Nat) (a b:Bool) (w:World):(Op.equalIn (d+1) t (.bool a) (.bool b)).run P w=.ok (a==b) w:=by
 simp [Op.equalIn,run_underlying ht]
theorem yH {t e:TypeId} (ht:P.underlying t=some (.pointer e)) (d:Nat) (ad:Addr) (w:World):(Op.equalIn (d+1) t (.pointer (some ad)) (.pointer none)).run P w=.ok false w:=by
 simp [Op.equalIn,run_underlying ht]
theorem yI {t e:TypeId} (ht:P.underlying t=some (.pointer e)) (d:Nat) (w:World):(Op.equalIn (d+1) t (.pointer none) (.pointer none)).run P w=.ok true w:=by
 simp [Op.equalIn,run_underlying ht]
theorem yK {t e:TypeId} (ht:P.underlying t=some (.slice e)) (d:Nat) (A:Option Addr) (n c:Nat) (w:World):(Op.equalIn (d+1) t (.slice A n c) (.slice none 0 0)).run P w=.ok A.isNone w:=by
 cases A<;>simp [Op.equalIn,run_underlying ht]
theorem ajN {t:TypeId} (ht:P.underlying t=some .bool) (x y:Operand) (a b:Bool) (w:World):
  (do eqGuard .eql t x y (.bool a) (.bool b);binOp .eql t (.bool a) (.bool b):Sem Value).run P w=.ok (.bool (a==b)) w∧
  (do eqGuard .neq t x y (.bool a) (.bool b);binOp .neq t (.bool a) (.bool b):Sem Value).run P w=.ok (.bool (a != b)) w:=by
 constructor
 ·simp only [eqGuard,binOp,lq,Sem.run_bind,yN ht,Result.andThen_ok];rfl
 ·simp only [eqGuard,binOp,lq,Sem.run_bind,yN ht,Result.andThen_ok];rfl
theorem adn {o:Oper} {t t':TypeId} {x y:Operand} {d:Nat} {a b:Bool} (ho:o.op=.binOp .neq t x y t') (hd:o.dst=some d)
  (hN:(aT E.N x&&aT E.N y&&Nat.blt d E.N)=true) (hx:aO st.env x=.v (.bool a)) (hy:aO st.env y=.v (.bool b)) (ht:P.underlying t=some .bool)
  (h:K ⟨upd st.env d (.v (.bool (a != b))),st.ob⟩):Vo P E o st K:=abK ho hd hN hx hy (fun w=>(ajN ht x y a b w).2) h
theorem Kc {o:Oper} {op:UnOp} {t:TypeId} {x:Operand} {d:Nat} {vx u:Value} (ho:o.op=.unOp op t x) (hd:o.dst=some d) (hN:(aT E.N x&&Nat.blt d E.N)=true)
  (hx:aO st.env x=.v vx) (hrun:∀w,(Op.unary op vx).run P w=.ok u w) (h:K ⟨upd st.env d (.v u),st.ob⟩):Vo P E o st K:=by
 simp only [Bool.and_eq_true] at hN;refine W4 (.v u) (fun d' hd'=>by rw [hd] at hd';cases hd';exact aS hN.2) (fun a w C hs=>⟨u,?_,.v u⟩) (by rw [hd];exact h);have h1:=hs.ev x hN.1;rw [hx] at h1;simp only [execOp,ho,Sem.run_bind,h1.dM,hrun w];rfl
theorem gV {o:Oper} {t:TypeId} {x:Operand} {d:Nat} {b:Bool} (ho:o.op=.unOp .not t x) (hd:o.dst=some d) (hN:(aT E.N x&&Nat.blt d E.N)=true)
  (hx:aO st.env x=.v (.bool b)) (h:K ⟨upd st.env d (.v (.bool (!b))),st.ob⟩):Vo P E o st K:=Kc ho hd hN hx (fun w=>rfl) h
theorem ajp {o:Oper} {s t:TypeId} {x:Operand} {d:Nat} {k k':IntKind} {n:Int} (ho:o.op=.convert s t x) (hd:o.dst=some d) (hN:(aT E.N x&&Nat.blt d E.N)=true)
  (hs0:P.underlying s=some (.int k')) (ht:P.underlying t=some (.int k)) (hx:aO st.env x=.v (.int k' n)) (h:K ⟨upd st.env d (.v (.int k (k.wrap n))),st.ob⟩):Vo P E o st K:=by
 simp only [Bool.and_eq_true] at hN;refine W4 (.v (.int k (k.wrap n))) (fun d' hd'=>by rw [hd] at hd';cases hd';exact aS hN.2) (fun a w C hs=>⟨.int k (k.wrap n),?_,.v _⟩) (by rw [hd];exact h);have h1:=hs.ev x hN.1;rw [hx] at h1;simp [execOp,ho,h1.dM,convert,run_underlying hs0,run_underlying ht,Conv.intToInt]
theorem af6 {o:Oper} {x:Operand} {i d:Nat} {cs:List AV} {av:AV} (ho:o.op=.extract x i) (hd:o.dst=some d) (hN:(aT E.N x&&Nat.blt d E.N)=true)
  (hx:aO st.env x=.Vm cs) (hi:cs[i]? =some av) (h:K ⟨upd st.env d av,st.ob⟩):Vo P E o st K:=by
 simp only [Bool.and_eq_true] at hN;refine W4 av (fun d' hd'=>by rw [hd] at hd';cases hd';exact aS hN.2) (fun a w C hs=>?_) (by rw [hd];exact h);have h1:=hs.ev x hN.1;rw [hx] at h1;generalize Wd:a.eval x=ux at h1
 cases h1 with
 |Vm _ us hsz hrel=>
  refine ⟨us.getD i undef,?_,hrel i av hi⟩;have hlt:i<us.size:=by rw [hsz];exact (List.getElem?_eq_some_iff.1 hi).1
  simp [execOp,ho,Wd,Instr.extract,hlt]
theorem oJ {t:TypeId} {b:Bool} (h:(match P.underlying t with|some (.struct _)|some (.array _ _)=>some true|some _=>some false|none=>none)=some b) (w:World):(isAgg t).run P w=.ok b w:=by
 unfold isAgg
 cases hu:P.underlying t with
 |none=>rw [hu] at h;simp at h
 |some d=>
  rw [hu] at h;simp only [Sem.run_bind,run_underlying hu,Result.andThen_ok]
  cases d<;>simp_all
def V0 (P:Program) (t:TypeId):Option Bool:=
 match P.underlying t with
 |some (.struct _)|some (.array _ _)=>some true
 |some _=>some false
 |none=>none
theorem run_sizeOf {t:TypeId} {s:Nat} (h:(P.info? t).map (·.size)=some s) (w:World):(sizeOf t).run P w=.ok s w:=by
 obtain ⟨i,hi,rfl⟩:=Option.map_eq_some_iff.1 h;simp [sizeOf,typeInfo,hi]
def VZ (P:Program) (s:TypeId) (i:Nat):Option (TypeId×Nat):=
 match P.underlying s with
 |some (.struct fs)=>(fs[i]?).map fun f=>(f.type,f.offset)
 |_=>none
theorem af5 {s:TypeId} {i:Nat} {t off:Nat} (h:VZ P s i=some (t,off)):∃fs f,P.underlying s=some (.struct fs)∧fs[i]? =some f∧f.type=t∧f.offset=off:=by
 unfold VZ at h
 split at h
 ·rename_i fs hu;obtain ⟨f,hf,hh⟩:=Option.map_eq_some_iff.1 h;simp only [Prod.mk.injEq] at hh;exact ⟨fs,f,hu,hf,hh.1,hh.2⟩
 ·cases h
def acD (agg:Bool) (cells:List AV) (off size:Nat):Option AV:=
 if agg then (if off+size≤cells.length then some (.agg ((cells.drop off).take size)) else none) else cells[off]?
theorem akv {w:World} {C:Ctx} {t:TypeId} {b:Bool} {s off:Nat} {cells:List AV} {us:Array Value} {av:AV} (hb:V0 P t=some b) (hsz:(P.info? t).map (·.size)=some s) (hp:acD b cells off s=some av)
  (hs:us.size=cells.length) (hrel:∀j av,cells[j]? =some av→R w C av (us.getD j undef)):∃u,(part t us off).run P w=.ok u w∧R w C av u:=by
 unfold part;simp only [Sem.run_bind,oJ hb,Result.andThen_ok]
 cases b with
 |false=>
  simp only [acD,Bool.false_eq_true,if_false] at hp;have hlt:off<us.size:=by rw [hs];exact (List.getElem?_eq_some_iff.1 hp).1
  refine ⟨us.getD off undef,?_,hrel off av hp⟩;simp [hlt]
 |true=>
  simp only [acD,if_true] at hp
  split at hp
  ·rename_i hle
   cases hp
   simp only [if_true,Sem.run_bind,run_sizeOf hsz,Result.andThen_ok,Sem.run_pure];refine ⟨_,rfl,.agg _ _ ?_ fun j av hj=>?_⟩
   ·simp [hs];omega
   ·have hj':j<s:=by
     have:=(List.getElem?_eq_some_iff.1 hj).1;simp at this;omega
    rw [List.getElem?_take,if_pos hj',List.getElem?_drop] at hj;have:=hrel (off+j) av hj;have hb1:off+j<us.size:=by rw [hs];omega
    simpa [Array.getElem?_extract,hb1,show j<min (off+s) us.size-off by omega] using this
  ·cases hp
theorem dU {o:Oper} {c:Call} {t e:TypeId} {x:Operand} {d n:Nat} (ho:o.op=.call c) (hc:c={ callee:=.builtin .len,args:= #[x],argTypes:= #[t] }) (hd:o.dst=some d)
  (hN:(aT E.N x&&Nat.blt d E.N)=true) (ht:P.underlying t=some (.slice e)) (hx:∀w C u,R w C (aO st.env x) u→∃A c,u=.slice A n c) (h:K ⟨upd st.env d (.v (.int .i64 n)),st.ob⟩):Vo P E o st K:=by
 subst hc;simp only [Bool.and_eq_true] at hN;refine W4 (.v (.int .i64 n)) (fun d' hd'=>by rw [hd] at hd';cases hd';exact aS hN.2) (fun a w C hs=>⟨_,?_,.v _⟩) (by rw [hd];exact h);obtain ⟨A,c,hu⟩:=hx w C _ (hs.ev x hN.1);simp [execOp,ho,resolve,invoke,builtin,Builtin.len_,hu,run_underlying ht,goInt]
theorem o9 {av:AV} {n:Nat} {cells:List AV} (h:av=.ro n cells):∀w C u,R w C av u→∃A c,u=.slice A n c:=by
 intro w C u hr;rw [h] at hr;cases hr;exact ⟨_,_,rfl⟩
theorem eF {av:AV} {id off n:Nat} (h:av=.sl id off n):∀w C u,R w C av u→∃A c,u=.slice A n c:=by
 intro w C u hr;rw [h] at hr;cases hr<;>exact ⟨_,_,rfl⟩
theorem len_nil {av:AV} (h:av=.v (.slice none 0 0)):∀w C u,R w C av u→∃A c,u=.slice A 0 c:=by
 intro w C u hr;rw [h] at hr;cases hr;exact ⟨_,_,rfl⟩
def aB (ob:Nat→aH):AV→Option (List AV)
 | .rp cells=>some cells
 | .pt id off=>match ob id with| .live o=>some (o.cells.drop off)|_=>none
 |_=>none
def nL (av:AV) (n:Nat):AV:=
 match av with
 | .rp cells=>.rp (cells.drop n)
 | .pt id off=>.pt id (off+n)
 |_=>.any
def ZN:AV→Bool
 | .rp _| .pt _ _=>true
 |_=>false
theorem adt {w:World} {C:Ctx} {av:AV} {u:Value} (h:R w C av u) (hp:ZN av=true) (n:Nat):∃ad,u=.pointer (some ad)∧R w C (nL av n) (.pointer (some (ad.add n))):=by
 cases h with
 |rp ad cells us hcell hrel=>
  refine ⟨ad,rfl,.rp _ _ (fun j=>us (n+j)) (fun j hj=>?_) (fun j av hj=>?_)⟩
  ·simp only [List.length_drop] at hj;obtain ⟨h1,h2,h3⟩:=hcell (n+j) (by omega);exact ⟨by rw [add_block];exact h1,by rw [add_add];exact h2,h3⟩
  ·rw [List.getElem?_drop] at hj;exact hrel _ _ hj
 |pt id off b hd hb=>exact ⟨_,rfl,by rw [add_plain];exact .pt id (off+n) b hd hb⟩
 |_=>simp [ZN] at hp
theorem tV {o:Oper} {s:TypeId} {x:Operand} {i d t off sz:Nat} {av dA:AV} (ho:o.op=.fieldAddr s x i) (hd:o.dst=some d) (hN:(aT E.N x&&Nat.blt d E.N)=true)
  (hf:VZ P s i=some (t,off)) (hsz:(P.info? t).map (·.size)=some (sz+1)) (hx:aO st.env x=av) (hp:ZN av=true) (ha:nL av off=dA)
  (h:K ⟨upd st.env d dA,st.ob⟩):Vo P E o st K:=by
 simp only [Bool.and_eq_true] at hN;refine W4 dA (fun d' hd'=>by rw [hd] at hd';cases hd';exact aS hN.2) (fun a w C hs=>?_) (by rw [hd];exact h);obtain ⟨fs,f,hu,hfi,rfl,rfl⟩:=af5 hf;have h1:=hs.ev x hN.1;rw [hx] at h1;obtain ⟨ad,Wd,hr⟩:=adt h1 hp f.offset;refine ⟨.pointer (some (ad.add f.offset)),?_,by rw [←ha];exact hr⟩;simp [execOp,ho,Wd,Instr.fieldAt,run_underlying hu,hfi,Instr.sureAddr,fieldPlace,run_sizeOf hsz]
def qz (av:AV) (i sz:Nat):AV:=
 match av with
 | .ro _ cells=>.rp (cells.drop (i*sz))
 | .sl id off _=>.pt id (off+i*sz)
 |_=>.any
def acE:AV→Option Nat
 | .ro n _=>some n
 | .sl _ _ n=>some n
 |_=>none
theorem qI {o:Oper} {t e:TypeId} {x ix:Operand} {d n sz:Nat} {k:IntKind} {i:Int} {av dA:AV} (ho:o.op=.indexAddr t x ix) (hd:o.dst=some d) (hN:(aT E.N x&&aT E.N ix&&Nat.blt d E.N)=true)
  (ht:P.underlying t=some (.slice e)) (hsz:(P.info? e).map (·.size)=some sz) (hx:aO st.env x=av) (hn:acE av=some n) (hi:aO st.env ix=.v (.int k i)) (h0:0≤i) (h1:i<n) (ha:qz av i.toNat sz=dA)
  (h:K ⟨upd st.env d dA,st.ob⟩):Vo P E o st K:=by
 simp only [Bool.and_eq_true] at hN;refine W4 dA (fun d' hd'=>by rw [hd] at hd';cases hd';exact aS hN.2) (fun a w C hs=>?_) (by rw [hd];exact h);have hx1:=hs.ev x hN.1.1;rw [hx] at hx1;have hi1:=hs.ev ix hN.1.2;rw [hi] at hi1;have hi2:=hi1.dM;generalize Wd:a.eval x=ux at hx1;rw [←ha]
 cases hx1 with
 |ro n' c A cells us hc hm hz hcell hrel=>
  simp only [acE,Option.some.injEq] at hn;subst hn
  cases A with
  |none=>obtain ⟨h2,_⟩:=hz rfl;omega
  |some ad=>
   refine ⟨.pointer (some (ad.add (i.toNat*sz))),?_,.rp _ _ (fun j=>us (i.toNat*sz+j)) (fun j hj=>?_) (fun j av hj=>?_)⟩
   ·simp [execOp,ho,Wd,hi2,Instr.indexAt,asIntOf,run_underlying ht,h0,h1,run_sizeOf hsz]
   ·simp only [List.length_drop] at hj;obtain ⟨NY,hA,h2,h3,h4⟩:=hcell (i.toNat*sz+j) (by omega)
    cases hA
    exact ⟨by rw [add_block];exact h2,by rw [add_add];exact h3,h4⟩
   ·rw [List.getElem?_drop] at hj;exact hrel _ _ hj
 |sl id off n' c b gT hb hnc hm hss=>
  simp only [acE,Option.some.injEq] at hn;subst hn;refine ⟨.pointer (some (⟨b,off+i.toNat*sz,none⟩)),?_,.pt id _ b gT hb⟩;simp [execOp,ho,Wd,hi2,Instr.indexAt,asIntOf,run_underlying ht,h0,h1,run_sizeOf hsz,add_plain]
 |slnil id gT hb=>
  simp only [acE,Option.some.injEq] at hn;omega
 |_=>simp [acE] at hn
theorem SR.cells {C:Ctx} {a:Act} {w:World} (hs:SR E C st a w) {av:AV} {u:Value} (h:R w C av u) {cells:List AV} (hp:aB st.ob av=some cells):
  ∃ad,u=.pointer (some ad)∧∀j c,cells[j]? =some c→∃x,w.cell? (ad.add j)=some x∧x.oneCell'=true∧R w C c x:=by
 cases h with
 |rp ad cs us hcell hrel=>
  simp only [aB,Option.some.injEq] at hp;subst hp;refine ⟨ad,rfl,fun j c hj=>?_⟩;obtain ⟨_,h2,h3⟩:=hcell j (List.getElem?_eq_some_iff.1 hj).1;exact ⟨us j,h2,h3,hrel j c hj⟩
 |pt id off b hd hb=>
  simp only [aB] at hp
  split at hp
  ·rename_i o hlive
   cases hp
   obtain ⟨_,cur,hh,_,hl,hc⟩:=hs.obj.live id o b hlive hb;refine ⟨_,rfl,fun j c hj=>?_⟩;rw [List.getElem?_drop] at hj;obtain ⟨u,hu,h1,hr⟩:=hc (off+j) c hj;refine ⟨u,?_,h1,hr⟩;rw [add_plain];simp [World.cell?,hh,hu]
  ·cases hp
 |_=>simp [aB] at hp
theorem ajO {o:Oper} {t:TypeId} {x:Operand} {d:Nat} {av:AV} {rest:List AV} (ho:o.op=.load t x) (hd:o.dst=some d) (hN:(aT E.N x&&Nat.blt d E.N)=true)
  (hb:V0 P t=some false) (hp:aB st.ob (aO st.env x)=some (av::rest)) (h:K ⟨upd st.env d av,st.ob⟩):Vo P E o st K:=by
 simp only [Bool.and_eq_true] at hN;refine W4 av (fun d' hd'=>by rw [hd] at hd';cases hd';exact aS hN.2) (fun a w C hs=>?_) (by rw [hd];exact h);obtain ⟨ad,Wd,hc⟩:=hs.cells (hs.ev x hN.1) hp;obtain ⟨u,hu,_,hr⟩:=hc 0 av rfl;refine ⟨u,?_,hr⟩;have hu':w.cell? ad=some u:=by simpa [Addr.add] using hu
 simp [execOp,ho,Wd,Instr.loadAt,Instr.sureAddr,loadVar,oJ hb,hu']
theorem ai_ {o:Oper} {t:TypeId} {x:Operand} {d s:Nat} {cells:List AV} {cells':List AV} (ho:o.op=.load t x) (hd:o.dst=some d) (hN:(aT E.N x&&Nat.blt d E.N)=true)
  (hb:V0 P t=some true) (hsz:(P.info? t).map (·.size)=some s) (hp:aB st.ob (aO st.env x)=some cells) (hl:s≤cells.length) (hc':cells.take s=cells') (h:K ⟨upd st.env d (.agg cells'),st.ob⟩):Vo P E o st K:=by
 simp only [Bool.and_eq_true] at hN;refine W4 (.agg cells') (fun d' hd'=>by rw [hd] at hd';cases hd';exact aS hN.2) (fun a w C hs=>?_) (by rw [hd];exact h);subst hc';obtain ⟨ad,Wd,hc⟩:=hs.cells (hs.ev x hN.1) hp
 have hcell:∀j,j<s→w.cell? (ad.add j)=some ((w.cell? (ad.add j)).getD undef):=fun j hj=>by
  obtain ⟨u,hu,_⟩:=hc j _ (List.getElem?_eq_getElem (by omega));rw [hu];rfl
 have hrun:=run_loadCells (P:=P) w ad s (fun j=>(w.cell? (ad.add j)).getD undef) hcell;refine ⟨.agg ((List.range s).map fun j=>(w.cell? (ad.add j)).getD undef).toArray,?_,.agg _ _ ?_ fun j c hj=>?_⟩
 ·simp [execOp,ho,Wd,Instr.loadAt,Instr.sureAddr,loadVar,oJ hb,run_sizeOf hsz,hrun]
 ·simp;omega
 ·have hj':j<s:=by
   have:=(List.getElem?_eq_some_iff.1 hj).1;simp at this;omega
  rw [List.getElem?_take,if_pos hj'] at hj;obtain ⟨u,hu,_,hr⟩:=hc j c hj;simpa [hj',hu] using hr
theorem VV {o:Oper} {x:Operand} {d:Nat} {av:AV} (ho:o.op=.nilCheck x) (hd:o.dst=some d) (hN:(aT E.N x&&Nat.blt d E.N)=true) (hx:aO st.env x=av) (hp:ZN av=true)
  (h:K ⟨upd st.env d av,st.ob⟩):Vo P E o st K:=by
 simp only [Bool.and_eq_true] at hN;refine W4 av (fun d' hd'=>by rw [hd] at hd';cases hd';exact aS hN.2) (fun a w C hs=>?_) (by rw [hd];exact h);have h1:=hs.ev x hN.1;rw [hx] at h1;obtain ⟨ad,Wd,_⟩:=adt h1 hp 0;rw [Wd] at h1;exact ⟨_,by simp [execOp,ho,Wd],h1⟩
theorem kC {o:Oper} {f:FuncId} {caps:List Operand} {d:Nat} {cs:List AV} (ho:o.op=.makeFunc (.func f) #[] caps.toArray) (hd:o.dst=some d) (hN:(caps.all (aT E.N)&&Nat.blt d E.N)=true)
  (hx:caps.map (aO st.env)=cs) (h:K ⟨upd st.env d (.fn f cs),st.ob⟩):Vo P E o st K:=by
 simp only [Bool.and_eq_true] at hN;refine W4 (.fn f cs) (fun d' hd'=>by rw [hd] at hd';cases hd';exact aS hN.2) (fun a w C hs=>⟨.func (.func f) #[] (caps.toArray.map a.eval),?_,.fn f cs _ ?_ fun j av hj=>?_⟩) (by rw [hd];exact h)
 ·simp [execOp,ho,Instr.makeFunc]
 ·simp [←hx]
 ·subst hx;rw [List.getElem?_map,Option.map_eq_some_iff] at hj;obtain ⟨x,hj,rfl⟩:=hj;have:=hs.ev x (List.all_eq_true.1 hN.1 x (List.mem_of_getElem? hj));simpa [hj] using this
theorem PI {o:Oper} {op:BinOp} {t t' e:TypeId} {x y:Operand} {d:Nat} {av:AV} {r:Bool} (ho:o.op=.binOp op t x y t') (hd:o.dst=some d) (hN:(aT E.N x&&aT E.N y&&Nat.blt d E.N)=true)
  (ht:P.underlying t=some (.pointer e)) (hx:aO st.env x=av) (hp:ZN av=true) (hy:aO st.env y=.v (.pointer none)) (hop:op=.eql∧r=false∨op=.neq∧r=true)
  (h:K ⟨upd st.env d (.v (.bool r)),st.ob⟩):Vo P E o st K:=by
 simp only [Bool.and_eq_true] at hN;refine W4 (.v (.bool r)) (fun d' hd'=>by rw [hd] at hd';cases hd';exact aS hN.2) (fun a w C hs=>⟨.bool r,?_,.v _⟩) (by rw [hd];exact h);have h1:=hs.ev x hN.1.1;rw [hx] at h1;have h2:=hs.ev y hN.1.2;rw [hy] at h2;obtain ⟨ad,Wd,_⟩:=adt h1 hp 0;rcases hop with ⟨rfl,rfl⟩|⟨rfl,rfl⟩
 ·simp only [execOp,ho,Wd,h2.dM,eqGuard,binOp,lq,Sem.run_bind,yH ht,Result.andThen_ok];rfl
 ·simp only [execOp,ho,Wd,h2.dM,eqGuard,binOp,lq,Sem.run_bind,yH ht,Result.andThen_ok];rfl
theorem FI {o:Oper} {op:BinOp} {t t' e:TypeId} {x y:Operand} {d:Nat} {r:Bool} (ho:o.op=.binOp op t x y t') (hd:o.dst=some d) (hN:(aT E.N x&&aT E.N y&&Nat.blt d E.N)=true)
  (ht:P.underlying t=some (.pointer e)) (hx:aO st.env x=.v (.pointer none)) (hy:aO st.env y=.v (.pointer none)) (hop:op=.eql∧r=true∨op=.neq∧r=false)
  (h:K ⟨upd st.env d (.v (.bool r)),st.ob⟩):Vo P E o st K:=by
 refine abK ho hd hN hx hy (fun w=>?_) h;rcases hop with ⟨rfl,rfl⟩|⟨rfl,rfl⟩
 ·simp only [eqGuard,binOp,lq,Sem.run_bind,yI ht,Result.andThen_ok];rfl
 ·simp only [eqGuard,binOp,lq,Sem.run_bind,yI ht,Result.andThen_ok];rfl
theorem acn {o:Oper} {op:BinOp} {t t' e:TypeId} {x y:Operand} {d:Nat} {n:Nat} {cells:List AV} (ho:o.op=.binOp op t x y t') (hd:o.dst=some d) (hN:(aT E.N x&&aT E.N y&&Nat.blt d E.N)=true)
  (ht:P.underlying t=some (.slice e)) (hx:aO st.env x=.ro n cells) (hy:aO st.env y=.v (.slice none 0 0)) (hop:op=.eql∨op=.neq)
  (h:∀b:Bool,(n≠0→b=(op != .eql))→K ⟨upd st.env d (.v (.bool b)),st.ob⟩):Vo P E o st K:=by
 simp only [Bool.and_eq_true] at hN;rintro a w q ⟨C,hs⟩;have h1:=hs.ev x hN.1.1;rw [hx] at h1;have h2:=hs.ev y hN.1.2;rw [hy] at h2;generalize Wd:a.eval x=ux at h1
 cases h1 with
 |ro _ c A _ us hc hm hz hcell hrel=>
  have hb:∃b:Bool,(execOp a.eval o).run P w=.ok (.value (.bool b)) w∧(n≠0→b=(op != .eql)):=by
   have hA:n≠0→A.isNone=false:=fun hn=>by
    cases A with
    |none=>exact absurd (hz rfl).1 hn
    |some ad=>rfl
   rcases hop with rfl|rfl
   ·refine ⟨A.isNone,?_,fun hn=>by rw [hA hn];rfl⟩;simp only [execOp,ho,Wd,h2.dM,eqGuard,binOp,lq,Sem.run_bind,yK ht,Result.andThen_ok];rfl
   ·refine ⟨!A.isNone,?_,fun hn=>by rw [hA hn];rfl⟩;simp only [execOp,ho,Wd,h2.dM,eqGuard,binOp,lq,Sem.run_bind,yK ht,Result.andThen_ok];rfl
  obtain ⟨b,hr,hb⟩:=hb;exact IY a w q C hs hr (.v _) hd (aS hN.2) (h b hb)
end
end Go.Lo
