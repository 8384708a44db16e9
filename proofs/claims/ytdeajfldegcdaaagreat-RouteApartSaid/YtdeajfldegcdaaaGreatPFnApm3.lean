/- Part of the logic of values: what the law reaches. -/
import Derived.Test.YtdeajfldegcdaaaGreatPFnApm2
import Derived.StillTail
set_option linter.unusedVariables false
set_option linter.unusedSimpArgs false
namespace Go.Lo
inductive Ok (p:Nat→Prop) (ro:Prop):AV→Prop
 |any:Ok p ro .any
 |one:Ok p ro .one
 |v (x:Value):Ok p ro (.v x)
 |ro (n:Nat) (cells:List AV) (hr:ro) (h:∀c,c∈cells→Ok p ro c):Ok p ro (.ro n cells)
 |rp (cells:List AV) (hr:ro) (h:∀c,c∈cells→Ok p ro c):Ok p ro (.rp cells)
 |sl (id off n:Nat) (h:p id):Ok p ro (.sl id off n)
 |pt (id off:Nat) (h:p id):Ok p ro (.pt id off)
 |agg (cells:List AV) (h:∀c,c∈cells→Ok p ro c):Ok p ro (.agg cells)
 |Vm (cells:List AV) (h:∀c,c∈cells→Ok p ro c):Ok p ro (.Vm cells)
 |fn (f:FuncId) (cells:List AV) (h:∀c,c∈cells→Ok p ro c):Ok p ro (.fn f cells)
abbrev iw:AV→Prop:=Ok (fun _=>False) True
abbrev gD (l:List AV):Prop:=∀c,c∈l→iw c
theorem aeN {p:Nat→Prop} {ro:Prop}:∀c,c∈([]:List AV)→Ok p ro c:=fun c h=>by cases h
theorem uL {p:Nat→Prop} {ro:Prop} {a:AV} {l:List AV} (h1:Ok p ro a) (h:∀c,c∈l→Ok p ro c):∀c,c∈a::l→Ok p ro c:=fun c hc=>by
 rcases List.mem_cons.1 hc with rfl|hc
 ·exact h1
 ·exact h c hc
theorem aby {p:Nat→Prop} {ro:Prop} {a l:List AV} (h1:∀c,c∈a→Ok p ro c) (h:∀c,c∈l→Ok p ro c):∀c,c∈a++l→Ok p ro c:=fun c hc=>by
 rcases List.mem_append.1 hc with hc|hc
 ·exact h1 c hc
 ·exact h c hc
theorem Ok.mono {p p':Nat→Prop} {ro ro':Prop} (hp:∀i,p i→p' i) (hr:ro→ro') {av:AV} (h:Ok p ro av):Ok p' ro' av:=by
 induction h with
 |any=>exact .any
 |one=>exact .one
 |v x=>exact .v x
 |ro n cells h _ ih=>exact .ro n cells (hr h) ih
 |rp cells h _ ih=>exact .rp cells (hr h) ih
 |sl id off n h=>exact .sl id off n (hp _ h)
 |pt id off h=>exact .pt id off (hp _ h)
 |agg cells _ ih=>exact .agg cells ih
 |Vm cells _ ih=>exact .Vm cells ih
 |fn f cells _ ih=>exact .fn f cells ih
mutual
def AV.map (σ:Nat→Nat):AV→AV
 | .any=>.any
 | .one=>.one
 | .v x=>.v x
 | .ro n cells=>.ro n (AV.V4 σ cells)
 | .rp cells=>.rp (AV.V4 σ cells)
 | .sl id off n=>.sl (σ id) off n
 | .pt id off=>.pt (σ id) off
 | .agg cells=>.agg (AV.V4 σ cells)
 | .Vm cells=>.Vm (AV.V4 σ cells)
 | .fn f cells=>.fn f (AV.V4 σ cells)
def AV.V4 (σ:Nat→Nat):List AV→List AV
 | []=>[]
 |a::l=>AV.map σ a::AV.V4 σ l
end
theorem WR (σ:Nat→Nat) (l:List AV):AV.V4 σ l=l.map (AV.map σ):=by
 induction l with
 |nil=>rfl
 |cons a l ih=>simp [AV.V4,ih]
theorem jy {σ:Nat→Nat} {av:AV} (h:iw av):av.map σ=av:=by
 induction h with
 |any|one|v=>simp [AV.map]
 |ro n cells _ _ ih=>simp only [AV.map,WR];rw [List.map_id'' ?_];exact ih
 |rp cells _ _ ih=>simp only [AV.map,WR];rw [List.map_id'' ?_];exact ih
 |sl id off n h=>exact h.elim
 |pt id off h=>exact h.elim
 |agg cells _ ih=>simp only [AV.map,WR];rw [List.map_id'' ?_];exact ih
 |Vm cells _ ih=>simp only [AV.map,WR];rw [List.map_id'' ?_];exact ih
 |fn f cells _ ih=>simp only [AV.map,WR];rw [List.map_id'' ?_];exact ih
where
 List.map_id'' {l:List AV} {σ:Nat→Nat} (h:∀c,c∈l→AV.map σ c=c):l.map (AV.map σ)=l:=by
  induction l with
  |nil=>rfl
  |cons a l ih=>rw [List.map_cons,h a List.mem_cons_self,ih (fun c hc=>h c (List.mem_cons_of_mem _ hc))]
theorem oI {σ:Nat→Nat} {l:List AV} (h:gD l):AV.V4 σ l=l:=by
 induction l with
 |nil=>rfl
 |cons a l ih=>simp only [AV.V4];rw [jy (h a List.mem_cons_self),ih (fun c hc=>h c (List.mem_cons_of_mem _ hc))]
theorem R.map {w:World} {C C2:Ctx} {σ:Nat→Nat} {p:Nat→Prop} {ro:Prop} (hid:∀id,p id→C.dom id→C2.dom (σ id)∧C2.blk (σ id)=C.blk id∧C2.sz (σ id)=C.sz id∧C2.bC (σ id)=C.bC id)
  (hown:ro→∀b,¬C.own b→¬C2.own b) {av:AV} {u:Value} (h:R w C av u) (hok:Ok p ro av):R w C2 (av.map σ) u:=by
 have rel:∀(cells:List AV) (g:Nat→Value),(∀c,c∈cells→Ok p ro c)→(∀j av,cells[j]? =some av→Ok p ro av→R w C2 (av.map σ) (g j))→∀j av,(AV.V4 σ cells)[j]? =some av→R w C2 av (g j):=by
  intro cells g hc ih j av hj;rw [WR,List.getElem?_map,Option.map_eq_some_iff] at hj;obtain ⟨c,hj,rfl⟩:=hj;exact ih j c hj (hc c (List.mem_of_getElem? hj))
 have len:∀cells,(AV.V4 σ cells).length=cells.length:=fun cells=>by rw [WR];simp
 induction h with
 |any u=>exact .any u
 |one u h=>exact .one u h
 |v x=>exact .v x
 |ro n c A cells us hc hm h0 hcell _ ih=>
  cases hok with
  |ro _ _ hr hcs=>
   refine .ro n c A _ us hc hm h0 (fun j hj=>?_) (rel cells us hcs (fun j av h1 h2=>ih j av h1 h2));obtain ⟨ad,h1,h2,h3⟩:=hcell j (by rw [len] at hj;exact hj);exact ⟨ad,h1,hown hr _ h2,h3⟩
 |rp ad cells us hcell _ ih=>
  cases hok with
  |rp _ hr hcs=>
   refine .rp ad _ us (fun j hj=>?_) (rel cells us hcs (fun j av h1 h2=>ih j av h1 h2));obtain ⟨h2,h3⟩:=hcell j (by rw [len] at hj;exact hj);exact ⟨hown hr _ h2,h3⟩
 |sl id off n c b hd hb hn hm hs=>
  cases hok with
  |sl _ _ _ hp=>
   obtain ⟨h1,h2,h3,h4⟩:=hid id hp hd;exact .sl _ off n c b h1 (by rw [h2];exact hb) hn hm (by rw [h3,h4];exact hs)
 |slnil id hd hb=>
  cases hok with
  |sl _ _ _ hp=>
   obtain ⟨h1,h2,_,_⟩:=hid id hp hd;exact .slnil _ h1 (by rw [h2];exact hb)
 |pt id off b hd hb=>
  cases hok with
  |pt _ _ hp=>
   obtain ⟨h1,h2,_,_⟩:=hid id hp hd;exact .pt _ off b h1 (by rw [h2];exact hb)
 |agg cells us hs _ ih=>
  cases hok with
  |agg _ hcs=>exact .agg _ us (by rw [len];exact hs) (rel cells _ hcs (fun j av h1 h2=>ih j av h1 h2))
 |Vm cells us hs _ ih=>
  cases hok with
  |Vm _ hcs=>exact .Vm _ us (by rw [len];exact hs) (rel cells _ hcs (fun j av h1 h2=>ih j av h1 h2))
 |fn f cells us hs _ ih=>
  cases hok with
  |fn _ _ hcs=>exact .fn f _ us (by rw [len];exact hs) (rel cells _ hcs (fun j av h1 h2=>ih j av h1 h2))
inductive VN (ob:Nat→aH):AV→AV→Prop
 |any (av:AV):VN ob av .any
 |one (av:AV) (h:je av=true):VN ob av .one
 |same (av:AV) (h:iw av):VN ob av av
 |nil:VN ob (.v (.slice none 0 0)) (.ro 0 [])
 |sl (id off n:Nat) (o:aC) (cs:List AV) (hl:ob id=.live o) (hlen:cs.length=n*o.bC) (hle:off+n*o.bC≤o.cells.length) (h:∀(j:Nat) (a b:AV),o.cells[off+j]? =some a→cs[j]? =some b→VN ob a b):VN ob (.sl id off n) (.ro n cs)
 |pt (id off:Nat) (o:aC) (cs:List AV) (hl:ob id=.live o) (hle:off+cs.length≤o.cells.length) (h:∀(j:Nat) (a b:AV),o.cells[off+j]? =some a→cs[j]? =some b→VN ob a b):VN ob (.pt id off) (.rp cs)
 |agg (as cs:List AV) (hlen:cs.length=as.length) (h:∀(j:Nat) (a b:AV),as[j]? =some a→cs[j]? =some b→VN ob a b):VN ob (.agg as) (.agg cs)
 |Vm (as cs:List AV) (hlen:cs.length=as.length) (h:∀(j:Nat) (a b:AV),as[j]? =some a→cs[j]? =some b→VN ob a b):VN ob (.Vm as) (.Vm cs)
 |fn (f:FuncId) (as cs:List AV) (hlen:cs.length=as.length) (h:∀(j:Nat) (a b:AV),as[j]? =some a→cs[j]? =some b→VN ob a b):VN ob (.fn f as) (.fn f cs)
 |Pm (as cs:List AV) (hlen:cs.length=as.length) (h:∀(j:Nat) (a b:AV),as[j]? =some a→cs[j]? =some b→VN ob a b):VN ob (.rp as) (.rp cs)
 |row (n:Nat) (as cs:List AV) (hlen:cs.length=as.length) (h:∀(j:Nat) (a b:AV),as[j]? =some a→cs[j]? =some b→VN ob a b):VN ob (.ro n as) (.ro n cs)
def dV (ob:Nat→aH) (as cs:List AV):Prop:=cs.length=as.length∧∀(j:Nat) (a b:AV),as[j]? =some a→cs[j]? =some b→VN ob a b
theorem fP {ob:Nat→aH}:dV ob [] []:=⟨rfl,fun j a b h=>by simp at h⟩
theorem Vb {ob:Nat→aH} {a c:AV} {as cs:List AV} (h1:VN ob a c) (h:dV ob as cs):dV ob (a::as) (c::cs):=by
 refine ⟨by simp [h.1],fun j x y hx hy=>?_⟩
 cases j with
 |zero=>simp at hx hy;subst hx;subst hy;exact h1
 |succ j=>exact h.2 j x y (by simpa using hx) (by simpa using hy)
theorem zk {ob:Nat→aH} {as:List AV} (h:gD as):dV ob as as:=⟨rfl,fun j a b hx hy=>by
 rw [hx] at hy;cases hy;exact .same a (h a (List.mem_of_getElem? hx))⟩
theorem ads {ob:Nat→aH} {id n:Nat} {o:aC} (hl:ob id=.live o) (hlen:o.cells.length=n*o.bC) (h:gD o.cells):VN ob (.sl id 0 n) (.ro n o.cells):=
 .sl id 0 n o o.cells hl hlen (by omega) (fun j a b hx hy=>by rw [Nat.zero_add] at hx;rw [hx] at hy;cases hy;exact .same a (h a (List.mem_of_getElem? hx)))
theorem kI {ob:Nat→aH} {id:Nat} {o:aC} {cs:List AV} (hl:ob id=.live o) (h:dV ob o.cells cs):VN ob (.pt id 0) (.rp cs):=
 .pt id 0 o cs hl (by rw [h.1];omega) (fun j a b hx hy=>h.2 j a b (by rw [Nat.zero_add] at hx;exact hx) hy)
theorem oN {ob:Nat→aH} {as cs:List AV} (h:dV ob as cs):VN ob (.rp as) (.rp cs):=.Pm as cs h.1 h.2
theorem adi {ob:Nat→aH} {as cs:List AV} (h:dV ob as cs):VN ob (.agg as) (.agg cs):=.agg as cs h.1 h.2
theorem kH {ob:Nat→aH} {f:FuncId} {as cs:List AV} (h:dV ob as cs):VN ob (.fn f as) (.fn f cs):=.fn f as cs h.1 h.2
theorem VN.more {ob bI:Nat→aH} (h:∀id o,ob id=.live o→bI id=.live o) {a b:AV} (hl:VN ob a b):VN bI a b:=by
 induction hl with
 |any av=>exact .any av
 |one av h=>exact .one av h
 |same av h=>exact .same av h
 |nil=>exact .nil
 |sl id off n o cs hl h1 h2 _ ih=>exact .sl id off n o cs (h _ _ hl) h1 h2 ih
 |pt id off o cs hl h1 _ ih=>exact .pt id off o cs (h _ _ hl) h1 ih
 |agg as cs h1 _ ih=>exact .agg as cs h1 ih
 |Vm as cs h1 _ ih=>exact .Vm as cs h1 ih
 |fn f as cs h1 _ ih=>exact .fn f as cs h1 ih
 |Pm as cs h1 _ ih=>exact .Pm as cs h1 ih
 |row n as cs h1 _ ih=>exact .row n as cs h1 ih
theorem dV.more {ob bI:Nat→aH} {as bs:List AV} (hl:dV ob as bs) (h:∀id o,ob id=.live o→bI id=.live o):dV bI as bs:=⟨hl.1,fun j a b h1 h2=>(hl.2 j a b h1 h2).more h⟩
theorem VN.CY {ob:Nat→aH} {a b:AV} (hl:VN ob a b):iw b:=by
 have get:∀{as cs:List AV} {k:Nat},k+cs.length≤as.length→(∀(j:Nat) (a b:AV),as[k+j]? =some a→cs[j]? =some b→iw b)→gD cs:=fun {as cs k} hlen ih c hc=>by
  obtain ⟨j,hj⟩:=List.getElem?_of_mem hc;have hl:=(List.getElem?_eq_some_iff.1 hj).1;exact ih j _ c (List.getElem?_eq_getElem (by omega)) hj
 induction hl with
 |any av=>exact .any
 |one av h=>exact .one
 |same av h=>exact h
 |nil=>exact .ro _ _ trivial (fun c h=>by cases h)
 |sl id off n o cs hl h1 h2 _ ih=>exact .ro _ _ trivial (get (by omega) ih)
 |pt id off o cs hl h1 _ ih=>exact .rp _ trivial (get h1 ih)
 |agg as cs h1 _ ih=>exact .agg _ (get (as:=as) (cs:=cs) (k:=0) (by omega) (by simpa using ih))
 |Vm as cs h1 _ ih=>exact .Vm _ (get (as:=as) (cs:=cs) (k:=0) (by omega) (by simpa using ih))
 |fn f as cs h1 _ ih=>exact .fn _ _ (get (as:=as) (cs:=cs) (k:=0) (by omega) (by simpa using ih))
 |Pm as cs h1 _ ih=>exact .rp _ trivial (get (as:=as) (cs:=cs) (k:=0) (by omega) (by simpa using ih))
 |row n as cs h1 _ ih=>exact .ro _ _ trivial (get (as:=as) (cs:=cs) (k:=0) (by omega) (by simpa using ih))
def C0 (X:Nat→Prop):Ctx:=⟨fun _=>none,fun _=>0,fun _=>0,fun _=>False,X⟩
section
variable {P:Program} {E:VC} {st:St} {K:St→Prop}
theorem SR.rW {C:Ctx} {a:Act} {w:World} (hs:SR E C st a w) {ob:Nat→aH} (au:∀id o,ob id=.live o→st.ob id=.live o) (X:Nat→Prop) (hX:∀b,X b→C.own b∧∀id o,ob id=.live o→C.blk id≠some b) {av dA:AV} {u:Value} (hl:VN ob av dA) (h:R w C av u):R w (C0 X) dA u:=by
 induction hl generalizing u with
 |any=>exact .any u
 |one av h1=>exact .one u (rV h h1)
 |same av hno=>
  have:=R.map (C2:=C0 X) (σ:=id) (fun _ h _=>h.elim) (fun _ b hb hx=>hb (hX b hx).1) h hno
  rwa [jy hno] at this
 |nil=>
  cases h
  exact .ro 0 0 none [] (fun _=>undef) (Nat.le_refl _) (Nat.zero_le _) (fun _=>⟨rfl,rfl⟩) (fun j hj=>by simp at hj) (fun j av hj=>by simp at hj)
 |sl id off n o cs hlv hlen hle hcs ih=>
  cases h with
  |sl _ _ _ c b hd hb hn hm hss=>
   obtain ⟨hown,cur,hh,_,hcl,hcell⟩:=hs.obj.live id o b (au _ _ hlv) hb;have hnX:¬X b:=fun hx=>(hX b hx).2 id o hlv hb
   have hcur:∀j,j<cs.length→∃x,o.cells[off+j]? =some x∧cur[off+j]? =some ((cur[off+j]?).getD undef)∧((cur[off+j]?).getD undef).oneCell'=true∧R w C x ((cur[off+j]?).getD undef):=fun j hj=>by
    have hj2:off+j<o.cells.length:=by omega
    obtain ⟨u,hu,h1,hr⟩:=hcell (off+j) o.cells[off+j] (List.getElem?_eq_getElem hj2);exact ⟨_,List.getElem?_eq_getElem hj2,by rw [hu];rfl,by rw [hu];exact h1,by rw [hu];exact hr⟩
   refine .ro n c _ cs (fun j=>(cur[off+j]?).getD undef) hn hm (fun e=>by cases e) (fun j hj=>?_) (fun j av hj=>?_)
   ·obtain ⟨x,_,h1,h2,_⟩:=hcur j hj;refine ⟨_,rfl,hnX,?_,h2⟩;rw [add_plain];simp only [World.cell?,hh];simpa using h1
   ·obtain ⟨x,hx,_,_,h3⟩:=hcur j (List.getElem?_eq_some_iff.1 hj).1;exact ih j x av hx hj h3
  |slnil _ hd hb=>
   have hc:=(hs.obj.nil id o (au _ _ hlv)).2.2 hb;have h0:cs=[]:=List.eq_nil_of_length_eq_zero (by rw [hc] at hle;simp at hle;omega);subst h0;exact .ro 0 0 none [] (fun _=>undef) (Nat.le_refl _) (Nat.zero_le _) (fun _=>⟨rfl,rfl⟩) (fun j hj=>by simp at hj) (fun j av hj=>by simp at hj)
 |pt id off o cs hlv hle hcs ih=>
  cases h with
  |pt _ _ b hd hb=>
   obtain ⟨hown,cur,hh,_,hcl,hcell⟩:=hs.obj.live id o b (au _ _ hlv) hb;have hnX:¬X b:=fun hx=>(hX b hx).2 id o hlv hb
   have hcur:∀j,j<cs.length→∃x,o.cells[off+j]? =some x∧cur[off+j]? =some ((cur[off+j]?).getD undef)∧((cur[off+j]?).getD undef).oneCell'=true∧R w C x ((cur[off+j]?).getD undef):=fun j hj=>by
    have hj2:off+j<o.cells.length:=by omega
    obtain ⟨u,hu,h1,hr⟩:=hcell (off+j) o.cells[off+j] (List.getElem?_eq_getElem hj2);exact ⟨_,List.getElem?_eq_getElem hj2,by rw [hu];rfl,by rw [hu];exact h1,by rw [hu];exact hr⟩
   refine .rp _ cs (fun j=>(cur[off+j]?).getD undef) (fun j hj=>?_) (fun j av hj=>?_)
   ·obtain ⟨x,_,h1,h2,_⟩:=hcur j hj;refine ⟨hnX,?_,h2⟩;rw [add_plain];simp only [World.cell?,hh];simpa using h1
   ·obtain ⟨x,hx,_,_,h3⟩:=hcur j (List.getElem?_eq_some_iff.1 hj).1;exact ih j x av hx hj h3
 |agg as cs hlen _ ih=>
  cases h with
  |agg _ us hsz hrel=>exact .agg cs us (by rw [hlen];exact hsz) (fun j av hj=>ih j _ av (List.getElem?_eq_getElem (by have:=(List.getElem?_eq_some_iff.1 hj).1;omega)) hj (hrel j _ (List.getElem?_eq_getElem (by have:=(List.getElem?_eq_some_iff.1 hj).1;omega))))
 |Vm as cs hlen _ ih=>
  cases h with
  |Vm _ us hsz hrel=>exact .Vm cs us (by rw [hlen];exact hsz) (fun j av hj=>ih j _ av (List.getElem?_eq_getElem (by have:=(List.getElem?_eq_some_iff.1 hj).1;omega)) hj (hrel j _ (List.getElem?_eq_getElem (by have:=(List.getElem?_eq_some_iff.1 hj).1;omega))))
 |fn f as cs hlen _ ih=>
  cases h with
  |fn _ _ us hsz hrel=>exact .fn f cs us (by rw [hlen];exact hsz) (fun j av hj=>ih j _ av (List.getElem?_eq_getElem (by have:=(List.getElem?_eq_some_iff.1 hj).1;omega)) hj (hrel j _ (List.getElem?_eq_getElem (by have:=(List.getElem?_eq_some_iff.1 hj).1;omega))))
 |Pm as cs hlen _ ih=>
  cases h with
  |rp ad _ us hcell hrel=>exact .rp ad cs us (fun j hj=>by obtain ⟨h1,h2⟩:=hcell j (by omega);exact ⟨fun hx=>h1 (hX _ hx).1,h2⟩) (fun j av hj=>ih j _ av (List.getElem?_eq_getElem (by have:=(List.getElem?_eq_some_iff.1 hj).1;omega)) hj (hrel j _ (List.getElem?_eq_getElem (by have:=(List.getElem?_eq_some_iff.1 hj).1;omega))))
 |row n as cs hlen _ ih=>
  cases h with
  |ro _ c A _ us hc hm h0 hcell hrel=>exact .ro n c A cs us hc hm h0 (fun j hj=>by obtain ⟨ad,h1,h2,h3⟩:=hcell j (by omega);exact ⟨ad,h1,fun hx=>h2 (hX _ hx).1,h3⟩) (fun j av hj=>ih j _ av (List.getElem?_eq_getElem (by have:=(List.getElem?_eq_some_iff.1 hj).1;omega)) hj (hrel j _ (List.getElem?_eq_getElem (by have:=(List.getElem?_eq_some_iff.1 hj).1;omega))))
theorem SR.lend {C:Ctx} {a:Act} {w:World} (hs:SR E C st a w) (X:Nat→Prop) (hX:∀b,X b→C.own b∧∀id o,st.ob id=.live o→C.blk id≠some b) {av dA:AV} {u:Value} (hl:VN st.ob av dA) (h:R w C av u):R w (C0 X) dA u:=hs.rW (fun _ _ h=>h) X hX hl h
end
def jM (news:List aC):Nat→aH:=fun id=>match news[id]? with|some o=>.live o|none=>.free
def vv (w:World) (X:Nat→Prop) (post:AV→List aC→Prop) (e:Ending) (w':World):Prop:=
 ∃v C' res news,e=.returned v∧post res news∧Fr (fun _=>False) w w'∧R w' C' res v∧kY w' C' (jM news)∧
   (∀id b,id<news.length→C'.blk id=some b→w.heap.size≤b)∧(∀b,X b→C'.own b)∧(∀b,b<w.heap.size→C'.own b→X b)
def l7 (P:Program) (f:FuncId) (args:List AV) (post:AV→List aC→Prop):Prop:=
 ∀(w:World) (X:Nat→Prop) (vs:Array Value),vs.size=args.length→(∀b,X b→b<w.heap.size)→Laid w X→(∀j av,args[j]? =some av→R w (C0 X) av (vs.getD j undef))→Calls P f vs w (vv w X post)
def Fn (P:Program) (f:FuncId) (args:List AV) (res:AV):Prop:=l7 P f args (fun r n=>r=res∧n=[])
def Yr (P:Program) (f:FuncId) (args:List AV) (res:AV) (news:List aC):Prop:=l7 P f args (fun r n=>r=res∧n=news)
theorem l7.mono {P:Program} {f:FuncId} {args:List AV} {post post':AV→List aC→Prop} (h:l7 P f args post) (hp:∀r n,post r n→post' r n):l7 P f args post':=
 fun w X vs h1 h2 hL h3=>(h w X vs h1 h2 hL h3).mono fun e w' ⟨v,C',res,news,h4,h5,h6⟩=>⟨v,C',res,news,h4,hp _ _ h5,h6⟩
def Wc (ob:Nat→aH) (s:Nat):List aC→(Nat→aH)
 | []=>ob
 |o::r=>Wc (U4 ob s (.live o)) (s+1) r
def aC.map (σ:Nat→Nat) (o:aC):aC:=⟨AV.V4 σ o.cells,o.elem,o.bC⟩
theorem Ae (news:List aC):∀(ob:Nat→aH) (s id:Nat),Wc ob s news id=if s≤id∧id<s+news.length then (match news[id-s]? with|some o=>.live o|none=>ob id) else ob id:=by
 induction news with
 |nil=>intro ob s id;simp [Wc]
 |cons o r ih=>
  intro ob s id;simp only [Wc,ih,List.length_cons];by_cases h:id=s
  ·subst h;rw [if_neg (by omega),V9,if_pos (by omega)];simp
  ·rw [VX _ _ h];by_cases h1:s+1≤id∧id<s+1+r.length
   ·rw [if_pos h1,if_pos (by omega)];rw [show id-s=(id-(s+1))+1 by omega,List.getElem?_cons_succ]
   ·rw [if_neg h1,if_neg (by omega)]
def Vp (P:Program) (f:FuncId):Bool:=
 match P.funcs[f]? with
 |some fn=> !(fn.name== "runtime.NumGoroutine")&&fn.body.isSome
 |none=>false
theorem yO {P:Program} {f:FuncId} (h:Vp P f=true) (args:Array Value) (w:World):(callFunc f args).run P w=.ok (.enter f args) w:=by
 unfold Vp at h
 split at h
 ·rename_i fn hfn;simp only [Bool.and_eq_true,Bool.not_eq_true'] at h;obtain ⟨h1,h2⟩:=h
  have h3:¬fn.body=none:=by
   intro hb;rw [hb] at h2;cases h2
  have h4:¬fn.name= "runtime.NumGoroutine" :=by simpa using h1
  simp [callFunc,hfn,h3,h4]
 ·cases h
def Xb (C C':Ctx) (s k:Nat):Ctx where
 blk:=fun i=>if s≤i∧i<s+k then C'.blk (i-s) else C.blk i
 sz:=fun i=>if s≤i∧i<s+k then C'.sz (i-s) else C.sz i
 bC:=fun i=>if s≤i∧i<s+k then C'.bC (i-s) else C.bC i
 dom:=fun i=>C.dom i∨(s≤i∧i<s+k)
 own:=fun b=>C.own b∨C'.own b
section
variable {P:Program} {E:VC} {st:St} {K:St→Prop}
theorem Af {w:World} {C:Ctx} {f:FuncId} {caps:List AV} {u:Value} (h:R w C (.fn f caps) u):∃us:Array Value,u=.func (.func f) #[] us∧us.size=caps.length∧∀j av,caps[j]? =some av→R w C av (us.getD j undef):=by
 cases h with
 |fn _ _ us hs hr=>exact ⟨us,rfl,hs,hr⟩
theorem SR.back {C C':Ctx} {a:Act} {w w':World} (hs:SR E C st a w) {X:Nat→Prop} {res:AV} {news:List aC} {v:Value} (s:Nat) (hX:∀b,X b→C.own b)
  (hfr:Fr (fun _=>False) w w') (hR:R w' C' res v) (eZ:kY w' C' (jM news)) (hnew:∀id b,id<news.length→C'.blk id=some b→w.heap.size≤b) (hkeep:∀b,X b→C'.own b)
  (hold:∀b,b<w.heap.size→C'.own b→X b) (hfree:∀i,i<news.length→st.ob (s+i)=.free)
  (hro:(∀b,C.own b→X b)∨(Ok (fun _=>True) False res∧∀o,o∈news→∀c,c∈o.cells→Ok (fun _=>True) False c)) (hok:∀{ro:Prop},ro→Ok (fun _=>True) ro res∧∀o,o∈news→∀c,c∈o.cells→Ok (fun _=>True) ro c)
  (dst:Option Nat) (hd:∀d,dst=some d→d<E.N):
  SR E (Xb C C' s news.length) (St.put ⟨st.env,Wc st.ob s (news.map (aC.map (· +s)))⟩ dst (res.map (· +s))) (a.put dst v) w':=by
 have hlen:(news.map (aC.map (· +s))).length=news.length:=by simp
 have Ke:∀id,C'.dom id→id<news.length:=fun id hid=>by
  rcases Nat.lt_or_ge id news.length with h|h
  ·exact h
  ·exact absurd (by simp [jM,List.getElem?_eq_none h]) (eZ.dom id hid)
 have hnotin:∀id,C.dom id→¬(s≤id∧id<s+news.length):=fun id hid hin=>by
  have:=hfree (id-s) (by omega);rw [show s+(id-s)=id by omega] at this;exact hs.obj.dom id hid this
 have hext:Ext w C w' (Xb C C' s news.length):=by
  refine ⟨fun id hid=>?_,fun b hb ho h=>?_,fun b hb _=>hfr.block b hb (fun h=>h)⟩
  ·have:=hnotin id hid;simp [Xb,this,hid]
  ·rcases h with h|h
   ·exact ho h
   ·exact ho (hX b (hold b hb h))
 obtain ⟨ro,acH,hown⟩:∃ro:Prop,(Ok (fun _=>True) ro res∧∀o,o∈news→∀c,c∈o.cells→Ok (fun _=>True) ro c)∧(ro→∀b,¬C'.own b→¬(Xb C C' s news.length).own b):=by
  rcases hro with h|h
  ·refine ⟨True,hok trivial,fun _ b hb h2=>?_⟩;rcases h2 with h2|h2
   ·exact hb (hkeep b (h b h2))
   ·exact hb h2
  ·exact ⟨False,h,fun h=>h.elim⟩
 have hid:∀id,True→C'.dom id→(Xb C C' s news.length).dom (id+s)∧(Xb C C' s news.length).blk (id+s)=C'.blk id∧(Xb C C' s news.length).sz (id+s)=C'.sz id∧(Xb C C' s news.length).bC (id+s)=C'.bC id:=fun id _ hd=>by
  have h1:=Ke id hd;have h2:s≤id+s∧id+s<s+news.length:=by omega
  simp [Xb,h2,show id+s-s=id by omega]
 have hlive:∀i o,Wc st.ob s (news.map (aC.map (· +s))) i=.live o→(∃o0,s≤i∧i<s+news.length∧news[i-s]? =some o0∧o=aC.map (· +s) o0)∨(¬(s≤i∧i<s+news.length)∧st.ob i=.live o):=fun i o h=>by
  rw [Ae,hlen] at h;by_cases hin:s≤i∧i<s+news.length
  ·rw [if_pos hin,List.getElem?_map,List.getElem?_eq_getElem (by omega)] at h;simp only [Option.map_some] at h
   cases h
   exact .inl ⟨_,hin.1,hin.2,List.getElem?_eq_getElem (by omega),rfl⟩
  ·rw [if_neg hin] at h;exact .inr ⟨hin,h⟩
 have au:∀i o0,news[i]? =some o0→jM news i=.live o0:=fun i o0 h=>by simp [jM,h]
 refine hs.put hext _ ⟨fun i o h=>?_,fun i o b h hb=>?_,fun i i' o1 o2 b h1 h2 h3 h4=>?_,fun i hi=>?_,fun b hb=>?_⟩
  ⟨hfr.os.trans hs.fr.os,hfr.tape.trans hs.fr.tape,hfr.output.trans hs.fr.output,Nat.le_trans hs.fr.size hfr.size,fun b hb hg=>?_⟩ (fun i o b h hb=>?_) (fun b hb=>.inl (hs.keep b hb)) (fun b hb ho=>?_) dst hd _ v (fun _=>R.map hid hown hR acH.1)
 ·rcases hlive i o h with ⟨o0,h1,h2,h3,rfl⟩|⟨hin,h'⟩
  ·obtain ⟨k1,k2,k3⟩:=eZ.nil (i-s) o0 (au _ _ h3);refine ⟨.inr ⟨h1,h2⟩,by simp [Xb,h1,h2,aC.map,k2],fun hb=>?_⟩;simp only [Xb,h1,h2,and_self,if_true] at hb;simp [aC.map,k3 hb,AV.V4]
  ·obtain ⟨k1,k2,k3⟩:=hs.obj.nil i o h';refine ⟨.inl k1,by simp [Xb,hin,k2],fun hb=>k3 ?_⟩;simpa [Xb,hin] using hb
 ·rcases hlive i o h with ⟨o0,h1,h2,h3,rfl⟩|⟨hin,h'⟩
  ·simp only [Xb,h1,h2,and_self,if_true] at hb;obtain ⟨k1,cur,k2,k3,k4,k5⟩:=eZ.live (i-s) o0 b (au _ _ h3) hb;refine ⟨.inr k1,cur,k2,by simp [Xb,h1,h2,k3],by simp [aC.map,WR];exact k4,fun j av hj=>?_⟩;simp only [aC.map,WR,List.getElem?_map,Option.map_eq_some_iff] at hj;obtain ⟨c,hj,rfl⟩:=hj;obtain ⟨u,hu,k6,k7⟩:=k5 j c hj;exact ⟨u,hu,k6,R.map hid hown k7 (acH.2 o0 (List.mem_of_getElem? h3) c (List.mem_of_getElem? hj))⟩
  ·simp only [Xb,hin,if_false] at hb;obtain ⟨k1,cur,k2,k3,k4,k5⟩:=hs.obj.live i o b h' hb;refine ⟨.inl k1,cur,(hfr.block b (hs.obj.bnd b k1) (fun h=>h)).trans k2,by simp [Xb,hin,k3],k4,fun j av hj=>?_⟩;obtain ⟨u,hu,k6,k7⟩:=k5 j av hj;exact ⟨u,hu,k6,k7.ext hext⟩
 ·rcases hlive i o1 h1 with ⟨p1,a1,a2,a3,rfl⟩|⟨hin,h1'⟩<;>rcases hlive i' o2 h2 with ⟨p2,b1,b2,b3,rfl⟩|⟨hin',h2'⟩
  ·simp only [Xb,a1,a2,and_self,if_true] at h3;simp only [Xb,b1,b2,and_self,if_true] at h4;have:=eZ.inj (i-s) (i'-s) p1 p2 b (au _ _ a3) (au _ _ b3) h3 h4;omega
  ·simp only [Xb,a1,a2,and_self,if_true] at h3;simp only [Xb,hin',if_false] at h4;have k1:=hnew (i-s) b (by omega) h3;have k2:=hs.obj.bnd b (hs.obj.live i' o2 b h2' h4).1;omega
  ·simp only [Xb,b1,b2,and_self,if_true] at h4;simp only [Xb,hin,if_false] at h3;have k1:=hnew (i'-s) b (by omega) h4;have k2:=hs.obj.bnd b (hs.obj.live i o1 b h1' h3).1;omega
  ·simp only [Xb,hin,if_false] at h3;simp only [Xb,hin',if_false] at h4;exact hs.obj.inj i i' o1 o2 b h1' h2' h3 h4
 ·rw [Ae,hlen];by_cases hin:s≤i∧i<s+news.length
  ·rw [if_pos hin,List.getElem?_map,List.getElem?_eq_getElem (by omega)];intro h;cases h
  ·rw [if_neg hin];rcases hi with hi|hi
   ·exact hs.obj.dom i hi
   ·exact absurd hi hin
 ·rcases hb with hb|hb
  ·have:=hs.obj.bnd b hb;have:=hfr.size;omega
  ·exact eZ.bnd b hb
 ·have:=hs.fr.size;exact (hfr.block b (by omega) (fun h=>h)).trans (hs.fr.block b hb hg)
 ·rcases hlive i o h with ⟨o0,h1,h2,h3,rfl⟩|⟨hin,h'⟩
  ·simp only [Xb,h1,h2,and_self,if_true] at hb;have k1:=hnew (i-s) b (by omega) hb;have:=hs.fr.size;exact .inl (by omega)
  ·simp only [Xb,hin,if_false] at hb;exact hs.fresh i o b h' hb
 ·rcases ho with ho|ho
  ·exact hs.WE b hb ho
  ·have:=hs.fr.size;exact hs.WE b hb (hX b (hold b (by omega) ho))
theorem adu {av:AV}:∀{u:Value} {w:World} {C:Ctx},R w C av u→∀{ro:Prop},ro→Ok (fun _=>True) ro av:=by
 intro u w C h ro hro
 induction h with
 |any=>exact .any
 |one=>exact .one
 |v x=>exact .v x
 |ro n c A cells us _ _ _ hcell hrel ih=>
  refine .ro n cells hro fun c hc=>?_;obtain ⟨j,hj⟩:=List.mem_iff_getElem?.1 hc;exact ih j c hj
 |rp ad cells us hcell hrel ih=>
  refine .rp cells hro fun c hc=>?_;obtain ⟨j,hj⟩:=List.mem_iff_getElem?.1 hc;exact ih j c hj
 |sl id off n=>exact .sl id off n trivial
 |slnil id=>exact .sl id 0 0 trivial
 |pt id off=>exact .pt id off trivial
 |agg cells us _ _ ih=>
  refine .agg cells fun c hc=>?_;obtain ⟨j,hj⟩:=List.mem_iff_getElem?.1 hc;exact ih j c hj
 |Vm cells us _ _ ih=>
  refine .Vm cells fun c hc=>?_;obtain ⟨j,hj⟩:=List.mem_iff_getElem?.1 hc;exact ih j c hj
 |fn f cells us _ _ ih=>
  refine .fn f cells fun c hc=>?_;obtain ⟨j,hj⟩:=List.mem_iff_getElem?.1 hc;exact ih j c hj
theorem aja {w:World} {C:Ctx} {news:List aC} (h:kY w C (jM news)) {ro:Prop} (hro:ro):∀o,o∈news→∀c,c∈o.cells→Ok (fun _=>True) ro c:=by
 intro o ho c hc;obtain ⟨i,hi⟩:=List.mem_iff_getElem?.1 ho;have hl:jM news i=.live o:=by simp [jM,hi]
 obtain ⟨j,hj⟩:=List.mem_iff_getElem?.1 hc
 cases hb:C.blk i with
 |none=>
  have:=(h.nil i o hl).2.2 hb;rw [this] at hc;cases hc
 |some b=>
  obtain ⟨_,cur,_,_,_,h5⟩:=h.live i o b hl hb;obtain ⟨u,_,_,hr⟩:=h5 j c hj;exact adu hr hro
theorem qY {o:Oper} {c:Call} {bZ:Operand} {args:List Operand} {tys:Array TypeId} {f:FuncId} {caps bU:List AV} {post:AV→List aC→Prop} (lend:Bool)
  (ho:o.op=.call c) (hc:c={ callee:=.value bZ,args:=args.toArray,argTypes:=tys }) (hN:(aT E.N bZ&&args.all (aT E.N))=true) (hd:∀d,o.dst=some d→d<E.N)
  (dQ:aO st.env bZ=.fn f caps) (hb:Vp P f=true) (hl:dV st.ob (args.map (aO st.env)++caps) bU) (hnl:lend=false→dV (fun _=>.free) (args.map (aO st.env)++caps) bU)
  (hF:l7 P f bU post)
  (h:∀res news,post res news→∃s,(∀i,i<news.length→st.ob (s+i)=.free)∧(lend=true→Ok (fun _=>True) False res∧∀o,o∈news→∀c,c∈o.cells→Ok (fun _=>True) False c)∧
   K (St.put ⟨st.env,Wc st.ob s (news.map (aC.map (· +s)))⟩ o.dst (res.map (· +s)))):Vo P E o st K:=by
 subst hc;simp only [Bool.and_eq_true] at hN;rintro a w q ⟨C,hs⟩;have hrc:=hs.ev bZ hN.1;rw [dQ] at hrc;obtain ⟨us,huc,wE,vX⟩:=Af hrc
 have hargs:∀j av,(args.map (aO st.env))[j]? =some av→R w C av ((args.map a.eval).getD j undef):=fun j av hj=>by
  rw [List.getElem?_map,Option.map_eq_some_iff] at hj;obtain ⟨x,hj,rfl⟩:=hj;have:=hs.ev x (List.all_eq_true.1 hN.2 x (List.mem_of_getElem? hj));simpa [hj] using this
 have hrun:(execOp a.eval o).run P w=.ok (.enter f ((args.map a.eval).toArray++us)) w:=by
  simp [execOp,ho,resolve,huc,Deferred.ofValue,invoke,yO hb]
 let X:Nat→Prop:=fun b=>C.own b∧(lend=true→∀id o,st.ob id=.live o→C.blk id≠some b)
 have hX:∀b,X b→C.own b:=fun b h=>h.1;have hsz:((args.map a.eval).toArray++us).size=bU.length:=by rw [hl.1];simp [wE]
 have hrel:∀j av,bU[j]? =some av→R w (C0 X) av (((args.map a.eval).toArray++us).getD j undef):=fun j av hj=>by
  have hjl:j<bU.length:=(List.getElem?_eq_some_iff.1 hj).1;have aaD:j<(args.map (aO st.env)++caps).length:=by rw [←hl.1];exact hjl
  have h1:R w C (args.map (aO st.env)++caps)[j] (((args.map a.eval).toArray++us).getD j undef):=by
   by_cases hja:j<args.length
   ·have h2:=hargs j _ (List.getElem?_eq_getElem (by simpa using hja));rw [List.getElem_append_left (by simpa using hja)]
    have:((args.map a.eval).toArray++us).getD j undef=(args.map a.eval).getD j undef:=by
     simp [Array.getElem?_append_left,hja]
    rw [this];exact h2
   ·rw [List.getElem_append_right (by simp;omega)];have hjc:j-args.length<caps.length:=by simp at aaD;omega
    have h2:=vX (j-args.length) _ (List.getElem?_eq_getElem hjc)
    have:((args.map a.eval).toArray++us).getD j undef=us.getD (j-args.length) undef:=by
     simp [Array.getElem?_append_right,Nat.not_lt.1 hja]
    rw [this];simpa using h2
  cases lend with
  |true=>exact hs.lend X (fun b hb=>⟨hb.1,hb.2 rfl⟩) (hl.2 j _ av (List.getElem?_eq_getElem aaD) hj) h1
  |false=>
   exact hs.rW (ob:=fun _=>.free) (fun _ _ h=>by cases h) X (fun b hb=>⟨hb.1,fun _ _ h=>by cases h⟩) ((hnl rfl).2 j _ av (List.getElem?_eq_getElem aaD) hj) h1
 have hcall:=hF w X _ hsz (fun b hb=>hs.obj.bnd b (hX b hb)) (hs.laid.sub hX) hrel;unfold Oper.wp;rw [hrun];refine hcall.mono ?_;rintro e w' ⟨v,C',res,news,rfl,hpost,hfr,hR,eZ,hnew,hkeep,hold⟩;obtain ⟨s,hfree,hro,hK⟩:=h res news hpost;refine ⟨_,⟨_,hs.back s hX hfr hR eZ hnew hkeep hold hfree ?_ (fun CZ=>⟨adu hR CZ,aja eZ CZ⟩) o.dst hd⟩,hK⟩
 cases lend with
 |true=>exact .inr (hro rfl)
 |false=>exact .inl fun b hb=>⟨hb,fun h=>by cases h⟩
theorem ajP {o:Oper} {c:Call} {bZ:Operand} {args:List Operand} {tys:Array TypeId} {f d:Nat} {caps bU:List AV} {res:AV}
  (ho:o.op=.call c) (hc:c={ callee:=.value bZ,args:=args.toArray,argTypes:=tys }) (hd:o.dst=some d) (hN:(aT E.N bZ&&args.all (aT E.N)&&Nat.blt d E.N)=true)
  (dQ:aO st.env bZ=.fn f caps) (hb:Vp P f=true) (ha:args.map (aO st.env)++caps=bU) (hno:gD bU) (hF:Fn P f bU res) (hres:iw res)
  (h:K ⟨upd st.env d res,st.ob⟩):Vo P E o st K:=by
 rw [Bool.and_eq_true] at hN;subst ha;refine qY false ho hc hN.1 (fun d' hd'=>by rw [hd] at hd';cases hd';exact aS hN.2) dQ hb (zk hno) (fun _=>zk hno) hF ?_;rintro r n ⟨rfl,rfl⟩;refine ⟨0,(fun i hi=>by simp at hi),(fun h=>by cases h),?_⟩;rw [hd,jy hres];exact h
theorem ajq {o:Oper} {c:Call} {bZ:Operand} {args:List Operand} {tys:Array TypeId} {f d:Nat} {caps bU:List AV} {res:AV}
  (ho:o.op=.call c) (hc:c={ callee:=.value bZ,args:=args.toArray,argTypes:=tys }) (hd:o.dst=some d) (hN:(aT E.N bZ&&args.all (aT E.N)&&Nat.blt d E.N)=true)
  (dQ:aO st.env bZ=.fn f caps) (hb:Vp P f=true) (hl:dV st.ob (args.map (aO st.env)++caps) bU) (hF:Fn P f bU res) (hres:Ok (fun _=>False) False res)
  (h:K ⟨upd st.env d res,st.ob⟩):Vo P E o st K:=by
 rw [Bool.and_eq_true] at hN;refine qY true ho hc hN.1 (fun d' hd'=>by rw [hd] at hd';cases hd';exact aS hN.2) dQ hb hl (fun h=>by cases h) hF ?_;rintro r n ⟨rfl,rfl⟩;refine ⟨0,(fun i hi=>by simp at hi),fun _=>⟨hres.mono (fun _ h=>h.elim) id,(fun o ho=>by cases ho)⟩,?_⟩;rw [hd,jy (hres.mono (fun _ h=>h) (fun h=>h.elim))];exact h
theorem GD {o:Oper} {c:Call} {bZ:Operand} {args:List Operand} {tys:Array TypeId} {f d:Nat} {caps bU:List AV} {res:AV}
  (ho:o.op=.call c) (hc:c={ callee:=.value bZ,args:=args.toArray,argTypes:=tys }) (hd:o.dst=some d) (hN:(aT E.N bZ&&args.all (aT E.N)&&Nat.blt d E.N)=true)
  (dQ:aO st.env bZ=.fn f caps) (hb:Vp P f=true) (ha:dV (fun _=>.free) (args.map (aO st.env)++caps) bU) (hF:Fn P f bU res) (hres:iw res)
  (h:K ⟨upd st.env d res,st.ob⟩):Vo P E o st K:=by
 rw [Bool.and_eq_true] at hN;refine qY false ho hc hN.1 (fun d' hd'=>by rw [hd] at hd';cases hd';exact aS hN.2) dQ hb (ha.more fun _ _ h=>by cases h) (fun _=>ha) hF ?_;rintro r n ⟨rfl,rfl⟩;refine ⟨0,(fun i hi=>by simp at hi),(fun h=>by cases h),?_⟩;rw [hd,jy hres];exact h
theorem zH {o:Oper} {c:Call} {bZ:Operand} {args:List Operand} {tys:Array TypeId} {f d:Nat} {caps bU:List AV} {res res':AV} {news news':List aC} (s:Nat) (lend:Bool)
  (ho:o.op=.call c) (hc:c={ callee:=.value bZ,args:=args.toArray,argTypes:=tys }) (hd:o.dst=some d) (hN:(aT E.N bZ&&args.all (aT E.N)&&Nat.blt d E.N)=true)
  (dQ:aO st.env bZ=.fn f caps) (hb:Vp P f=true) (hl:dV st.ob (args.map (aO st.env)++caps) bU) (hnl:lend=false→dV (fun _=>.free) (args.map (aO st.env)++caps) bU)
  (hF:Yr P f bU res news) (hro:lend=true→Ok (fun _=>True) False res∧∀o,o∈news→∀c,c∈o.cells→Ok (fun _=>True) False c)
  (hfree:∀i,i<news.length→st.ob (s+i)=.free) (hres:res.map (· +s)=res') (hnews:news.map (aC.map (· +s))=news')
  (h:K ⟨upd st.env d res',Wc st.ob s news'⟩):Vo P E o st K:=by
 rw [Bool.and_eq_true] at hN;subst hres;subst hnews;refine qY lend ho hc hN.1 (fun d' hd'=>by rw [hd] at hd';cases hd';exact aS hN.2) dQ hb hl hnl hF ?_;rintro r n ⟨rfl,rfl⟩;refine ⟨s,hfree,hro,?_⟩;rw [hd];exact h
end
def jf:List AV→Nat→AV
 | [],_=>.any
 |a::_,0=>a
 |_::l,n+1=>jf l n
theorem aeG (l:List AV) (t:Nat):jf l t=(l[t]?).getD .any:=by
 induction l generalizing t with
 |nil=>rfl
 |cons a l ih=>cases t with
  |zero=>rfl
  |succ t=>simp [jf,ih]
def mkV:List Value→Value
 | [u]=>u
 |l=>.tuple l.toArray
def Yh:List AV→AV
 | [a]=>a
 |l=>.Vm l
def abM (P:Program) (fn:Func) (ts:List Nat):Prop:=∀(tmps:Array Value) (w:World),(results fn tmps).run P w=.ok (mkV (ts.map fun t=>tmps.getD t undef)) w
theorem Bh {P:Program} {fn:Func} (h:fn.results= #[]):abM P fn []:=fun tmps w=>by simp [results,h,mkV]
theorem bM {P:Program} {fn:Func} {a:Nat} (h:fn.results= #[.tmp a]):abM P fn [a]:=fun tmps w=>by simp [results,h,mkV]
theorem Yp {P:Program} {fn:Func} {a b:Nat} (h:fn.results= #[.tmp a,.tmp b]):abM P fn [a,b]:=fun tmps w=>by simp [results,h,mkV]
def ix:List Nat→Nat→Nat
 | [],_=>0
 |a::l,x=>cond (Nat.beq x a) 0 (ix l x+1)
theorem aa2 {L:List Nat} {x:Nat} (h:x∈L):L[ix L x]? =some x:=by
 induction L with
 |nil=>cases h
 |cons a l ih=>
  simp only [ix]
  cases hb:Nat.beq x a with
  |true=>simp [Nat.eq_of_beq_eq_true hb]
  |false=>
   rcases List.mem_cons.1 h with h|h
   ·subst h;simp at hb
   ·simpa using ih h
def aa7 (ts:List Nat) (post:AV→List aC→Prop) (N:Nat) (s:St):Prop:=
 ∃(L:List Nat) (res:AV) (news:List aC),(ts.all fun t=>Nat.blt t N)=true∧post res news∧L.Nodup∧(Yh (ts.map s.env)).map (ix L)=res∧Ok (· ∈L) True (Yh (ts.map s.env))∧news.length=L.length∧
  ∀(i id:Nat),L[i]? =some id→∃o:aC,s.ob id=.live o∧news[i]? =some (aC.map (ix L) o)∧∀c,c∈o.cells→Ok (· ∈L) True c
def Nh (ts:List Nat) (post:AV→List aC→Prop) (N:Nat) (e:Exit) (s:St):Prop:=
 match e with
 | .normal| .ret=>aa7 ts post N s
 |_=>False
theorem ag0 {w:World} {C:Ctx} {bU:List AV} {us:List Value} (hl:us.length=bU.length) (h:∀j a,bU[j]? =some a→R w C a (us.getD j undef)):R w C (Yh bU) (mkV us):=by
 match bU,us,hl with
 | [],[],_=>exact .Vm [] #[] rfl (fun j av hj=>by simp at hj)
 | [a],[u],_=>exact h 0 a rfl
 |a::b::r,u::v::s,hl=>
  refine .Vm _ _ (by simpa using hl) (fun j av hj=>?_);have:=h j av hj;simpa using this
theorem bL {P:Program} {f:FuncId} {fn:Func} {c:Code} {N:Nat} {ts:List Nat} {args:List AV} {post:AV→List aC→Prop} (hf:P.funcs[f]? =some fn) (hb:fn.body=some c) (hN:fn.ntmps=N) (hres:abM P fn ts) (hargs:args.length≤N)
  (h:∀w0 X hL,VD P ⟨w0,fun _=>False,X,N,0,C0 X,hL,fun _ _ h=>h⟩ c ⟨jf args,fun _=>.free⟩ (Nh ts post N)):l7 P f args post:=by
 intro w X vs hsz hX hL hrel;refine calls_of_wp hf hb ?_
 have hs:SR ⟨w,fun _=>False,X,N,0,C0 X,hL,fun _ _ h=>h⟩ (C0 X) ⟨jf args,fun _=>.free⟩ { tmps:=vs++Array.replicate (fn.ntmps-vs.size) undef,defers:=[] } w:=by
  refine ⟨by simp;omega,rfl,fun t ht=>?_,⟨(fun id o h=>by cases h),(fun id o b h=>by cases h),(fun i i' o1 o2 b h=>by cases h),(fun id h=>h.elim),hX⟩,Fr.refl _ _,(fun id o b h=>by cases h),fun b h=>h,fun b _ h=>.inl h,fun i hi=>absurd hi (Nat.not_lt_zero i),hX⟩;show R w (C0 X) (jf args t) _;rw [aeG];by_cases l8:t<args.length
  ·rw [List.getElem?_eq_getElem l8];have:=hrel t _ (List.getElem?_eq_getElem l8)
   have e:(vs++Array.replicate (fn.ntmps-vs.size) undef).getD t undef=vs.getD t undef:=by
    simp [Array.getElem?_append_left,show t<vs.size by omega]
   rw [e];exact this
  ·rw [List.getElem?_eq_none (by omega)];exact .any _
 refine wp_mono (h w X hL _ w ⟨_,hs⟩) ?_;rintro e a' w' ⟨s,⟨C,hs'⟩,hq⟩
 have key:aa7 ts post N s→bodyPost P fn (vv w X post) .ret a' w':=by
  rintro ⟨L,res,news,htN,hpost,hnd,hmap,hok,hnl,hL⟩;refine ⟨hs'.defers,_,hres a'.tmps w',?_⟩
  have hR:R w' C (Yh (ts.map s.env)) (mkV (ts.map fun t=>a'.tmps.getD t undef)):=ag0 (by simp) (fun j av hj=>by
   rw [List.getElem?_map,Option.map_eq_some_iff] at hj;obtain ⟨t,hj,rfl⟩:=hj;have ht:=List.all_eq_true.1 htN t (List.mem_of_getElem? hj);have:=hs'.env t (aS ht);simpa [hj] using this)
  let C2:Ctx:=⟨fun i=>(L[i]?).bind C.blk,fun i=>((L[i]?).map C.sz).getD 0,fun i=>((L[i]?).map C.bC).getD 0,fun i=>i<L.length,C.own⟩
  have hid:∀id,id∈L→C.dom id→C2.dom (ix L id)∧C2.blk (ix L id)=C.blk id∧C2.sz (ix L id)=C.sz id∧C2.bC (ix L id)=C.bC id:=fun id hm _=>by
   have hg:=aa2 hm;exact ⟨(List.getElem?_eq_some_iff.1 hg).1,by simp [C2,hg],by simp [C2,hg],by simp [C2,hg]⟩
  have hown:True→∀b,¬C.own b→¬C2.own b:=fun _ b h=>h
  have su:∀i o,jM news i=.live o→∃id o',L[i]? =some id∧s.ob id=.live o'∧o=aC.map (ix L) o'∧∀c,c∈o'.cells→Ok (· ∈L) True c:=fun i o h=>by
   unfold jM at h
   split at h
   ·rename_i o0 hn
    cases h
    have hi:i<L.length:=by rw [←hnl];exact (List.getElem?_eq_some_iff.1 hn).1
    obtain ⟨o',h1,h2,h3⟩:=hL i L[i] (List.getElem?_eq_getElem hi);rw [hn] at h2
    cases h2
    exact ⟨_,o',List.getElem?_eq_getElem hi,h1,rfl,h3⟩
   ·cases h
  refine ⟨_,C2,res,news,rfl,hpost,hs'.fr,by rw [←hmap];exact R.map hid hown hR hok,⟨fun i o h=>?_,fun i o b h hb=>?_,fun i i' o1 o2 b h1 h2 h3 h4=>?_,fun i hi=>?_,hs'.obj.bnd⟩,fun i b hi hb=>?_,hs'.keep,fun b hb ho=>?_⟩
  ·obtain ⟨id,o',h1,h2,rfl,_⟩:=su i o h;obtain ⟨k1,k2,k3⟩:=hs'.obj.nil id o' h2;refine ⟨(List.getElem?_eq_some_iff.1 h1).1,by simp [C2,h1,aC.map,k2],fun hb=>?_⟩;have:C.blk id=none:=by simpa [C2,h1] using hb
   simp [aC.map,k3 this,AV.V4]
  ·obtain ⟨id,o',h1,h2,rfl,h3⟩:=su i o h;have hb':C.blk id=some b:=by simpa [C2,h1] using hb
   obtain ⟨k1,cur,k2,k4,k5,k6⟩:=hs'.obj.live id o' b h2 hb';refine ⟨k1,cur,k2,by simp [C2,h1,k4],by simp [aC.map,WR];exact k5,fun j av hj=>?_⟩;simp only [aC.map,WR,List.getElem?_map,Option.map_eq_some_iff] at hj;obtain ⟨c,hj,rfl⟩:=hj;obtain ⟨u,hu,k7,k8⟩:=k6 j c hj;exact ⟨u,hu,k7,R.map hid hown k8 (h3 c (List.mem_of_getElem? hj))⟩
  ·obtain ⟨id,o',a1,a2,_,_⟩:=su i o1 h1;obtain ⟨id2,o'',b1,b2,_,_⟩:=su i' o2 h2;have e1:C.blk id=some b:=by simpa [C2,a1] using h3
   have e2:C.blk id2=some b:=by simpa [C2,b1] using h4
   have e3:=hs'.obj.inj id id2 o' o'' b a2 b2 e1 e2;subst e3;obtain ⟨l1,m1⟩:=List.getElem?_eq_some_iff.1 a1;obtain ⟨l2,m2⟩:=List.getElem?_eq_some_iff.1 b1;exact (List.getElem_inj (h₀:=l1) (h₁:=l2) hnd).1 (m1.trans m2.symm)
  ·have hi':i<news.length:=by rw [hnl];exact hi
   simp [jM,hi']
  ·have hi':i<L.length:=by rw [←hnl];exact hi
   obtain ⟨o',h1,_,_⟩:=hL i L[i] (List.getElem?_eq_getElem hi');have hb':C.blk L[i]=some b:=by simpa [C2,List.getElem?_eq_getElem hi'] using hb
   rcases hs'.fresh _ _ b h1 hb' with h|h
   ·exact h
   ·exact h.elim
  ·rcases hs'.WE b hb ho with h|h
   ·exact h
   ·exact h.elim
 cases e with
 |normal=>exact key hq
 |ret=>exact key hq
 |_=>exact hq.elim
theorem Ni {ts:List Nat} {post:AV→List aC→Prop} {N:Nat} {s:St} {res:AV} (hN:(ts.all fun t=>Nat.blt t N)=true) (hr:Yh (ts.map s.env)=res) (hno:iw res) (hp:post res []):aa7 ts post N s:=
 ⟨[],res,[],hN,hp,List.nodup_nil,by rw [hr,jy hno],by rw [hr];exact hno.mono (fun _ h=>h.elim) id,rfl,fun i id h=>by simp at h⟩
theorem ag1 {ts:List Nat} {post:AV→List aC→Prop} {N:Nat} {s:St} {res:AV} (id:Nat) (o:aC) (hN:(ts.all fun t=>Nat.blt t N)=true) (hr:(Yh (ts.map s.env)).map (ix [id])=res) (hok:Ok (· ∈ [id]) True (Yh (ts.map s.env)))
  (hl:s.ob id=.live o) (hno:gD o.cells) (hp:post res [o]):aa7 ts post N s:=by
 refine ⟨[id],res,[o],hN,hp,by simp,hr,hok,rfl,fun i id' h=>?_⟩
 cases i with
 |zero=>
  simp at h;subst h;refine ⟨o,hl,?_,fun c hc=>(hno c hc).mono (fun _ h=>h.elim) (fun h=>h)⟩;simp only [aC.map,oI hno];rfl
 |succ i=>simp at h
end Go.Lo
set_option linter.unusedVariables false
set_option linter.unusedSimpArgs false
namespace Go.Lo
section
variable (P:Program) (E:VC)
def fu (ops:Array Oper) (env:Nat→AV) (ob:Nat→aH) (o:Oper):Prop:=
 ∃d,o.dst=some d∧d<E.N∧∀st:St,st.ob=ob→(∀t,(o.looksAt ops).elem t=true→st.env t=env t)→Vo P E o st (fun s=>s=⟨upd st.env d (env d),ob⟩)
def Still (ops:Array Oper) (env:Nat→AV) (ob:Nat→aH) (o:Oper):Prop:=
 match o.guard with
 |none=>fu P E ops env ob o
 |some (j,want)=>∃(t:Nat) (u:Value),(ops[j]?).bind (·.dst)=some t∧t<E.N∧env t=.v u∧(yv u=some want→fu P E ops env ob o)∧(yv u≠some want→∃d,o.dst=some d∧d<E.N∧(env d=.any∨env d=.v undef))
def acB (ops:Array Oper) (env:Nat→AV) (ob:Nat→aH):List Oper→Prop
 | []=>True
 |o::r=>Still P E ops env ob o∧acB ops env ob r
end
def iD:List (Nat×AV)→(Nat→AV)→Nat→AV
 | [],e=>e
 |(d,v)::r,e=>upd (iD r e) d v
theorem aeO {vs:List (Nat×AV)} {e:Nat→AV} {t:Nat} (h:t∉vs.map (·.1)):iD vs e t=e t:=by
 induction vs with
 |nil=>rfl
 |cons x r ih=>
  obtain ⟨d,v⟩:=x;simp only [List.map_cons,List.mem_cons,not_or] at h;simp only [iD];rw [upd_ne _ _ h.1,ih h.2]
def upTo (n k:Nat):Array Bool:=((List.range n).map fun j=>decide (j<k)).toArray
theorem abC (n k:Nat):(upTo n k).size=n:=by simp [upTo]
theorem oQ {n k j:Nat} (h:j<n):(upTo n k)[j]? =some (decide (j<k)):=by simp [upTo,h]
def lH (ops:Array Oper):Nat→Nat→Bool
 |0,k=>(Region.ready .any ops (upTo ops.size k)).isEmpty
 |g+1,k=>(Region.ready .any ops (upTo ops.size k)== [k])&&lH ops g (k+1)
def aa8 (ops:Array Oper) (m i:Nat):Bool:=
 match ops[i]? with
 |some o=>(o.after.all fun e=> !Region.binds .any e||decide (e.on<i))&&(o.looksAt ops).all fun t=>(List.range m).all fun j=>
   match ops[j]? with
   |some oj=>oj.dst != some t||(o.after.any fun e=>Region.binds .any e&&e.on==j)
   |none=>true
 |none=>false
def mo (ops:Array Oper) (m:Nat) (ds:List Nat):Bool:=
 decide (m≤ops.size)&&(ds.all fun d=>(ops.toList.take m).any fun o=>o.dst==some d)&&(List.range m).all (aa8 ops m)&&(m==ops.size||(Region.sinkB .any ops m&&Region.chainB .any ops m))&&lH ops (ops.size-m) m
section
variable {P:Program} {E:VC} {ops:Array Oper}
theorem aeA {Q:Exit→Act→World→Prop} {K:St→Prop} (hq:∀st' a' w',Wm E st' a' w'→K st'→Q .normal a' w') (l:List Oper):
  ∀(k:Nat) (st:St) (a:Act) (w:World),(∀j,l[j]? =ops[k+j]?)→k+l.length=ops.size→lH ops l.length k=true→Wm E st a w→VL P E ops l st K→wpAny P .any ops Q l.length (upTo ops.size k) a w:=by
 induction l with
 |nil=>
  intro k st a w hl hk hB hs h;obtain ⟨s,h1,h2⟩:=h;exact ⟨by simpa [lH] using hB,hq s a w (h1 a w hs) h2⟩
 |cons o l ih=>
  intro k st a w hl hk hB hs h;simp only [List.length_cons,lH,Bool.and_eq_true,beq_iff_eq] at hB;have h0:ops[k]? =some o:=by simpa using (hl 0).symm
  have hset:(upTo ops.size k).setIfInBounds k true=upTo ops.size (k+1):=by
   apply Array.ext_getElem?;intro j;rcases Nat.lt_or_ge j ops.size with hj|hj
   ·rw [oQ hj];by_cases hjk:k=j
    ·subst hjk;rw [Array.getElem?_setIfInBounds_self_of_lt (by rw [abC];exact hj)];simp
    ·rw [Array.getElem?_setIfInBounds_ne hjk,oQ hj];simp;omega
   ·rw [Array.getElem?_eq_none (by simp [abC];exact hj),Array.getElem?_eq_none (by simp [abC];exact hj)]
  have hl':∀j,l[j]? =ops[k+1+j]? :=fun j=>by
   have:=hl (j+1);simpa [Nat.add_assoc,Nat.add_comm 1 j] using this
  refine ⟨fun h1=>(by rw [h1] at hB;simp at hB),fun i hi=>?_⟩;rw [hB.1] at hi;have hik:i=k:=by simpa using hi
  subst hik;unfold wpOp;simp only [h0];rw [hset];have hk':i+1+l.length=ops.size:=by simp at hk;omega
  unfold VL at h;obtain ⟨s0,hi0,h⟩:=h
  replace hs:=hi0 a w hs
  cases hg:o.guard with
  |none=>
   rw [hg] at h;have hw:Region.wanted o (yielded ops a.tmps)=true:=by simp [Region.wanted,hg]
   rw [if_pos hw];refine .inl (Oper.wp_mono ?_ (h a w Q hs));rintro a' w' ⟨s,h1,h2⟩;exact ih (i+1) s a' w' hl' hk' hB.2 h1 h2
  |some jw=>
   obtain ⟨j,want⟩:=jw;rw [hg] at h;obtain ⟨t,u,hj,ht,he,hyes,hno⟩:=h;obtain ⟨C,hs'⟩:=hs;have hy:=oF hs' hj ht he;by_cases hb:yv u=some want
   ·have hw:Region.wanted o (yielded ops a.tmps)=true:=by simp [Region.wanted,hg,hy,hb]
    rw [if_pos hw];refine .inl (Oper.wp_mono ?_ (hyes hb a w Q ⟨C,hs'⟩));rintro a' w' ⟨s,h1,h2⟩;exact ih (i+1) s a' w' hl' hk' hB.2 h1 h2
   ·have hw:Region.wanted o (yielded ops a.tmps)=false:=by simp [Region.wanted,hg,hy,hb]
    rw [if_neg (by simp [hw])];obtain ⟨hd,hr⟩:=hno hb;exact ih (i+1) _ _ w hl' hk' hB.2 ⟨C,hs'.set o.dst hd (.v undef) undef (fun _=>.v _)⟩ hr
def cnt (listed:Array Bool):Nat→Nat
 |0=>0
 |m+1=>cnt listed m+(if listed.getD m false=true then 0 else 1)
theorem uM {listed:Array Bool} {m:Nat} (h:cnt listed m=0):∀j,j<m→listed.getD j false=true:=by
 induction m with
 |zero=>intro j hj;omega
 |succ m ih=>
  intro j hj;simp only [cnt] at h;by_cases hm:listed.getD m false=true
  ·rw [if_pos hm] at h;rcases Nat.lt_or_ge j m with h1|h1
   ·exact ih (by omega) j h1
   ·rw [show j=m by omega];exact hm
  ·rw [if_neg hm] at h;omega
theorem u6 {listed:Array Bool} {i:Nat} (hi:i<listed.size) (hf:listed.getD i false=false) (m:Nat):cnt (listed.setIfInBounds i true) m+(if i<m then 1 else 0)=cnt listed m:=by
 induction m with
 |zero=>simp [cnt]
 |succ m ih=>
  simp only [cnt];by_cases him:i=m
  ·subst him;have h1:(listed.setIfInBounds i true).getD i false=true:=by simp [hi]
   rw [h1,hf];simp at ih ⊢;omega
  ·have h1:(listed.setIfInBounds i true).getD m false=listed.getD m false:=by simp [Array.getElem?_setIfInBounds_ne him]
   rw [h1]
   have h2:(if i<m+1 then 1 else 0)=(if i<m then 1 else 0):=by
    by_cases h3:i<m
    ·rw [if_pos h3,if_pos (by omega)]
    ·rw [if_neg h3,if_neg (by omega)]
   omega
noncomputable def V7 (ops:Array Oper) (m:Nat) (listed:Array Bool) (env:Nat→AV):Nat→AV:=fun t=>
 open Classical in if ∃j o,j<m∧ops[j]? =some o∧o.dst=some t∧listed.getD j false=false then .any else env t
theorem zI {env:Nat→AV} {ob:Nat→aH}:∀(l:List Oper),acB P E ops env ob l→∀(i:Nat) (o:Oper),l[i]? =some o→Still P E ops env ob o
 | [],_,i,o,h=>by simp at h
 |a::r,hst,i,o,h=>by
  cases i with
  |zero=>simp at h;subst h;exact hst.1
  |succ i=>exact zI r hst.2 i o (by simpa using h)
theorem FW {Q:Exit→Act→World→Prop} {K:St→Prop} {m:Nat} {env:Nat→AV} {ob:Nat→aH} (hq:∀st' a' w',Wm E st' a' w'→K st'→Q .normal a' w') (hm:m≤ops.size)
  (acF:(List.range m).all (aa8 ops m)=true) (hsc:m=ops.size∨(Region.sinkB .any ops m=true∧Region.chainB .any ops m=true)) (hT:lH ops (ops.size-m) m=true)
  (hst:acB P E ops env ob (ops.toList.take m)) (htail:VL P E ops (ops.toList.drop m) ⟨env,ob⟩ K) (u:Nat):
  ∀(listed:Array Bool) (a:Act) (w:World),HeadInv .any ops m listed→cnt listed m=u→Wm E ⟨V7 ops m listed env,ob⟩ a w→wpAny P .any ops Q (u+(ops.size-m)) listed a w:=by
 have lU:∀i,i<m→∃o,ops[i]? =some o∧(∀e∈o.after,Region.binds .any e=true→e.on<i)∧∀t,t∈o.looksAt ops→∀j oj,j<m→ops[j]? =some oj→oj.dst=some t→∃e∈o.after,Region.binds .any e=true∧e.on=j:=by
  intro i hi;have h:=List.all_eq_true.1 acF i (List.mem_range.2 hi);unfold aa8 at h
  split at h
  ·rename_i o ho;simp only [Bool.and_eq_true] at h;refine ⟨o,ho,fun e he hb=>?_,fun t ht j oj hj hoj hdt=>?_⟩
   ·have:=Array.all_eq_true'.1 h.1 e he;simpa [hb] using this
   ·have h2:=List.all_eq_true.1 (List.all_eq_true.1 h.2 t ht) j (List.mem_range.2 hj);simp only [hoj,hdt] at h2;have h3:(o.after.any fun e=>Region.binds .any e&&e.on==j)=true:=by simpa using h2
    obtain ⟨e,he,hb⟩:=Array.any_eq_true'.1 h3;simp only [Bool.and_eq_true,beq_iff_eq] at hb;exact ⟨e,he,hb.1,hb.2⟩
  ·cases h
 induction u with
 |zero=>
  intro listed a w inv hc hs;have hall:=uM hc
  have hl:listed=upTo ops.size m:=by
   apply Array.ext_getElem?;intro j;rcases Nat.lt_or_ge j ops.size with hj|hj
   ·rw [oQ hj,Array.getElem?_eq_getElem (by rw [inv.size];exact hj)];rcases Nat.lt_or_ge j m with h1|h1
    ·have:=hall j h1;simp [show j<listed.size by rw [inv.size];exact hj] at this;simp [this,h1]
    ·have:=inv.tail j h1 hj;simp [show j<listed.size by rw [inv.size];exact hj] at this;simp [this];omega
   ·rw [Array.getElem?_eq_none (by rw [inv.size];exact hj),Array.getElem?_eq_none (by rw [abC];exact hj)]
  have abd:Wm E ⟨env,ob⟩ a w:=by
   refine hs.le ⟨fun t=>.inr ?_,fun id=>.inl rfl⟩;simp only [V7];rw [if_neg];rintro ⟨j,o,h1,_,_,h2⟩;rw [hall j h1] at h2
   cases h2
  rw [hl,Nat.zero_add];have:=aeA hq (ops.toList.drop m) m ⟨env,ob⟩ a w (fun j=>by simp [List.getElem?_drop]) (by simp;omega) (by simpa using hT) abd htail;simpa using this
 |succ u ih=>
  intro listed a w inv hc hs;rw [show u+1+(ops.size-m)=(u+(ops.size-m))+1 by omega]
  have hun:∃j,j<m∧listed.getD j false=false:=by
   apply Classical.byContradiction;intro hno
   have:∀k,k≤m→cnt listed k=0:=by
    intro k
    induction k with
    |zero=>intro _;rfl
    |succ k ihk=>
     intro hk;simp only [cnt];rw [ihk (by omega)]
     cases hkv:listed.getD k false with
     |true=>simp
     |false=>exact absurd ⟨k,by omega,hkv⟩ hno
   have:=this m (Nat.le_refl _);omega
  have acC:∀n j,j<n→j<m→listed.getD j false=false→Region.ready .any ops listed≠ []:=by
   intro n
   induction n with
   |zero=>intro j h;omega
   |succ n ihn=>
    intro j hj hjm hf;obtain ⟨o,ho,he,_⟩:=lU j hjm;by_cases aaB:∀e∈o.after,Region.binds .any e=true→listed.getD e.on false=true
    ·intro hnil;have:j∈Region.ready .any ops listed:=mem_ready.2 ⟨getD_in (by rw [inv.size];omega) hf,o,ho,aaB⟩;rw [hnil] at this
     cases this
    ·have:∃e∈o.after,Region.binds .any e=true∧listed.getD e.on false=false:=by
      apply Classical.byContradiction;intro hno;apply aaB;intro e he1 he2
      cases hv:listed.getD e.on false with
      |true=>rfl
      |false=>exact absurd ⟨e,he1,he2,hv⟩ hno
     obtain ⟨e,he1,he2,jR⟩:=this;have:=he e he1 he2;exact ihn e.on (by omega) (by omega) jR
  obtain ⟨j0,hj0,hf0⟩:=hun;refine ⟨fun hnil=>absurd hnil (acC (j0+1) j0 (by omega) hj0 hf0),fun i hi=>?_⟩;obtain ⟨pU,oi,hoi,hall⟩:=mem_ready.1 hi;have hin:i<ops.size:=(Array.getElem?_eq_some_iff.1 hoi).1
  have him:i<m:=by
   rcases Nat.lt_or_ge i m with h|h
   ·exact h
   ·rcases hsc with h1|⟨h1,h2⟩
    ·omega
    ·exact absurd hi (tail_waits h1 h2 (by omega) inv _ j0 rfl hj0 (getD_in (by rw [inv.size];omega) hf0) i h)
  have hif:listed.getD i false=false:=getD_both pU;obtain ⟨o',ho',_,acG⟩:=lU i him;rw [hoi] at ho'
  cases ho'
  have hsame:∀t,t∈oi.looksAt ops→V7 ops m listed env t=env t:=by
   intro t ht;simp only [V7];rw [if_neg];rintro ⟨j,oj,h1,h2,h3,h4⟩;obtain ⟨e,he1,he2,jR⟩:=acG t ht j oj h1 h2 h3;have:=hall e he1 he2;rw [jR,h4] at this
   cases this
  have hstill:=zI _ hst i oi (by rw [List.getElem?_take,if_pos him];simpa using hoi)
  have hcnt:cnt (listed.setIfInBounds i true) m=u:=by
   have:=u6 (listed:=listed) (by rw [inv.size];exact hin) hif m;rw [if_pos him] at this;omega
  have hnext:∀(d:Nat) (s:St),oi.dst=some d→s.ob=ob→(∀t,t≠d→s.env t=V7 ops m listed env t)→(env d=.any∨s.env d=env d)→Le s ⟨V7 ops m (listed.setIfInBounds i true) env,ob⟩:=by
   intro d s hdd h1 h2 h3;refine ⟨fun t=>?_,fun id=>.inl (by rw [h1])⟩;simp only [V7];by_cases hex:∃j o,j<m∧ops[j]? =some o∧o.dst=some t∧(listed.setIfInBounds i true).getD j false=false
   ·rw [if_pos hex];exact .inl rfl
   ·rw [if_neg hex];by_cases htd:t=d
    ·subst htd;rcases h3 with h3|h3
     ·exact .inl h3
     ·exact .inr h3.symm
    ·refine .inr ?_;rw [h2 t htd];simp only [V7];rw [if_neg];rintro ⟨j,o,k1,k2,k3,k4⟩;refine hex ⟨j,o,k1,k2,k3,?_⟩
     have hij:i≠j:=fun e=>by
      subst e;rw [hoi] at k2
      cases k2
      rw [hdd] at k3
      cases k3
      exact htd rfl
     rw [getD_set_ne false hij];exact k4
  have hgo:∀(d:Nat),oi.dst=some d→fu P E ops env ob oi→oi.wp P a w (wpAny P .any ops Q (u+(ops.size-m)) (listed.setIfInBounds i true)) Q:=by
   rintro d hdd ⟨d',hd',_,hop⟩;rw [hdd] at hd'
   cases hd'
   refine Oper.wp_mono ?_ (hop ⟨V7 ops m listed env,ob⟩ rfl (fun t ht=>hsame t (List.elem_iff.1 ht)) a w Q hs);rintro a' w' ⟨s,h1,rfl⟩;refine ih _ a' w' (inv.set hi him) hcnt (h1.le (hnext d _ hdd rfl (fun t ht=>upd_ne _ _ ht) (.inr (upd_same _ _ _))))
  unfold wpOp;simp only [hoi];unfold Still at hstill
  cases hg:oi.guard with
  |none=>
   rw [hg] at hstill;obtain ⟨d,hd,h1,h2⟩:=hstill;have hw:Region.wanted oi (yielded ops a.tmps)=true:=by simp [Region.wanted,hg]
   rw [if_pos hw];exact .inl (hgo d hd ⟨d,hd,h1,h2⟩)
  |some jw=>
   obtain ⟨j,want⟩:=jw;rw [hg] at hstill;obtain ⟨t,uv,hj,ht,he,hyes,hno⟩:=hstill
   have htl:t∈oi.looksAt ops:=by
    unfold Oper.looksAt;rw [hg];simp [hj]
   obtain ⟨C,hs'⟩:=hs;have hy:=oF hs' hj ht (by show V7 ops m listed env t=_;rw [hsame t htl];exact he);by_cases hb:yv uv=some want
   ·have hw:Region.wanted oi (yielded ops a.tmps)=true:=by simp [Region.wanted,hg,hy,hb]
    rw [if_pos hw];obtain ⟨d,hd,h1,h2⟩:=hyes hb;exact .inl (hgo d hd ⟨d,hd,h1,h2⟩)
   ·have hw:Region.wanted oi (yielded ops a.tmps)=false:=by simp [Region.wanted,hg,hy,hb]
    rw [if_neg (by simp [hw])];obtain ⟨d,hd,hdN,hany⟩:=hno hb
    have hs2:Wm E ⟨upd (V7 ops m listed env) d (.v undef),ob⟩ (a.put oi.dst undef) w:=by
     have:=hs'.set oi.dst (fun d' hd'=>by rw [hd] at hd';cases hd';exact hdN) (.v undef) undef (fun _=>.v _);rw [hd] at this ⊢;exact ⟨C,this⟩
    exact ih _ _ w (inv.set hi him) hcnt (hs2.le (hnext d _ hd rfl (fun t ht=>upd_ne _ _ ht) (hany.imp id (fun h=>by rw [h];exact upd_same _ _ _))))
theorem ajQ {id m:Nat} {st:St} {Q:Exit→St→Prop} (vs:List (Nat×AV)) (hm:P.follows .mixedOrders=true) (hB:mo ops m (vs.map (·.1))=true)
  (hst:acB P E ops (iD vs st.env) st.ob (ops.toList.take m)) (htail:VL P E ops (ops.toList.drop m) ⟨iD vs st.env,st.ob⟩ (fun s=>Q .normal s)):VD P E (.region id ops true) st Q:=by
 intro a w hs;simp only [mo,Bool.and_eq_true,Bool.or_eq_true,beq_iff_eq,decide_eq_true_eq] at hB;obtain ⟨⟨⟨⟨h1,h2⟩,h3⟩,h4⟩,h5⟩:=hB;refine wp_region_any hm ?_
 have inv:HeadInv .any ops m (Array.replicate ops.size false):=
  ⟨by simp,fun j oj _ hl=>(by rw [getD_replicate_false] at hl;cases hl),fun t _ ht=>getD_in (by simpa using ht) (getD_replicate_false _ _)⟩
 have hcnt:∀k,cnt (Array.replicate ops.size false) k=k:=by
  intro k
  induction k with
  |zero=>rfl
  |succ k ih=>simp only [cnt];rw [ih,getD_replicate_false];simp
 have hs1:Wm E st a { w with drawn:=w.drawn+1 }:=by
  obtain ⟨C,hs⟩:=hs;have hext:Ext w C { w with drawn:=w.drawn+1 } C:=⟨fun _ h=>⟨h,rfl,rfl,rfl⟩,fun _ _ h=>h,fun _ _ _=>rfl⟩
  have:=hs.put hext st.ob ⟨hs.obj.nil,fun id o b h1 h2=>?_,hs.obj.inj,hs.obj.dom,hs.obj.bnd⟩ ⟨hs.fr.os,hs.fr.tape,hs.fr.output,hs.fr.size,hs.fr.block⟩ hs.fresh hs.keep hs.WE none (fun d h=>by cases h) .any undef (fun h=>absurd rfl h)
  ·exact ⟨C,this⟩
  ·obtain ⟨k1,cur,k2,k3,k4,k5⟩:=hs.obj.live id o b h1 h2;refine ⟨k1,cur,k2,k3,k4,fun j av hj=>?_⟩;obtain ⟨u,hu,k6,k7⟩:=k5 j av hj;exact ⟨u,hu,k6,k7.ext hext⟩
 have hs2:Wm E ⟨V7 ops m (Array.replicate ops.size false) (iD vs st.env),st.ob⟩ a { w with drawn:=w.drawn+1 }:=by
  refine hs1.le ⟨fun t=>?_,fun id=>.inl rfl⟩;simp only [V7];by_cases hex:∃j o,j<m∧ops[j]? =some o∧o.dst=some t∧(Array.replicate ops.size false).getD j false=false
  ·rw [if_pos hex];exact .inl rfl
  ·rw [if_neg hex];refine .inr (aeO fun hmem=>?_);have:=List.all_eq_true.1 h2 t hmem;obtain ⟨o,ho,hd⟩:=List.any_eq_true.1 this;simp only [beq_iff_eq] at hd;obtain ⟨j,hj⟩:=List.mem_iff_getElem?.1 ho;rw [List.getElem?_take] at hj
   split at hj
   ·rename_i hjm;exact hex ⟨j,o,hjm,by simpa using hj,hd,getD_replicate_false _ _⟩
   ·cases hj
 have:=FW (P:=P) (Q:=fun e a' w'=>∃st',Wm E st' a' w'∧Q e st') (K:=fun s=>Q .normal s) (fun st' a' w' k1 k2=>⟨st',k1,k2⟩) h1 h3 h4 h5 hst htail m _ a _ inv (hcnt m) hs2
 rwa [show m+(ops.size-m)=ops.size by omega] at this
end
end Go.Lo
