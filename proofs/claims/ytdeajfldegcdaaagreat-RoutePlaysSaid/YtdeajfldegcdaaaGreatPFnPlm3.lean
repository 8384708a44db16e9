/- Part of the logic of values: what the law reaches. -/
import Derived.Test.YtdeajfldegcdaaaGreatPFnPlm2
import Derived.StillTail
set_option linter.unusedVariables false
set_option linter.unusedSimpArgs false
namespace Go.Lo
inductive Ok (p:Nat→Prop) (ro:Prop):AV→Prop
 |any:Ok p ro .any
 |one:Ok p ro .one
 |v (x:Value):Ok p ro (.v x)
 |ro (n:Nat) (cells:List AV) (hr:ro) (h:∀c,c∈cells→Ok p ro c):Ok p ro (.ro n cells)
 |rp (cells:List AV) (hr:ro) (h:∀c,c∈cells→Ok p ro c):Ok p ro (.rp cells)
 |sl (id off n:Nat) (h:p id):Ok p ro (.sl id off n)
 |pt (id off:Nat) (h:p id):Ok p ro (.pt id off)
 |agg (cells:List AV) (h:∀c,c∈cells→Ok p ro c):Ok p ro (.agg cells)
 |bw (cells:List AV) (h:∀c,c∈cells→Ok p ro c):Ok p ro (.bw cells)
 |fn (f:FuncId) (cells:List AV) (h:∀c,c∈cells→Ok p ro c):Ok p ro (.fn f cells)
abbrev kQ:AV→Prop:=Ok (fun _=>False) True
abbrev ii (l:List AV):Prop:=∀c,c∈l→kQ c
theorem AQ {p:Nat→Prop} {ro:Prop}:∀c,c∈([]:List AV)→Ok p ro c:=fun c h=>by cases h
theorem Ak {p:Nat→Prop} {ro:Prop} {a:AV} {l:List AV} (h1:Ok p ro a) (h:∀c,c∈l→Ok p ro c):∀c,c∈a::l→Ok p ro c:=fun c hc=>by
 rcases List.mem_cons.1 hc with rfl|hc
 ·exact h1
 ·exact h c hc
theorem pz {p:Nat→Prop} {ro:Prop} {a l:List AV} (h1:∀c,c∈a→Ok p ro c) (h:∀c,c∈l→Ok p ro c):∀c,c∈a++l→Ok p ro c:=fun c hc=>by
 rcases List.mem_append.1 hc with hc|hc
 ·exact h1 c hc
 ·exact h c hc
theorem Ok.mono {p p':Nat→Prop} {ro ro':Prop} (hp:∀i,p i→p' i) (hr:ro→ro') {av:AV} (h:Ok p ro av):Ok p' ro' av:=by
 induction h with
 |any=>exact .any
 |one=>exact .one
 |v x=>exact .v x
 |ro n cells h _ ih=>exact .ro n cells (hr h) ih
 |rp cells h _ ih=>exact .rp cells (hr h) ih
 |sl id off n h=>exact .sl id off n (hp _ h)
 |pt id off h=>exact .pt id off (hp _ h)
 |agg cells _ ih=>exact .agg cells ih
 |bw cells _ ih=>exact .bw cells ih
 |fn f cells _ ih=>exact .fn f cells ih
mutual
def AV.map (σ:Nat→Nat):AV→AV
 | .any=>.any
 | .one=>.one
 | .v x=>.v x
 | .ro n cells=>.ro n (AV.dY σ cells)
 | .rp cells=>.rp (AV.dY σ cells)
 | .sl id off n=>.sl (σ id) off n
 | .pt id off=>.pt (σ id) off
 | .agg cells=>.agg (AV.dY σ cells)
 | .bw cells=>.bw (AV.dY σ cells)
 | .fn f cells=>.fn f (AV.dY σ cells)
def AV.dY (σ:Nat→Nat):List AV→List AV
 | []=>[]
 |a::l=>AV.map σ a::AV.dY σ l
end
theorem fX (σ:Nat→Nat) (l:List AV):AV.dY σ l=l.map (AV.map σ):=by
 induction l with
 |nil=>rfl
 |cons a l ih=>simp [AV.dY,ih]
theorem kB {σ:Nat→Nat} {av:AV} (h:kQ av):av.map σ=av:=by
 induction h with
 |any|one|v=>simp [AV.map]
 |ro n cells _ _ ih=>simp only [AV.map,fX];rw [List.map_id'' ?_];exact ih
 |rp cells _ _ ih=>simp only [AV.map,fX];rw [List.map_id'' ?_];exact ih
 |sl id off n h=>exact h.elim
 |pt id off h=>exact h.elim
 |agg cells _ ih=>simp only [AV.map,fX];rw [List.map_id'' ?_];exact ih
 |bw cells _ ih=>simp only [AV.map,fX];rw [List.map_id'' ?_];exact ih
 |fn f cells _ ih=>simp only [AV.map,fX];rw [List.map_id'' ?_];exact ih
where
 List.map_id'' {l:List AV} {σ:Nat→Nat} (h:∀c,c∈l→AV.map σ c=c):l.map (AV.map σ)=l:=by
  induction l with
  |nil=>rfl
  |cons a l ih=>rw [List.map_cons,h a List.mem_cons_self,ih (fun c hc=>h c (List.mem_cons_of_mem _ hc))]
theorem rh {σ:Nat→Nat} {l:List AV} (h:ii l):AV.dY σ l=l:=by
 induction l with
 |nil=>rfl
 |cons a l ih=>simp only [AV.dY];rw [kB (h a List.mem_cons_self),ih (fun c hc=>h c (List.mem_cons_of_mem _ hc))]
theorem R.map {w:World} {C C2:Ctx} {σ:Nat→Nat} {p:Nat→Prop} {ro:Prop} (hid:∀id,p id→C.dom id→C2.dom (σ id)∧C2.blk (σ id)=C.blk id∧C2.sz (σ id)=C.sz id∧C2.ci (σ id)=C.ci id)
  (hown:ro→∀b,¬C.own b→¬C2.own b) {av:AV} {u:Value} (h:R w C av u) (hok:Ok p ro av):R w C2 (av.map σ) u:=by
 have rel:∀(cells:List AV) (g:Nat→Value),(∀c,c∈cells→Ok p ro c)→(∀j av,cells[j]? =some av→Ok p ro av→R w C2 (av.map σ) (g j))→∀j av,(AV.dY σ cells)[j]? =some av→R w C2 av (g j):=by
  intro cells g hc ih j av hj;rw [fX,List.getElem?_map,Option.map_eq_some_iff] at hj;obtain ⟨c,hj,rfl⟩:=hj;exact ih j c hj (hc c (List.mem_of_getElem? hj))
 have len:∀cells,(AV.dY σ cells).length=cells.length:=fun cells=>by rw [fX];simp
 induction h with
 |any u=>exact .any u
 |one u h=>exact .one u h
 |v x=>exact .v x
 |ro n c A cells us hc hm h0 hcell _ ih=>
  cases hok with
  |ro _ _ hr hcs=>
   refine .ro n c A _ us hc hm h0 (fun j hj=>?_) (rel cells us hcs (fun j av h1 h2=>ih j av h1 h2));obtain ⟨ad,h1,h2,h3⟩:=hcell j (by rw [len] at hj;exact hj);exact ⟨ad,h1,hown hr _ h2,h3⟩
 |rp ad cells us hcell _ ih=>
  cases hok with
  |rp _ hr hcs=>
   refine .rp ad _ us (fun j hj=>?_) (rel cells us hcs (fun j av h1 h2=>ih j av h1 h2));obtain ⟨h2,h3⟩:=hcell j (by rw [len] at hj;exact hj);exact ⟨hown hr _ h2,h3⟩
 |sl id off n c b hd hb hn hm hs=>
  cases hok with
  |sl _ _ _ hp=>
   obtain ⟨h1,h2,h3,h4⟩:=hid id hp hd;exact .sl _ off n c b h1 (by rw [h2];exact hb) hn hm (by rw [h3,h4];exact hs)
 |slnil id hd hb=>
  cases hok with
  |sl _ _ _ hp=>
   obtain ⟨h1,h2,_,_⟩:=hid id hp hd;exact .slnil _ h1 (by rw [h2];exact hb)
 |pt id off b hd hb=>
  cases hok with
  |pt _ _ hp=>
   obtain ⟨h1,h2,_,_⟩:=hid id hp hd;exact .pt _ off b h1 (by rw [h2];exact hb)
 |agg cells us hs _ ih=>
  cases hok with
  |agg _ hcs=>exact .agg _ us (by rw [len];exact hs) (rel cells _ hcs (fun j av h1 h2=>ih j av h1 h2))
 |bw cells us hs _ ih=>
  cases hok with
  |bw _ hcs=>exact .bw _ us (by rw [len];exact hs) (rel cells _ hcs (fun j av h1 h2=>ih j av h1 h2))
 |fn f cells us hs _ ih=>
  cases hok with
  |fn _ _ hcs=>exact .fn f _ us (by rw [len];exact hs) (rel cells _ hcs (fun j av h1 h2=>ih j av h1 h2))
inductive dL (ob:Nat→aK):AV→AV→Prop
 |any (av:AV):dL ob av .any
 |one (av:AV) (h:lq av=true):dL ob av .one
 |same (av:AV) (h:kQ av):dL ob av av
 |nil:dL ob (.v (.slice none 0 0)) (.ro 0 [])
 |sl (id off n:Nat) (o:ay) (cs:List AV) (hl:ob id=.live o) (hlen:cs.length=n*o.ci) (hle:off+n*o.ci≤o.cells.length) (h:∀(j:Nat) (a b:AV),o.cells[off+j]? =some a→cs[j]? =some b→dL ob a b):dL ob (.sl id off n) (.ro n cs)
 |pt (id off:Nat) (o:ay) (cs:List AV) (hl:ob id=.live o) (hle:off+cs.length≤o.cells.length) (h:∀(j:Nat) (a b:AV),o.cells[off+j]? =some a→cs[j]? =some b→dL ob a b):dL ob (.pt id off) (.rp cs)
 |agg (as cs:List AV) (hlen:cs.length=as.length) (h:∀(j:Nat) (a b:AV),as[j]? =some a→cs[j]? =some b→dL ob a b):dL ob (.agg as) (.agg cs)
 |bw (as cs:List AV) (hlen:cs.length=as.length) (h:∀(j:Nat) (a b:AV),as[j]? =some a→cs[j]? =some b→dL ob a b):dL ob (.bw as) (.bw cs)
 |fn (f:FuncId) (as cs:List AV) (hlen:cs.length=as.length) (h:∀(j:Nat) (a b:AV),as[j]? =some a→cs[j]? =some b→dL ob a b):dL ob (.fn f as) (.fn f cs)
 |va (as cs:List AV) (hlen:cs.length=as.length) (h:∀(j:Nat) (a b:AV),as[j]? =some a→cs[j]? =some b→dL ob a b):dL ob (.rp as) (.rp cs)
 |row (n:Nat) (as cs:List AV) (hlen:cs.length=as.length) (h:∀(j:Nat) (a b:AV),as[j]? =some a→cs[j]? =some b→dL ob a b):dL ob (.ro n as) (.ro n cs)
def ew (ob:Nat→aK) (as cs:List AV):Prop:=cs.length=as.length∧∀(j:Nat) (a b:AV),as[j]? =some a→cs[j]? =some b→dL ob a b
theorem fe {ob:Nat→aK}:ew ob [] []:=⟨rfl,fun j a b h=>by simp at h⟩
theorem bb {ob:Nat→aK} {a c:AV} {as cs:List AV} (h1:dL ob a c) (h:ew ob as cs):ew ob (a::as) (c::cs):=by
 refine ⟨by simp [h.1],fun j x y hx hy=>?_⟩
 cases j with
 |zero=>simp at hx hy;subst hx;subst hy;exact h1
 |succ j=>exact h.2 j x y (by simpa using hx) (by simpa using hy)
theorem Gj {ob:Nat→aK} {as:List AV} (h:ii as):ew ob as as:=⟨rfl,fun j a b hx hy=>by
 rw [hx] at hy;cases hy;exact .same a (h a (List.mem_of_getElem? hx))⟩
theorem v3 {ob:Nat→aK} {id n:Nat} {o:ay} (hl:ob id=.live o) (hlen:o.cells.length=n*o.ci) (h:ii o.cells):dL ob (.sl id 0 n) (.ro n o.cells):=
 .sl id 0 n o o.cells hl hlen (by omega) (fun j a b hx hy=>by rw [Nat.zero_add] at hx;rw [hx] at hy;cases hy;exact .same a (h a (List.mem_of_getElem? hx)))
theorem jf {ob:Nat→aK} {id:Nat} {o:ay} {cs:List AV} (hl:ob id=.live o) (h:ew ob o.cells cs):dL ob (.pt id 0) (.rp cs):=
 .pt id 0 o cs hl (by rw [h.1];omega) (fun j a b hx hy=>h.2 j a b (by rw [Nat.zero_add] at hx;exact hx) hy)
theorem ZT {ob:Nat→aK} {as cs:List AV} (h:ew ob as cs):dL ob (.rp as) (.rp cs):=.va as cs h.1 h.2
theorem oE {ob:Nat→aK} {as cs:List AV} (h:ew ob as cs):dL ob (.agg as) (.agg cs):=.agg as cs h.1 h.2
theorem lf {ob:Nat→aK} {f:FuncId} {as cs:List AV} (h:ew ob as cs):dL ob (.fn f as) (.fn f cs):=.fn f as cs h.1 h.2
theorem dL.more {ob cg:Nat→aK} (h:∀id o,ob id=.live o→cg id=.live o) {a b:AV} (hl:dL ob a b):dL cg a b:=by
 induction hl with
 |any av=>exact .any av
 |one av h=>exact .one av h
 |same av h=>exact .same av h
 |nil=>exact .nil
 |sl id off n o cs hl h1 h2 _ ih=>exact .sl id off n o cs (h _ _ hl) h1 h2 ih
 |pt id off o cs hl h1 _ ih=>exact .pt id off o cs (h _ _ hl) h1 ih
 |agg as cs h1 _ ih=>exact .agg as cs h1 ih
 |bw as cs h1 _ ih=>exact .bw as cs h1 ih
 |fn f as cs h1 _ ih=>exact .fn f as cs h1 ih
 |va as cs h1 _ ih=>exact .va as cs h1 ih
 |row n as cs h1 _ ih=>exact .row n as cs h1 ih
theorem ew.more {ob cg:Nat→aK} {as bs:List AV} (hl:ew ob as bs) (h:∀id o,ob id=.live o→cg id=.live o):ew cg as bs:=⟨hl.1,fun j a b h1 h2=>(hl.2 j a b h1 h2).more h⟩
theorem dL.Kw {ob:Nat→aK} {a b:AV} (hl:dL ob a b):kQ b:=by
 have get:∀{as cs:List AV} {k:Nat},k+cs.length≤as.length→(∀(j:Nat) (a b:AV),as[k+j]? =some a→cs[j]? =some b→kQ b)→ii cs:=fun {as cs k} hlen ih c hc=>by
  obtain ⟨j,hj⟩:=List.getElem?_of_mem hc;have hl:=(List.getElem?_eq_some_iff.1 hj).1;exact ih j _ c (List.getElem?_eq_getElem (by omega)) hj
 induction hl with
 |any av=>exact .any
 |one av h=>exact .one
 |same av h=>exact h
 |nil=>exact .ro _ _ trivial (fun c h=>by cases h)
 |sl id off n o cs hl h1 h2 _ ih=>exact .ro _ _ trivial (get (by omega) ih)
 |pt id off o cs hl h1 _ ih=>exact .rp _ trivial (get h1 ih)
 |agg as cs h1 _ ih=>exact .agg _ (get (as:=as) (cs:=cs) (k:=0) (by omega) (by simpa using ih))
 |bw as cs h1 _ ih=>exact .bw _ (get (as:=as) (cs:=cs) (k:=0) (by omega) (by simpa using ih))
 |fn f as cs h1 _ ih=>exact .fn _ _ (get (as:=as) (cs:=cs) (k:=0) (by omega) (by simpa using ih))
 |va as cs h1 _ ih=>exact .rp _ trivial (get (as:=as) (cs:=cs) (k:=0) (by omega) (by simpa using ih))
 |row n as cs h1 _ ih=>exact .ro _ _ trivial (get (as:=as) (cs:=cs) (k:=0) (by omega) (by simpa using ih))
def C0 (X:Nat→Prop):Ctx:=⟨fun _=>none,fun _=>0,fun _=>0,fun _=>False,X⟩
section
variable {P:Program} {E:cZ} {st:St} {K:St→Prop}
theorem SR.wN {C:Ctx} {a:Act} {w:World} (hs:SR E C st a w) {ob:Nat→aK} (ap:∀id o,ob id=.live o→st.ob id=.live o) (X:Nat→Prop) (hX:∀b,X b→C.own b∧∀id o,ob id=.live o→C.blk id≠some b) {av fC:AV} {u:Value} (hl:dL ob av fC) (h:R w C av u):R w (C0 X) fC u:=by
 induction hl generalizing u with
 |any=>exact .any u
 |one av h1=>exact .one u (wM h h1)
 |same av hno=>
  have:=R.map (C2:=C0 X) (σ:=id) (fun _ h _=>h.elim) (fun _ b hb hx=>hb (hX b hx).1) h hno
  rwa [kB hno] at this
 |nil=>
  cases h
  exact .ro 0 0 none [] (fun _=>undef) (Nat.le_refl _) (Nat.zero_le _) (fun _=>⟨rfl,rfl⟩) (fun j hj=>by simp at hj) (fun j av hj=>by simp at hj)
 |sl id off n o cs hlv hlen hle hcs ih=>
  cases h with
  |sl _ _ _ c b hd hb hn hm hss=>
   obtain ⟨hown,cur,hh,_,hcl,hcell⟩:=hs.obj.live id o b (ap _ _ hlv) hb;have Fj:¬X b:=fun hx=>(hX b hx).2 id o hlv hb
   have hcur:∀j,j<cs.length→∃x,o.cells[off+j]? =some x∧cur[off+j]? =some ((cur[off+j]?).getD undef)∧((cur[off+j]?).getD undef).oneCell'=true∧R w C x ((cur[off+j]?).getD undef):=fun j hj=>by
    have hj2:off+j<o.cells.length:=by omega
    obtain ⟨u,hu,h1,hr⟩:=hcell (off+j) o.cells[off+j] (List.getElem?_eq_getElem hj2);exact ⟨_,List.getElem?_eq_getElem hj2,by rw [hu];rfl,by rw [hu];exact h1,by rw [hu];exact hr⟩
   refine .ro n c _ cs (fun j=>(cur[off+j]?).getD undef) hn hm (fun e=>by cases e) (fun j hj=>?_) (fun j av hj=>?_)
   ·obtain ⟨x,_,h1,h2,_⟩:=hcur j hj;refine ⟨_,rfl,Fj,?_,h2⟩;rw [add_plain];simp only [World.cell?,hh];simpa using h1
   ·obtain ⟨x,hx,_,_,h3⟩:=hcur j (List.getElem?_eq_some_iff.1 hj).1;exact ih j x av hx hj h3
  |slnil _ hd hb=>
   have hc:=(hs.obj.nil id o (ap _ _ hlv)).2.2 hb;have h0:cs=[]:=List.eq_nil_of_length_eq_zero (by rw [hc] at hle;simp at hle;omega);subst h0;exact .ro 0 0 none [] (fun _=>undef) (Nat.le_refl _) (Nat.zero_le _) (fun _=>⟨rfl,rfl⟩) (fun j hj=>by simp at hj) (fun j av hj=>by simp at hj)
 |pt id off o cs hlv hle hcs ih=>
  cases h with
  |pt _ _ b hd hb=>
   obtain ⟨hown,cur,hh,_,hcl,hcell⟩:=hs.obj.live id o b (ap _ _ hlv) hb;have Fj:¬X b:=fun hx=>(hX b hx).2 id o hlv hb
   have hcur:∀j,j<cs.length→∃x,o.cells[off+j]? =some x∧cur[off+j]? =some ((cur[off+j]?).getD undef)∧((cur[off+j]?).getD undef).oneCell'=true∧R w C x ((cur[off+j]?).getD undef):=fun j hj=>by
    have hj2:off+j<o.cells.length:=by omega
    obtain ⟨u,hu,h1,hr⟩:=hcell (off+j) o.cells[off+j] (List.getElem?_eq_getElem hj2);exact ⟨_,List.getElem?_eq_getElem hj2,by rw [hu];rfl,by rw [hu];exact h1,by rw [hu];exact hr⟩
   refine .rp _ cs (fun j=>(cur[off+j]?).getD undef) (fun j hj=>?_) (fun j av hj=>?_)
   ·obtain ⟨x,_,h1,h2,_⟩:=hcur j hj;refine ⟨Fj,?_,h2⟩;rw [add_plain];simp only [World.cell?,hh];simpa using h1
   ·obtain ⟨x,hx,_,_,h3⟩:=hcur j (List.getElem?_eq_some_iff.1 hj).1;exact ih j x av hx hj h3
 |agg as cs hlen _ ih=>
  cases h with
  |agg _ us hsz hrel=>exact .agg cs us (by rw [hlen];exact hsz) (fun j av hj=>ih j _ av (List.getElem?_eq_getElem (by have:=(List.getElem?_eq_some_iff.1 hj).1;omega)) hj (hrel j _ (List.getElem?_eq_getElem (by have:=(List.getElem?_eq_some_iff.1 hj).1;omega))))
 |bw as cs hlen _ ih=>
  cases h with
  |bw _ us hsz hrel=>exact .bw cs us (by rw [hlen];exact hsz) (fun j av hj=>ih j _ av (List.getElem?_eq_getElem (by have:=(List.getElem?_eq_some_iff.1 hj).1;omega)) hj (hrel j _ (List.getElem?_eq_getElem (by have:=(List.getElem?_eq_some_iff.1 hj).1;omega))))
 |fn f as cs hlen _ ih=>
  cases h with
  |fn _ _ us hsz hrel=>exact .fn f cs us (by rw [hlen];exact hsz) (fun j av hj=>ih j _ av (List.getElem?_eq_getElem (by have:=(List.getElem?_eq_some_iff.1 hj).1;omega)) hj (hrel j _ (List.getElem?_eq_getElem (by have:=(List.getElem?_eq_some_iff.1 hj).1;omega))))
 |va as cs hlen _ ih=>
  cases h with
  |rp ad _ us hcell hrel=>exact .rp ad cs us (fun j hj=>by obtain ⟨h1,h2⟩:=hcell j (by omega);exact ⟨fun hx=>h1 (hX _ hx).1,h2⟩) (fun j av hj=>ih j _ av (List.getElem?_eq_getElem (by have:=(List.getElem?_eq_some_iff.1 hj).1;omega)) hj (hrel j _ (List.getElem?_eq_getElem (by have:=(List.getElem?_eq_some_iff.1 hj).1;omega))))
 |row n as cs hlen _ ih=>
  cases h with
  |ro _ c A _ us hc hm h0 hcell hrel=>exact .ro n c A cs us hc hm h0 (fun j hj=>by obtain ⟨ad,h1,h2,h3⟩:=hcell j (by omega);exact ⟨ad,h1,fun hx=>h2 (hX _ hx).1,h3⟩) (fun j av hj=>ih j _ av (List.getElem?_eq_getElem (by have:=(List.getElem?_eq_some_iff.1 hj).1;omega)) hj (hrel j _ (List.getElem?_eq_getElem (by have:=(List.getElem?_eq_some_iff.1 hj).1;omega))))
theorem SR.lend {C:Ctx} {a:Act} {w:World} (hs:SR E C st a w) (X:Nat→Prop) (hX:∀b,X b→C.own b∧∀id o,st.ob id=.live o→C.blk id≠some b) {av fC:AV} {u:Value} (hl:dL st.ob av fC) (h:R w C av u):R w (C0 X) fC u:=hs.wN (fun _ _ h=>h) X hX hl h
end
def kg (news:List ay):Nat→aK:=fun id=>match news[id]? with|some o=>.live o|none=>.free
def Bo (w:World) (X:Nat→Prop) (post:AV→List ay→Prop) (e:Ending) (w':World):Prop:=
 ∃v C' res news,e=.returned v∧post res news∧Fr (fun _=>False) w w'∧R w' C' res v∧mE w' C' (kg news)∧
   (∀id b,id<news.length→C'.blk id=some b→w.heap.size≤b)∧(∀b,X b→C'.own b)∧(∀b,b<w.heap.size→C'.own b→X b)
def pr (P:Program) (f:FuncId) (args:List AV) (post:AV→List ay→Prop):Prop:=
 ∀(w:World) (X:Nat→Prop) (vs:Array Value),vs.size=args.length→(∀b,X b→b<w.heap.size)→Laid w X→(∀j av,args[j]? =some av→R w (C0 X) av (vs.getD j undef))→Calls P f vs w (Bo w X post)
def Fn (P:Program) (f:FuncId) (args:List AV) (res:AV):Prop:=pr P f args (fun r n=>r=res∧n=[])
def jq (P:Program) (f:FuncId) (args:List AV) (res:AV) (news:List ay):Prop:=pr P f args (fun r n=>r=res∧n=news)
theorem pr.mono {P:Program} {f:FuncId} {args:List AV} {post post':AV→List ay→Prop} (h:pr P f args post) (hp:∀r n,post r n→post' r n):pr P f args post':=
 fun w X vs h1 h2 hL h3=>(h w X vs h1 h2 hL h3).mono fun e w' ⟨v,C',res,news,h4,h5,h6⟩=>⟨v,C',res,news,h4,hp _ _ h5,h6⟩
def dK (ob:Nat→aK) (s:Nat):List ay→(Nat→aK)
 | []=>ob
 |o::r=>dK (ah ob s (.live o)) (s+1) r
def ay.map (σ:Nat→Nat) (o:ay):ay:=⟨AV.dY σ o.cells,o.elem,o.ci⟩
theorem vM (news:List ay):∀(ob:Nat→aK) (s id:Nat),dK ob s news id=if s≤id∧id<s+news.length then (match news[id-s]? with|some o=>.live o|none=>ob id) else ob id:=by
 induction news with
 |nil=>intro ob s id;simp [dK]
 |cons o r ih=>
  intro ob s id;simp only [dK,ih,List.length_cons];by_cases h:id=s
  ·subst h;rw [if_neg (by omega),ec,if_pos (by omega)];simp
  ·rw [dJ _ _ h];by_cases h1:s+1≤id∧id<s+1+r.length
   ·rw [if_pos h1,if_pos (by omega)];rw [show id-s=(id-(s+1))+1 by omega,List.getElem?_cons_succ]
   ·rw [if_neg h1,if_neg (by omega)]
def bO (P:Program) (f:FuncId):Bool:=
 match P.funcs[f]? with
 |some fn=> !(fn.name== "runtime.NumGoroutine")&&fn.body.isSome
 |none=>false
theorem FM {P:Program} {f:FuncId} (h:bO P f=true) (args:Array Value) (w:World):(callFunc f args).run P w=.ok (.enter f args) w:=by
 unfold bO at h
 split at h
 ·rename_i fn hfn;simp only [Bool.and_eq_true,Bool.not_eq_true'] at h;obtain ⟨h1,h2⟩:=h
  have h3:¬fn.body=none:=by
   intro hb;rw [hb] at h2;cases h2
  have h4:¬fn.name= "runtime.NumGoroutine" :=by simpa using h1
  simp [callFunc,hfn,h3,h4]
 ·cases h
def gB (C C':Ctx) (s k:Nat):Ctx where
 blk:=fun i=>if s≤i∧i<s+k then C'.blk (i-s) else C.blk i
 sz:=fun i=>if s≤i∧i<s+k then C'.sz (i-s) else C.sz i
 ci:=fun i=>if s≤i∧i<s+k then C'.ci (i-s) else C.ci i
 dom:=fun i=>C.dom i∨(s≤i∧i<s+k)
 own:=fun b=>C.own b∨C'.own b
section
variable {P:Program} {E:cZ} {st:St} {K:St→Prop}
theorem Hy {w:World} {C:Ctx} {f:FuncId} {caps:List AV} {u:Value} (h:R w C (.fn f caps) u):∃us:Array Value,u=.func (.func f) #[] us∧us.size=caps.length∧∀j av,caps[j]? =some av→R w C av (us.getD j undef):=by
 cases h with
 |fn _ _ us hs hr=>exact ⟨us,rfl,hs,hr⟩
theorem SR.back {C C':Ctx} {a:Act} {w w':World} (hs:SR E C st a w) {X:Nat→Prop} {res:AV} {news:List ay} {v:Value} (s:Nat) (hX:∀b,X b→C.own b)
  (hfr:Fr (fun _=>False) w w') (hR:R w' C' res v) (gk:mE w' C' (kg news)) (hnew:∀id b,id<news.length→C'.blk id=some b→w.heap.size≤b) (hkeep:∀b,X b→C'.own b)
  (hold:∀b,b<w.heap.size→C'.own b→X b) (hfree:∀i,i<news.length→st.ob (s+i)=.free)
  (hro:(∀b,C.own b→X b)∨(Ok (fun _=>True) False res∧∀o,o∈news→∀c,c∈o.cells→Ok (fun _=>True) False c)) (hok:∀{ro:Prop},ro→Ok (fun _=>True) ro res∧∀o,o∈news→∀c,c∈o.cells→Ok (fun _=>True) ro c)
  (dst:Option Nat) (hd:∀d,dst=some d→d<E.N):
  SR E (gB C C' s news.length) (St.put ⟨st.env,dK st.ob s (news.map (ay.map (· +s)))⟩ dst (res.map (· +s))) (a.put dst v) w':=by
 have hlen:(news.map (ay.map (· +s))).length=news.length:=by simp
 have TH:∀id,C'.dom id→id<news.length:=fun id hid=>by
  rcases Nat.lt_or_ge id news.length with h|h
  ·exact h
  ·exact absurd (by simp [kg,List.getElem?_eq_none h]) (gk.dom id hid)
 have hnotin:∀id,C.dom id→¬(s≤id∧id<s+news.length):=fun id hid hin=>by
  have:=hfree (id-s) (by omega);rw [show s+(id-s)=id by omega] at this;exact hs.obj.dom id hid this
 have hext:Ext w C w' (gB C C' s news.length):=by
  refine ⟨fun id hid=>?_,fun b hb ho h=>?_,fun b hb _=>hfr.block b hb (fun h=>h)⟩
  ·have:=hnotin id hid;simp [gB,this,hid]
  ·rcases h with h|h
   ·exact ho h
   ·exact ho (hX b (hold b hb h))
 obtain ⟨ro,t8,hown⟩:∃ro:Prop,(Ok (fun _=>True) ro res∧∀o,o∈news→∀c,c∈o.cells→Ok (fun _=>True) ro c)∧(ro→∀b,¬C'.own b→¬(gB C C' s news.length).own b):=by
  rcases hro with h|h
  ·refine ⟨True,hok trivial,fun _ b hb h2=>?_⟩;rcases h2 with h2|h2
   ·exact hb (hkeep b (h b h2))
   ·exact hb h2
  ·exact ⟨False,h,fun h=>h.elim⟩
 have hid:∀id,True→C'.dom id→(gB C C' s news.length).dom (id+s)∧(gB C C' s news.length).blk (id+s)=C'.blk id∧(gB C C' s news.length).sz (id+s)=C'.sz id∧(gB C C' s news.length).ci (id+s)=C'.ci id:=fun id _ hd=>by
  have h1:=TH id hd;have h2:s≤id+s∧id+s<s+news.length:=by omega
  simp [gB,h2,show id+s-s=id by omega]
 have hlive:∀i o,dK st.ob s (news.map (ay.map (· +s))) i=.live o→(∃o0,s≤i∧i<s+news.length∧news[i-s]? =some o0∧o=ay.map (· +s) o0)∨(¬(s≤i∧i<s+news.length)∧st.ob i=.live o):=fun i o h=>by
  rw [vM,hlen] at h;by_cases hin:s≤i∧i<s+news.length
  ·rw [if_pos hin,List.getElem?_map,List.getElem?_eq_getElem (by omega)] at h;simp only [Option.map_some] at h
   cases h
   exact .inl ⟨_,hin.1,hin.2,List.getElem?_eq_getElem (by omega),rfl⟩
  ·rw [if_neg hin] at h;exact .inr ⟨hin,h⟩
 have ap:∀i o0,news[i]? =some o0→kg news i=.live o0:=fun i o0 h=>by simp [kg,h]
 refine hs.put hext _ ⟨fun i o h=>?_,fun i o b h hb=>?_,fun i i' o1 o2 b h1 h2 h3 h4=>?_,fun i hi=>?_,fun b hb=>?_⟩
  ⟨hfr.os.trans hs.fr.os,hfr.tape.trans hs.fr.tape,hfr.output.trans hs.fr.output,Nat.le_trans hs.fr.size hfr.size,fun b hb hg=>?_⟩ (fun i o b h hb=>?_) (fun b hb=>.inl (hs.keep b hb)) (fun b hb ho=>?_) dst hd _ v (fun _=>R.map hid hown hR t8.1)
 ·rcases hlive i o h with ⟨o0,h1,h2,h3,rfl⟩|⟨hin,h'⟩
  ·obtain ⟨k1,k2,k3⟩:=gk.nil (i-s) o0 (ap _ _ h3);refine ⟨.inr ⟨h1,h2⟩,by simp [gB,h1,h2,ay.map,k2],fun hb=>?_⟩;simp only [gB,h1,h2,and_self,if_true] at hb;simp [ay.map,k3 hb,AV.dY]
  ·obtain ⟨k1,k2,k3⟩:=hs.obj.nil i o h';refine ⟨.inl k1,by simp [gB,hin,k2],fun hb=>k3 ?_⟩;simpa [gB,hin] using hb
 ·rcases hlive i o h with ⟨o0,h1,h2,h3,rfl⟩|⟨hin,h'⟩
  ·simp only [gB,h1,h2,and_self,if_true] at hb;obtain ⟨k1,cur,k2,k3,k4,k5⟩:=gk.live (i-s) o0 b (ap _ _ h3) hb;refine ⟨.inr k1,cur,k2,by simp [gB,h1,h2,k3],by simp [ay.map,fX];exact k4,fun j av hj=>?_⟩;simp only [ay.map,fX,List.getElem?_map,Option.map_eq_some_iff] at hj;obtain ⟨c,hj,rfl⟩:=hj;obtain ⟨u,hu,k6,k7⟩:=k5 j c hj;exact ⟨u,hu,k6,R.map hid hown k7 (t8.2 o0 (List.mem_of_getElem? h3) c (List.mem_of_getElem? hj))⟩
  ·simp only [gB,hin,if_false] at hb;obtain ⟨k1,cur,k2,k3,k4,k5⟩:=hs.obj.live i o b h' hb;refine ⟨.inl k1,cur,(hfr.block b (hs.obj.bnd b k1) (fun h=>h)).trans k2,by simp [gB,hin,k3],k4,fun j av hj=>?_⟩;obtain ⟨u,hu,k6,k7⟩:=k5 j av hj;exact ⟨u,hu,k6,k7.ext hext⟩
 ·rcases hlive i o1 h1 with ⟨p1,a1,a2,a3,rfl⟩|⟨hin,h1'⟩<;>rcases hlive i' o2 h2 with ⟨p2,b1,b2,b3,rfl⟩|⟨hin',h2'⟩
  ·simp only [gB,a1,a2,and_self,if_true] at h3;simp only [gB,b1,b2,and_self,if_true] at h4;have:=gk.inj (i-s) (i'-s) p1 p2 b (ap _ _ a3) (ap _ _ b3) h3 h4;omega
  ·simp only [gB,a1,a2,and_self,if_true] at h3;simp only [gB,hin',if_false] at h4;have k1:=hnew (i-s) b (by omega) h3;have k2:=hs.obj.bnd b (hs.obj.live i' o2 b h2' h4).1;omega
  ·simp only [gB,b1,b2,and_self,if_true] at h4;simp only [gB,hin,if_false] at h3;have k1:=hnew (i'-s) b (by omega) h4;have k2:=hs.obj.bnd b (hs.obj.live i o1 b h1' h3).1;omega
  ·simp only [gB,hin,if_false] at h3;simp only [gB,hin',if_false] at h4;exact hs.obj.inj i i' o1 o2 b h1' h2' h3 h4
 ·rw [vM,hlen];by_cases hin:s≤i∧i<s+news.length
  ·rw [if_pos hin,List.getElem?_map,List.getElem?_eq_getElem (by omega)];intro h;cases h
  ·rw [if_neg hin];rcases hi with hi|hi
   ·exact hs.obj.dom i hi
   ·exact absurd hi hin
 ·rcases hb with hb|hb
  ·have:=hs.obj.bnd b hb;have:=hfr.size;omega
  ·exact gk.bnd b hb
 ·have:=hs.fr.size;exact (hfr.block b (by omega) (fun h=>h)).trans (hs.fr.block b hb hg)
 ·rcases hlive i o h with ⟨o0,h1,h2,h3,rfl⟩|⟨hin,h'⟩
  ·simp only [gB,h1,h2,and_self,if_true] at hb;have k1:=hnew (i-s) b (by omega) hb;have:=hs.fr.size;exact .inl (by omega)
  ·simp only [gB,hin,if_false] at hb;exact hs.fresh i o b h' hb
 ·rcases ho with ho|ho
  ·exact hs.fO b hb ho
  ·have:=hs.fr.size;exact hs.fO b hb (hX b (hold b (by omega) ho))
theorem v4 {av:AV}:∀{u:Value} {w:World} {C:Ctx},R w C av u→∀{ro:Prop},ro→Ok (fun _=>True) ro av:=by
 intro u w C h ro hro
 induction h with
 |any=>exact .any
 |one=>exact .one
 |v x=>exact .v x
 |ro n c A cells us _ _ _ hcell hrel ih=>
  refine .ro n cells hro fun c hc=>?_;obtain ⟨j,hj⟩:=List.mem_iff_getElem?.1 hc;exact ih j c hj
 |rp ad cells us hcell hrel ih=>
  refine .rp cells hro fun c hc=>?_;obtain ⟨j,hj⟩:=List.mem_iff_getElem?.1 hc;exact ih j c hj
 |sl id off n=>exact .sl id off n trivial
 |slnil id=>exact .sl id 0 0 trivial
 |pt id off=>exact .pt id off trivial
 |agg cells us _ _ ih=>
  refine .agg cells fun c hc=>?_;obtain ⟨j,hj⟩:=List.mem_iff_getElem?.1 hc;exact ih j c hj
 |bw cells us _ _ ih=>
  refine .bw cells fun c hc=>?_;obtain ⟨j,hj⟩:=List.mem_iff_getElem?.1 hc;exact ih j c hj
 |fn f cells us _ _ ih=>
  refine .fn f cells fun c hc=>?_;obtain ⟨j,hj⟩:=List.mem_iff_getElem?.1 hc;exact ih j c hj
theorem N5 {w:World} {C:Ctx} {news:List ay} (h:mE w C (kg news)) {ro:Prop} (hro:ro):∀o,o∈news→∀c,c∈o.cells→Ok (fun _=>True) ro c:=by
 intro o ho c hc;obtain ⟨i,hi⟩:=List.mem_iff_getElem?.1 ho;have hl:kg news i=.live o:=by simp [kg,hi]
 obtain ⟨j,hj⟩:=List.mem_iff_getElem?.1 hc
 cases hb:C.blk i with
 |none=>
  have:=(h.nil i o hl).2.2 hb;rw [this] at hc;cases hc
 |some b=>
  obtain ⟨_,cur,_,_,_,h5⟩:=h.live i o b hl hb;obtain ⟨u,_,_,hr⟩:=h5 j c hj;exact v4 hr hro
theorem vE {o:Oper} {c:Call} {c7:Operand} {args:List Operand} {tys:Array TypeId} {f:FuncId} {caps cW:List AV} {post:AV→List ay→Prop} (lend:Bool)
  (ho:o.op=.call c) (hc:c={ callee:=.value c7,args:=args.toArray,argTypes:=tys }) (hN:(bh E.N c7&&args.all (bh E.N))=true) (hd:∀d,o.dst=some d→d<E.N)
  (fm:aU st.env c7=.fn f caps) (hb:bO P f=true) (hl:ew st.ob (args.map (aU st.env)++caps) cW) (hnl:lend=false→ew (fun _=>.free) (args.map (aU st.env)++caps) cW)
  (hF:pr P f cW post)
  (h:∀res news,post res news→∃s,(∀i,i<news.length→st.ob (s+i)=.free)∧(lend=true→Ok (fun _=>True) False res∧∀o,o∈news→∀c,c∈o.cells→Ok (fun _=>True) False c)∧
   K (St.put ⟨st.env,dK st.ob s (news.map (ay.map (· +s)))⟩ o.dst (res.map (· +s)))):bY P E o st K:=by
 subst hc;simp only [Bool.and_eq_true] at hN;rintro a w q ⟨C,hs⟩;have hrc:=hs.ev c7 hN.1;rw [fm] at hrc;obtain ⟨us,huc,ZF,BX⟩:=Hy hrc
 have hargs:∀j av,(args.map (aU st.env))[j]? =some av→R w C av ((args.map a.eval).getD j undef):=fun j av hj=>by
  rw [List.getElem?_map,Option.map_eq_some_iff] at hj;obtain ⟨x,hj,rfl⟩:=hj;have:=hs.ev x (List.all_eq_true.1 hN.2 x (List.mem_of_getElem? hj));simpa [hj] using this
 have hrun:(execOp a.eval o).run P w=.ok (.enter f ((args.map a.eval).toArray++us)) w:=by
  simp [execOp,ho,resolve,huc,Deferred.ofValue,invoke,FM hb]
 let X:Nat→Prop:=fun b=>C.own b∧(lend=true→∀id o,st.ob id=.live o→C.blk id≠some b)
 have hX:∀b,X b→C.own b:=fun b h=>h.1;have hsz:((args.map a.eval).toArray++us).size=cW.length:=by rw [hl.1];simp [ZF]
 have hrel:∀j av,cW[j]? =some av→R w (C0 X) av (((args.map a.eval).toArray++us).getD j undef):=fun j av hj=>by
  have hjl:j<cW.length:=(List.getElem?_eq_some_iff.1 hj).1;have oZ:j<(args.map (aU st.env)++caps).length:=by rw [←hl.1];exact hjl
  have h1:R w C (args.map (aU st.env)++caps)[j] (((args.map a.eval).toArray++us).getD j undef):=by
   by_cases hja:j<args.length
   ·have h2:=hargs j _ (List.getElem?_eq_getElem (by simpa using hja));rw [List.getElem_append_left (by simpa using hja)]
    have:((args.map a.eval).toArray++us).getD j undef=(args.map a.eval).getD j undef:=by
     simp [Array.getElem?_append_left,hja]
    rw [this];exact h2
   ·rw [List.getElem_append_right (by simp;omega)];have hjc:j-args.length<caps.length:=by simp at oZ;omega
    have h2:=BX (j-args.length) _ (List.getElem?_eq_getElem hjc)
    have:((args.map a.eval).toArray++us).getD j undef=us.getD (j-args.length) undef:=by
     simp [Array.getElem?_append_right,Nat.not_lt.1 hja]
    rw [this];simpa using h2
  cases lend with
  |true=>exact hs.lend X (fun b hb=>⟨hb.1,hb.2 rfl⟩) (hl.2 j _ av (List.getElem?_eq_getElem oZ) hj) h1
  |false=>
   exact hs.wN (ob:=fun _=>.free) (fun _ _ h=>by cases h) X (fun b hb=>⟨hb.1,fun _ _ h=>by cases h⟩) ((hnl rfl).2 j _ av (List.getElem?_eq_getElem oZ) hj) h1
 have hcall:=hF w X _ hsz (fun b hb=>hs.obj.bnd b (hX b hb)) (hs.laid.sub hX) hrel;unfold Oper.wp;rw [hrun];refine hcall.mono ?_;rintro e w' ⟨v,C',res,news,rfl,hpost,hfr,hR,gk,hnew,hkeep,hold⟩;obtain ⟨s,hfree,hro,hK⟩:=h res news hpost;refine ⟨_,⟨_,hs.back s hX hfr hR gk hnew hkeep hold hfree ?_ (fun Kx=>⟨v4 hR Kx,N5 gk Kx⟩) o.dst hd⟩,hK⟩
 cases lend with
 |true=>exact .inr (hro rfl)
 |false=>exact .inl fun b hb=>⟨hb,fun h=>by cases h⟩
theorem QO {o:Oper} {c:Call} {c7:Operand} {args:List Operand} {tys:Array TypeId} {f d:Nat} {caps cW:List AV} {res:AV}
  (ho:o.op=.call c) (hc:c={ callee:=.value c7,args:=args.toArray,argTypes:=tys }) (hd:o.dst=some d) (hN:(bh E.N c7&&args.all (bh E.N)&&Nat.blt d E.N)=true)
  (fm:aU st.env c7=.fn f caps) (hb:bO P f=true) (ha:args.map (aU st.env)++caps=cW) (hno:ii cW) (hF:Fn P f cW res) (hres:kQ res)
  (h:K ⟨upd st.env d res,st.ob⟩):bY P E o st K:=by
 rw [Bool.and_eq_true] at hN;subst ha;refine vE false ho hc hN.1 (fun d' hd'=>by rw [hd] at hd';cases hd';exact bX hN.2) fm hb (Gj hno) (fun _=>Gj hno) hF ?_;rintro r n ⟨rfl,rfl⟩;refine ⟨0,(fun i hi=>by simp at hi),(fun h=>by cases h),?_⟩;rw [hd,kB hres];exact h
theorem Pu {o:Oper} {c:Call} {c7:Operand} {args:List Operand} {tys:Array TypeId} {f d:Nat} {caps cW:List AV} {res:AV}
  (ho:o.op=.call c) (hc:c={ callee:=.value c7,args:=args.toArray,argTypes:=tys }) (hd:o.dst=some d) (hN:(bh E.N c7&&args.all (bh E.N)&&Nat.blt d E.N)=true)
  (fm:aU st.env c7=.fn f caps) (hb:bO P f=true) (hl:ew st.ob (args.map (aU st.env)++caps) cW) (hF:Fn P f cW res) (hres:Ok (fun _=>False) False res)
  (h:K ⟨upd st.env d res,st.ob⟩):bY P E o st K:=by
 rw [Bool.and_eq_true] at hN;refine vE true ho hc hN.1 (fun d' hd'=>by rw [hd] at hd';cases hd';exact bX hN.2) fm hb hl (fun h=>by cases h) hF ?_;rintro r n ⟨rfl,rfl⟩;refine ⟨0,(fun i hi=>by simp at hi),fun _=>⟨hres.mono (fun _ h=>h.elim) id,(fun o ho=>by cases ho)⟩,?_⟩;rw [hd,kB (hres.mono (fun _ h=>h) (fun h=>h.elim))];exact h
theorem Pv {o:Oper} {c:Call} {c7:Operand} {args:List Operand} {tys:Array TypeId} {f d:Nat} {caps cW:List AV} {res:AV}
  (ho:o.op=.call c) (hc:c={ callee:=.value c7,args:=args.toArray,argTypes:=tys }) (hd:o.dst=some d) (hN:(bh E.N c7&&args.all (bh E.N)&&Nat.blt d E.N)=true)
  (fm:aU st.env c7=.fn f caps) (hb:bO P f=true) (ha:ew (fun _=>.free) (args.map (aU st.env)++caps) cW) (hF:Fn P f cW res) (hres:kQ res)
  (h:K ⟨upd st.env d res,st.ob⟩):bY P E o st K:=by
 rw [Bool.and_eq_true] at hN;refine vE false ho hc hN.1 (fun d' hd'=>by rw [hd] at hd';cases hd';exact bX hN.2) fm hb (ha.more fun _ _ h=>by cases h) (fun _=>ha) hF ?_;rintro r n ⟨rfl,rfl⟩;refine ⟨0,(fun i hi=>by simp at hi),(fun h=>by cases h),?_⟩;rw [hd,kB hres];exact h
theorem zX {o:Oper} {c:Call} {c7:Operand} {args:List Operand} {tys:Array TypeId} {f d:Nat} {caps cW:List AV} {res res':AV} {news news':List ay} (s:Nat) (lend:Bool)
  (ho:o.op=.call c) (hc:c={ callee:=.value c7,args:=args.toArray,argTypes:=tys }) (hd:o.dst=some d) (hN:(bh E.N c7&&args.all (bh E.N)&&Nat.blt d E.N)=true)
  (fm:aU st.env c7=.fn f caps) (hb:bO P f=true) (hl:ew st.ob (args.map (aU st.env)++caps) cW) (hnl:lend=false→ew (fun _=>.free) (args.map (aU st.env)++caps) cW)
  (hF:jq P f cW res news) (hro:lend=true→Ok (fun _=>True) False res∧∀o,o∈news→∀c,c∈o.cells→Ok (fun _=>True) False c)
  (hfree:∀i,i<news.length→st.ob (s+i)=.free) (hres:res.map (· +s)=res') (hnews:news.map (ay.map (· +s))=news')
  (h:K ⟨upd st.env d res',dK st.ob s news'⟩):bY P E o st K:=by
 rw [Bool.and_eq_true] at hN;subst hres;subst hnews;refine vE lend ho hc hN.1 (fun d' hd'=>by rw [hd] at hd';cases hd';exact bX hN.2) fm hb hl hnl hF ?_;rintro r n ⟨rfl,rfl⟩;refine ⟨s,hfree,hro,?_⟩;rw [hd];exact h
end
def lp:List AV→Nat→AV
 | [],_=>.any
 |a::_,0=>a
 |_::l,n+1=>lp l n
theorem z5 (l:List AV) (t:Nat):lp l t=(l[t]?).getD .any:=by
 induction l generalizing t with
 |nil=>rfl
 |cons a l ih=>cases t with
  |zero=>rfl
  |succ t=>simp [lp,ih]
def mkV:List Value→Value
 | [u]=>u
 |l=>.tuple l.toArray
def j9:List AV→AV
 | [a]=>a
 |l=>.bw l
def p9 (P:Program) (fn:Func) (ts:List Nat):Prop:=∀(tmps:Array Value) (w:World),(results fn tmps).run P w=.ok (mkV (ts.map fun t=>tmps.getD t undef)) w
theorem A4 {P:Program} {fn:Func} (h:fn.results= #[]):p9 P fn []:=fun tmps w=>by simp [results,h,mkV]
theorem b_ {P:Program} {fn:Func} {a:Nat} (h:fn.results= #[.tmp a]):p9 P fn [a]:=fun tmps w=>by simp [results,h,mkV]
theorem iY {P:Program} {fn:Func} {a b:Nat} (h:fn.results= #[.tmp a,.tmp b]):p9 P fn [a,b]:=fun tmps w=>by simp [results,h,mkV]
theorem Tc {P:Program} {fn:Func} {a b c:Nat} (h:fn.results= #[.tmp a,.tmp b,.tmp c]):p9 P fn [a,b,c]:=fun tmps w=>by simp [results,h,mkV]
def ix:List Nat→Nat→Nat
 | [],_=>0
 |a::l,x=>cond (Nat.beq x a) 0 (ix l x+1)
theorem pW {L:List Nat} {x:Nat} (h:x∈L):L[ix L x]? =some x:=by
 induction L with
 |nil=>cases h
 |cons a l ih=>
  simp only [ix]
  cases hb:Nat.beq x a with
  |true=>simp [Nat.eq_of_beq_eq_true hb]
  |false=>
   rcases List.mem_cons.1 h with h|h
   ·subst h;simp at hb
   ·simpa using ih h
def qb (ts:List Nat) (post:AV→List ay→Prop) (N:Nat) (s:St):Prop:=
 ∃(L:List Nat) (res:AV) (news:List ay),(ts.all fun t=>Nat.blt t N)=true∧post res news∧L.Nodup∧(j9 (ts.map s.env)).map (ix L)=res∧Ok (· ∈L) True (j9 (ts.map s.env))∧news.length=L.length∧
  ∀(i id:Nat),L[i]? =some id→∃o:ay,s.ob id=.live o∧news[i]? =some (ay.map (ix L) o)∧∀c,c∈o.cells→Ok (· ∈L) True c
def WX (ts:List Nat) (post:AV→List ay→Prop) (N:Nat) (e:Exit) (s:St):Prop:=
 match e with
 | .normal| .ret=>qb ts post N s
 |_=>False
theorem Ky {w:World} {C:Ctx} {cW:List AV} {us:List Value} (hl:us.length=cW.length) (h:∀j a,cW[j]? =some a→R w C a (us.getD j undef)):R w C (j9 cW) (mkV us):=by
 match cW,us,hl with
 | [],[],_=>exact .bw [] #[] rfl (fun j av hj=>by simp at hj)
 | [a],[u],_=>exact h 0 a rfl
 |a::b::r,u::v::s,hl=>
  refine .bw _ _ (by simpa using hl) (fun j av hj=>?_);have:=h j av hj;simpa using this
theorem cf {P:Program} {f:FuncId} {fn:Func} {c:Code} {N:Nat} {ts:List Nat} {args:List AV} {post:AV→List ay→Prop} (hf:P.funcs[f]? =some fn) (hb:fn.body=some c) (hN:fn.ntmps=N) (hres:p9 P fn ts) (hargs:args.length≤N)
  (h:∀w0 X hL,c6 P ⟨w0,fun _=>False,X,N,0,C0 X,hL,fun _ _ h=>h⟩ c ⟨lp args,fun _=>.free⟩ (WX ts post N)):pr P f args post:=by
 intro w X vs hsz hX hL hrel;refine calls_of_wp hf hb ?_
 have hs:SR ⟨w,fun _=>False,X,N,0,C0 X,hL,fun _ _ h=>h⟩ (C0 X) ⟨lp args,fun _=>.free⟩ { tmps:=vs++Array.replicate (fn.ntmps-vs.size) undef,defers:=[] } w:=by
  refine ⟨by simp;omega,rfl,fun t ht=>?_,⟨(fun id o h=>by cases h),(fun id o b h=>by cases h),(fun i i' o1 o2 b h=>by cases h),(fun id h=>h.elim),hX⟩,Fr.refl _ _,(fun id o b h=>by cases h),fun b h=>h,fun b _ h=>.inl h,fun i hi=>absurd hi (Nat.not_lt_zero i),hX⟩;show R w (C0 X) (lp args t) _;rw [z5];by_cases pu:t<args.length
  ·rw [List.getElem?_eq_getElem pu];have:=hrel t _ (List.getElem?_eq_getElem pu)
   have e:(vs++Array.replicate (fn.ntmps-vs.size) undef).getD t undef=vs.getD t undef:=by
    simp [Array.getElem?_append_left,show t<vs.size by omega]
   rw [e];exact this
  ·rw [List.getElem?_eq_none (by omega)];exact .any _
 refine wp_mono (h w X hL _ w ⟨_,hs⟩) ?_;rintro e a' w' ⟨s,⟨C,hs'⟩,hq⟩
 have key:qb ts post N s→bodyPost P fn (Bo w X post) .ret a' w':=by
  rintro ⟨L,res,news,Fl,hpost,hnd,hmap,hok,hnl,hL⟩;refine ⟨hs'.defers,_,hres a'.tmps w',?_⟩
  have hR:R w' C (j9 (ts.map s.env)) (mkV (ts.map fun t=>a'.tmps.getD t undef)):=Ky (by simp) (fun j av hj=>by
   rw [List.getElem?_map,Option.map_eq_some_iff] at hj;obtain ⟨t,hj,rfl⟩:=hj;have ht:=List.all_eq_true.1 Fl t (List.mem_of_getElem? hj);have:=hs'.env t (bX ht);simpa [hj] using this)
  let C2:Ctx:=⟨fun i=>(L[i]?).bind C.blk,fun i=>((L[i]?).map C.sz).getD 0,fun i=>((L[i]?).map C.ci).getD 0,fun i=>i<L.length,C.own⟩
  have hid:∀id,id∈L→C.dom id→C2.dom (ix L id)∧C2.blk (ix L id)=C.blk id∧C2.sz (ix L id)=C.sz id∧C2.ci (ix L id)=C.ci id:=fun id hm _=>by
   have hg:=pW hm;exact ⟨(List.getElem?_eq_some_iff.1 hg).1,by simp [C2,hg],by simp [C2,hg],by simp [C2,hg]⟩
  have hown:True→∀b,¬C.own b→¬C2.own b:=fun _ b h=>h
  have xq:∀i o,kg news i=.live o→∃id o',L[i]? =some id∧s.ob id=.live o'∧o=ay.map (ix L) o'∧∀c,c∈o'.cells→Ok (· ∈L) True c:=fun i o h=>by
   unfold kg at h
   split at h
   ·rename_i o0 hn
    cases h
    have hi:i<L.length:=by rw [←hnl];exact (List.getElem?_eq_some_iff.1 hn).1
    obtain ⟨o',h1,h2,h3⟩:=hL i L[i] (List.getElem?_eq_getElem hi);rw [hn] at h2
    cases h2
    exact ⟨_,o',List.getElem?_eq_getElem hi,h1,rfl,h3⟩
   ·cases h
  refine ⟨_,C2,res,news,rfl,hpost,hs'.fr,by rw [←hmap];exact R.map hid hown hR hok,⟨fun i o h=>?_,fun i o b h hb=>?_,fun i i' o1 o2 b h1 h2 h3 h4=>?_,fun i hi=>?_,hs'.obj.bnd⟩,fun i b hi hb=>?_,hs'.keep,fun b hb ho=>?_⟩
  ·obtain ⟨id,o',h1,h2,rfl,_⟩:=xq i o h;obtain ⟨k1,k2,k3⟩:=hs'.obj.nil id o' h2;refine ⟨(List.getElem?_eq_some_iff.1 h1).1,by simp [C2,h1,ay.map,k2],fun hb=>?_⟩;have:C.blk id=none:=by simpa [C2,h1] using hb
   simp [ay.map,k3 this,AV.dY]
  ·obtain ⟨id,o',h1,h2,rfl,h3⟩:=xq i o h;have hb':C.blk id=some b:=by simpa [C2,h1] using hb
   obtain ⟨k1,cur,k2,k4,k5,k6⟩:=hs'.obj.live id o' b h2 hb';refine ⟨k1,cur,k2,by simp [C2,h1,k4],by simp [ay.map,fX];exact k5,fun j av hj=>?_⟩;simp only [ay.map,fX,List.getElem?_map,Option.map_eq_some_iff] at hj;obtain ⟨c,hj,rfl⟩:=hj;obtain ⟨u,hu,k7,k8⟩:=k6 j c hj;exact ⟨u,hu,k7,R.map hid hown k8 (h3 c (List.mem_of_getElem? hj))⟩
  ·obtain ⟨id,o',a1,a2,_,_⟩:=xq i o1 h1;obtain ⟨id2,o'',b1,b2,_,_⟩:=xq i' o2 h2;have e1:C.blk id=some b:=by simpa [C2,a1] using h3
   have e2:C.blk id2=some b:=by simpa [C2,b1] using h4
   have e3:=hs'.obj.inj id id2 o' o'' b a2 b2 e1 e2;subst e3;obtain ⟨l1,m1⟩:=List.getElem?_eq_some_iff.1 a1;obtain ⟨l2,m2⟩:=List.getElem?_eq_some_iff.1 b1;exact (List.getElem_inj (h₀:=l1) (h₁:=l2) hnd).1 (m1.trans m2.symm)
  ·have hi':i<news.length:=by rw [hnl];exact hi
   simp [kg,hi']
  ·have hi':i<L.length:=by rw [←hnl];exact hi
   obtain ⟨o',h1,_,_⟩:=hL i L[i] (List.getElem?_eq_getElem hi');have hb':C.blk L[i]=some b:=by simpa [C2,List.getElem?_eq_getElem hi'] using hb
   rcases hs'.fresh _ _ b h1 hb' with h|h
   ·exact h
   ·exact h.elim
  ·rcases hs'.fO b hb ho with h|h
   ·exact h
   ·exact h.elim
 cases e with
 |normal=>exact key hq
 |ret=>exact key hq
 |_=>exact hq.elim
theorem ZE {ts:List Nat} {post:AV→List ay→Prop} {N:Nat} {s:St} {res:AV} (hN:(ts.all fun t=>Nat.blt t N)=true) (hr:j9 (ts.map s.env)=res) (hno:kQ res) (hp:post res []):qb ts post N s:=
 ⟨[],res,[],hN,hp,List.nodup_nil,by rw [hr,kB hno],by rw [hr];exact hno.mono (fun _ h=>h.elim) id,rfl,fun i id h=>by simp at h⟩
theorem Kz {ts:List Nat} {post:AV→List ay→Prop} {N:Nat} {s:St} {res:AV} (id:Nat) (o:ay) (hN:(ts.all fun t=>Nat.blt t N)=true) (hr:(j9 (ts.map s.env)).map (ix [id])=res) (hok:Ok (· ∈ [id]) True (j9 (ts.map s.env)))
  (hl:s.ob id=.live o) (hno:ii o.cells) (hp:post res [o]):qb ts post N s:=by
 refine ⟨[id],res,[o],hN,hp,by simp,hr,hok,rfl,fun i id' h=>?_⟩
 cases i with
 |zero=>
  simp at h;subst h;refine ⟨o,hl,?_,fun c hc=>(hno c hc).mono (fun _ h=>h.elim) (fun h=>h)⟩;simp only [ay.map,rh hno];rfl
 |succ i=>simp at h
end Go.Lo
set_option linter.unusedVariables false
set_option linter.unusedSimpArgs false
namespace Go.Lo
section
variable (P:Program) (E:cZ)
def iB (ops:Array Oper) (env:Nat→AV) (ob:Nat→aK) (o:Oper):Prop:=
 ∃d,o.dst=some d∧d<E.N∧∀st:St,st.ob=ob→(∀t,(o.looksAt ops).elem t=true→st.env t=env t)→bY P E o st (fun s=>s=⟨upd st.env d (env d),ob⟩)
def Still (ops:Array Oper) (env:Nat→AV) (ob:Nat→aK) (o:Oper):Prop:=
 match o.guard with
 |none=>iB P E ops env ob o
 |some (j,want)=>∃(t:Nat) (u:Value),(ops[j]?).bind (·.dst)=some t∧t<E.N∧env t=.v u∧(yv u=some want→iB P E ops env ob o)∧(yv u≠some want→∃d,o.dst=some d∧d<E.N∧(env d=.any∨env d=.v undef))
def tq (ops:Array Oper) (env:Nat→AV) (ob:Nat→aK):List Oper→Prop
 | []=>True
 |o::r=>Still P E ops env ob o∧tq ops env ob r
end
def kW:List (Nat×AV)→(Nat→AV)→Nat→AV
 | [],e=>e
 |(d,v)::r,e=>upd (kW r e) d v
theorem AS {vs:List (Nat×AV)} {e:Nat→AV} {t:Nat} (h:t∉vs.map (·.1)):kW vs e t=e t:=by
 induction vs with
 |nil=>rfl
 |cons x r ih=>
  obtain ⟨d,v⟩:=x;simp only [List.map_cons,List.mem_cons,not_or] at h;simp only [kW];rw [upd_ne _ _ h.1,ih h.2]
def upTo (n k:Nat):Array Bool:=((List.range n).map fun j=>decide (j<k)).toArray
theorem rk (n k:Nat):(upTo n k).size=n:=by simp [upTo]
theorem s4 {n k j:Nat} (h:j<n):(upTo n k)[j]? =some (decide (j<k)):=by simp [upTo,h]
def oS (ops:Array Oper):Nat→Nat→Bool
 |0,k=>(Region.ready .any ops (upTo ops.size k)).isEmpty
 |g+1,k=>(Region.ready .any ops (upTo ops.size k)== [k])&&oS ops g (k+1)
def qc (ops:Array Oper) (m i:Nat):Bool:=
 match ops[i]? with
 |some o=>(o.after.all fun e=> !Region.binds .any e||decide (e.on<i))&&(o.looksAt ops).all fun t=>(List.range m).all fun j=>
   match ops[j]? with
   |some oj=>oj.dst != some t||(o.after.any fun e=>Region.binds .any e&&e.on==j)
   |none=>true
 |none=>false
def pY (ops:Array Oper) (m:Nat) (ds:List Nat):Bool:=
 decide (m≤ops.size)&&(ds.all fun d=>(ops.toList.take m).any fun o=>o.dst==some d)&&(List.range m).all (qc ops m)&&(m==ops.size||(Region.sinkB .any ops m&&Region.chainB .any ops m))&&oS ops (ops.size-m) m
section
variable {P:Program} {E:cZ} {ops:Array Oper}
theorem zL {Q:Exit→Act→World→Prop} {K:St→Prop} (hq:∀st' a' w',ey E st' a' w'→K st'→Q .normal a' w') (l:List Oper):
  ∀(k:Nat) (st:St) (a:Act) (w:World),(∀j,l[j]? =ops[k+j]?)→k+l.length=ops.size→oS ops l.length k=true→ey E st a w→db P E ops l st K→wpAny P .any ops Q l.length (upTo ops.size k) a w:=by
 induction l with
 |nil=>
  intro k st a w hl hk hB hs h;obtain ⟨s,h1,h2⟩:=h;exact ⟨by simpa [oS] using hB,hq s a w (h1 a w hs) h2⟩
 |cons o l ih=>
  intro k st a w hl hk hB hs h;simp only [List.length_cons,oS,Bool.and_eq_true,beq_iff_eq] at hB;have h0:ops[k]? =some o:=by simpa using (hl 0).symm
  have hset:(upTo ops.size k).setIfInBounds k true=upTo ops.size (k+1):=by
   apply Array.ext_getElem?;intro j;rcases Nat.lt_or_ge j ops.size with hj|hj
   ·rw [s4 hj];by_cases hjk:k=j
    ·subst hjk;rw [Array.getElem?_setIfInBounds_self_of_lt (by rw [rk];exact hj)];simp
    ·rw [Array.getElem?_setIfInBounds_ne hjk,s4 hj];simp;omega
   ·rw [Array.getElem?_eq_none (by simp [rk];exact hj),Array.getElem?_eq_none (by simp [rk];exact hj)]
  have hl':∀j,l[j]? =ops[k+1+j]? :=fun j=>by
   have:=hl (j+1);simpa [Nat.add_assoc,Nat.add_comm 1 j] using this
  refine ⟨fun h1=>(by rw [h1] at hB;simp at hB),fun i hi=>?_⟩;rw [hB.1] at hi;have hik:i=k:=by simpa using hi
  subst hik;unfold wpOp;simp only [h0];rw [hset];have hk':i+1+l.length=ops.size:=by simp at hk;omega
  unfold db at h;obtain ⟨s0,hi0,h⟩:=h
  replace hs:=hi0 a w hs
  cases hg:o.guard with
  |none=>
   rw [hg] at h;have hw:Region.wanted o (yielded ops a.tmps)=true:=by simp [Region.wanted,hg]
   rw [if_pos hw];refine .inl (Oper.wp_mono ?_ (h a w Q hs));rintro a' w' ⟨s,h1,h2⟩;exact ih (i+1) s a' w' hl' hk' hB.2 h1 h2
  |some ny=>
   obtain ⟨j,want⟩:=ny;rw [hg] at h;obtain ⟨t,u,hj,ht,he,hyes,hno⟩:=h;obtain ⟨C,hs'⟩:=hs;have hy:=sT hs' hj ht he;by_cases hb:yv u=some want
   ·have hw:Region.wanted o (yielded ops a.tmps)=true:=by simp [Region.wanted,hg,hy,hb]
    rw [if_pos hw];refine .inl (Oper.wp_mono ?_ (hyes hb a w Q ⟨C,hs'⟩));rintro a' w' ⟨s,h1,h2⟩;exact ih (i+1) s a' w' hl' hk' hB.2 h1 h2
   ·have hw:Region.wanted o (yielded ops a.tmps)=false:=by simp [Region.wanted,hg,hy,hb]
    rw [if_neg (by simp [hw])];obtain ⟨hd,hr⟩:=hno hb;exact ih (i+1) _ _ w hl' hk' hB.2 ⟨C,hs'.set o.dst hd (.v undef) undef (fun _=>.v _)⟩ hr
def cnt (listed:Array Bool):Nat→Nat
 |0=>0
 |m+1=>cnt listed m+(if listed.getD m false=true then 0 else 1)
theorem Al {listed:Array Bool} {m:Nat} (h:cnt listed m=0):∀j,j<m→listed.getD j false=true:=by
 induction m with
 |zero=>intro j hj;omega
 |succ m ih=>
  intro j hj;simp only [cnt] at h;by_cases hm:listed.getD m false=true
  ·rw [if_pos hm] at h;rcases Nat.lt_or_ge j m with h1|h1
   ·exact ih (by omega) j h1
   ·rw [show j=m by omega];exact hm
  ·rw [if_neg hm] at h;omega
theorem AU {listed:Array Bool} {i:Nat} (hi:i<listed.size) (hf:listed.getD i false=false) (m:Nat):cnt (listed.setIfInBounds i true) m+(if i<m then 1 else 0)=cnt listed m:=by
 induction m with
 |zero=>simp [cnt]
 |succ m ih=>
  simp only [cnt];by_cases him:i=m
  ·subst him;have h1:(listed.setIfInBounds i true).getD i false=true:=by simp [hi]
   rw [h1,hf];simp at ih ⊢;omega
  ·have h1:(listed.setIfInBounds i true).getD m false=listed.getD m false:=by simp [Array.getElem?_setIfInBounds_ne him]
   rw [h1]
   have h2:(if i<m+1 then 1 else 0)=(if i<m then 1 else 0):=by
    by_cases h3:i<m
    ·rw [if_pos h3,if_pos (by omega)]
    ·rw [if_neg h3,if_neg (by omega)]
   omega
noncomputable def d6 (ops:Array Oper) (m:Nat) (listed:Array Bool) (env:Nat→AV):Nat→AV:=fun t=>
 open Classical in if ∃j o,j<m∧ops[j]? =some o∧o.dst=some t∧listed.getD j false=false then .any else env t
theorem GR {env:Nat→AV} {ob:Nat→aK}:∀(l:List Oper),tq P E ops env ob l→∀(i:Nat) (o:Oper),l[i]? =some o→Still P E ops env ob o
 | [],_,i,o,h=>by simp at h
 |a::r,hst,i,o,h=>by
  cases i with
  |zero=>simp at h;subst h;exact hst.1
  |succ i=>exact GR r hst.2 i o (by simpa using h)
theorem OG {Q:Exit→Act→World→Prop} {K:St→Prop} {m:Nat} {env:Nat→AV} {ob:Nat→aK} (hq:∀st' a' w',ey E st' a' w'→K st'→Q .normal a' w') (hm:m≤ops.size)
  (tN:(List.range m).all (qc ops m)=true) (hsc:m=ops.size∨(Region.sinkB .any ops m=true∧Region.chainB .any ops m=true)) (hT:oS ops (ops.size-m) m=true)
  (hst:tq P E ops env ob (ops.toList.take m)) (htail:db P E ops (ops.toList.drop m) ⟨env,ob⟩ K) (u:Nat):
  ∀(listed:Array Bool) (a:Act) (w:World),HeadInv .any ops m listed→cnt listed m=u→ey E ⟨d6 ops m listed env,ob⟩ a w→wpAny P .any ops Q (u+(ops.size-m)) listed a w:=by
 have o3:∀i,i<m→∃o,ops[i]? =some o∧(∀e∈o.after,Region.binds .any e=true→e.on<i)∧∀t,t∈o.looksAt ops→∀j oj,j<m→ops[j]? =some oj→oj.dst=some t→∃e∈o.after,Region.binds .any e=true∧e.on=j:=by
  intro i hi;have h:=List.all_eq_true.1 tN i (List.mem_range.2 hi);unfold qc at h
  split at h
  ·rename_i o ho;simp only [Bool.and_eq_true] at h;refine ⟨o,ho,fun e he hb=>?_,fun t ht j oj hj hoj hdt=>?_⟩
   ·have:=Array.all_eq_true'.1 h.1 e he;simpa [hb] using this
   ·have h2:=List.all_eq_true.1 (List.all_eq_true.1 h.2 t ht) j (List.mem_range.2 hj);simp only [hoj,hdt] at h2;have h3:(o.after.any fun e=>Region.binds .any e&&e.on==j)=true:=by simpa using h2
    obtain ⟨e,he,hb⟩:=Array.any_eq_true'.1 h3;simp only [Bool.and_eq_true,beq_iff_eq] at hb;exact ⟨e,he,hb.1,hb.2⟩
  ·cases h
 induction u with
 |zero=>
  intro listed a w inv hc hs;have hall:=Al hc
  have hl:listed=upTo ops.size m:=by
   apply Array.ext_getElem?;intro j;rcases Nat.lt_or_ge j ops.size with hj|hj
   ·rw [s4 hj,Array.getElem?_eq_getElem (by rw [inv.size];exact hj)];rcases Nat.lt_or_ge j m with h1|h1
    ·have:=hall j h1;simp [show j<listed.size by rw [inv.size];exact hj] at this;simp [this,h1]
    ·have:=inv.tail j h1 hj;simp [show j<listed.size by rw [inv.size];exact hj] at this;simp [this];omega
   ·rw [Array.getElem?_eq_none (by rw [inv.size];exact hj),Array.getElem?_eq_none (by rw [rk];exact hj)]
  have qq:ey E ⟨env,ob⟩ a w:=by
   refine hs.le ⟨fun t=>.inr ?_,fun id=>.inl rfl⟩;simp only [d6];rw [if_neg];rintro ⟨j,o,h1,_,_,h2⟩;rw [hall j h1] at h2
   cases h2
  rw [hl,Nat.zero_add];have:=zL hq (ops.toList.drop m) m ⟨env,ob⟩ a w (fun j=>by simp [List.getElem?_drop]) (by simp;omega) (by simpa using hT) qq htail;simpa using this
 |succ u ih=>
  intro listed a w inv hc hs;rw [show u+1+(ops.size-m)=(u+(ops.size-m))+1 by omega]
  have hun:∃j,j<m∧listed.getD j false=false:=by
   apply Classical.byContradiction;intro hno
   have:∀k,k≤m→cnt listed k=0:=by
    intro k
    induction k with
    |zero=>intro _;rfl
    |succ k ihk=>
     intro hk;simp only [cnt];rw [ihk (by omega)]
     cases hkv:listed.getD k false with
     |true=>simp
     |false=>exact absurd ⟨k,by omega,hkv⟩ hno
   have:=this m (Nat.le_refl _);omega
  have tu:∀n j,j<n→j<m→listed.getD j false=false→Region.ready .any ops listed≠ []:=by
   intro n
   induction n with
   |zero=>intro j h;omega
   |succ n ihn=>
    intro j hj hjm hf;obtain ⟨o,ho,he,_⟩:=o3 j hjm;by_cases ZV:∀e∈o.after,Region.binds .any e=true→listed.getD e.on false=true
    ·intro hnil;have:j∈Region.ready .any ops listed:=mem_ready.2 ⟨getD_in (by rw [inv.size];omega) hf,o,ho,ZV⟩;rw [hnil] at this
     cases this
    ·have:∃e∈o.after,Region.binds .any e=true∧listed.getD e.on false=false:=by
      apply Classical.byContradiction;intro hno;apply ZV;intro e he1 he2
      cases hv:listed.getD e.on false with
      |true=>rfl
      |false=>exact absurd ⟨e,he1,he2,hv⟩ hno
     obtain ⟨e,he1,he2,mN⟩:=this;have:=he e he1 he2;exact ihn e.on (by omega) (by omega) mN
  obtain ⟨j0,hj0,hf0⟩:=hun;refine ⟨fun hnil=>absurd hnil (tu (j0+1) j0 (by omega) hj0 hf0),fun i hi=>?_⟩;obtain ⟨t9,oi,hoi,hall⟩:=mem_ready.1 hi;have hin:i<ops.size:=(Array.getElem?_eq_some_iff.1 hoi).1
  have him:i<m:=by
   rcases Nat.lt_or_ge i m with h|h
   ·exact h
   ·rcases hsc with h1|⟨h1,h2⟩
    ·omega
    ·exact absurd hi (tail_waits h1 h2 (by omega) inv _ j0 rfl hj0 (getD_in (by rw [inv.size];omega) hf0) i h)
  have hif:listed.getD i false=false:=getD_both t9;obtain ⟨o',ho',_,tO⟩:=o3 i him;rw [hoi] at ho'
  cases ho'
  have hsame:∀t,t∈oi.looksAt ops→d6 ops m listed env t=env t:=by
   intro t ht;simp only [d6];rw [if_neg];rintro ⟨j,oj,h1,h2,h3,h4⟩;obtain ⟨e,he1,he2,mN⟩:=tO t ht j oj h1 h2 h3;have:=hall e he1 he2;rw [mN,h4] at this
   cases this
  have hstill:=GR _ hst i oi (by rw [List.getElem?_take,if_pos him];simpa using hoi)
  have hcnt:cnt (listed.setIfInBounds i true) m=u:=by
   have:=AU (listed:=listed) (by rw [inv.size];exact hin) hif m;rw [if_pos him] at this;omega
  have hnext:∀(d:Nat) (s:St),oi.dst=some d→s.ob=ob→(∀t,t≠d→s.env t=d6 ops m listed env t)→(env d=.any∨s.env d=env d)→Le s ⟨d6 ops m (listed.setIfInBounds i true) env,ob⟩:=by
   intro d s hdd h1 h2 h3;refine ⟨fun t=>?_,fun id=>.inl (by rw [h1])⟩;simp only [d6];by_cases hex:∃j o,j<m∧ops[j]? =some o∧o.dst=some t∧(listed.setIfInBounds i true).getD j false=false
   ·rw [if_pos hex];exact .inl rfl
   ·rw [if_neg hex];by_cases htd:t=d
    ·subst htd;rcases h3 with h3|h3
     ·exact .inl h3
     ·exact .inr h3.symm
    ·refine .inr ?_;rw [h2 t htd];simp only [d6];rw [if_neg];rintro ⟨j,o,k1,k2,k3,k4⟩;refine hex ⟨j,o,k1,k2,k3,?_⟩
     have hij:i≠j:=fun e=>by
      subst e;rw [hoi] at k2
      cases k2
      rw [hdd] at k3
      cases k3
      exact htd rfl
     rw [getD_set_ne false hij];exact k4
  have hgo:∀(d:Nat),oi.dst=some d→iB P E ops env ob oi→oi.wp P a w (wpAny P .any ops Q (u+(ops.size-m)) (listed.setIfInBounds i true)) Q:=by
   rintro d hdd ⟨d',hd',_,hop⟩;rw [hdd] at hd'
   cases hd'
   refine Oper.wp_mono ?_ (hop ⟨d6 ops m listed env,ob⟩ rfl (fun t ht=>hsame t (List.elem_iff.1 ht)) a w Q hs);rintro a' w' ⟨s,h1,rfl⟩;refine ih _ a' w' (inv.set hi him) hcnt (h1.le (hnext d _ hdd rfl (fun t ht=>upd_ne _ _ ht) (.inr (upd_same _ _ _))))
  unfold wpOp;simp only [hoi];unfold Still at hstill
  cases hg:oi.guard with
  |none=>
   rw [hg] at hstill;obtain ⟨d,hd,h1,h2⟩:=hstill;have hw:Region.wanted oi (yielded ops a.tmps)=true:=by simp [Region.wanted,hg]
   rw [if_pos hw];exact .inl (hgo d hd ⟨d,hd,h1,h2⟩)
  |some ny=>
   obtain ⟨j,want⟩:=ny;rw [hg] at hstill;obtain ⟨t,uv,hj,ht,he,hyes,hno⟩:=hstill
   have htl:t∈oi.looksAt ops:=by
    unfold Oper.looksAt;rw [hg];simp [hj]
   obtain ⟨C,hs'⟩:=hs;have hy:=sT hs' hj ht (by show d6 ops m listed env t=_;rw [hsame t htl];exact he);by_cases hb:yv uv=some want
   ·have hw:Region.wanted oi (yielded ops a.tmps)=true:=by simp [Region.wanted,hg,hy,hb]
    rw [if_pos hw];obtain ⟨d,hd,h1,h2⟩:=hyes hb;exact .inl (hgo d hd ⟨d,hd,h1,h2⟩)
   ·have hw:Region.wanted oi (yielded ops a.tmps)=false:=by simp [Region.wanted,hg,hy,hb]
    rw [if_neg (by simp [hw])];obtain ⟨d,hd,hdN,hany⟩:=hno hb
    have hs2:ey E ⟨upd (d6 ops m listed env) d (.v undef),ob⟩ (a.put oi.dst undef) w:=by
     have:=hs'.set oi.dst (fun d' hd'=>by rw [hd] at hd';cases hd';exact hdN) (.v undef) undef (fun _=>.v _);rw [hd] at this ⊢;exact ⟨C,this⟩
    exact ih _ _ w (inv.set hi him) hcnt (hs2.le (hnext d _ hd rfl (fun t ht=>upd_ne _ _ ht) (hany.imp id (fun h=>by rw [h];exact upd_same _ _ _))))
theorem QP {id m:Nat} {st:St} {Q:Exit→St→Prop} (vs:List (Nat×AV)) (hm:P.follows .mixedOrders=true) (hB:pY ops m (vs.map (·.1))=true)
  (hst:tq P E ops (kW vs st.env) st.ob (ops.toList.take m)) (htail:db P E ops (ops.toList.drop m) ⟨kW vs st.env,st.ob⟩ (fun s=>Q .normal s)):c6 P E (.region id ops true) st Q:=by
 intro a w hs;simp only [pY,Bool.and_eq_true,Bool.or_eq_true,beq_iff_eq,decide_eq_true_eq] at hB;obtain ⟨⟨⟨⟨h1,h2⟩,h3⟩,h4⟩,h5⟩:=hB;refine wp_region_any hm ?_
 have inv:HeadInv .any ops m (Array.replicate ops.size false):=
  ⟨by simp,fun j oj _ hl=>(by rw [getD_replicate_false] at hl;cases hl),fun t _ ht=>getD_in (by simpa using ht) (getD_replicate_false _ _)⟩
 have hcnt:∀k,cnt (Array.replicate ops.size false) k=k:=by
  intro k
  induction k with
  |zero=>rfl
  |succ k ih=>simp only [cnt];rw [ih,getD_replicate_false];simp
 have hs1:ey E st a { w with drawn:=w.drawn+1 }:=by
  obtain ⟨C,hs⟩:=hs;have hext:Ext w C { w with drawn:=w.drawn+1 } C:=⟨fun _ h=>⟨h,rfl,rfl,rfl⟩,fun _ _ h=>h,fun _ _ _=>rfl⟩
  have:=hs.put hext st.ob ⟨hs.obj.nil,fun id o b h1 h2=>?_,hs.obj.inj,hs.obj.dom,hs.obj.bnd⟩ ⟨hs.fr.os,hs.fr.tape,hs.fr.output,hs.fr.size,hs.fr.block⟩ hs.fresh hs.keep hs.fO none (fun d h=>by cases h) .any undef (fun h=>absurd rfl h)
  ·exact ⟨C,this⟩
  ·obtain ⟨k1,cur,k2,k3,k4,k5⟩:=hs.obj.live id o b h1 h2;refine ⟨k1,cur,k2,k3,k4,fun j av hj=>?_⟩;obtain ⟨u,hu,k6,k7⟩:=k5 j av hj;exact ⟨u,hu,k6,k7.ext hext⟩
 have hs2:ey E ⟨d6 ops m (Array.replicate ops.size false) (kW vs st.env),st.ob⟩ a { w with drawn:=w.drawn+1 }:=by
  refine hs1.le ⟨fun t=>?_,fun id=>.inl rfl⟩;simp only [d6];by_cases hex:∃j o,j<m∧ops[j]? =some o∧o.dst=some t∧(Array.replicate ops.size false).getD j false=false
  ·rw [if_pos hex];exact .inl rfl
  ·rw [if_neg hex];refine .inr (AS fun hmem=>?_);have:=List.all_eq_true.1 h2 t hmem;obtain ⟨o,ho,hd⟩:=List.any_eq_true.1 this;simp only [beq_iff_eq] at hd;obtain ⟨j,hj⟩:=List.mem_iff_getElem?.1 ho;rw [List.getElem?_take] at hj
   split at hj
   ·rename_i hjm;exact hex ⟨j,o,hjm,by simpa using hj,hd,getD_replicate_false _ _⟩
   ·cases hj
 have:=OG (P:=P) (Q:=fun e a' w'=>∃st',ey E st' a' w'∧Q e st') (K:=fun s=>Q .normal s) (fun st' a' w' k1 k2=>⟨st',k1,k2⟩) h1 h3 h4 h5 hst htail m _ a _ inv (hcnt m) hs2
 rwa [show m+(ops.size-m)=ops.size by omega] at this
end
end Go.Lo
