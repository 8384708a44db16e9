/- Walks of Go functions in the logic of values: what the law reaches. -/
import Derived.Test.YtdeajfldegcdaaaGreatPFnPl4

set_option linter.unusedVariables false
set_option linter.unusedSimpArgs false
set_option maxRecDepth 10000
set_option maxHeartbeats 16000000
namespace Go.Lo
open Go.Proofs
abbrev yf (ls:List Lk):ay:=⟨(enc b5 (br ls.length)),91,1⟩
abbrev L1 (d:List ax) (f:List (List Int)) (e:List aH) (c:List (List Int)) (cn:Int) (ls:List Lk):ay:=⟨[.one,.q aI d,.q YO f,.q aE e,.q YO c,.one,.one,.one,.v (.int .i64 cn),.one,.rp [.one,.q aI d,.q YO f,.q aE e,.one,.one,.one,.one,.one,.one],.sl 1 0 ls.length],73,1⟩
abbrev Xx (d:List ax) (f:List (List Int)) (e:List aH):List AV:=[.one,.q aI d,.q YO f,.q aE e,.one,.one,.one,.one,.one,.one]
abbrev yg (r tr:Int) (g:List Bool):Nat→AV:=(upd (upd (upd (upd (upd (upd (upd (upd none_ 1 (.i r)) 2 (.i tr)) 5 (.q eB g)) 6 (.pt 61 0)) 9 (.pt 62 0)) 10 (.pt 63 0)) 12 vN) 13 (.i 0))
abbrev L2 (d:List ax) (f:List (List Int)) (e:List aH) (c:List (List Int)) (cn:Int) (ls:List Lk):ay:=⟨[.one,.q aI d,.q YO f,.q aE e,.q YO c,.one,.one,.one,.i cn,.one,.rp (Xx d f e),.sl 1 0 ls.length],73,1⟩
abbrev yh (ls:List Lk) (d:List ax) (f:List (List Int)) (e:List aH) (c:List (List Int)) (cn:Int) (j:List Int) (k:List View):Nat→aK:=(ah (ah (ah (ah (ah (cA (fam 59 5 ls)) 0 (.live (L2 d f e c cn ls))) 1 (.live (yf ls))) 61 (.live ⟨[.pt 0 0],37,1⟩)) 62 (.live ⟨[.q aC j],40,1⟩)) 63 (.live ⟨[.q eV k],77,1⟩))
theorem RG (d:List ax) (f:List (List Int)) (e:List aH) (c:List (List Int)) (cn:Int) (ls:List Lk) (r tr:Int) (j:List Int) (k:List View) (g:List Bool) (hll:ls.length≤16) (hs:d.length≤65536) (hp:e.length≤65536) (hro:c.length≤65536) (hst:j.length≤65536) (hn:k.length≤65536) (hv:∀v,v∈k→v.span.length≤65536) (hrt:g.length≤65536) (hr:eo c r=true) (hnf:(bL (fun x:Lk=>decide (x.route=r)) ls)<0) (hpl:2≤(c.getD r.toNat []).length∧(c.getD r.toNat []).length≤9) (hin:∀s,s∈bu c r→0≤s) (hlk:∀x,x∈ls→gn c x) (hfr:(bu c r).any (fM c ls j)=true):fi Tryz.prog 16 (fN (L1 d f e c cn ls) (yf ls) (fam 59 5 ls)) [.pt 0 0,.v (.int .i64 r),.v (.int .i64 tr),.q aC j,.q eV k,.q eB g] (.bw [.q eB g,.v (.int .i64 9)]) (fp (.live (L1 d f e c cn ls)) (.live (yf ls)) (fam 59 5 ls) []):=by
 have hrr:0≤r∧r<(c.length:Int):=by unfold eo at hr;rw [Bool.and_eq_true] at hr;exact ⟨of_decide_eq_true hr.1,of_decide_eq_true hr.2⟩
 have hpq:=mT (routes:=c) (r:=r);refine jx (N:=90) Tryz.func16 rfl rfl (iY rfl) (by simp) (fun w0 G C bJ gX=>?_);refine aj (oG (qW 61 ?_));refine oG (qW 62 ?_);refine oG (qW 63 ?_);refine mV ?_;refine mV ?_;refine rU (yg r tr g) (yh ls d f e c cn j k) ?_;refine aj (mO ?_);refine oG (qJ (rM g oo) qf ?_);refine mO ?_;refine ak (aB (bf (aj (oG (qL (.pt 0 0) e7 ?_)))));refine mV ?_;refine oG (eA (nO c r oo) rfl rfl rfl rfl rfl nV lT ?_);refine oG (er rfl rfl rfl rfl ?_);refine mV ?_;refine rU (upd (upd (yg r tr g) 14 (.q eB g)) 22 (.b (!(eo c r)))) (yh ls d f e c cn j k) ?_;refine cD (fun hc0=>?_) fun hc0=>?_
 ·skip;have hf1:=gF hc0;exfalso;rw [hr] at hc0;cases hc0
 have hf2:=gG hc0;refine aj (oG (qL (.pt 0 0) e7 ?_));refine mV ?_;refine oG (nE (vK d f e c cn ls r hll hnf) rfl rfl rfl rfl rfl qh rfl rfl (by repeat (first|exact fb|apply fo rfl)) rfl (by exact bF) (jT (fun k_ h_=>by have:=dI h_;omega)) (dv om) bF (nP (a:=.v (.pointer none))) ?_);refine oG (sR rfl rfl rfl qi rfl rfl (.inr ⟨rfl,rfl⟩) ?_);refine mV ?_;refine rU (upd (upd (yg r tr g) 14 (.q eB g)) 28 (.b false)) (yh ls d f e c cn j k) ?_;refine eh false rfl rfl (fun h=>by cases h) (fun _=>?_);refine aj (oG (qL (.pt 0 0) e7 ?_));refine mV ?_;refine oO dX ?_;refine oG (eA (wa c ls r j hro om hlk hst hrr om om hin) rfl rfl rfl rfl rfl w7 (bb (jf rfl (bb (cj (av:=.one)) (bb (.one _ rfl) (bb (.one _ rfl) (bb (.one _ rfl) (bb (cj (av:=.q YO c)) (bb (cj (av:=.one)) (bb (cj (av:=.one)) (bb (cj (av:=.one)) (bb (.one _ rfl) (bb (cj (av:=.one)) (bb (.one _ rfl) (bb (kA om (by repeat (first|exact fb|apply fo rfl)) rfl) fe))))))))))))) lS) ?_);refine oG (er rfl rfl rfl rfl ?_);refine mV ?_;refine rU (upd (upd (yg r tr g) 14 (.q eB g)) 34 (.b (!(!((bu c r).any (fM c ls j)))))) (yh ls d f e c cn j k) ?_;refine cD (fun hc2=>?_) fun hc2=>?_
 ·skip;have hf3:=gF hc2;refine aj (mO ?_);refine mO ?_;refine mV ?_;refine ak (cy ⟨(upd (upd none_ 12 (.q eB g)) 13 (.i 9)),(ah (ah (cA (fam 59 5 ls)) 0 (.live (L2 d f e c cn ls))) 1 (.live (yf ls)))⟩ ?_ ?_)
  ·skip;exact iF [(0,0),(1,1)] [((0,0),.live _),((1,1),.live _)] (by repeat (first|exact fb|apply fo rfl)) (dv om) ⟨b8 rfl ca bF,eS rfl (by decide) rfl rfl (fun k_ h_=>by have:=dI h_;omega),trivial⟩ (.inr ⟨rfl,by simp,by simp⟩)
  exact aV (i6 rfl rfl rfl)
 have eb:=gG hc2;exfalso;rw [hfr] at hc2;cases hc2
abbrev sf (c:List ax) (e:List aH) (d:List (List Int)) (ls:List Lk):ay:=⟨(enc eB (eE c e d ls)),4,1⟩
abbrev yi (ls:List Lk):ay:=⟨(enc b5 (br ls.length)),91,1⟩
abbrev sg (d:List (List Int)) (ls:List Lk) (c:List ax):ay:=⟨(enc eB (c_ d ls c.length c.length)),4,1⟩
abbrev L3 (c:List ax) (f:List (List Int)) (e:List aH) (d:List (List Int)) (cn:Int) (ls:List Lk):ay:=⟨[.one,.q aI c,.q YO f,.q aE e,.q YO d,.one,.one,.one,.v (.int .i64 cn),.one,.rp [.one,.q aI c,.q YO f,.q aE e,.one,.one,.one,.one,.one,.one],.sl 1 0 ls.length],73,1⟩
abbrev L4 (c:List ax) (f:List (List Int)) (e:List aH):List AV:=[.one,.q aI c,.q YO f,.q aE e,.one,.one,.one,.one,.one,.one]
abbrev uF (r tr:Int) (g:List Bool):Nat→AV:=(upd (upd (upd (upd (upd (upd (upd (upd none_ 1 (.i r)) 2 (.i tr)) 5 (.q eB g)) 6 (.pt 61 0)) 9 (.pt 62 0)) 10 (.pt 63 0)) 12 vN) 13 (.i 0))
abbrev L5 (c:List ax) (f:List (List Int)) (e:List aH) (d:List (List Int)) (cn:Int) (ls:List Lk):ay:=⟨[.one,.q aI c,.q YO f,.q aE e,.q YO d,.one,.one,.one,.i cn,.one,.rp (L4 c f e),.sl 1 0 ls.length],73,1⟩
abbrev l6 (ls:List Lk) (c:List ax) (f:List (List Int)) (e:List aH) (d:List (List Int)) (cn:Int) (l:List Int) (p:List View):Nat→aK:=(ah (ah (ah (ah (ah (cA (fam 59 5 ls)) 0 (.live (L5 c f e d cn ls))) 1 (.live (yi ls))) 61 (.live ⟨[.pt 0 0],37,1⟩)) 62 (.live ⟨[.q aC l],40,1⟩)) 63 (.live ⟨[.q eV p],77,1⟩))
theorem RH (c:List ax) (f:List (List Int)) (e:List aH) (d:List (List Int)) (cn:Int) (ls:List Lk) (r tr:Int) (l:List Int) (p:List View) (g:List Bool) (hll:ls.length≤16) (hs:c.length≤65536) (hp:e.length≤65536) (t:d.length≤65536) (w:l.length≤65536) (hn:p.length≤65536) (hv:∀v,v∈p→v.span.length≤65536) (hrt:g.length≤65536) (hr:eo d r=true) (hnf:(bL (fun x:Lk=>decide (x.route=r)) ls)<0) (hpl:2≤(d.getD r.toNat []).length∧(d.getD r.toNat []).length≤9) (hin:∀s,s∈bu d r→0≤s) (u:∀x,x∈ls→gn d x) (hfr:(bu d r).any (fM d ls l)=false) (hmv:(b6 (bz c e (d.getD r.toNat [])) g).any (g7 e l p (c_ d ls c.length c.length) (eE c e d ls))=true):fi Tryz.prog 16 (fN (L3 c f e d cn ls) (yi ls) (fam 59 5 ls)) [.pt 0 0,.v (.int .i64 r),.v (.int .i64 tr),.q aC l,.q eV p,.q eB g] (.bw [.q eB g,.v (.int .i64 9)]) (fp (.live (L3 c f e d cn ls)) (.live (yi ls)) (fam 59 5 ls) []):=by
 have hrr:0≤r∧r<(d.length:Int):=by unfold eo at hr;rw [Bool.and_eq_true] at hr;exact ⟨of_decide_eq_true hr.1,of_decide_eq_true hr.2⟩
 have hpq:=mT (routes:=d) (r:=r);have qj:=mg (n:=ls.length);have hsl:=rm (routes:=d) (ls:=ls) (k:=c.length) (n:=c.length) om;have L6:=zU (secs:=c) (pts:=e) (routes:=d) (ls:=ls);have hpa:=nF (secs:=c) (pts:=e) (path:=(d.getD r.toNat []));have hml:=re (bz c e (d.getD r.toNat [])) g;refine jx (N:=90) Tryz.func16 rfl rfl (iY rfl) (by simp) (fun w0 G C bJ gX=>?_);refine aj (oG (qW 61 ?_));refine oG (qW 62 ?_);refine oG (qW 63 ?_);refine mV ?_;refine mV ?_;refine rU (uF r tr g) (l6 ls c f e d cn l p) ?_;refine aj (mO ?_);refine oG (qJ (rM g oo) qf ?_);refine mO ?_;refine ak (aB (bf (aj (oG (qL (.pt 0 0) e7 ?_)))));refine mV ?_;refine oG (eA (nO d r oo) rfl rfl rfl rfl rfl nV lT ?_);refine oG (er rfl rfl rfl rfl ?_);refine mV ?_;refine rU (upd (upd (uF r tr g) 14 (.q eB g)) 22 (.b (!(eo d r)))) (l6 ls c f e d cn l p) ?_;refine cD (fun hc0=>?_) fun hc0=>?_
 ·skip;have hf1:=gF hc0;exfalso;rw [hr] at hc0;cases hc0
 have hf2:=gG hc0;refine aj (oG (qL (.pt 0 0) e7 ?_));refine mV ?_;refine oG (nE (vK c f e d cn ls r hll hnf) rfl rfl rfl rfl rfl qh rfl rfl (by repeat (first|exact fb|apply fo rfl)) rfl (by exact bF) (jT (fun k_ h_=>by have:=dI h_;omega)) (dv om) bF (nP (a:=.v (.pointer none))) ?_);refine oG (sR rfl rfl rfl qi rfl rfl (.inr ⟨rfl,rfl⟩) ?_);refine mV ?_;refine rU (upd (upd (uF r tr g) 14 (.q eB g)) 28 (.b false)) (l6 ls c f e d cn l p) ?_;refine eh false rfl rfl (fun h=>by cases h) (fun _=>?_);refine aj (oG (qL (.pt 0 0) e7 ?_));refine mV ?_;refine oO dX ?_;refine oG (eA (wa d ls r l t om u w hrr om om hin) rfl rfl rfl rfl rfl w7 (bb (jf rfl (bb (cj (av:=.one)) (bb (.one _ rfl) (bb (.one _ rfl) (bb (.one _ rfl) (bb (cj (av:=.q YO d)) (bb (cj (av:=.one)) (bb (cj (av:=.one)) (bb (cj (av:=.one)) (bb (.one _ rfl) (bb (cj (av:=.one)) (bb (.one _ rfl) (bb (kA om (by repeat (first|exact fb|apply fo rfl)) rfl) fe))))))))))))) lS) ?_);refine oG (er rfl rfl rfl rfl ?_);refine mV ?_;refine rU (upd (upd (uF r tr g) 14 (.q eB g)) 34 (.b (!(!((bu d r).any (fM d ls l)))))) (l6 ls c f e d cn l p) ?_;refine cD (fun hc2=>?_) fun hc2=>?_
 ·skip;have hf3:=gF hc2;exfalso;rw [hfr] at hc2;cases hc2
 have eb:=gG hc2;refine aR (aB (aD 17 [(15,.q eN (bz c e (d.getD r.toNat []))),(56,.b (gC c e (d.getD r.toNat []))),(55,.q eN (bz c e (d.getD r.toNat []))),(41,.bw [.q eN (bz c e (d.getD r.toNat [])),.b (gC c e (d.getD r.toNat []))]),(54,.bw [.q eN (bz c e (d.getD r.toNat [])),.b (gC c e (d.getD r.toNat []))]),(53,.q eI (d.getD r.toNat [])),(52,.rp (([.q eI (d.getD r.toNat [])]:List AV)++((enc YO d).drop ((r.toNat+1)*1)))),(51,.i r),(50,.q YO d),(49,.pt 0 4),(48,.pt 0 0),(47,.pt 0 0),(46,.pt 0 0),(45,.rp (L4 c f e)),(44,.pt 0 10),(43,.pt 0 0),(42,.pt 0 0)] mixed ?_ ?_))
 ·iterate 17 (refine ⟨?_,?_⟩;rotate_left)
  trivial
  ·exact sL e7
  ·exact g6
  ·exact sF (.pt 0 0) (.pt 0 10) rH YT
  ·exact sL aag
  ·exact sL e7
  ·exact g6
  ·exact sF (.pt 0 0) (.pt 0 0) kE cC
  ·exact sF (.pt 0 0) (.pt 0 4) ib eG
  ·exact sL fQ
  ·exact aM
  ·exact dW 52 fun st ap hE=>YZ [] rfl rfl rfl e4 i9 (hE 50 rfl) (hE 51 rfl) (fun _=>rfl) rfl om oo (by rw [ap];rfl)
  ·exact (cN jE)
  ·exact sC (tf c e (d.getD r.toNat []) hs hp om) t0
  ·exact aM
  ·exact fL
  ·exact fL
  exact aM
 refine mV ?_;refine ak (aj (mO ?_));refine mO ?_;refine oG (qJ (Af (bz c e (d.getD r.toNat [])) g om om) Cj ?_);refine mO ?_;refine rU (upd (upd (uF r tr g) 14 (.q eB g)) 17 (.q eN (b6 (bz c e (d.getD r.toNat [])) g))) (l6 ls c f e d cn l p) ?_;refine aB (lb (m:=6) (fun b=>(ah (ah (ah (ah (l6 ls c f e d cn l p) 64 (cond (b 1) (.live (sg d ls c)) .free)) 65 (cond (b 3) (.live (sf c e d ls)) .free)) 66 (cond (b 4) (.live ⟨[vN],41,1⟩) .free)) 67 (cond (b 5) (.live ⟨[vN],41,1⟩) .free))) (ah (ah (ah (ah (l6 ls c f e d cn l p) 64 (.live (sg d ls c))) 65 (.live (sf c e d ls))) 66 (.live ⟨[vN],41,1⟩)) 67 (.live ⟨[vN],41,1⟩)) [1,3,4,5] (funext fun bk=>by by_cases bK:bk=64<;>by_cases bT:bk=65<;>by_cases cK:bk=66<;>by_cases cL:bk=67<;>first|(subst bK;rfl)|(subst bT;rfl)|(subst cK;rfl)|(subst cL;rfl)|simp only [dK,ah,bD bK,bD bT,bD cK,bD cL,cond_false]) (fun b b' h=>by simp only [h 1 (by decide),h 3 (by decide),h 4 (by decide),h 5 (by decide)]) (fun b h=>by simp only [h 1 (by decide),h 3 (by decide),h 4 (by decide),h 5 (by decide),cond_true]) [(19,.pt 67 0),(18,.pt 66 0),(63,.sl 65 0 ((eE c e d ls).length)),(62,.pt 0 0),(61,.sl 64 0 ((c_ d ls c.length c.length).length)),(60,.pt 0 0)] mixed (by kernel_rfl) ?_ ?_)
 ·refine ⟨?_,?_,?_,?_,?_,?_,trivial⟩
  ·exact sU (fun b=>sL e7)
  ·exact fx (by decide) ⟨rfl,(fun f_ h_=>by cases h_<;>exact bX rfl),fun b c5 eT fh st ap hE=>by obtain ⟨cm,dj⟩:=st;have di:dj=(ah (ah (ah (ah (l6 ls c f e d cn l p) 64 .free) 65 (cond (b 3) (.live (sf c e d ls)) .free)) 66 (cond (b 4) (.live ⟨[vN],41,1⟩) .free)) 67 (cond (b 5) (.live ⟨[vN],41,1⟩) .free)):=Eq.trans ap (by simp only [c5,cond_false,cond_true]);subst di;exact jS 64 (A2 c d ls hs t om u) rfl rfl rfl rfl rfl w6 (by show ew _ ([cm 60]++_) _;rw [show cm 60=_ from hE 60 rfl];exact (bb (jf rfl (bb (cj (av:=.one)) (bb (cj (av:=.q aI c)) (bb (.one _ rfl) (bb (.one _ rfl) (bb (cj (av:=.q YO d)) (bb (cj (av:=.one)) (bb (cj (av:=.one)) (bb (cj (av:=.one)) (bb (.one _ rfl) (bb (cj (av:=.one)) (bb (.one _ rfl) (bb (kA om (by repeat (first|exact fb|apply fo rfl)) rfl) fe))))))))))))) fe)) (.sl _ _ _ trivial) (jV jW) (iP rfl) rfl rfl ⟨rfl,fun bk=>by by_cases bK:bk=64<;>by_cases bT:bk=65<;>by_cases cK:bk=66<;>by_cases cL:bk=67<;>first|(subst bK;rfl)|(subst bT;rfl)|(subst cK;rfl)|(subst cL;rfl)|simp only [dK,ah,bD bK,bD bT,bD cK,bD cL,cond_false]⟩⟩
  ·exact sU (fun b=>sL e7)
  ·exact fx (by decide) ⟨rfl,(fun f_ h_=>by cases h_<;>exact bX rfl),fun b c5 eT fh st ap hE=>by have jG:=nJ (j:=1) (by kernel_rfl) eT;obtain ⟨cm,dj⟩:=st;have di:dj=(ah (ah (ah (ah (l6 ls c f e d cn l p) 64 (.live (sg d ls c))) 65 .free) 66 (cond (b 4) (.live ⟨[vN],41,1⟩) .free)) 67 (cond (b 5) (.live ⟨[vN],41,1⟩) .free)):=Eq.trans ap (by simp only [c5,jG,cond_false,cond_true]);subst di;exact jS 65 (AA c e d ls hs hp t om u) rfl rfl rfl rfl rfl w5 (by show ew _ ([cm 62]++_) _;rw [show cm 62=_ from hE 62 rfl];exact (bb (jf rfl (bb (cj (av:=.one)) (bb (.one _ rfl) (bb (.one _ rfl) (bb (cj (av:=.q aE e)) (bb (cj (av:=.q YO d)) (bb (cj (av:=.one)) (bb (cj (av:=.one)) (bb (cj (av:=.one)) (bb (.one _ rfl) (bb (cj (av:=.one)) (bb (ZT lS) (bb (kA om (by repeat (first|exact fb|apply fo rfl)) rfl) fe))))))))))))) fe)) (.sl _ _ _ trivial) (jV jW) (iP rfl) rfl rfl ⟨rfl,fun bk=>by by_cases bK:bk=64<;>by_cases bT:bk=65<;>by_cases cK:bk=66<;>by_cases cL:bk=67<;>first|(subst bK;first|rfl|(simp only [jG];rfl))|(subst bT;first|rfl|(simp only [jG];rfl))|(subst cK;first|rfl|(simp only [jG];rfl))|(subst cL;first|rfl|(simp only [jG];rfl))|simp only [dK,ah,bD bK,bD bT,bD cK,bD cL,cond_false]⟩⟩
  ·exact fx (by decide) ⟨rfl,(fun f_ h_=>by cases h_<;>exact bX rfl),fun b c5 eT fh st ap hE=>by obtain ⟨cm,dj⟩:=st;have di:dj=(ah (ah (ah (ah (l6 ls c f e d cn l p) 64 (cond (b 1) (.live (sg d ls c)) .free)) 65 (cond (b 3) (.live (sf c e d ls)) .free)) 66 .free) 67 (cond (b 5) (.live ⟨[vN],41,1⟩) .free)):=Eq.trans ap (by simp only [c5,cond_false,cond_true]);subst di;exact fW 66 rfl rfl rfl rfl rW rfl ⟨rfl,fun bk=>by by_cases bK:bk=64<;>by_cases bT:bk=65<;>by_cases cK:bk=66<;>by_cases cL:bk=67<;>first|(subst bK;rfl)|(subst bT;rfl)|(subst cK;rfl)|(subst cL;rfl)|simp only [dK,ah,bD bK,bD bT,bD cK,bD cL,cond_false]⟩⟩
  exact fx (by decide) ⟨rfl,(fun f_ h_=>by cases h_<;>exact bX rfl),fun b c5 eT fh st ap hE=>by obtain ⟨cm,dj⟩:=st;have di:dj=(ah (ah (ah (ah (l6 ls c f e d cn l p) 64 (cond (b 1) (.live (sg d ls c)) .free)) 65 (cond (b 3) (.live (sf c e d ls)) .free)) 66 (cond (b 4) (.live ⟨[vN],41,1⟩) .free)) 67 .free):=Eq.trans ap (by simp only [c5,cond_false,cond_true]);subst di;exact fW 67 rfl rfl rfl rfl rW rfl ⟨rfl,fun bk=>by by_cases bK:bk=64<;>by_cases bT:bk=65<;>by_cases cK:bk=66<;>by_cases cL:bk=67<;>first|(subst bK;rfl)|(subst bT;rfl)|(subst cK;rfl)|(subst cL;rfl)|simp only [dK,ah,bD bK,bD bT,bD cK,bD cL,cond_false]⟩⟩
 refine oG (qS m_ ?_);refine oG (qS m_ ?_);refine ak (aB (aj (mO ?_)));refine oG (k9 (caps:=[.tmp 6,.tmp 9,.tmp 10,.tmp 18,.tmp 19]) rfl rfl rfl rfl ?_);refine oG (eA (DY (b6 (bz c e (d.getD r.toNat [])) g) e l p (c_ d ls c.length c.length) (eE c e d ls) om hp w hn om om hv) rfl rfl rfl rfl rfl Ck (bb (cj (av:=.q eN (b6 (bz c e (d.getD r.toNat [])) g))) (bb (lf lT) fe)) ?_);refine rU (upd (upd (upd (upd (upd (upd (upd (upd (upd none_ 1 (.i r)) 2 (.i tr)) 5 (.q eB g)) 6 (.pt 61 0)) 12 vN) 13 (.i 0)) 14 (.q eB g)) 17 (.q eN (b6 (bz c e (d.getD r.toNat [])) g))) 66 (.b ((b6 (bz c e (d.getD r.toNat [])) g).any (g7 e l p (c_ d ls c.length c.length) (eE c e d ls))))) (ah (ah (ah (ah (ah (ah (l6 ls c f e d cn l p) 64 (.live (sg d ls c))) 65 (.live (sf c e d ls))) 66 (.live ⟨[vN],41,1⟩)) 67 (.live ⟨[vN],41,1⟩)) 66 (.live ⟨[.sl 64 0 ((c_ d ls c.length c.length).length)],41,1⟩)) 67 (.live ⟨[.sl 65 0 ((eE c e d ls).length)],41,1⟩)) ?_;refine cD (fun hc3=>?_) fun hc3=>?_
 ·skip;refine aj (mO ?_);refine mO ?_;refine mV ?_;refine ak (cy ⟨(upd (upd none_ 12 (.q eB g)) 13 (.i 9)),(ah (ah (cA (fam 59 5 ls)) 0 (.live (L5 c f e d cn ls))) 1 (.live (yi ls)))⟩ ?_ ?_)
  ·skip;exact iF [(0,0),(1,1)] [((0,0),.live _),((1,1),.live _)] (by repeat (first|exact fb|apply fo rfl)) (dv om) ⟨b8 rfl ca bF,eS rfl (by decide) rfl rfl (fun k_ h_=>by have:=dI h_;omega),trivial⟩ (.inr ⟨rfl,by simp,by simp⟩)
  exact aV (i6 rfl rfl rfl)
 exfalso;rw [hmv] at hc3;cases hc3
abbrev L8 (c:List ax) (e:List aH) (d:List (List Int)) (r:Int) (l:List Bool):AV:=(.q eN (b6 (bz c e (d.getD r.toNat [])) l))
abbrev L9 (c:List ax) (g:List (List Int)) (e:List aH):List AV:=[.one,.q aI c,.q YO g,.q aE e,.one,.one,.one,.one,.one,.one]
abbrev qG (c:List ax) (e:List aH) (d:List (List Int)) (ls:List Lk):ay:=⟨(enc eB (eE c e d ls)),4,1⟩
abbrev qH (ls:List Lk):ay:=⟨(enc b5 (br ls.length)),91,1⟩
abbrev qI (d:List (List Int)) (ls:List Lk) (c:List ax):ay:=⟨(enc eB (c_ d ls c.length c.length)),4,1⟩
abbrev sh (d:List (List Int)) (r:Int):ay:=⟨(enc aC (List.replicate ((bu d r).length) 1)),5,1⟩
abbrev Z_ (ls:List Lk):ay:=⟨((enc b5 (br ls.length))++[.pt 69 0]),91,1⟩
abbrev qK (r tr:Int) (d:List (List Int)):ay:=⟨[.i r,.i tr,.i (-1),.sl 68 0 ((bu d r).length)],59,1⟩
abbrev uG (r tr:Int) (l:List Bool):Nat→AV:=(upd (upd (upd (upd (upd (upd (upd (upd none_ 1 (.i r)) 2 (.i tr)) 5 (.q eB l)) 6 (.pt 61 0)) 9 (.pt 62 0)) 10 (.pt 63 0)) 12 vN) 13 (.i 0))
abbrev uH (c:List ax) (g:List (List Int)) (e:List aH):List AV:=[.one,.q aI c,.q YO g,.q aE e,.one,.one,.one,.one,.one,.one]
abbrev aac (ls:List Lk) (c:List ax) (g:List (List Int)) (e:List aH) (d:List (List Int)) (cn:Int) (p:List Int) (t:List View):Nat→aK:=(ah (ah (ah (ah (ah (ah (ah (ah (ah (ah (cA (fam 59 5 ls)) 0 (.live ⟨[.one,.q aI c,.q YO g,.q aE e,.q YO d,.one,.one,.one,.i cn,.one,.rp (uH c g e),.sl 1 0 ls.length],73,1⟩)) 61 (.live ⟨[.pt 0 0],37,1⟩)) 62 (.live ⟨[.q aC p],40,1⟩)) 63 (.live ⟨[.q eV t],77,1⟩)) 64 (.live (qI d ls c))) 65 (.live (qG c e d ls))) 66 (.live ⟨[vN],41,1⟩)) 67 (.live ⟨[vN],41,1⟩)) 66 (.live ⟨[.sl 64 0 ((c_ d ls c.length c.length).length)],41,1⟩)) 67 (.live ⟨[.sl 65 0 ((eE c e d ls).length)],41,1⟩))
abbrev l7 (ls:List Lk) (c:List ax) (g:List (List Int)) (e:List aH) (d:List (List Int)) (cn:Int) (p:List Int) (t:List View):Nat→aK:=(ah (ah (ah (ah (ah (cA (fam 59 5 ls)) 0 (.live ⟨[.one,.q aI c,.q YO g,.q aE e,.q YO d,.one,.one,.one,.i cn,.one,.rp (uH c g e),.sl 1 0 ls.length],73,1⟩)) 1 (.live (qH ls))) 61 (.live ⟨[.pt 0 0],37,1⟩)) 62 (.live ⟨[.q aC p],40,1⟩)) 63 (.live ⟨[.q eV t],77,1⟩))
theorem RI (c:List ax) (g:List (List Int)) (e:List aH) (d:List (List Int)) (cn:Int) (ls:List Lk) (r tr:Int) (p:List Int) (t:List View) (l:List Bool) (y:ls.length≤16) (hs:c.length≤65536) (hp:e.length≤65536) (u:d.length≤65536) (z:p.length≤65536) (hn:t.length≤65536) (hv:∀v,v∈t→v.span.length≤65536) (hrt:l.length≤65536) (hr:eo d r=true) (hnf:(bL (fun x:Lk=>decide (x.route=r)) ls)<0) (hpl:2≤(d.getD r.toNat []).length∧(d.getD r.toNat []).length≤9) (hin:∀s,s∈bu d r→0≤s) (w:∀x,x∈ls→gn d x) (hfr:(bu d r).any (fM d ls p)=false) (hmv:(b6 (bz c e (d.getD r.toNat [])) l).any (g7 e p t (c_ d ls c.length c.length) (eE c e d ls))=false):fi Tryz.prog 16 (fN ⟨[.one,.q aI c,.q YO g,.q aE e,.q YO d,.one,.one,.one,.v (.int .i64 cn),.one,.rp (L9 c g e),.sl 1 0 ls.length],73,1⟩ (qH ls) (fam 59 5 ls)) [.pt 0 0,.v (.int .i64 r),.v (.int .i64 tr),.q aC p,.q eV t,.q eB l] (.bw [.q eB (dh l (b6 (bz c e (d.getD r.toNat [])) l)),.v (.int .i64 0)]) (fp (.live ⟨[.one,.q aI c,.q YO g,.q aE e,.q YO d,.one,.one,.one,.v (.int .i64 cn),.one,.rp (L9 c g e),.sl 56 0 (ls.length+1)],73,1⟩) (.dead) (fam 59 5 ls) [.live ⟨(enc b5 (br ls.length)++[.pt 57 0]),91,1⟩,.live ⟨[.v (.int .i64 r),.v (.int .i64 tr),.v (.int .i64 (-1)),.sl 58 0 ((List.replicate (bu d r).length (1:Int)).length)],59,1⟩,.live ⟨(enc aC (List.replicate (bu d r).length (1:Int))),5,1⟩]):=by
 have hrr:0≤r∧r<(d.length:Int):=by unfold eo at hr;rw [Bool.and_eq_true] at hr;exact ⟨of_decide_eq_true hr.1,of_decide_eq_true hr.2⟩
 have hpq:=mT (routes:=d) (r:=r);have qj:=mg (n:=ls.length);have hsl:=rm (routes:=d) (ls:=ls) (k:=c.length) (n:=c.length) om;have L6:=zU (secs:=c) (pts:=e) (routes:=d) (ls:=ls);have hpa:=nF (secs:=c) (pts:=e) (path:=(d.getD r.toNat []));have hml:=re (bz c e (d.getD r.toNat [])) l;refine jx (N:=90) Tryz.func16 rfl rfl (iY rfl) (by simp) (fun w0 G C bJ gX=>?_);refine aj (oG (qW 61 ?_));refine oG (qW 62 ?_);refine oG (qW 63 ?_);refine mV ?_;refine mV ?_;refine rU (uG r tr l) (l7 ls c g e d cn p t) ?_;refine aj (mO ?_);refine oG (qJ (rM l oo) qf ?_);refine mO ?_;refine ak (aB (bf (aj (oG (qL (.pt 0 0) e7 ?_)))));refine mV ?_;refine oG (eA (nO d r oo) rfl rfl rfl rfl rfl nV lT ?_);refine oG (er rfl rfl rfl rfl ?_);refine mV ?_;refine rU (upd (upd (uG r tr l) 14 (.q eB l)) 22 (.b (!(eo d r)))) (l7 ls c g e d cn p t) ?_;refine cD (fun hc0=>?_) fun hc0=>?_
 ·skip;have hf1:=gF hc0;exfalso;rw [hr] at hc0;cases hc0
 have hf2:=gG hc0;refine aj (oG (qL (.pt 0 0) e7 ?_));refine mV ?_;refine oG (nE (vK c g e d cn ls r y hnf) rfl rfl rfl rfl rfl qh rfl rfl (by repeat (first|exact fb|apply fo rfl)) rfl (by exact bF) (jT (fun k_ h_=>by have:=dI h_;omega)) (dv om) bF (nP (a:=.v (.pointer none))) ?_);refine oG (sR rfl rfl rfl qi rfl rfl (.inr ⟨rfl,rfl⟩) ?_);refine mV ?_;refine rU (upd (upd (uG r tr l) 14 (.q eB l)) 28 (.b false)) (l7 ls c g e d cn p t) ?_;refine eh false rfl rfl (fun h=>by cases h) (fun _=>?_);refine aj (oG (qL (.pt 0 0) e7 ?_));refine mV ?_;refine oO dX ?_;refine oG (eA (wa d ls r p u om w z hrr om om hin) rfl rfl rfl rfl rfl w7 (bb (jf rfl (bb (cj (av:=.one)) (bb (.one _ rfl) (bb (.one _ rfl) (bb (.one _ rfl) (bb (cj (av:=.q YO d)) (bb (cj (av:=.one)) (bb (cj (av:=.one)) (bb (cj (av:=.one)) (bb (.one _ rfl) (bb (cj (av:=.one)) (bb (.one _ rfl) (bb (kA om (by repeat (first|exact fb|apply fo rfl)) rfl) fe))))))))))))) lS) ?_);refine oG (er rfl rfl rfl rfl ?_);refine mV ?_;refine rU (upd (upd (uG r tr l) 14 (.q eB l)) 34 (.b (!(!((bu d r).any (fM d ls p)))))) (l7 ls c g e d cn p t) ?_;refine cD (fun hc2=>?_) fun hc2=>?_
 ·skip;have hf3:=gF hc2;exfalso;rw [hfr] at hc2;cases hc2
 have eb:=gG hc2;refine aR (aB (aD 17 [(15,.q eN (bz c e (d.getD r.toNat []))),(56,.b (gC c e (d.getD r.toNat []))),(55,.q eN (bz c e (d.getD r.toNat []))),(41,.bw [.q eN (bz c e (d.getD r.toNat [])),.b (gC c e (d.getD r.toNat []))]),(54,.bw [.q eN (bz c e (d.getD r.toNat [])),.b (gC c e (d.getD r.toNat []))]),(53,.q eI (d.getD r.toNat [])),(52,.rp (([.q eI (d.getD r.toNat [])]:List AV)++((enc YO d).drop ((r.toNat+1)*1)))),(51,.i r),(50,.q YO d),(49,.pt 0 4),(48,.pt 0 0),(47,.pt 0 0),(46,.pt 0 0),(45,.rp (uH c g e)),(44,.pt 0 10),(43,.pt 0 0),(42,.pt 0 0)] mixed ?_ ?_))
 ·iterate 17 (refine ⟨?_,?_⟩;rotate_left)
  trivial
  ·exact sL e7
  ·exact g6
  ·exact sF (.pt 0 0) (.pt 0 10) rH YT
  ·exact sL aag
  ·exact sL e7
  ·exact g6
  ·exact sF (.pt 0 0) (.pt 0 0) kE cC
  ·exact sF (.pt 0 0) (.pt 0 4) ib eG
  ·exact sL fQ
  ·exact aM
  ·exact dW 52 fun st ap hE=>YZ [] rfl rfl rfl e4 i9 (hE 50 rfl) (hE 51 rfl) (fun _=>rfl) rfl om oo (by rw [ap];rfl)
  ·exact (cN jE)
  ·exact sC (tf c e (d.getD r.toNat []) hs hp om) t0
  ·exact aM
  ·exact fL
  ·exact fL
  exact aM
 refine mV ?_;refine ak (aj (mO ?_));refine mO ?_;refine oG (qJ (Af (bz c e (d.getD r.toNat [])) l om om) Cj ?_);refine mO ?_;refine rU (upd (upd (uG r tr l) 14 (.q eB l)) 17 (L8 c e d r l)) (l7 ls c g e d cn p t) ?_;refine aB (lb (m:=6) (fun b=>(ah (ah (ah (ah (l7 ls c g e d cn p t) 64 (cond (b 1) (.live (qI d ls c)) .free)) 65 (cond (b 3) (.live (qG c e d ls)) .free)) 66 (cond (b 4) (.live ⟨[vN],41,1⟩) .free)) 67 (cond (b 5) (.live ⟨[vN],41,1⟩) .free))) (ah (ah (ah (ah (l7 ls c g e d cn p t) 64 (.live (qI d ls c))) 65 (.live (qG c e d ls))) 66 (.live ⟨[vN],41,1⟩)) 67 (.live ⟨[vN],41,1⟩)) [1,3,4,5] (funext fun bk=>by by_cases bK:bk=64<;>by_cases bT:bk=65<;>by_cases cK:bk=66<;>by_cases cL:bk=67<;>first|(subst bK;rfl)|(subst bT;rfl)|(subst cK;rfl)|(subst cL;rfl)|simp only [dK,ah,bD bK,bD bT,bD cK,bD cL,cond_false]) (fun b b' h=>by simp only [h 1 (by decide),h 3 (by decide),h 4 (by decide),h 5 (by decide)]) (fun b h=>by simp only [h 1 (by decide),h 3 (by decide),h 4 (by decide),h 5 (by decide),cond_true]) [(19,.pt 67 0),(18,.pt 66 0),(63,.sl 65 0 ((eE c e d ls).length)),(62,.pt 0 0),(61,.sl 64 0 ((c_ d ls c.length c.length).length)),(60,.pt 0 0)] mixed (by kernel_rfl) ?_ ?_)
 ·refine ⟨?_,?_,?_,?_,?_,?_,trivial⟩
  ·exact sU (fun b=>sL e7)
  ·exact fx (by decide) ⟨rfl,(fun f_ h_=>by cases h_<;>exact bX rfl),fun b c5 eT fh st ap hE=>by obtain ⟨cm,dj⟩:=st;have di:dj=(ah (ah (ah (ah (l7 ls c g e d cn p t) 64 .free) 65 (cond (b 3) (.live (qG c e d ls)) .free)) 66 (cond (b 4) (.live ⟨[vN],41,1⟩) .free)) 67 (cond (b 5) (.live ⟨[vN],41,1⟩) .free)):=Eq.trans ap (by simp only [c5,cond_false,cond_true]);subst di;exact jS 64 (A2 c d ls hs u om w) rfl rfl rfl rfl rfl w6 (by show ew _ ([cm 60]++_) _;rw [show cm 60=_ from hE 60 rfl];exact (bb (jf rfl (bb (cj (av:=.one)) (bb (cj (av:=.q aI c)) (bb (.one _ rfl) (bb (.one _ rfl) (bb (cj (av:=.q YO d)) (bb (cj (av:=.one)) (bb (cj (av:=.one)) (bb (cj (av:=.one)) (bb (.one _ rfl) (bb (cj (av:=.one)) (bb (.one _ rfl) (bb (kA om (by repeat (first|exact fb|apply fo rfl)) rfl) fe))))))))))))) fe)) (.sl _ _ _ trivial) (jV jW) (iP rfl) rfl rfl ⟨rfl,fun bk=>by by_cases bK:bk=64<;>by_cases bT:bk=65<;>by_cases cK:bk=66<;>by_cases cL:bk=67<;>first|(subst bK;rfl)|(subst bT;rfl)|(subst cK;rfl)|(subst cL;rfl)|simp only [dK,ah,bD bK,bD bT,bD cK,bD cL,cond_false]⟩⟩
  ·exact sU (fun b=>sL e7)
  ·exact fx (by decide) ⟨rfl,(fun f_ h_=>by cases h_<;>exact bX rfl),fun b c5 eT fh st ap hE=>by have jG:=nJ (j:=1) (by kernel_rfl) eT;obtain ⟨cm,dj⟩:=st;have di:dj=(ah (ah (ah (ah (l7 ls c g e d cn p t) 64 (.live (qI d ls c))) 65 .free) 66 (cond (b 4) (.live ⟨[vN],41,1⟩) .free)) 67 (cond (b 5) (.live ⟨[vN],41,1⟩) .free)):=Eq.trans ap (by simp only [c5,jG,cond_false,cond_true]);subst di;exact jS 65 (AA c e d ls hs hp u om w) rfl rfl rfl rfl rfl w5 (by show ew _ ([cm 62]++_) _;rw [show cm 62=_ from hE 62 rfl];exact (bb (jf rfl (bb (cj (av:=.one)) (bb (.one _ rfl) (bb (.one _ rfl) (bb (cj (av:=.q aE e)) (bb (cj (av:=.q YO d)) (bb (cj (av:=.one)) (bb (cj (av:=.one)) (bb (cj (av:=.one)) (bb (.one _ rfl) (bb (cj (av:=.one)) (bb (ZT lS) (bb (kA om (by repeat (first|exact fb|apply fo rfl)) rfl) fe))))))))))))) fe)) (.sl _ _ _ trivial) (jV jW) (iP rfl) rfl rfl ⟨rfl,fun bk=>by by_cases bK:bk=64<;>by_cases bT:bk=65<;>by_cases cK:bk=66<;>by_cases cL:bk=67<;>first|(subst bK;first|rfl|(simp only [jG];rfl))|(subst bT;first|rfl|(simp only [jG];rfl))|(subst cK;first|rfl|(simp only [jG];rfl))|(subst cL;first|rfl|(simp only [jG];rfl))|simp only [dK,ah,bD bK,bD bT,bD cK,bD cL,cond_false]⟩⟩
  ·exact fx (by decide) ⟨rfl,(fun f_ h_=>by cases h_<;>exact bX rfl),fun b c5 eT fh st ap hE=>by obtain ⟨cm,dj⟩:=st;have di:dj=(ah (ah (ah (ah (l7 ls c g e d cn p t) 64 (cond (b 1) (.live (qI d ls c)) .free)) 65 (cond (b 3) (.live (qG c e d ls)) .free)) 66 .free) 67 (cond (b 5) (.live ⟨[vN],41,1⟩) .free)):=Eq.trans ap (by simp only [c5,cond_false,cond_true]);subst di;exact fW 66 rfl rfl rfl rfl rW rfl ⟨rfl,fun bk=>by by_cases bK:bk=64<;>by_cases bT:bk=65<;>by_cases cK:bk=66<;>by_cases cL:bk=67<;>first|(subst bK;rfl)|(subst bT;rfl)|(subst cK;rfl)|(subst cL;rfl)|simp only [dK,ah,bD bK,bD bT,bD cK,bD cL,cond_false]⟩⟩
  exact fx (by decide) ⟨rfl,(fun f_ h_=>by cases h_<;>exact bX rfl),fun b c5 eT fh st ap hE=>by obtain ⟨cm,dj⟩:=st;have di:dj=(ah (ah (ah (ah (l7 ls c g e d cn p t) 64 (cond (b 1) (.live (qI d ls c)) .free)) 65 (cond (b 3) (.live (qG c e d ls)) .free)) 66 (cond (b 4) (.live ⟨[vN],41,1⟩) .free)) 67 .free):=Eq.trans ap (by simp only [c5,cond_false,cond_true]);subst di;exact fW 67 rfl rfl rfl rfl rW rfl ⟨rfl,fun bk=>by by_cases bK:bk=64<;>by_cases bT:bk=65<;>by_cases cK:bk=66<;>by_cases cL:bk=67<;>first|(subst bK;rfl)|(subst bT;rfl)|(subst cK;rfl)|(subst cL;rfl)|simp only [dK,ah,bD bK,bD bT,bD cK,bD cL,cond_false]⟩⟩
 refine oG (qS m_ ?_);refine oG (qS m_ ?_);refine ak (aB (aj (mO ?_)));refine oG (k9 (caps:=[.tmp 6,.tmp 9,.tmp 10,.tmp 18,.tmp 19]) rfl rfl rfl rfl ?_);refine oG (eA (DY (b6 (bz c e (d.getD r.toNat [])) l) e p t (c_ d ls c.length c.length) (eE c e d ls) om hp z hn om om hv) rfl rfl rfl rfl rfl Ck (bb (cj (av:=.q eN (b6 (bz c e (d.getD r.toNat [])) l))) (bb (lf lT) fe)) ?_);refine rU (upd (upd (upd (upd (upd (upd (upd (upd (upd none_ 1 (.i r)) 2 (.i tr)) 5 (.q eB l)) 6 (.pt 61 0)) 12 vN) 13 (.i 0)) 14 (.q eB l)) 17 (L8 c e d r l)) 66 (.b ((b6 (bz c e (d.getD r.toNat [])) l).any (g7 e p t (c_ d ls c.length c.length) (eE c e d ls))))) (ah (ah (ah (ah (ah (ah (l7 ls c g e d cn p t) 64 (.live (qI d ls c))) 65 (.live (qG c e d ls))) 66 (.live ⟨[vN],41,1⟩)) 67 (.live ⟨[vN],41,1⟩)) 66 (.live ⟨[.sl 64 0 ((c_ d ls c.length c.length).length)],41,1⟩)) 67 (.live ⟨[.sl 65 0 ((eE c e d ls).length)],41,1⟩)) ?_;refine cD (fun hc3=>?_) fun hc3=>?_
 ·skip;exfalso;rw [hmv] at hc3;cases hc3
 refine aR (aB (lb (m:=17) (fun b=>(ah (ah (ah (ah (aac ls c g e d cn p t) 1 (cond (b 16) .dead (.live (qH ls)))) 68 (cond (b 12) (.live (sh d r)) .free)) 69 (cond (b 14) (.live (qK r tr d)) .free)) 70 (cond (b 16) (.live (Z_ ls)) .free))) (ah (ah (ah (ah (aac ls c g e d cn p t) 1 .dead) 68 (.live (sh d r))) 69 (.live (qK r tr d))) 70 (.live (Z_ ls))) [10,12,14,16] (funext fun bk=>by by_cases bK:bk=1<;>by_cases bT:bk=68<;>by_cases cK:bk=69<;>by_cases cL:bk=70<;>first|(subst bK;rfl)|(subst bT;rfl)|(subst cK;rfl)|(subst cL;rfl)|simp only [dK,ah,bD bK,bD bT,bD cK,bD cL,cond_false]) (fun b b' h=>by simp only [h 10 (by decide),h 12 (by decide),h 14 (by decide),h 16 (by decide)]) (fun b h=>by simp only [h 10 (by decide),h 12 (by decide),h 14 (by decide),h 16 (by decide),cond_true]) [(84,.sl 70 0 (ls.length+1)),(83,.ro 1 [.pt 69 0]),(82,.pt 69 0),(81,.agg [.i r,.i tr,.i (-1),.sl 68 0 ((bu d r).length)]),(80,.sl 68 0 ((bu d r).length)),(79,.i ((bu d r).length:Int)),(78,.q eI (bu d r)),(77,.i r),(76,.pt 0 0),(75,.ro 1 [.v (.int .u8 1)]),(74,.i tr),(73,.i r),(72,.sl 1 0 ls.length),(71,.pt 0 11),(70,.pt 0 0),(69,.pt 0 0),(68,.pt 0 0)] mixed (by kernel_rfl) ?_ ?_))
 ·iterate 17 (refine ⟨?_,?_⟩;rotate_left)
  trivial
  ·exact sU (fun b=>sL e7)
  ·exact sU (fun b=>sL e7)
  ·exact sU (fun b=>g6)
  ·exact sU (fun b=>sF (.pt 0 0) (.pt 0 11) ic gi)
  ·exact sU (fun b=>sL jm)
  ·exact sU (fun b=>dW 73 fun st ap hE=>dz (av:=.i r) (.inl rfl) rfl rfl (hE 1 rfl) (by rw [ap];rfl))
  ·exact sU (fun b=>dW 74 fun st ap hE=>dz (av:=.i tr) (.inl rfl) rfl rfl (hE 2 rfl) (by rw [ap];rfl))
  ·exact sU (fun b=>dW 75 fun st ap hE=>Y8 rfl rfl rfl cq od (by decide) (by decide) (by simp only [eY,List.map,aU];rfl) rfl (by rw [ap];rfl))
  ·exact sU (fun b=>sL e7)
  ·exact sU (fun b=>dW 77 fun st ap hE=>dz (av:=.i r) (.inl rfl) rfl rfl (hE 1 rfl) (by rw [ap];rfl))
  ·exact fx (by decide) ⟨rfl,(fun f_ h_=>by cases h_<;>exact bX rfl),fun b c5 eT fh st ap hE=>by have Uv:=AE (i:=10) (j:=12) (by kernel_rfl) fh c5;have tE:=AE (i:=12) (j:=16) (by kernel_rfl) fh Uv;obtain ⟨cm,dj⟩:=st;have di:dj=(ah (ah (ah (ah (aac ls c g e d cn p t) 1 (.live (qH ls))) 68 (cond (b 12) (.live (sh d r)) .free)) 69 (cond (b 14) (.live (qK r tr d)) .free)) 70 (cond (b 16) (.live (Z_ ls)) .free)):=Eq.trans ap (by simp only [c5,tE,cond_false,cond_true]);subst di;exact nE (O7 c g e d cn ls r y u hrr om) rfl rfl rfl rfl rfl tX rfl rfl (by repeat (first|exact fb|apply fo rfl)) (by show [cm 76,cm 77]++_=_;rw [show cm 76=_ from hE 76 rfl,show cm 77=_ from hE 77 rfl];rfl) (by exact bF) (jT (fun k_ h_=>by have:=dI h_;omega)) (dv om) bF (nP (a:=.q eI (bu d r))) ⟨rfl,fun bk=>by by_cases bK:bk=1<;>by_cases bT:bk=68<;>by_cases cK:bk=69<;>by_cases cL:bk=70<;>first|(subst bK;first|rfl|(simp only [tE];rfl))|(subst bT;first|rfl|(simp only [tE];rfl))|(subst cK;first|rfl|(simp only [tE];rfl))|(subst cL;first|rfl|(simp only [tE];rfl))|simp only [dK,ah,bD bK,bD bT,bD cK,bD cL,cond_false]⟩⟩
  ·exact sU (fun b=>dW 79 fun st ap hE=>d_ rfl rfl rfl rfl cG (lJ (hE 78 rfl)) (by rw [ap];rfl))
  ·exact fx (by decide) ⟨rfl,(fun f_ h_=>by cases h_<;>exact bX rfl),fun b c5 eT fh st ap hE=>by obtain ⟨cm,dj⟩:=st;have di:dj=(ah (ah (ah (ah (aac ls c g e d cn p t) 1 (cond (b 16) .dead (.live (qH ls)))) 68 .free) 69 (cond (b 14) (.live (qK r tr d)) .free)) 70 (cond (b 16) (.live (Z_ ls)) .free)):=Eq.trans ap (by simp only [c5,cond_false,cond_true]);subst di;exact jS 68 (HR ((bu d r).length) oo) rfl rfl rfl rfl rfl J_ (by show ew _ ([cm 75,cm 79]++_) _;rw [show cm 75=_ from hE 75 rfl,show cm 79=_ from hE 79 rfl];exact lS) (.sl _ _ _ trivial) (jV jW) (iP rfl) rfl rfl ⟨rfl,fun bk=>by by_cases bK:bk=1<;>by_cases bT:bk=68<;>by_cases cK:bk=69<;>by_cases cL:bk=70<;>first|(subst bK;rfl)|(subst bT;rfl)|(subst cK;rfl)|(subst cL;rfl)|simp only [dK,ah,bD bK,bD bT,bD cK,bD cL,cond_false]⟩⟩
  ·exact sU (fun b=>dW 81 fun st ap hE=>kb rfl rfl rfl w4 (by simp only [eY,List.map,aU,hE 73 rfl,hE 74 rfl,hE 80 rfl];rfl) (by rw [ap];rfl))
  ·exact fx (by decide) ⟨rfl,(fun f_ h_=>by cases h_<;>exact bX rfl),fun b c5 eT fh st ap hE=>by obtain ⟨cm,dj⟩:=st;have di:dj=(ah (ah (ah (ah (aac ls c g e d cn p t) 1 (cond (b 16) .dead (.live (qH ls)))) 68 (cond (b 12) (.live (sh d r)) .free)) 69 .free) 70 (cond (b 16) (.live (Z_ ls)) .free)):=Eq.trans ap (by simp only [c5,cond_false,cond_true]);subst di;exact AF 69 rfl rfl rfl rfl (hE 81 rfl) rfl rfl ⟨rfl,fun bk=>by by_cases bK:bk=1<;>by_cases bT:bk=68<;>by_cases cK:bk=69<;>by_cases cL:bk=70<;>first|(subst bK;rfl)|(subst bT;rfl)|(subst cK;rfl)|(subst cL;rfl)|simp only [dK,ah,bD bK,bD bT,bD cK,bD cL,cond_false]⟩⟩
  ·exact sU (fun b=>dW 83 fun st ap hE=>Y8 rfl rfl rfl fk Kc (by decide) (by decide) (by simp only [eY,List.map,aU,hE 82 rfl];rfl) rfl (by rw [ap];rfl))
  exact fx (by decide) ⟨rfl,(fun f_ h_=>by cases h_<;>exact bX rfl),fun b c5 eT fh st ap hE=>by have mm:=nJ (j:=12) (by kernel_rfl) eT;have BI:=nJ (j:=15) (by kernel_rfl) eT;have mn:=HW (i:=15) (j:=14) (by kernel_rfl) fh BI;obtain ⟨cm,dj⟩:=st;have di:dj=(ah (ah (ah (ah (aac ls c g e d cn p t) 1 (.live (qH ls))) 68 (.live (sh d r))) 69 (.live (qK r tr d))) 70 .free):=Eq.trans ap (by simp only [c5,mm,mn,cond_false,cond_true]);subst di;exact py 70 rfl rfl rfl rfl fk Kb rfl (by decide) (hE 72 rfl) rfl rfl rfl (by rw [fI (f:=b5) (s:=1) (fun _=>rfl),mg]) (hE 83 rfl) rfl om om rfl rfl ⟨rfl,fun bk=>by by_cases bK:bk=1<;>by_cases bT:bk=68<;>by_cases cK:bk=69<;>by_cases cL:bk=70<;>first|(subst bK;first|rfl|(simp only [mm,mn];rfl))|(subst bT;first|rfl|(simp only [mm,mn];rfl))|(subst cK;first|rfl|(simp only [mm,mn];rfl))|(subst cL;first|rfl|(simp only [mm,mn];rfl))|simp only [dK,ah,bD bK,bD bT,bD cK,bD cL,cond_false]⟩⟩
 refine oG (dC rfl rfl rfl rfl rfl ?_);refine fG (.pt 0 11) ic gi ?_;refine oG (qS gi ?_);refine ak (aj (mO ?_));refine mO ?_;refine oG (qJ (HT l (b6 (bz c e (d.getD r.toNat [])) l) hrt om) Ka ?_);refine mO ?_;refine mV ?_;refine rU (upd (upd none_ 12 (.q eB (dh l (b6 (bz c e (d.getD r.toNat [])) l)))) 13 (.i 0)) (ah (ah (ah (ah (ah (aac ls c g e d cn p t) 1 .dead) 68 (.live (sh d r))) 69 (.live (qK r tr d))) 70 (.live (Z_ ls))) 0 (.live ⟨[.one,.q aI c,.q YO g,.q aE e,.q YO d,.one,.one,.one,.i cn,.one,.rp (uH c g e),.sl 70 0 (ls.length+1)],73,1⟩)) ?_;refine cy ⟨(upd (upd none_ 12 (.q eB (dh l (b6 (bz c e (d.getD r.toNat [])) l)))) 13 (.i 0)),(ah (ah (ah (ah (ah (cA (fam 59 5 ls)) 0 (.live ⟨[.one,.q aI c,.q YO g,.q aE e,.q YO d,.one,.one,.one,.i cn,.one,.rp (uH c g e),.sl 56 0 (ls.length+1)],73,1⟩)) 1 .dead) 56 (.live ⟨(enc b5 (br ls.length)++[.pt 57 0]),91,1⟩)) 57 (.live ⟨[.i r,.i tr,.i (-1),.sl 58 0 ((List.replicate (bu d r).length (1:Int)).length)],59,1⟩)) 58 (.live ⟨(enc aC (List.replicate (bu d r).length (1:Int))),5,1⟩))⟩ ?_ ?_
 ·skip;exact iF [(0,0),(1,1),(70,56),(69,57),(68,58)] [((0,0),.live _),((1,1),.dead),((70,56),.live _),((69,57),.live _),((68,58),.live _)] (by repeat (first|exact fb|apply fo rfl)) (dv om) ⟨b8 rfl ca bF,trivial,b8 (o:=(Z_ ls)) rfl (jr (pD (BJ (by decide) rfl (fun k_ h_=>by have:=dI h_;omega)) (oF rfl oJ))) (pz (BK (fun k_ h_=>by have:=dI h_;omega)) bF),b8 (o:=(qK r tr d)) rfl (congrArg (fun n_:Nat=>ay.mk [.i r,.i tr,.i (-1),.sl 58 0 n_] 59 1) (List.length_replicate (a:=(1:Int))).symm) bF,aP rfl rfl,trivial⟩ (.inr ⟨rfl,by simp,by simp⟩)
 exact aV (i6 rfl rfl rfl)
theorem Uw:YV Tryz.prog 135=some true:=by kernel_rfl
theorem rX:YV Tryz.prog 61=some true:=by kernel_rfl
theorem Kd:bO Tryz.prog 34=true:=by kernel_rfl
theorem Ke:bO Tryz.prog 35=true:=by kernel_rfl
theorem Cl:bO Tryz.prog 38=true:=by kernel_rfl
theorem Kf:bO Tryz.prog 53=true:=by kernel_rfl
theorem Cm:bO Tryz.prog 54=true:=by kernel_rfl
theorem Kg:bO Tryz.prog 62=true:=by kernel_rfl
theorem WB:bO Tryz.prog 63=true:=by kernel_rfl
theorem WC:bO Tryz.prog 64=true:=by kernel_rfl
theorem WE:bO Tryz.prog 65=true:=by kernel_rfl
theorem WG:bO Tryz.prog 67=true:=by kernel_rfl
theorem pR:dD Tryz.prog 61 0=some (3,0):=by kernel_rfl
theorem pS:dD Tryz.prog 61 2=some (2,2):=by kernel_rfl
theorem ji:dD Tryz.prog 61 3=some (40,3):=by kernel_rfl
theorem S_:dD Tryz.prog 78 2=some (57,2):=by kernel_rfl
theorem w8:(Tryz.prog.info? 61).map (fun i=>(i.zero,i.size,i.bytes))=some (some (.agg #[(.int .i64 0),(.int .i64 0),(.int .i64 0),(.slice none 0 0)]),4,48):=by kernel_rfl
theorem w9:(Tryz.prog.info? 61).map (fun i=>(i.zero,i.size))=some (some (.agg #[(.int .i64 0),(.int .i64 0),(.int .i64 0),(.slice none 0 0)]),4):=by kernel_rfl
theorem WH:placesOf Tryz.prog 61=some ((.agg #[(.int .i64 0),(.int .i64 0),(.int .i64 0),(.slice none 0 0)]),fun i=>([(0,1),(1,1),(2,1),(3,1)]:List (Nat×Nat)).toArray[i]?):=by kernel_rfl
theorem gj:(Tryz.prog.info? 61).map (·.size)=some 4:=by kernel_rfl
theorem WI:(Tryz.prog.info? 78).map (·.size)=some 3:=by kernel_rfl
theorem fA:Tryz.prog.underlying 39=some (.slice 61):=by kernel_rfl
theorem w_:Tryz.prog.underlying 79=some (.slice 78):=by kernel_rfl
theorem Cn:(Tryz.prog.info? 61).bind (·.zero)=some (.agg #[(.int .i64 0),(.int .i64 0),(.int .i64 0),(.slice none 0 0)]):=by kernel_rfl
abbrev El (s:Int) (k:Nat):Nat→AV:=(upd (upd (upd (upd none_ 1 (.i s)) 2 (.pt 2 0)) 4 (.i 0)) 5 (.i (k:Int)))
abbrev yj (a:List (List Int)):ay:=⟨[.one,.one,.q YO a,.one,.one,.one,.one,.one,.one,.one],35,1⟩
theorem Qe (a:List (List Int)) (s:Int) (hp:a.length≤65536) (hpl:∀x,x∈a→x.length≤65536):Fn Tryz.prog 66 [.agg [.one,.one,.q YO a,.one,.one,.one,.one,.one,.one,.one],.v (.int .i64 s)] (.v (.int .i64 (dl a s))):=by
 refine cf (N:=21) Tryz.func66 rfl rfl (b_ rfl) (by simp) (fun w0 X bJ=>?_);refine aj (oG (qW 51 ?_));refine mV ?_;refine ak (aB (aj (mV ?_)));refine ak (bf (cF (fun k=>⟨(El s k),(ah aG 2 (.live (yj a)))⟩) (fun k=>(a.take k).any (fun l=>decide (s∈l))=false) (a.length) ?_ (by simp) (fun k dq hinv=>?_)))
 ·skip;exact iI 51 2 (o:=(yj a)) rfl
 refine aB (aj (mV ?_));refine fG (.pt 2 2) lI eG ?_;refine oO fQ ?_;refine oG (qN e4 ?_);refine bB ?_;refine rU (upd (El s k) 10 (.b (decide ((k:Int)<(a.length:Int))))) (ah aG 2 (.live (yj a))) ?_;refine cD (fun hc0=>?_) fun hc0=>?_
 ·skip;have hf1:=of_decide_eq_true hc0;have hpk:=hpl _ (c8 (l:=a) (k:=k) [] om);refine aR (aB (bf (aj (fG (.pt 2 2) lI eG ?_))));refine oO fQ ?_;refine mV ?_;refine oG (qX [] e4 i9 ?_);refine oO jE ?_;refine mV ?_;refine oG (qJ (Ap (a.getD k []) s oo) B0 ?_);refine rU (upd (El s k) 19 (.b (decide (s∈(a.getD k []))))) (ah aG 2 (.live (yj a))) ?_;refine cD (fun hc1=>?_) fun hc1=>?_
  ·skip;refine aj (mV ?_);refine mV ?_;exact ak (aV (bq (av:=.v (.int .i64 (k:Int))) rfl rfl (by unfold dl;rw [hJ [] om hinv hc1]<;>rfl)))
  refine aR (bm (mV ?_));refine oG (qB (.int .i64 ((k+1:Nat):Int)) (addN om) ?_);refine mV ?_;refine ak ?_;show _∧_;refine ⟨by omega,(gT [] om hinv hc1),?_⟩;exact iI 2 2 rfl
 have hf2:=of_decide_eq_false hc0;refine cu (aj (mV ?_));exact ak (aV (bq (av:=.v (.int .i64 (-1))) rfl rfl (by unfold dl;rw [iK om hinv]<;>rfl)))
abbrev Em (a:List Need) (k:Nat) (c:List Bool):Nat→aK:=(ah aG 1 (.live ⟨(enc eN (b6 (a.take k) c)),135,2⟩))
abbrev L_ (a:List Need) (c:List Bool) (k:Nat):Nat→AV:=(upd (upd (upd (upd (upd none_ 0 (.q eN a)) 1 (.q eB c)) 4 vN) 5 (.sl 1 0 ((b6 (a.take k) c).length))) 6 (.i (k:Int)))
abbrev Y1 (a:List Need) (k:Nat):Need:=(⟨(a.getD k dN).point,(a.getD k dN).right⟩:Need)
abbrev uI (a:List Need) (k:Nat):List AV:=[.i ((a.getD k dN).point),.b ((a.getD k dN).right)]
abbrev Eo (a:List Need) (k:Nat):AV:=(.rp (((uI a k):List AV)++((enc eN a).drop ((k+1)*2))))
theorem O8 (a:List Need) (c:List Bool) (hl:a.length≤4294967296) (hr:c.length≤4294967296):jq Tryz.prog 63 [.q eN a,.q eB c] (.sl 0 0 ((b6 a c).length)) [⟨(enc eN (b6 a c)),135,2⟩]:=by
 refine cf (N:=34) Tryz.func63 rfl rfl (b_ rfl) (by simp) (fun w0 X bJ=>?_);refine aj (mV ?_);refine ak (aj (mV ?_));refine ak (aB (aj (mV ?_)));refine ak (bf (cF (fun k=>⟨(L_ a c k),(Em a k c)⟩) (fun k=>True) (a.length) ?_ trivial (fun k dq hinv=>?_)))
 ·skip;refine (iz 5 51 135 2 rfl rfl).trans ?_;exact iI 51 1 (o:=⟨[],135,2⟩) rfl
 have hml:=re (a.take k) c;have htk:(a.take k).length≤a.length:=by simp;omega
 refine aB (aj (mV ?_));refine mO ?_;refine oG (qN ig ?_);refine bB ?_;refine rU (upd (L_ a c k) 10 (.b (decide ((k:Int)<(a.length:Int))))) (Em a k c) ?_;refine cD (fun hc0=>?_) fun hc0=>?_
 ·skip;have hf1:=of_decide_eq_true hc0;refine aR (aB (bf (aB (aD 13 [(25,.b ((hasB c ((a.getD k dN).point)) != ((a.getD k dN).right))),(24,.b ((a.getD k dN).right)),(23,.rp (([.b ((a.getD k dN).right)]:List AV)++((enc eN a).drop ((k+1)*2)))),(22,.rp (((uI a k):List AV)++((enc eN a).drop ((k+1)*2)))),(21,.i (k:Int)),(20,.q eN a),(19,.b (hasB c ((a.getD k dN).point))),(18,.i ((a.getD k dN).point)),(17,.rp (((uI a k):List AV)++((enc eN a).drop ((k+1)*2)))),(16,.rp (((uI a k):List AV)++((enc eN a).drop ((k+1)*2)))),(15,.i (k:Int)),(14,.q eN a),(13,.q eB c)] mixed ?_ ?_))))
  ·iterate 13 (refine ⟨?_,?_⟩;rotate_left)
   trivial
   ·exact aM
   ·exact aM
   ·exact aM
   ·exact (d4 dN ig lK)
   ·exact sF (Eo a k) (Eo a k) pG bC
   ·exact (cN Y0)
   ·exact dW 19 fun st ap hE=>call_ (vi c ((a.getD k dN).point) oo) rfl rfl rfl rfl rfl wR (by show [st.env 13,st.env 18]++_=_;rw [hE 13 rfl,hE 18 rfl];rfl) (by rw [ap];rfl)
   ·exact aM
   ·exact aM
   ·exact (d4 dN ig lK)
   ·exact sF (Eo a k) (.rp (([.b ((a.getD k dN).right)]:List AV)++((enc eN a).drop ((k+1)*2)))) HI ik
   ·exact (cN o5)
   exact dW 25 fun st ap hE=>Ao rfl rfl rfl (hE 19 rfl) (hE 24 rfl) CJ (by rw [ap];rfl)
  refine ak (cD (fun hc1=>?_) fun hc1=>?_)
  ·skip;refine bm (mS ?_);refine mO ?_;refine mV ?_;refine oG (qX dN ig lK ?_);refine oG (ZI (uI a k) Uw lK ?_);refine oG (Y8 rfl rfl rfl ig BA (by decide) (by decide) rfl rfl ?_);refine oG (hS (f:=eN) (l:=b6 (a.take k) c) 52 (Y1 a k) rfl rfl rfl rfl ig Bz rfl (by decide) rfl rfl rfl rfl rfl rfl (fun _=>rfl) rfl rfl oo oo rfl ?_);refine mS ?_;refine ak (rT (upd (upd (upd (upd (upd none_ 0 (.q eN a)) 1 (.q eB c)) 4 vN) 5 (.sl 52 0 (((b6 (a.take k) c)++[(Y1 a k)]).length))) 6 (.i (k:Int))) (ah (ah (Em a k c) 1 .dead) 52 (.live ⟨(enc eN ((b6 (a.take k) c)++[(Y1 a k)])),135,2⟩)) ?_);refine bm (mV ?_);refine oG (qB (.int .i64 ((k+1:Nat):Int)) (addN om) ?_);refine mV ?_;refine ak ?_;show _∧_;have hs:=zV (needs:=a) (right:=c) (k:=k) om hc1;refine ⟨by omega,trivial,?_⟩;exact iI 52 1 rfl (he:=(sS rfl (sM (by exact congrArg (AV.sl 1 0) (congrArg List.length hs)) (sS rfl (sS rfl (sS rfl bQ)))))) (eJ:=(by exact congrArg (fun l_=>ay.mk (enc eN l_) 135 2) hs.symm))
  refine aR (bm (mV ?_));refine oG (qB (.int .i64 ((k+1:Nat):Int)) (addN om) ?_);refine mV ?_;refine ak ?_;show _∧_;have hs:=zJ (needs:=a) (right:=c) (k:=k) om hc1;refine ⟨by omega,trivial,?_⟩;exact iI 1 1 rfl (he:=(sS rfl (sM (by exact congrArg (AV.sl 1 0) (congrArg List.length hs)) (sS rfl (sS rfl (sS rfl bQ)))))) (eJ:=(by exact congrArg (fun l_=>ay.mk (enc eN l_) 135 2) hs.symm))
 have hf2:=of_decide_eq_false hc0;refine cu (aj (mS ?_));refine mS ?_;refine ak (aV ?_);have he:b6 (a.take k) c=b6 a c:=by rw [List.take_of_length_le om]
 exact jU 1 rfl rfl rfl (congrArg List.length he) (congrArg (fun l_=>ay.mk (enc eN l_) 135 2) he)
abbrev Ep (ls:List Lk) (r:Int) (k:Nat):Nat→AV:=(upd (upd (upd (upd none_ 0 (.q aQ ls)) 1 (.i r)) 4 (.i 0)) 5 (.i (k:Int)))
abbrev Ma (ls:List Lk) (k:Nat):AV:=(.rp (([.i ((ls.getD k ao).route),.i ((ls.getD k ao).cX),.i ((ls.getD k ao).ends),.q aC ((ls.getD k ao).pieces)]:List AV)++((enc aQ ls).drop ((k+1)*4))))
theorem Hj (ls:List Lk) (r:Int) (hll:ls.length≤65536):Fn Tryz.prog 53 [.q aQ ls,.v (.int .i64 r)] (.v (.int .i64 (d2 ls r))):=by
 refine cf (N:=20) Tryz.func53 rfl rfl (b_ rfl) (by simp) (fun w0 X bJ=>?_);refine aj (mV ?_);refine ak (aB (aj (mV ?_)));refine ak (bf (cF (fun k=>⟨(Ep ls r k),aG⟩) (fun k=>(ls.take k).any (fun x:Lk=>decide (x.route=r))=false) (ls.length) ?_ (by simp) (fun k dq hinv=>?_)))
 ·skip;exact iN
 refine aB (aj (mV ?_));refine mO ?_;refine oG (qN fA ?_);refine bB ?_;refine rU (upd (Ep ls r k) 9 (.b (decide ((k:Int)<(ls.length:Int))))) aG ?_;refine cD (fun hc0=>?_) fun hc0=>?_
 ·skip;have hf1:=of_decide_eq_true hc0;refine aR (aB (bf (aj (mO ?_))));refine mV ?_;refine oG (qX ao fA gj ?_);refine oG (qF (Ma ls k) (Ma ls k) pR bC ?_);refine oV Y0 ?_;refine mV ?_;refine bB ?_;refine rU (upd (Ep ls r k) 18 (.b (((ls.getD k ao).route)==r))) aG ?_;refine cD (fun hc1=>?_) fun hc1=>?_
  ·skip;have hf2:=(beq_iff_eq).1 hc1;refine aj (mV ?_);refine mV ?_;exact ak (aV (bq (av:=.v (.int .i64 (k:Int))) rfl rfl (by unfold d2;rw [hJ (f:=fun x:Lk=>decide (x.route=r)) ao om hinv (by simpa using hc1)]<;>rfl)))
  have hf3:=(beq_eq_false_iff_ne).1 hc1;refine aR (bm (mV ?_));refine oG (qB (.int .i64 ((k+1:Nat):Int)) (addN om) ?_);refine mV ?_;refine ak ?_;show _∧_;refine ⟨by omega,(gT ao om hinv (by simpa using hc1)),?_⟩;exact iN
 have eb:=of_decide_eq_false hc0;refine cu (aj (mV ?_));exact ak (aV (bq (av:=.v (.int .i64 (-1))) rfl rfl (by unfold d2;rw [iK (f:=fun x:Lk=>decide (x.route=r)) om hinv]<;>rfl)))
abbrev Mb (a:List (List Int)):ay:=⟨[.one,.one,.one,.one,.q YO a,.one,.one,.one,.one,.one],35,1⟩
abbrev uJ (ls:List Lk) (i:Nat):List AV:=(enc aC ((ls.getD i ao).pieces))
abbrev yk (ls:List Lk) (s:Int) (i:Nat):Nat→AV:=(upd (upd (upd (upd (upd none_ 1 (.q aQ ls)) 2 (.i s)) 3 (.pt 1 0)) 6 (.i 0)) 7 (.i (i:Int)))
abbrev uK (a:List (List Int)):Nat→aK:=(ah aG 1 (.live (Mb a)))
abbrev si (ls:List Lk) (i:Nat):List AV:=[.i ((ls.getD i ao).route),.i ((ls.getD i ao).cX),.i ((ls.getD i ao).ends),.ro ((ls.getD i ao).pieces.length) (uJ ls i)]
abbrev Mc (ls:List Lk) (i:Nat):AV:=(.rp (([.ro ((ls.getD i ao).pieces.length) (uJ ls i)]:List AV)++((enc aQ ls).drop ((i+1)*4))))
abbrev pe (ls:List Lk) (i:Nat):AV:=(.rp (((si ls i):List AV)++((enc aQ ls).drop ((i+1)*4))))
theorem zW (a:List (List Int)) (ls:List Lk) (s:Int) (hro:a.length≤65536) (hll:ls.length≤65536) (hlk:∀x,x∈ls→kj a x):Fn Tryz.prog 38 [.agg [.one,.one,.one,.one,.q YO a,.one,.one,.one,.one,.one],.q aQ ls,.v (.int .i64 s)] (.v (.int .i64 (fw a ls s))):=by
 refine cf (N:=56) Tryz.func38 rfl rfl (b_ rfl) (by simp) (fun w0 X bJ=>?_);refine aj (oG (qW 51 ?_));refine mV ?_;refine ak (aB (aj (mV ?_)));refine ak (bf (cF (fun i=>⟨(yk ls s i),(uK a)⟩) (fun i=>(ls.take i).any (ZQ a s)=false) (ls.length) ?_ (by simp) (fun i tP hinv=>?_)))
 ·skip;exact iI 51 1 (o:=(Mb a)) rfl
 refine aB (aj (mV ?_));refine mO ?_;refine oG (qN fA ?_);refine bB ?_;refine rU (upd (yk ls s i) 12 (.b (decide ((i:Int)<(ls.length:Int))))) (uK a) ?_;refine cD (fun hc0=>?_) fun hc0=>?_
 ·skip;have hf1:=of_decide_eq_true hc0;have hW:=hinv;have hxk:=hlk _ (c8 (l:=ls) (k:=i) ao om);have j3:=hxk.r;have hxp:=hxk.ps;have hxl:=hxk.ln;refine aR (aB (bf (aj (mV ?_))));refine ak (bf (cF (fun k=>⟨(upd (yk ls s i) 8 (.i (k:Int))),(uK a)⟩) (fun k=>oP (a.getD (ls.getD i ao).route.toNat []) (ls.getD i ao).pieces s k=false) ((ls.getD i ao).pieces.length) ?_ rfl (fun k dq hinv=>?_)))
  ·skip;exact iI 1 1 rfl
  refine aB (aj (mV ?_));refine mO ?_;refine mV ?_;refine oG (qX ao fA gj ?_);refine oG (qF (pe ls i) (Mc ls i) ji d3 ?_);refine oO dX ?_;refine oG (qN cq ?_);refine bB ?_;refine rU (upd (upd (yk ls s i) 8 (.i (k:Int))) 22 (.b (decide ((k:Int)<((ls.getD i ao).pieces.length:Int))))) (uK a) ?_;refine cD (fun hc1=>?_) fun hc1=>?_
  ·skip;have hf2:=of_decide_eq_true hc1;refine aR (aB (bf (aB ((Bool.eq_false_or_eq_true (((a.getD ((ls.getD i ao).route).toNat []).getD (k+1) 0)==s)).elim (fun hq0=>?_) (fun hq0=>?_)))))
   ·skip;have eb:=(beq_iff_eq).1 hq0;refine aD 26 [(50,.b ((((ls.getD i ao).pieces).getD k 0) != 0)),(49,.b ((((ls.getD i ao).pieces).getD k 0) != 0)),(48,.v (.int .u8 (((ls.getD i ao).pieces).getD k 0))),(47,.rp (([.v (.int .u8 (((ls.getD i ao).pieces).getD k 0))]:List AV)++((uJ ls i).drop ((k+1)*1)))),(46,.i (k:Int)),(45,.ro ((ls.getD i ao).pieces.length) (uJ ls i)),(44,.rp (([.ro ((ls.getD i ao).pieces.length) (uJ ls i)]:List AV)++((enc aQ ls).drop ((i+1)*4)))),(43,.rp (((si ls i):List AV)++((enc aQ ls).drop ((i+1)*4)))),(42,.i (i:Int)),(41,.q aQ ls),(40,.b (((a.getD ((ls.getD i ao).route).toNat []).getD (k+1) 0)==s)),(39,.b (((a.getD ((ls.getD i ao).route).toNat []).getD (k+1) 0)==s)),(38,.i s),(37,.i ((a.getD ((ls.getD i ao).route).toNat []).getD (k+1) 0)),(36,.rp (([.i ((a.getD ((ls.getD i ao).route).toNat []).getD (k+1) 0)]:List AV)++((enc eI (a.getD ((ls.getD i ao).route).toNat [])).drop (((k+1)+1)*1)))),(35,.i ((k+1:Nat):Int)),(34,.i (k:Int)),(33,.q eI (a.getD ((ls.getD i ao).route).toNat [])),(32,.rp (([.q eI (a.getD ((ls.getD i ao).route).toNat [])]:List AV)++((enc YO a).drop ((((ls.getD i ao).route).toNat+1)*1)))),(31,.i ((ls.getD i ao).route)),(30,.rp (((si ls i):List AV)++((enc aQ ls).drop ((i+1)*4)))),(29,.rp (((si ls i):List AV)++((enc aQ ls).drop ((i+1)*4)))),(28,.i (i:Int)),(27,.q aQ ls),(26,.q YO a),(25,.pt 1 4)] mixed ?_ ?_
    ·iterate 26 (refine ⟨?_,?_⟩;rotate_left)
     trivial
     ·exact sF (.pt 1 0) (.pt 1 4) ib eG
     ·exact sL fQ
     ·exact aM
     ·exact aM
     ·exact (d4 ao fA gj)
     ·exact sF (pe ls i) (pe ls i) pR bC
     ·exact (cN Y0)
     ·exact dW 32 fun st ap hE=>YZ [] rfl rfl rfl e4 i9 (hE 26 rfl) (hE 31 rfl) (fun _=>rfl) rfl om oo (by rw [ap];rfl)
     ·exact (cN jE)
     ·exact aM
     ·exact sB (.int .i64 ((k+1:Nat):Int)) (addN om)
     ·exact (d4 (0:Int) cG bC)
     ·exact (cN Y0)
     ·exact aM
     ·exact sB (.bool (((a.getD ((ls.getD i ao).route).toNat []).getD (k+1) 0)==s)) rfl
     ·exact aM
     ·exact dM hq0 aM
     ·exact dM hq0 aM
     ·exact dM hq0 (d4 ao fA gj)
     ·exact dM hq0 (sF (pe ls i) (Mc ls i) ji d3)
     ·exact dM hq0 (cN dX)
     ·exact dM hq0 aM
     ·exact dM hq0 (d4 (0:Int) cq cR)
     ·exact dM hq0 (cN dB)
     ·exact dM hq0 (sB (.bool ((((ls.getD i ao).pieces).getD k 0) != 0)) rfl)
     exact dW 50 fun st ap hE=>fJ (b:=(((a.getD ((ls.getD i ao).route).toNat []).getD (k+1) 0)==s)) (av:=.b ((((ls.getD i ao).pieces).getD k 0) != 0)) rfl rfl rfl (hE 40 rfl) (by rw [hq0];exact hE 49 rfl) (by rw [ap];rfl)
    refine ak (cD (fun hc2=>?_) fun hc2=>?_)
    ·skip;have g0:=(bne_iff_ne).1 hc2;have hpt:kl (a.getD (ls.getD i ao).route.toNat []) (ls.getD i ao).pieces s k=true:=Ux hq0 hc2;refine aj (mO ?_);refine mV ?_;refine oG (qX ao fA gj ?_);refine oG (qF (pe ls i) (pe ls i) pR bC ?_);refine oV Y0 ?_;refine mV ?_;refine rU (upd (upd (upd (upd (upd (upd none_ 1 (.q aQ ls)) 2 (.i s)) 3 (.pt 1 0)) 6 (.i ((ls.getD i ao).route))) 7 (.i (i:Int))) 8 (.i (k:Int))) (uK a) ?_;exact aV (bq (av:=.v (.int .i64 ((ls.getD i ao).route))) rfl rfl (by first|rw [Hk om hW (Hl om hpt)]|rw [Hm om hinv]))
    have fB:=(bne_eq_false_iff_eq).1 hc2;have hnp:kl (a.getD (ls.getD i ao).route.toNat []) (ls.getD i ao).pieces s k=false:=Ta hc2;refine aR (bm (mV ?_));refine oG (qB (.int .i64 ((k+1:Nat):Int)) (addN om) ?_);refine mV ?_;refine ak ?_;show _∧_;refine ⟨by omega,(F9 hinv hnp),?_⟩;exact iI 1 1 rfl
   have gl:=(beq_eq_false_iff_ne).1 hq0;have hnp:kl (a.getD (ls.getD i ao).route.toNat []) (ls.getD i ao).pieces s k=false:=Tb hq0;refine aD 26 [(50,.b false),(49,.v undef),(48,.v undef),(47,.v undef),(46,.v undef),(45,.v undef),(44,.v undef),(43,.v undef),(42,.v undef),(41,.v undef),(40,.b (((a.getD ((ls.getD i ao).route).toNat []).getD (k+1) 0)==s)),(39,.b (((a.getD ((ls.getD i ao).route).toNat []).getD (k+1) 0)==s)),(38,.i s),(37,.i ((a.getD ((ls.getD i ao).route).toNat []).getD (k+1) 0)),(36,.rp (([.i ((a.getD ((ls.getD i ao).route).toNat []).getD (k+1) 0)]:List AV)++((enc eI (a.getD ((ls.getD i ao).route).toNat [])).drop (((k+1)+1)*1)))),(35,.i ((k+1:Nat):Int)),(34,.i (k:Int)),(33,.q eI (a.getD ((ls.getD i ao).route).toNat [])),(32,.rp (([.q eI (a.getD ((ls.getD i ao).route).toNat [])]:List AV)++((enc YO a).drop ((((ls.getD i ao).route).toNat+1)*1)))),(31,.i ((ls.getD i ao).route)),(30,.rp (((si ls i):List AV)++((enc aQ ls).drop ((i+1)*4)))),(29,.rp (((si ls i):List AV)++((enc aQ ls).drop ((i+1)*4)))),(28,.i (i:Int)),(27,.q aQ ls),(26,.q YO a),(25,.pt 1 4)] mixed ?_ ?_
   ·iterate 26 (refine ⟨?_,?_⟩;rotate_left)
    trivial
    ·exact sF (.pt 1 0) (.pt 1 4) ib eG
    ·exact sL fQ
    ·exact aM
    ·exact aM
    ·exact (d4 ao fA gj)
    ·exact sF (pe ls i) (pe ls i) pR bC
    ·exact (cN Y0)
    ·exact dW 32 fun st ap hE=>YZ [] rfl rfl rfl e4 i9 (hE 26 rfl) (hE 31 rfl) (fun _=>rfl) rfl om oo (by rw [ap];rfl)
    ·exact (cN jE)
    ·exact aM
    ·exact sB (.int .i64 ((k+1:Nat):Int)) (addN om)
    ·exact (d4 (0:Int) cG bC)
    ·exact (cN Y0)
    ·exact aM
    ·exact sB (.bool (((a.getD ((ls.getD i ao).route).toNat []).getD (k+1) 0)==s)) rfl
    ·exact aM
    ·exact ef hq0
    ·exact ef hq0
    ·exact ef hq0
    ·exact ef hq0
    ·exact ef hq0
    ·exact ef hq0
    ·exact ef hq0
    ·exact ef hq0
    ·exact ef hq0
    exact mH (((a.getD ((ls.getD i ao).route).toNat []).getD (k+1) 0)==s) (.b false) hq0
   refine ak (eh false rfl rfl (fun h=>by cases h) (fun _=>?_));refine aR (bm (mV ?_));refine oG (qB (.int .i64 ((k+1:Nat):Int)) (addN om) ?_);refine mV ?_;refine ak ?_;show _∧_;refine ⟨by omega,(F9 hinv hnp),?_⟩;exact iI 1 1 rfl
  have il:=of_decide_eq_false hc1;refine cu (bm (mV ?_));refine oG (qB (.int .i64 ((i+1:Nat):Int)) (addN om) ?_);refine mV ?_;refine ak ?_;show _∧_;refine ⟨by omega,(gT ao om hW (by rw [show ZQ a s (ls.getD i ao)=oP (a.getD (ls.getD i ao).route.toNat []) (ls.getD i ao).pieces s (ls.getD i ao).pieces.length from rfl,show (ls.getD i ao).pieces.length=k by omega];exact hinv)),?_⟩;exact iI 1 1 rfl
 have lz:=of_decide_eq_false hc0;refine cu (aj (mV ?_));exact ak (aV (bq (av:=.v (.int .i64 (-1))) rfl rfl (by first|rw [Hk om hW (Hl om hpt)]|rw [Hm om hinv])))
abbrev yl (p:Nat):Nat→AV:=(upd none_ 2 (.i (p:Int)))
abbrev Er (p:Nat) (c:List Int) (e:List ax) (g:List aH):Nat→AV:=(upd (upd (upd (upd (yl p) 3 (.pt 1 0)) 6 vN) 7 (.q eI c)) 8 (.q eN (bz e g c)))
abbrev Md (g:List aH) (j:Nat):AV:=(.rp (([.i ((g.getD j dP).node),.i ((g.getD j dP).stem),.i ((g.getD j dP).left),.i ((g.getD j dP).right)]:List AV)++((enc aE g).drop ((j+1)*4))))
abbrev ym (e:List ax) (g:List aH) (t:List (List Int)):List AV:=[.one,.q aI e,.one,.q aE g,.q YO t,.one,.one,.one,.one,.one]
abbrev aad:ay:=⟨[.i 0,.i 0,.i 0],118,1⟩
abbrev uL (e:List ax) (c:List Int) (k:Nat):List AV:=[.i ((e.getD (c.getD (k+1) 0).toNat dS).len),.i ((e.getD (c.getD (k+1) 0).toNat dS).a),.i ((e.getD (c.getD (k+1) 0).toNat dS).b)]
abbrev pf (e:List ax) (c:List Int) (k:Nat):List AV:=[.i ((e.getD (c.getD k 0).toNat dS).len),.i ((e.getD (c.getD k 0).toNat dS).a),.i ((e.getD (c.getD k 0).toNat dS).b)]
abbrev nn (e:List ax) (g:List aH) (t:List (List Int)):Nat→aK:=(ah aG 1 (.live ⟨(ym e g t),35,1⟩))
abbrev yn (p:Nat) (c:List Int) (e:List ax) (g:List aH) (k:Nat):Nat→AV:=(upd (upd (upd (Er p c e g) 10 (.i (iy e g c p k))) 11 (.i (stM e g c p k))) 12 (.i (k:Int)))
abbrev uM (e:List ax) (g:List aH) (t:List (List Int)) (c:List Int) (k:Nat):Nat→aK:=(ah (ah (nn e g t) 2 (.live ⟨(pf e c k),118,1⟩)) 3 (.live ⟨(uL e c k),118,1⟩))
abbrev yo (p:Nat) (c:List Int) (e:List ax) (g:List aH) (k j:Nat):Nat→AV:=(upd (upd (upd (upd (yn p c e g k) 13 (.i (kJ (e.getD (c.getD k 0).toNat dS) (e.getD (c.getD (k+1) 0).toNat dS) g j))) 14 (.pt 2 0)) 15 (.pt 3 0)) 16 (.i (j:Int)))
theorem Qf (e:List ax) (g:List aH) (t:List (List Int)) (r:Int) (c:List Int) (p:Nat) (hs:e.length≤65536) (hp:g.length≤65536) (hro:t.length≤65536) (hr:0≤r∧r<(t.length:Int)) (Uy:t.getD r.toNat []=c) (hpl:1≤c.length∧c.length≤65536) (u:∀s,s∈c→0≤s∧s<(e.length:Int)) (hst:p≤65536):Fn Tryz.prog 67 [.agg [.one,.ro e.length (enc aI e),.one,.ro g.length (enc aE g),.ro t.length (enc YO t),.one,.one,.one,.one,.one],.v (.int .i64 r),.v (.int .i64 (p:Int))] (.ro ((fu e g c p).length) (enc eN (fu e g c p))):=by
 refine cf (N:=110) Tryz.func67 rfl rfl (b_ rfl) (by simp) (fun w0 X bJ=>?_);refine aj (oG (qW 51 ?_));refine mV ?_;refine ak (aj (fG (.pt 51 4) ib eG ?_));refine oO fQ ?_;refine mV ?_;refine oG (YZ [] rfl rfl rfl e4 i9 rfl rfl (fun _=>rfl) rfl om oo ?_);refine oG (vU (d:=22) (a:=.q eI (t.getD r.toNat [])) (b:=.q eI c) (i3 (av:=.q eI (t.getD r.toNat [])) rfl rfl rfl jE rfl rfl rfl) (by rw [Uy]) ?_);refine mO ?_;refine rU (upd (upd (upd (yl p) 3 (.pt 51 0)) 6 vN) 7 (.q eI c)) (ah aG 51 (.live ⟨(ym e g t),35,1⟩)) ?_;refine aj (oG (ZI (ym e g t) du cC ?_));refine mO ?_;refine oG (qC (Hc e g c hs hp hpl.2) Kg ?_);refine mG (.bw [.q eN (bz e g c),.b (gC e g c)]) ?_;refine oG (qE ?_);refine oG (qE ?_);refine mO ?_;refine mV ?_;refine rU (upd (upd (upd (upd (yl p) 3 (.pt 51 0)) 6 vN) 7 (.q eI c)) 8 (.q eN (bz e g c))) (ah aG 51 (.live ⟨(ym e g t),35,1⟩)) ?_;refine aj (mV ?_);refine mV ?_;refine ak (aB (aj (mV ?_)));refine ak (bf (cF (fun k=>⟨(yn p c e g k),(nn e g t)⟩) (fun k=>k≤c.length-1) ((c.length-1)) ?_ (Nat.zero_le _) (fun k dq hinv=>?_)))
 ·skip;exact iI 51 1 rfl
 have hnr:=Jj (secs:=e) (pts:=g) (path:=c) (step:=p) k;have hmr:=Jk (secs:=e) (pts:=g) (path:=c) (step:=p) k;refine aB (aj (mV ?_));refine mO ?_;refine oG (qN cG ?_);refine oG (qB (.int .i64 ((c.length:Int)-1)) (kM om) ?_);refine bB ?_;refine rU (upd (yn p c e g k) 33 (.b (decide ((k:Int)<((c.length:Int)-1))))) (nn e g t) ?_;refine cD (fun hc0=>?_) fun hc0=>?_
 ·skip;have hf1:=of_decide_eq_true hc0;have hk1:k+1<c.length:=by omega
  have hs0:=u _ (c8 (l:=c) (k:=k) 0 om);have hs1:=u _ (c8 (l:=c) (k:=k+1) 0 om);refine aR (aB (bf (aj (mV ?_))));refine ak (aB (lb (m:=20) (fun b=>(ah (ah (nn e g t) 52 (cond (b 19) (.live ⟨(pf e c k),118,1⟩) (cond (b 17) (.live aad) .free))) 53 (cond (b 18) (.live aad) .free))) (ah (ah (nn e g t) 52 (.live ⟨(pf e c k),118,1⟩)) 53 (.live aad)) [17,18,19] (funext fun bk=>by by_cases bK:bk=52<;>by_cases bT:bk=53<;>first|(subst bK;rfl)|(subst bT;rfl)|simp only [dK,ah,bD bK,bD bT,cond_false]) (fun b b' h=>by simp only [h 17 (by decide),h 18 (by decide),h 19 (by decide)]) (fun b h=>by simp only [h 17 (by decide),h 18 (by decide),h 19 (by decide),cond_true]) [(15,.pt 53 0),(14,.pt 52 0),(52,.agg (uL e c k)),(51,.rp (((uL e c k):List AV)++((enc aI e).drop (((c.getD (k+1) 0).toNat+1)*3)))),(50,.i (c.getD (k+1) 0)),(49,.rp (([.i (c.getD (k+1) 0)]:List AV)++((enc eI c).drop (((k+1)+1)*1)))),(48,.i ((k+1:Nat):Int)),(47,.i (k:Int)),(46,.q eI c),(45,.q aI e),(44,.pt 1 1),(43,.agg (pf e c k)),(42,.rp (((pf e c k):List AV)++((enc aI e).drop (((c.getD k 0).toNat+1)*3)))),(41,.i (c.getD k 0)),(40,.rp (([.i (c.getD k 0)]:List AV)++((enc eI c).drop ((k+1)*1)))),(39,.i (k:Int)),(38,.q eI c),(37,.q aI e),(36,.pt 1 1)] mixed (by kernel_rfl) ?_ ?_))
  ·iterate 20 (refine ⟨?_,?_⟩;rotate_left)
   trivial
   ·exact sU (fun b=>sF (.pt 1 0) (.pt 1 1) iM ZJ)
   ·exact sU (fun b=>sL i7)
   ·exact sU (fun b=>dW 38 fun st ap hE=>dz (av:=.q eI c) (.inl rfl) rfl rfl (hE 7 rfl) (by rw [ap];rfl))
   ·exact sU (fun b=>dW 39 fun st ap hE=>dz (av:=.i (k:Int)) (.inl rfl) rfl rfl (hE 12 rfl) (by rw [ap];rfl))
   ·exact sU (fun b=>dW 40 fun st ap hE=>kD 0 rfl rfl rfl cG bC (hE 38 rfl) (hE 39 rfl) (fun _=>rfl) rfl oo (by rw [ap];rfl))
   ·exact sU (fun b=>dW 41 fun st ap hE=>i3 (av:=.i (c.getD k 0)) rfl rfl rfl Y0 (hE 40 rfl) rfl (by rw [ap];rfl))
   ·exact sU (fun b=>dW 42 fun st ap hE=>YZ dS rfl rfl rfl iR i4 (hE 37 rfl) (hE 41 rfl) (fun _=>rfl) rfl om oo (by rw [ap];rfl))
   ·exact sU (fun b=>dW 43 fun st ap hE=>jO (cells':=(pf e c k)) rfl rfl rfl tA i4 (hE 42 rfl) rfl rfl rfl (by rw [ap];rfl))
   ·exact sU (fun b=>sF (.pt 1 0) (.pt 1 1) iM ZJ)
   ·exact sU (fun b=>sL i7)
   ·exact sU (fun b=>dW 46 fun st ap hE=>dz (av:=.q eI c) (.inl rfl) rfl rfl (hE 7 rfl) (by rw [ap];rfl))
   ·exact sU (fun b=>dW 47 fun st ap hE=>dz (av:=.i (k:Int)) (.inl rfl) rfl rfl (hE 12 rfl) (by rw [ap];rfl))
   ·exact sU (fun b=>sB (.int .i64 ((k+1:Nat):Int)) (addN om))
   ·exact sU (fun b=>dW 49 fun st ap hE=>kD 0 rfl rfl rfl cG bC (hE 46 rfl) (hE 48 rfl) (fun _=>rfl) rfl oo (by rw [ap];rfl))
   ·exact sU (fun b=>dW 50 fun st ap hE=>i3 (av:=.i (c.getD (k+1) 0)) rfl rfl rfl Y0 (hE 49 rfl) rfl (by rw [ap];rfl))
   ·exact sU (fun b=>dW 51 fun st ap hE=>YZ dS rfl rfl rfl iR i4 (hE 45 rfl) (hE 50 rfl) (fun _=>rfl) rfl om oo (by rw [ap];rfl))
   ·exact sU (fun b=>dW 52 fun st ap hE=>jO (cells':=(uL e c k)) rfl rfl rfl tA i4 (hE 51 rfl) rfl rfl rfl (by rw [ap];rfl))
   ·exact fx (by decide) ⟨rfl,(fun f_ h_=>by cases h_<;>exact bX rfl),fun b c5 eT fh st ap hE=>by have BL:=AE (i:=17) (j:=19) (by kernel_rfl) fh c5;obtain ⟨cm,dj⟩:=st;have di:dj=(ah (ah (nn e g t) 52 .free) 53 (cond (b 18) (.live aad) .free)):=Eq.trans ap (by simp only [c5,BL,cond_false,cond_true]);subst di;exact fW 52 rfl rfl rfl rfl tC rfl ⟨rfl,fun bk=>by by_cases bK:bk=52<;>by_cases bT:bk=53<;>first|(subst bK;first|rfl|(simp only [BL];rfl))|(subst bT;first|rfl|(simp only [BL];rfl))|simp only [dK,ah,bD bK,bD bT,cond_false]⟩⟩
   ·exact fx (by decide) ⟨rfl,(fun f_ h_=>by cases h_<;>exact bX rfl),fun b c5 eT fh st ap hE=>by obtain ⟨cm,dj⟩:=st;have di:dj=(ah (ah (nn e g t) 52 (cond (b 19) (.live ⟨(pf e c k),118,1⟩) (cond (b 17) (.live aad) .free))) 53 .free):=Eq.trans ap (by simp only [c5,cond_false,cond_true]);subst di;exact fW 53 rfl rfl rfl rfl tC rfl ⟨rfl,fun bk=>by by_cases bK:bk=52<;>by_cases bT:bk=53<;>first|(subst bK;rfl)|(subst bT;rfl)|simp only [dK,ah,bD bK,bD bT,cond_false]⟩⟩
   exact fx (by decide) ⟨rfl,(fun f_ h_=>by cases h_<;>exact bX rfl),fun b c5 eT fh st ap hE=>by have BM:=nJ (j:=17) (by kernel_rfl) eT;obtain ⟨cm,dj⟩:=st;have di:dj=(ah (ah (nn e g t) 52 (.live aad)) 53 (cond (b 18) (.live aad) .free)):=Eq.trans ap (by simp only [c5,BM,cond_false,cond_true]);subst di;exact mQ rfl rfl rfl i4 (hE 14 rfl) rfl (hE 43 rfl) rfl rfl (Nat.le_of_ble_eq_true rfl) rfl rfl ⟨rfl,fun bk=>by by_cases bK:bk=52<;>by_cases bT:bk=53<;>first|(subst bK;first|rfl|(simp only [BM];rfl))|(subst bT;first|rfl|(simp only [BM];rfl))|simp only [dK,ah,bD bK,bD bT,cond_false]⟩⟩
  refine oG (qS i4 ?_);refine ak (aB (aj (mV ?_)));refine ak (bf (cF (fun j=>⟨(yo p c e g k j),(uM e g t c k)⟩) (fun j=>True) (g.length) ?_ trivial (fun j lr hinv=>?_)))
  ·skip;exact iL [(1,1),(52,2),(53,3)] [((1,1),.live _),((52,2),.live _),((53,3),.live _)] ⟨aP rfl rfl,aP (o:=⟨(pf e c k),118,1⟩) rfl rfl,aP (o:=⟨(uL e c k),118,1⟩) rfl rfl,trivial⟩
  have hkj:=Kh (A:=(e.getD (c.getD k 0).toNat dS)) (B:=(e.getD (c.getD (k+1) 0).toNat dS)) (pts:=g) (j:=j);refine aB (aj (mV ?_));refine fG (.pt 1 3) gU gb ?_;refine oO iw ?_;refine oG (qN gI ?_);refine bB ?_;refine rU (upd (yo p c e g k j) 57 (.b (decide ((j:Int)<(g.length:Int))))) (uM e g t c k) ?_;refine cD (fun hc1=>?_) fun hc1=>?_
  ·skip;have hf2:=of_decide_eq_true hc1;refine aR (aB (bf (aj (fG (.pt 1 3) gU gb ?_))));refine oO iw ?_;refine mV ?_;refine oG (qX dP gI jk ?_);refine oG (qF (Md g j) (Md g j) AZ bC ?_);refine oV Y0 ?_;refine mV ?_;refine rU (upd (yo p c e g k j) 17 (.i ((g.getD j dP).node))) (uM e g t c k) ?_;refine aj (fG (.pt 2 1) ry bC ?_);refine oV Y0 ?_;refine mV ?_;refine bB ?_;refine mV ?_;refine dA 5 75 (.b ((((e.getD (c.getD k 0).toNat dS).a)==((g.getD j dP).node))||(((e.getD (c.getD k 0).toNat dS).b)==((g.getD j dP).node)))) ?_ ?_
   ·refine (Bool.eq_false_or_eq_true (((e.getD (c.getD k 0).toNat dS).a)==((g.getD j dP).node))).elim (fun hg3=>?_) (fun hg3=>?_)
    ·skip;have eb:=(beq_iff_eq).1 hg3;refine nG hg3 ?_;refine nG hg3 ?_;refine nG hg3 ?_;refine nG hg3 ?_;refine oG (qP (((e.getD (c.getD k 0).toNat dS).a)==((g.getD j dP).node)) (.b true) hg3 ?_);exact ak (bS (bR 75 _ _ (by rw [hg3]<;>rfl) lO))
    have g0:=(beq_eq_false_iff_ne).1 hg3;refine oY hg3 (qF (.pt 2 0) (.pt 2 2) pH bC ?_);refine oY hg3 (qL (.i ((e.getD (c.getD k 0).toNat dS).b)) Y0 ?_);refine oY hg3 (qM (.i ((g.getD j dP).node)) ?_);refine oY hg3 (qB (.bool (((e.getD (c.getD k 0).toNat dS).b)==((g.getD j dP).node))) rfl ?_);refine oG (qP (((e.getD (c.getD k 0).toNat dS).a)==((g.getD j dP).node)) (.b (((e.getD (c.getD k 0).toNat dS).b)==((g.getD j dP).node))) hg3 ?_);exact ak (bS (bR 75 _ _ (by rw [hg3]<;>rfl) lO))
   refine mV ?_;refine dA 11 87 (.b (((((e.getD (c.getD k 0).toNat dS).a)==((g.getD j dP).node))||(((e.getD (c.getD k 0).toNat dS).b)==((g.getD j dP).node)))&&((((e.getD (c.getD (k+1) 0).toNat dS).a)==((g.getD j dP).node))||(((e.getD (c.getD (k+1) 0).toNat dS).b)==((g.getD j dP).node))))) ?_ ?_
   ·refine (Bool.eq_false_or_eq_true ((((e.getD (c.getD k 0).toNat dS).a)==((g.getD j dP).node))||(((e.getD (c.getD k 0).toNat dS).b)==((g.getD j dP).node)))).elim (fun eW=>?_) (fun eW=>?_)
    ·skip;refine oY eW (qF (.pt 3 0) (.pt 3 1) ry bC ?_);refine oY eW (qL (.i ((e.getD (c.getD (k+1) 0).toNat dS).a)) Y0 ?_);refine oY eW (qM (.i ((g.getD j dP).node)) ?_);refine oY eW (qB (.bool (((e.getD (c.getD (k+1) 0).toNat dS).a)==((g.getD j dP).node))) rfl ?_);refine oY eW (qM (.b (((e.getD (c.getD (k+1) 0).toNat dS).a)==((g.getD j dP).node))) ?_);refine dA 5 86 (.b ((((e.getD (c.getD (k+1) 0).toNat dS).a)==((g.getD j dP).node))||(((e.getD (c.getD (k+1) 0).toNat dS).b)==((g.getD j dP).node)))) ?_ ?_
     ·refine (Bool.eq_false_or_eq_true (((e.getD (c.getD (k+1) 0).toNat dS).a)==((g.getD j dP).node))).elim (fun km=>?_) (fun km=>?_)
      ·skip;have il:=(beq_iff_eq).1 km;refine nG km ?_;refine nG km ?_;refine nG km ?_;refine nG km ?_;refine oY eW (qP (((e.getD (c.getD (k+1) 0).toNat dS).a)==((g.getD j dP).node)) (.b true) km ?_);exact ak (bS (bR 86 _ _ (by rw [km]<;>rfl) lO))
      have lz:=(beq_eq_false_iff_ne).1 km;refine oY km (qF (.pt 3 0) (.pt 3 2) pH bC ?_);refine oY km (qL (.i ((e.getD (c.getD (k+1) 0).toNat dS).b)) Y0 ?_);refine oY km (qM (.i ((g.getD j dP).node)) ?_);refine oY km (qB (.bool (((e.getD (c.getD (k+1) 0).toNat dS).b)==((g.getD j dP).node))) rfl ?_);refine oY eW (qP (((e.getD (c.getD (k+1) 0).toNat dS).a)==((g.getD j dP).node)) (.b (((e.getD (c.getD (k+1) 0).toNat dS).b)==((g.getD j dP).node))) km ?_);exact ak (bS (bR 86 _ _ (by rw [km]<;>rfl) lO))
     refine oG (qP ((((e.getD (c.getD k 0).toNat dS).a)==((g.getD j dP).node))||(((e.getD (c.getD k 0).toNat dS).b)==((g.getD j dP).node))) (.b ((((e.getD (c.getD (k+1) 0).toNat dS).a)==((g.getD j dP).node))||(((e.getD (c.getD (k+1) 0).toNat dS).b)==((g.getD j dP).node)))) eW ?_);exact ak (bS (bR 87 _ _ (by rw [eW]<;>rfl) lO))
    obtain ⟨pZ,p5⟩:=gd eW;have kL:=(beq_eq_false_iff_ne).1 pZ;have kK:=(beq_eq_false_iff_ne).1 p5;refine nG eW ?_;refine nG eW ?_;refine nG eW ?_;refine nG eW ?_;refine nG eW ?_;refine Y2 rfl rfl rfl rfl (by intro h;cases h) rfl rfl ?_;refine Y2 rfl rfl rfl rfl (by intro h;cases h) rfl rfl ?_;refine Y2 rfl rfl rfl rfl (by intro h;cases h) rfl rfl ?_;refine Y2 rfl rfl rfl rfl (by intro h;cases h) rfl rfl ?_;refine nG eW ?_;refine oG (qP ((((e.getD (c.getD k 0).toNat dS).a)==((g.getD j dP).node))||(((e.getD (c.getD k 0).toNat dS).b)==((g.getD j dP).node))) (.b false) eW ?_);exact ak (bS (bR 87 _ _ (by rw [eW]<;>rfl) lO))
   refine ak (rT (upd (upd (yo p c e g k j) 17 (.i ((g.getD j dP).node))) 87 (.b (((((e.getD (c.getD k 0).toNat dS).a)==((g.getD j dP).node))||(((e.getD (c.getD k 0).toNat dS).b)==((g.getD j dP).node)))&&((((e.getD (c.getD (k+1) 0).toNat dS).a)==((g.getD j dP).node))||(((e.getD (c.getD (k+1) 0).toNat dS).b)==((g.getD j dP).node)))))) (uM e g t c k) ?_);refine jl ⟨(upd (upd (upd (upd (upd (yn p c e g k) 13 (.i (kJ (e.getD (c.getD k 0).toNat dS) (e.getD (c.getD (k+1) 0).toNat dS) g (j+1)))) 14 (.pt 2 0)) 15 (.pt 3 0)) 16 (.i (j:Int))) 17 (.i ((g.getD j dP).node))),(uM e g t c k)⟩ (fun s h=>h) ?_ ?_
   ·skip;refine cD (fun hc2=>?_) fun hc2=>?_
    ·skip;obtain ⟨Yd,Ye⟩:=fE hc2;have uN:Y_ (e.getD (c.getD k 0).toNat dS) (e.getD (c.getD (k+1) 0).toNat dS) (g.getD j dP)=true:=hc2;refine bm (mV ?_);refine ak ?_;show ck _ _ _;exact iL [(1,1),(2,2),(3,3)] [((1,1),.live _),((2,2),.live _),((3,3),.live _)] ⟨aP rfl rfl,aP rfl rfl,aP rfl rfl,trivial⟩ (he:=(sS rfl (sS rfl (sM rfl (sM rfl (sS (by exact congrArg (fun n_:Int=>AV.v (.int .i64 n_)) (by first|exact Ki om uN|exact Kj om uN)) (sS rfl (sS rfl (sS rfl (sS rfl (sS rfl (sS rfl (sM rfl (sS rfl bQ))))))))))))))
    have uN:Y_ (e.getD (c.getD k 0).toNat dS) (e.getD (c.getD (k+1) 0).toNat dS) (g.getD j dP)=false:=hc2;refine aR ?_;show ck _ _ _;exact iL [(1,1),(2,2),(3,3)] [((1,1),.live _),((2,2),.live _),((3,3),.live _)] ⟨aP rfl rfl,aP rfl rfl,aP rfl rfl,trivial⟩ (he:=(sS rfl (sS rfl (sM rfl (sM rfl (sS (by exact congrArg (fun n_:Int=>AV.v (.int .i64 n_)) (by first|exact Ki om uN|exact Kj om uN)) (sS rfl (sS rfl (sS rfl (sS rfl (sS rfl (sS rfl (sM rfl (sS rfl bQ))))))))))))))
   refine bm (mV ?_);refine oG (qB (.int .i64 ((j+1:Nat):Int)) (addN om) ?_);refine mV ?_;refine ak ?_;show _∧_;refine ⟨by omega,trivial,?_⟩;exact iL [(1,1),(2,2),(3,3)] [((1,1),.live _),((2,2),.live _),((3,3),.live _)] ⟨aP rfl rfl,aP rfl rfl,aP rfl rfl,trivial⟩
  have lP:=of_decide_eq_false hc1;have hjk:(kJ (e.getD (c.getD k 0).toNat dS) (e.getD (c.getD (k+1) 0).toNat dS) g j)=(mc e g c k):=by unfold mc;rw [show j=g.length by omega]
  refine cu (aB (aj (mV ?_)));refine mV ?_;refine bB ?_;refine ak (jl ⟨(upd (upd (upd (upd (upd (Er p c e g) 10 (.i (iy e g c p (k+1)))) 11 (.i (stM e g c p k))) 12 (.i (k:Int))) 13 (.i (mc e g c k))) 16 (.i (j:Int))),(nn e g t)⟩ (fun s h=>h) ?_ ?_)
  ·skip;refine cD (fun hc3=>?_) fun hc3=>?_
   ·skip;have nS:=of_decide_eq_true hc3;refine bm (mV ?_);refine mV ?_;refine oG (qB (.int .i64 ((iy e g c p k)+(kJ (e.getD (c.getD k 0).toNat dS) (e.getD (c.getD (k+1) 0).toNat dS) g j))) (gH om) ?_);refine mV ?_;refine ak ?_;show ck _ _ _;exact iI 1 1 rfl (he:=(sS rfl (sS (by exact congrArg (fun n_:Int=>AV.v (.int .i64 n_)) hjk) (sS rfl (sS rfl (sS (by exact congrArg (fun n_:Int=>AV.v (.int .i64 n_)) (by first|(rw [hjk];exact Jl om)|exact Jm om)) (sS rfl (sS rfl (sS rfl (sM rfl (sS rfl bQ)))))))))))
   have oU:=of_decide_eq_false hc3;refine aR ?_;show ck _ _ _;exact iI 1 1 rfl (he:=(sS rfl (sS (by exact congrArg (fun n_:Int=>AV.v (.int .i64 n_)) hjk) (sS rfl (sS rfl (sS (by exact congrArg (fun n_:Int=>AV.v (.int .i64 n_)) (by first|(rw [hjk];exact Jl om)|exact Jm om)) (sS rfl (sS rfl (sS rfl (sM rfl (sS rfl bQ)))))))))))
  refine aj (mV ?_);refine mV ?_;refine bB ?_;refine ak (jl ⟨(upd (upd (upd (upd (upd (Er p c e g) 10 (.i (iy e g c p (k+1)))) 11 (.i (stM e g c p (k+1)))) 12 (.i (k:Int))) 13 (.i (mc e g c k))) 16 (.i (j:Int))),(nn e g t)⟩ (fun s h=>h) ?_ ?_)
  ·skip;refine cD (fun hc4=>?_) fun hc4=>?_
   ·skip;have ZW:=(beq_iff_eq).1 hc4;refine bm (mV ?_);refine mV ?_;refine ak ?_;show ck _ _ _;exact iI 1 1 rfl (he:=(sS rfl (sS rfl (sS rfl (sS (by exact congrArg (fun n_:Int=>AV.v (.int .i64 n_)) (by first|exact Jn om|exact Jo om)) (sS rfl (sS rfl (sS rfl (sS rfl (sM rfl (sS rfl bQ)))))))))))
   have mx:=(beq_eq_false_iff_ne).1 hc4;refine aR ?_;show ck _ _ _;exact iI 1 1 rfl (he:=(sS rfl (sS rfl (sS rfl (sS (by exact congrArg (fun n_:Int=>AV.v (.int .i64 n_)) (by first|exact Jn om|exact Jo om)) (sS rfl (sS rfl (sS rfl (sS rfl (sM rfl (sS rfl bQ)))))))))))
  refine bm (mV ?_);refine oG (qB (.int .i64 ((k+1:Nat):Int)) (addN om) ?_);refine mV ?_;refine ak ?_;show _∧_;refine ⟨by omega,om,?_⟩;exact iI 1 1 rfl
 have nT:=of_decide_eq_false hc0;have hke:k=c.length-1:=by omega
 obtain ⟨N_,hN⟩:∃n:Nat,(n:Int)=(iy e g c p k):=⟨_,Int.toNat_of_nonneg hnr.1⟩
 obtain ⟨M_,hM⟩:∃n:Nat,(n:Int)=(stM e g c p k):=⟨_,Int.toNat_of_nonneg hmr.1⟩
 refine cu (aB (cy ⟨(upd (upd (upd (upd (upd (upd (upd (yl p) 6 vN) 7 (.q eI c)) 8 (.q eN (bz e g c))) 10 (.i (N_:Int))) 11 (.i (M_:Int))) 12 (.i (k:Int))) 33 (.b (decide ((k:Int)<((c.length:Int)-1))))),aG⟩ ?_ ?_))
 ·skip;refine (kN [] [] rfl (fun _ h=>h) trivial (cH 33 (.b (decide ((k:Int)<((c.length:Int)-1)))) rfl (cH 12 (.i (k:Int)) rfl (cH 11 (.i (stM e g c p k)) rfl (cH 10 (.i (iy e g c p k)) rfl (cH 8 (.q eN (bz e g c)) rfl (cH 7 (.q eI c) rfl (cH 6 vN rfl (cH 2 (.i (p:Int)) rfl jP))))))))).trans ?_;exact iN (he:=(sS rfl (sS rfl (sS (by exact congrArg (fun n_:Int=>AV.v (.int .i64 n_)) hM.symm) (sS (by exact congrArg (fun n_:Int=>AV.v (.int .i64 n_)) hN.symm) (sS rfl (sS rfl (sS rfl (sS rfl bQ)))))))))
 refine aj (mV ?_);refine mV ?_;refine oG (qB (.int .i64 ((N_:Int)+(M_:Int))) (gH om) ?_);refine mO ?_;refine oG (qN ig ?_);refine bB ?_;refine rU (upd (upd (upd (upd (upd none_ 6 vN) 8 (.q eN (bz e g c))) 10 (.i (N_:Int))) 11 (.i (M_:Int))) 103 (.b (decide (((N_:Int)+(M_:Int))>((bz e g c).length:Int))))) aG ?_;refine cD (fun f7=>?_) fun f7=>?_
 ·skip;have oW:=of_decide_eq_true f7;refine aj (mV ?_);refine ak (cy _ (d8 rfl (fun _ h=>h) (dy 6 (.ro 0 []) .nil d9)) ?_);exact aV (bq (av:=.ro 0 []) rfl rfl (by unfold fu;rw [if_pos (by rw [←hke];omega)];rfl))
 have rR:=of_decide_eq_false f7;refine aR (aj (mO ?_));refine mV ?_;refine mV ?_;refine mV ?_;refine oG (qB (.int .i64 ((N_+M_:Nat):Int)) (Uz om) ?_);refine oG (zv (l:=N_) (hgh:=N_+M_) (cells':=enc eN (((bz e g c).take (N_+M_)).drop N_)) rfl rfl rfl ig lK rfl ⟨_,rfl⟩ ⟨_,rfl⟩ oo oo (pN (f:=eN) (fun _=>rfl) _ _ _) ?_);refine mO ?_;refine rU (upd none_ 6 (.ro ((N_+M_)-N_) (enc eN (((bz e g c).take (N_+M_)).drop N_)))) aG ?_;refine aV ?_;have e_:fu e g c p=((bz e g c).take (N_+M_)).drop N_:=by unfold fu;rw [if_neg (by rw [←hke];omega), ←hke, ←hN, ←hM,show ((N_:Int)+(M_:Int)).toNat=N_+M_ by omega,show ((N_:Int)).toNat=N_ by omega]
 have l_:(fu e g c p).length=N_+M_-N_:=by rw [e_,List.length_drop,List.length_take];omega
 exact bq (av:=.ro ((N_+M_)-N_) (enc eN (((bz e g c).take (N_+M_)).drop N_))) rfl rfl (by rw [l_,e_])
abbrev Es (ls:List Lk):Nat→AV:=(upd (upd (upd none_ 1 (.q aQ ls)) 2 (.pt 2 0)) 4 vN)
abbrev Et (c:List ax) (a:List (List Int)):List AV:=[.one,.q aI c,.one,.one,.q YO a,.one,.one,.one,.one,.one]
abbrev Eu (a:List (List Int)) (ls:List Lk) (k:Nat) (c:List ax):Nat→aK:=(ah (ah aG 1 (.live ⟨(enc eB (Y7 a ls k)),4,1⟩)) 2 (.live ⟨(Et c a),35,1⟩))
theorem FK (c:List ax) (a:List (List Int)) (ls:List Lk) (hs:c.length≤65536) (hro:a.length≤65536) (hll:ls.length≤65536) (hlk:∀x,x∈ls→kj a x):Fn Tryz.prog 34 [.agg [.one,.q aI c,.one,.one,.q YO a,.one,.one,.one,.one,.one],.q aQ ls] (.q eB (Y7 a ls c.length)):=by
 refine cf (N:=23) Tryz.func34 rfl rfl (b_ rfl) (by simp) (fun w0 X bJ=>?_);refine aj (oG (qW 51 ?_));refine mV ?_;refine ak (aj (mV ?_));refine ak (aB (aj (mV ?_)));refine rU (upd (upd (upd (upd (upd none_ 1 (.q aQ ls)) 2 (.pt 51 0)) 4 vN) 5 vN) 6 (.i 0)) (ah aG 51 (.live ⟨(Et c a),35,1⟩)) ?_;refine bf (cF (fun k=>⟨(upd (upd (Es ls) 5 (.sl 1 0 ((Y7 a ls k).length))) 6 (.i (k:Int))),(Eu a ls k c)⟩) (fun k=>True) (c.length) ?_ trivial (fun k dq hinv=>?_))
 ·skip;refine (iz 5 52 4 1 rfl rfl).trans ?_;exact iL [(52,1),(51,2)] [((52,1),.live _),((51,2),.live _)] ⟨aP (o:=⟨[],4,1⟩) rfl rfl,aP rfl rfl,trivial⟩
 have hsl:=Hn (routes:=a) (ls:=ls) (n:=k);refine aB (aj (mV ?_));refine fG (.pt 2 1) iM ZJ ?_;refine oO i7 ?_;refine oG (qN iR ?_);refine bB ?_;refine rU (upd (upd (upd (Es ls) 5 (.sl 1 0 ((Y7 a ls k).length))) 6 (.i (k:Int))) 11 (.b (decide ((k:Int)<(c.length:Int))))) (Eu a ls k c) ?_;refine cD (fun hc0=>?_) fun hc0=>?_
 ·skip;have hf1:=of_decide_eq_true hc0;refine aR (aB (bf (bm (mS ?_))));refine oG (ZI (Et c a) du cC ?_);refine mO ?_;refine mV ?_;refine oG (qC (zW a ls (k:Int) oo oo oo) Cl ?_);refine bB ?_;refine oG (Y8 rfl rfl rfl eF xy (by decide) (by decide) rfl rfl ?_);refine oG (hS (f:=eB) (l:=Y7 a ls k) 53 (decide ((fw a ls (k:Int))≥0):Bool) rfl rfl rfl rfl eF ng rfl (by decide) rfl rfl rfl rfl rfl rfl (fun _=>rfl) rfl rfl oo oo rfl ?_);refine mS ?_;refine ak (rT (upd (upd (Es ls) 5 (.sl 53 0 (((Y7 a ls k)++[(decide ((fw a ls (k:Int))≥0):Bool)]).length))) 6 (.i (k:Int))) (ah (ah (Eu a ls k c) 1 .dead) 53 (.live ⟨(enc eB ((Y7 a ls k)++[(decide ((fw a ls (k:Int))≥0):Bool)])),4,1⟩)) ?_);refine bm (mV ?_);refine oG (qB (.int .i64 ((k+1:Nat):Int)) (addN om) ?_);refine mV ?_;refine ak ?_;show _∧_;have hs_:=O9 (routes:=a) (ls:=ls) (n:=k);refine ⟨by omega,trivial,?_⟩;exact iL [(53,1),(2,2)] [((53,1),.live _),((2,2),.live _)] ⟨aP rfl (by exact congrArg (fun l_=>ay.mk (enc eB l_) 4 1) hs_),aP rfl rfl,trivial⟩ (he:=(sS rfl (sM (by exact congrArg (AV.sl 1 0) (congrArg List.length hs_.symm)) (sS rfl (sM rfl (sS rfl bQ))))))
 have hf2:=of_decide_eq_false hc0;refine cu (aj (mS ?_));refine mS ?_;refine ak (cy _ (d8 rfl (fun _ h=>h) (dy 4 (.q eB (Y7 a ls k)) (fv (id:=1) (n:=(Y7 a ls k).length) (o:=⟨(enc eB (Y7 a ls k)),4,1⟩) rfl (YW (fun _=>rfl) (by first|rfl|(simp;done)))) d9)) ?_);exact aV (bq (av:=.ro ((Y7 a ls k).length) (enc eB (Y7 a ls k))) rfl rfl (by rw [show k=c.length by omega]))
abbrev Xy (ls:List Lk) (i:Nat):AV:=(.q aC ((ls.getD i ao).pieces))
abbrev yp (ls:List Lk):Nat→AV:=(upd (upd (upd none_ 1 (.q aQ ls)) 2 (.pt 2 0)) 4 vN)
abbrev Me (c:List ax) (a:List aH) (d:List (List Int)) (ls:List Lk) (i k j:Nat):AV:=(.rp (([.i (((fu c a (d.getD (ls.getD i ao).route.toNat []) k).getD j dN).point),.b (((fu c a (d.getD (ls.getD i ao).route.toNat []) k).getD j dN).right)]:List AV)++((enc eN (fu c a (d.getD (ls.getD i ao).route.toNat []) k)).drop ((j+1)*2))))
abbrev Ev (ls:List Lk) (i:Nat):AV:=(.rp (([.q aC ((ls.getD i ao).pieces)]:List AV)++((enc aQ ls).drop ((i+1)*4))))
abbrev Ew (ls:List Lk) (c:List ax) (a:List aH) (d:List (List Int)) (i k:Nat):Nat→AV:=(upd (upd (upd (yp ls) 5 (.sl 1 0 ((hK c a (d.getD (ls.getD i ao).route.toNat []) (ls.getD i ao).pieces (hI c a d ls i) k).length))) 6 (.i (i:Int))) 7 (.i (k:Int)))
abbrev qO (c:List ax) (a:List aH) (d:List (List Int)):List AV:=[.one,.q aI c,.one,.q aE a,.q YO d,.one,.one,.one,.one,.one]
abbrev Ex (ls:List Lk) (c:List ax) (a:List aH) (d:List (List Int)) (i k j:Nat):Nat→AV:=(upd (upd (upd (upd (upd (yp ls) 5 (.sl 1 0 ((hN (fu c a (d.getD (ls.getD i ao).route.toNat []) k) (hK c a (d.getD (ls.getD i ao).route.toNat []) (ls.getD i ao).pieces (hI c a d ls i) k) j).length))) 6 (.i (i:Int))) 7 (.i (k:Int))) 8 (.q eN (fu c a (d.getD (ls.getD i ao).route.toNat []) k))) 9 (.i (j:Int)))
abbrev Ey (ls:List Lk) (i:Nat):List AV:=[.i ((ls.getD i ao).route),.i ((ls.getD i ao).cX),.i ((ls.getD i ao).ends),.q aC ((ls.getD i ao).pieces)]
abbrev uO (ls:List Lk) (i:Nat):AV:=(.rp (((Ey ls i):List AV)++((enc aQ ls).drop ((i+1)*4))))
abbrev Ez (c:List ax) (a:List aH) (d:List (List Int)) (ls:List Lk) (i k:Nat):Nat→aK:=(ah (ah aG 1 (.live ⟨(enc eB (hK c a (d.getD (ls.getD i ao).route.toNat []) (ls.getD i ao).pieces (hI c a d ls i) k)),4,1⟩)) 2 (.live ⟨(qO c a d),35,1⟩))
abbrev EA (c:List ax) (a:List aH) (d:List (List Int)) (ls:List Lk) (i k j:Nat):Nat→aK:=(ah (ah aG 1 (.live ⟨(enc eB (hN (fu c a (d.getD (ls.getD i ao).route.toNat []) k) (hK c a (d.getD (ls.getD i ao).route.toNat []) (ls.getD i ao).pieces (hI c a d ls i) k) j)),4,1⟩)) 2 (.live ⟨(qO c a d),35,1⟩))
theorem Ho (c:List ax) (a:List aH) (d:List (List Int)) (ls:List Lk) (hs:c.length≤65536) (hp:a.length≤65536) (hro:d.length≤65536) (hll:ls.length≤65536) (hlk:∀x,x∈ls→kj d x) (hin:∀x,x∈ls→∀s,s∈(d.getD x.route.toNat [])→0≤s∧s<(c.length:Int)):Fn Tryz.prog 35 [.agg [.one,.q aI c,.one,.q aE a,.q YO d,.one,.one,.one,.one,.one],.q aQ ls] (.q eB (gW c a d ls)):=by
 refine cf (N:=77) Tryz.func35 rfl rfl (b_ rfl) (by simp) (fun w0 X bJ=>?_);refine aj (oG (qW 51 ?_));refine mV ?_;refine ak (aj (fG (.pt 51 3) gU gb ?_));refine oO iw ?_;refine oG (qN gI ?_);refine oG (pC (n:=a.length) (f:=eB) 52 (false:Bool) rfl rfl rfl eF ng rfl rfl rfl rfl om om rfl rfl ?_);refine mS ?_;refine rU (upd (upd (upd (upd none_ 1 (.q aQ ls)) 2 (.pt 51 0)) 4 vN) 5 (.sl 52 0 ((List.replicate a.length (false:Bool)).length))) (ah (ah aG 51 (.live ⟨(qO c a d),35,1⟩)) 52 (.live ⟨(enc eB (List.replicate a.length (false:Bool))),4,1⟩)) ?_;refine aB (aj (mV ?_));refine ak (bf (cF (fun i=>⟨(upd (upd (yp ls) 5 (.sl 1 0 ((hI c a d ls i).length))) 6 (.i (i:Int))),(ah (ah aG 1 (.live ⟨(enc eB (hI c a d ls i)),4,1⟩)) 2 (.live ⟨(qO c a d),35,1⟩))⟩) (fun i=>True) (ls.length) ?_ trivial (fun i tP hinv=>?_)))
 ·skip;exact iL [(52,1),(51,2)] [((52,1),.live _),((51,2),.live _)] ⟨aP rfl rfl,aP rfl rfl,trivial⟩
 have hil:=A5 (secs:=c) (pts:=a) (routes:=d) (ls:=ls) i;refine aB (aj (mV ?_));refine mO ?_;refine oG (qN fA ?_);refine bB ?_;refine rU (upd (upd (upd (yp ls) 5 (.sl 1 0 ((hI c a d ls i).length))) 6 (.i (i:Int))) 17 (.b (decide ((i:Int)<(ls.length:Int))))) (ah (ah aG 1 (.live ⟨(enc eB (hI c a d ls i)),4,1⟩)) 2 (.live ⟨(qO c a d),35,1⟩)) ?_;refine cD (fun hc0=>?_) fun hc0=>?_
 ·skip;have hf1:=of_decide_eq_true hc0;have hxk:=hlk _ (c8 (l:=ls) (k:=i) ao om);have j3:=hxk.r;have hxp:=hxk.ps;have hxl:=hxk.ln;have hxs:=hin _ (c8 (l:=ls) (k:=i) ao om);refine aR (aB (bf (aj (mV ?_))));refine ak (bf (cF (fun k=>⟨(Ew ls c a d i k),(Ez c a d ls i k)⟩) (fun k=>True) ((ls.getD i ao).pieces.length) ?_ trivial (fun k dq hinv=>?_)))
  ·skip;exact iL [(1,1),(2,2)] [((1,1),.live _),((2,2),.live _)] ⟨aP rfl rfl,aP rfl rfl,trivial⟩
  have hkl:=wc (secs:=c) (pts:=a) (path:=(d.getD (ls.getD i ao).route.toNat [])) (ps:=(ls.getD i ao).pieces) (out:=hI c a d ls i) k;refine aB (aj (mV ?_));refine mO ?_;refine mV ?_;refine oG (qX ao fA gj ?_);refine oG (qF (uO ls i) (Ev ls i) ji d3 ?_);refine oO dX ?_;refine oG (qN cq ?_);refine bB ?_;refine rU (upd (Ew ls c a d i k) 27 (.b (decide ((k:Int)<((ls.getD i ao).pieces.length:Int))))) (Ez c a d ls i k) ?_;refine cD (fun hc1=>?_) fun hc1=>?_
  ·skip;have hf2:=of_decide_eq_true hc1;refine aR (aB (bf (aB (aj (mO ?_)))));refine mV ?_;refine oG (qX ao fA gj ?_);refine oG (qF (uO ls i) (Ev ls i) ji d3 ?_);refine oO dX ?_;refine mV ?_;refine oG (qX (0:Int) cq cR ?_);refine oV dB ?_;refine bB ?_;refine mV ?_;refine dA 15 54 (.b (((((ls.getD i ao).pieces).getD k 0)==0)&&(((k:Int)==0)||((((ls.getD i ao).pieces).getD ((k:Int)-1).toNat 0)==0)))) ?_ ?_
   ·refine (Bool.eq_false_or_eq_true ((((ls.getD i ao).pieces).getD k 0)==0)).elim (fun hg3=>?_) (fun hg3=>?_)
    ·skip;have eb:=(beq_iff_eq).1 hg3;refine oY hg3 (qM (.i (k:Int)) ?_);refine oY hg3 (qB (.bool ((k:Int)==0)) rfl ?_);refine oY hg3 (qM (.b ((k:Int)==0)) ?_);refine dA 11 53 (.b (((k:Int)==0)||((((ls.getD i ao).pieces).getD ((k:Int)-1).toNat 0)==0))) ?_ ?_
     ·refine (Bool.eq_false_or_eq_true ((k:Int)==0)).elim (fun hg5=>?_) (fun hg5=>?_)
      ·skip;have fB:=(beq_iff_eq).1 hg5;refine nG hg5 ?_;refine nG hg5 ?_;refine nG hg5 ?_;refine nG hg5 ?_;refine nG hg5 ?_;refine nG hg5 ?_;refine nG hg5 ?_;refine nG hg5 ?_;refine nG hg5 ?_;refine nG hg5 ?_;refine oY hg3 (qP ((k:Int)==0) (.b true) hg5 ?_);exact ak (bS (bR 53 _ _ (by rw [hg5]<;>rfl) lO))
      have gl:=(beq_eq_false_iff_ne).1 hg5;refine oY hg5 (qM (.q aQ ls) ?_);refine oY hg5 (qM (.i (i:Int)) ?_);refine oY hg5 (qX ao fA gj ?_);refine oY hg5 (qF (uO ls i) (Ev ls i) ji d3 ?_);refine oY hg5 (qL (Xy ls i) dX ?_);refine oY hg5 (qM (.i (k:Int)) ?_);refine oY hg5 (qB (.int .i64 ((k:Int)-1)) (kM om) ?_);refine oY hg5 (YZ 0 rfl rfl rfl cq cR rfl rfl (fun _=>rfl) rfl om oo ?_);refine oY hg5 (qL (.v (.int .u8 (((ls.getD i ao).pieces).getD ((k:Int)-1).toNat 0))) dB ?_);refine oY hg5 (qB (.bool ((((ls.getD i ao).pieces).getD ((k:Int)-1).toNat 0)==0)) rfl ?_);refine oY hg3 (qP ((k:Int)==0) (.b ((((ls.getD i ao).pieces).getD ((k:Int)-1).toNat 0)==0)) hg5 ?_);exact ak (bS (bR 53 _ _ (by rw [hg5]<;>rfl) lO))
     refine oG (qP ((((ls.getD i ao).pieces).getD k 0)==0) (.b (((k:Int)==0)||((((ls.getD i ao).pieces).getD ((k:Int)-1).toNat 0)==0))) hg3 ?_);exact ak (bS (bR 54 _ _ (by rw [hg3]<;>rfl) lO))
    have il:=(beq_eq_false_iff_ne).1 hg3;refine nG hg3 ?_;refine nG hg3 ?_;refine nG hg3 ?_;refine Y2 rfl rfl rfl rfl (by intro h;cases h) rfl rfl ?_;refine Y2 rfl rfl rfl rfl (by intro h;cases h) rfl rfl ?_;refine Y2 rfl rfl rfl rfl (by intro h;cases h) rfl rfl ?_;refine Y2 rfl rfl rfl rfl (by intro h;cases h) rfl rfl ?_;refine Y2 rfl rfl rfl rfl (by intro h;cases h) rfl rfl ?_;refine Y2 rfl rfl rfl rfl (by intro h;cases h) rfl rfl ?_;refine Y2 rfl rfl rfl rfl (by intro h;cases h) rfl rfl ?_;refine Y2 rfl rfl rfl rfl (by intro h;cases h) rfl rfl ?_;refine Y2 rfl rfl rfl rfl (by intro h;cases h) rfl rfl ?_;refine Y2 rfl rfl rfl rfl (by intro h;cases h) rfl rfl ?_;refine nG hg3 ?_;refine oG (qP ((((ls.getD i ao).pieces).getD k 0)==0) (.b false) hg3 ?_);exact ak (bS (bR 54 _ _ (by rw [hg3]<;>rfl) lO))
   refine ak (rT (upd (Ew ls c a d i k) 54 (.b (((((ls.getD i ao).pieces).getD k 0)==0)&&(((k:Int)==0)||((((ls.getD i ao).pieces).getD ((k:Int)-1).toNat 0)==0))))) (Ez c a d ls i k) ?_);refine cD (fun hc2=>?_) fun hc2=>?_
   ·skip;obtain ⟨ZO,my⟩:=fE hc2;have lM:=(beq_iff_eq).1 ZO;refine cu (bm (mV ?_));refine oG (qB (.int .i64 ((k+1:Nat):Int)) (addN om) ?_);refine mV ?_;refine ak ?_;show _∧_;have hsk:=WJ (secs:=c) (pts:=a) (path:=(d.getD (ls.getD i ao).route.toNat [])) (out:=hI c a d ls i) (show nk (ls.getD i ao).pieces k=true from hc2);refine ⟨by omega,trivial,?_⟩;exact iL [(1,1),(2,2)] [((1,1),.live _),((2,2),.live _)] ⟨aP rfl (by exact congrArg (fun l_=>ay.mk (enc eB l_) 4 1) hsk),aP rfl rfl,trivial⟩ (he:=(sS rfl (sS rfl (sM (by exact congrArg (AV.sl 1 0) (congrArg List.length hsk.symm)) (sS rfl (sM rfl (sS rfl bQ)))))))
   refine aR (aB (aD 8 [(62,.q eN (fu c a (d.getD (ls.getD i ao).route.toNat []) k)),(61,.i (k:Int)),(60,.i ((ls.getD i ao).route)),(59,.rp (((Ey ls i):List AV)++((enc aQ ls).drop ((i+1)*4)))),(58,.rp (((Ey ls i):List AV)++((enc aQ ls).drop ((i+1)*4)))),(57,.i (i:Int)),(56,.q aQ ls),(55,.agg (qO c a d))] mixed ?_ ?_))
   ·refine ⟨?_,?_,?_,?_,?_,?_,?_,?_,trivial⟩
    ·exact ed (qO c a d) du cC
    ·exact aM
    ·exact aM
    ·exact (d4 ao fA gj)
    ·exact sF (uO ls i) (uO ls i) pR bC
    ·exact (cN Y0)
    ·exact aM
    exact dW 62 fun st ap hE=>call_ (Qf c a d (ls.getD i ao).route (d.getD (ls.getD i ao).route.toNat []) k hs hp hro j3 rfl ⟨by omega,hxl⟩ hxs om) rfl rfl rfl rfl rfl WG (by show [st.env 55,st.env 60,st.env 61]++_=_;rw [hE 55 rfl,hE 60 rfl,hE 61 rfl];rfl) (by rw [ap];rfl)
   refine mO ?_;refine ak (aj (mV ?_));refine ak (bf (cF (fun j=>⟨(Ex ls c a d i k j),(EA c a d ls i k j)⟩) (fun j=>True) ((fu c a (d.getD (ls.getD i ao).route.toNat []) k).length) ?_ trivial (fun j lr hinv=>?_)))
   ·skip;exact iL [(1,1),(2,2)] [((1,1),.live _),((2,2),.live _)] ⟨aP rfl rfl,aP rfl rfl,trivial⟩
   have hjl:=nI (needs:=(fu c a (d.getD (ls.getD i ao).route.toNat []) k)) (out:=(hK c a (d.getD (ls.getD i ao).route.toNat []) (ls.getD i ao).pieces (hI c a d ls i) k)) j;have hjs:=RJ (secs:=c) (pts:=a) (path:=(d.getD (ls.getD i ao).route.toNat [])) (k:=k);refine aB (aj (mV ?_));refine mO ?_;refine oG (qN ig ?_);refine bB ?_;refine rU (upd (Ex ls c a d i k j) 66 (.b (decide ((j:Int)<((fu c a (d.getD (ls.getD i ao).route.toNat []) k).length:Int))))) (EA c a d ls i k j) ?_;refine cD (fun hc3=>?_) fun hc3=>?_
   ·skip;have kL:=of_decide_eq_true hc3;have hpr:=RL (c8 (l:=(fu c a (d.getD (ls.getD i ao).route.toNat []) k)) (k:=j) dN om);refine aR (aB (bf (bm (mS ?_))));refine mO ?_;refine mV ?_;refine oG (qX dN ig lK ?_);refine oG (qF (Me c a d ls i k j) (Me c a d ls i k j) pG bC ?_);refine oV Y0 ?_;refine oG (nA rfl rfl rfl eF ik rfl rfl om oo ?_);refine oG (jy (f:=eB) (l:=hN (fu c a (d.getD (ls.getD i ao).route.toNat []) k) (hK c a (d.getD (ls.getD i ao).route.toNat []) (ls.getD i ao).pieces (hI c a d ls i) k) j) (l':=(hN (fu c a (d.getD (ls.getD i ao).route.toNat []) k) (hK c a (d.getD (ls.getD i ao).route.toNat []) (ls.getD i ao).pieces (hI c a d ls i) k) j).set ((((fu c a (d.getD (ls.getD i ao).route.toNat []) k).getD j dN).point).toNat) (true:Bool)) (true:Bool) rfl rfl rfl ik rfl rfl rfl rfl rfl (fun _=>rfl) oo rfl rfl ?_);refine ak (rT (Ex ls c a d i k j) (ah (EA c a d ls i k j) 1 (.live ⟨(enc eB ((hN (fu c a (d.getD (ls.getD i ao).route.toNat []) k) (hK c a (d.getD (ls.getD i ao).route.toNat []) (ls.getD i ao).pieces (hI c a d ls i) k) j).set ((((fu c a (d.getD (ls.getD i ao).route.toNat []) k).getD j dN).point).toNat) (true:Bool))),4,1⟩)) ?_);refine bm (mV ?_);refine oG (qB (.int .i64 ((j+1:Nat):Int)) (addN om) ?_);refine mV ?_;refine ak ?_;show _∧_;refine ⟨by omega,trivial,?_⟩;exact iL [(1,1),(2,2)] [((1,1),.live _),((2,2),.live _)] ⟨aP rfl rfl,aP rfl rfl,trivial⟩ (he:=(sS rfl (sS rfl (sS rfl (sS rfl (sM (by exact congrArg (AV.sl 1 0) (by rw [nI,nI])) (sS rfl (sM rfl (sS rfl bQ)))))))))
   have kK:=of_decide_eq_false hc3;refine cu (bm (mV ?_));refine oG (qB (.int .i64 ((k+1:Nat):Int)) (addN om) ?_);refine mV ?_;refine ak ?_;show _∧_;have hsk:=WK (secs:=c) (pts:=a) (path:=(d.getD (ls.getD i ao).route.toNat [])) (out:=hI c a d ls i) (show nk (ls.getD i ao).pieces k=false from hc2);have Ef:j=(fu c a (d.getD (ls.getD i ao).route.toNat []) k).length:=by omega
   rw [←Ef] at hsk;refine ⟨by omega,trivial,?_⟩;exact iL [(1,1),(2,2)] [((1,1),.live _),((2,2),.live _)] ⟨aP rfl (by exact congrArg (fun l_=>ay.mk (enc eB l_) 4 1) hsk),aP rfl rfl,trivial⟩ (he:=(sS rfl (sS rfl (sM (by exact congrArg (AV.sl 1 0) (congrArg List.length hsk.symm)) (sS rfl (sM rfl (sS rfl bQ)))))))
  have lN:=of_decide_eq_false hc1;refine cu (bm (mV ?_));refine oG (qB (.int .i64 ((i+1:Nat):Int)) (addN om) ?_);refine mV ?_;refine ak ?_;show _∧_;have hke:k=(ls.getD i ao).pieces.length:=by omega
  have hik:hI c a d ls (i+1)=(hK c a (d.getD (ls.getD i ao).route.toNat []) (ls.getD i ao).pieces (hI c a d ls i) k):=(congrArg (fun n_=>hK c a (d.getD (ls.getD i ao).route.toNat []) (ls.getD i ao).pieces (hI c a d ls i) n_) hke.symm)
  refine ⟨by omega,trivial,?_⟩;exact iL [(1,1),(2,2)] [((1,1),.live _),((2,2),.live _)] ⟨aP rfl (by exact congrArg (fun l_=>ay.mk (enc eB l_) 4 1) hik),aP rfl rfl,trivial⟩ (he:=(sS rfl (sM (by exact congrArg (AV.sl 1 0) (congrArg List.length hik.symm)) (sS rfl (sM rfl (sS rfl bQ))))))
 have lP:=of_decide_eq_false hc0;refine cu (aj (mS ?_));refine mS ?_;refine ak (cy _ (d8 rfl (fun _ h=>h) (dy 4 (.q eB (hI c a d ls i)) (fv (id:=1) (n:=(hI c a d ls i).length) (o:=⟨(enc eB (hI c a d ls i)),4,1⟩) rfl (YW (fun _=>rfl) (by first|rfl|(simp;done)))) d9)) ?_);exact aV (bq (av:=.ro ((hI c a d ls i).length) (enc eB (hI c a d ls i))) rfl rfl (by rw [show i=ls.length by omega]<;>rfl))
abbrev EB (ls:List Lk) (k:Nat):List AV:=(enc aC ((ls.getD k ao).pieces))
abbrev Mf (ls:List Lk) (k:Nat):List AV:=[.i ((ls.getD k ao).route),.i ((ls.getD k ao).cX),.i ((ls.getD k ao).ends),.sl 53 0 ((ls.getD k ao).pieces.length)]
abbrev uP (ls:List Lk) (k:Nat):Nat→aK:=(ah aG 1 (.live ⟨(enc aQ (ls.take k)),61,4⟩))
abbrev EC (ls:List Lk) (k:Nat):Lk:=(⟨(ls.getD k ao).route,(ls.getD k ao).cX,(ls.getD k ao).ends,(ls.getD k ao).pieces⟩:Lk)
abbrev uQ (ls:List Lk) (k:Nat):Nat→AV:=(upd (upd (upd (upd none_ 0 (.q aQ ls)) 2 vN) 3 (.sl 1 0 ((ls.take k).length))) 4 (.i (k:Int)))
abbrev Y9 (ls:List Lk) (k:Nat):List AV:=[.i ((ls.getD k ao).route),.i ((ls.getD k ao).cX),.i ((ls.getD k ao).ends),.ro ((ls.getD k ao).pieces.length) (EB ls k)]
abbrev Mg (ls:List Lk) (k:Nat):Nat→aK:=(ah (ah (uP ls k) 52 (.live ⟨[.i 0,.i 0,.i 0,vN],61,1⟩)) 52 (.live ⟨(Y9 ls k),61,1⟩))
theorem F_ (ls:List Lk) (hll:ls.length≤65536) (hpl:∀x,x∈ls→x.pieces.length≤65536):jq Tryz.prog 54 [.q aQ ls] (.sl 0 0 ls.length) [⟨(enc aQ ls),61,4⟩]:=by
 refine cf (N:=25) Tryz.func54 rfl rfl (b_ rfl) (by simp) (fun w0 X bJ=>?_);refine aj (mV ?_);refine ak (aj (mV ?_));refine ak (aB (aj (mV ?_)));refine ak (bf (cF (fun k=>⟨(uQ ls k),(uP ls k)⟩) (fun k=>True) (ls.length) ?_ trivial (fun k dq hinv=>?_)))
 ·skip;refine (iz 3 51 61 4 rfl rfl).trans ?_;exact iI 51 1 (o:=⟨[],61,4⟩) rfl
 have htk:(ls.take k).length=k:=by rw [List.length_take];omega
 refine aB (aj (mV ?_));refine mO ?_;refine oG (qN fA ?_);refine bB ?_;refine rU (upd (uQ ls k) 9 (.b (decide ((k:Int)<(ls.length:Int))))) (uP ls k) ?_;refine cD (fun hc0=>?_) fun hc0=>?_
 ·skip;have hf1:=of_decide_eq_true hc0;have hxl:=hpl _ (c8 (l:=ls) (k:=k) ao om);refine aR (aB (bf (aj (mO ?_))));refine mV ?_;refine oG (qX ao fA gj ?_);refine oG (ZI (Y9 ls k) rX gj ?_);refine oG (fW 52 rfl rfl rfl rfl Cn rfl ?_);refine oG (qS gj ?_);refine rU (upd (uQ ls k) 5 (.pt 52 0)) (Mg ls k) ?_;refine aj (fG (.pt 52 3) ji d3 ?_);refine oO dX ?_;refine oG (vn 53 rfl rfl rfl rfl cq Y3 rfl (by decide) rfl rfl (YW (fun _=>rfl) rfl) om om rfl ?_);refine fG (.pt 52 3) ji d3 ?_;refine oG (qS d3 ?_);refine rU (upd (uQ ls k) 5 (.pt 52 0)) (ah (ah (Mg ls k) 53 (.live ⟨(EB ls k),5,1⟩)) 52 (.live ⟨(Mf ls k),61,1⟩)) ?_;refine cy ⟨(upd (uQ ls k) 5 (.pt 52 0)),(ah (uP ls k) 52 (.live ⟨(Y9 ls k),61,1⟩))⟩ ?_ ?_
  ·skip;refine (kN [1,52] [(1,⟨(enc aQ (ls.take k)),61,4⟩),(52,⟨(Y9 ls k),61,1⟩)] rfl (fun _ h=>h) ⟨zQ (by simp) rfl,gQ (cs:=(Mf ls k)) (by simp) rfl rfl (gS (.inl rfl) (gS (.inl rfl) (gS (.inl rfl) (gS (.inr (fv (id:=53) (n:=(ls.getD k ao).pieces.length) (o:=⟨(EB ls k),5,1⟩) rfl (YW (fun _=>rfl) (by first|rfl|(simp;done))))) Ag)))),trivial⟩ (cH 5 (.pt 52 0) rfl (cH 4 (.i (k:Int)) rfl (cH 3 (.sl 1 0 ((ls.take k).length)) rfl (cH 2 vN rfl (cH 0 (.q aQ ls) rfl jP)))))).trans ?_;exact zp 1 1 52 52 (o:=⟨(enc aQ (ls.take k)),61,4⟩) (o2:=⟨(Y9 ls k),61,1⟩) rfl rfl
  refine bm (mS ?_);refine oG (ZI (Y9 ls k) rX gj ?_);refine oG (Y8 rfl rfl rfl fA w9 (by decide) (by decide) rfl rfl ?_);refine oG (hS (f:=aQ) (l:=ls.take k) 54 (EC ls k) rfl rfl rfl rfl fA w8 rfl (by decide) rfl rfl rfl rfl rfl rfl (fun _=>rfl) rfl rfl oo oo rfl ?_);refine mS ?_;refine ak (rT (upd (upd (upd (upd (upd none_ 0 (.q aQ ls)) 2 vN) 3 (.sl 54 0 (((ls.take k)++[(EC ls k)]).length))) 4 (.i (k:Int))) 5 (.pt 52 0)) (ah (ah (ah (uP ls k) 52 (.live ⟨(Y9 ls k),61,1⟩)) 1 .dead) 54 (.live ⟨(enc aQ ((ls.take k)++[(EC ls k)])),61,4⟩)) ?_);refine bm (mV ?_);refine oG (qB (.int .i64 ((k+1:Nat):Int)) (addN om) ?_);refine mV ?_;refine ak ?_;show _∧_;have hs_:=iA ao (l:=ls) (k:=k) om;refine ⟨by omega,trivial,?_⟩;exact iI 54 1 rfl (he:=(sS rfl (sM (by exact congrArg (AV.sl 1 0) (congrArg List.length hs_.symm)) (sS rfl (sS rfl bQ))))) (eJ:=(by exact congrArg (fun l_=>ay.mk (enc aQ l_) 61 4) hs_))
 have hf2:=of_decide_eq_false hc0;refine cu (aj (mS ?_));refine mS ?_;refine ak (aV ?_);have he:ls.take k=ls:=List.take_of_length_le om;exact jU 1 rfl rfl rfl (congrArg List.length he) (congrArg (fun l_=>ay.mk (enc aQ l_) 61 4) he)
abbrev Mh (a:List aH):Nat→aK:=(ah aG 51 (.live ⟨[.one,.one,.one,.q aE a,.one,.one,.one,.one,.one,.one],35,1⟩))
abbrev yq (c:List Int) (d:List View) (e:List Bool) (a:List aH) (p:Int):Nat→AV:=(upd (upd (upd (upd (upd none_ 1 (.q aC c)) 2 (.q eV d)) 3 (.q eB e)) 12 (.b false)) 13 (.i ((a.getD p.toNat dP).stem)))
theorem RN (a:List aH) (c:List Int) (d:List View) (e f:List Bool) (p:Int) (hp:a.length≤65536) (hs:c.length≤65536) (hn:d.length≤65536) (hlk:e.length≤65536) (hh:f.length≤65536) (hv:∀v,v∈d→v.span.length≤65536):Fn Tryz.prog 64 [.agg [.one,.one,.one,.q aE a,.one,.one,.one,.one,.one,.one],.q aC c,.q eV d,.q eB e,.q eB f,.v (.int .i64 p)] (.v (.bool (jX a c d e f p))):=by
 refine cf (N:=69) Tryz.func64 rfl rfl (b_ rfl) (by simp) (fun w0 X bJ=>?_);refine aj (oG (qW 51 ?_));refine mV ?_;refine ak (aB (aj (mV ?_)));refine bB ?_;refine mV ?_;refine dA 6 23 (.b ((decide (p<0))||(decide (p≥(a.length:Int))))) ?_ ?_
 ·refine (Bool.eq_false_or_eq_true (decide (p<0))).elim (fun hg1=>?_) (fun hg1=>?_)
  ·skip;have hf2:=of_decide_eq_true hg1;refine nG hg1 ?_;refine nG hg1 ?_;refine nG hg1 ?_;refine nG hg1 ?_;refine nG hg1 ?_;refine oG (qP (decide (p<0)) (.b true) hg1 ?_);exact ak (bS (bR 23 _ _ (by rw [hg1]<;>rfl) lO))
  have hf3:=of_decide_eq_false hg1;refine oY hg1 (qM (.i p) ?_);refine oY hg1 (qF (.pt 51 0) (.pt 51 3) gU gb ?_);refine oY hg1 (qL (.q aE a) iw ?_);refine oY hg1 (qN gI ?_);refine oY hg1 (qB (.bool (decide (p≥(a.length:Int)))) rfl ?_);refine oG (qP (decide (p<0)) (.b (decide (p≥(a.length:Int)))) hg1 ?_);exact ak (bS (bR 23 _ _ (by rw [hg1]<;>rfl) lO))
 refine mV ?_;refine dA 4 28 (.b (((decide (p<0))||(decide (p≥(a.length:Int))))||(hasB f p))) ?_ ?_
 ·refine (Bool.eq_false_or_eq_true ((decide (p<0))||(decide (p≥(a.length:Int))))).elim (fun hg4=>?_) (fun hg4=>?_)
  ·skip;refine nG hg4 ?_;refine nG hg4 ?_;refine nG hg4 ?_;refine oG (qP ((decide (p<0))||(decide (p≥(a.length:Int)))) (.b true) hg4 ?_);exact ak (bS (bR 28 _ _ (by rw [hg4]<;>rfl) lO))
  obtain ⟨iu,ij⟩:=gd hg4;have fB:=of_decide_eq_false iu;have gl:=of_decide_eq_false ij;refine oY hg4 (qM (.q eB f) ?_);refine oY hg4 (qM (.i p) ?_);refine oY hg4 (qJ (vi f p oo) wR ?_);refine oG (qP ((decide (p<0))||(decide (p≥(a.length:Int)))) (.b (hasB f p)) hg4 ?_);exact ak (bS (bR 28 _ _ (by rw [hg4]<;>rfl) lO))
 refine ak (rT (upd (upd (upd (upd (upd (upd (upd none_ 1 (.q aC c)) 2 (.q eV d)) 3 (.q eB e)) 5 (.i p)) 6 (.pt 51 0)) 12 (.b false)) 28 (.b (((decide (p<0))||(decide (p≥(a.length:Int))))||(hasB f p)))) (Mh a) ?_);refine cD (fun hc0=>?_) fun hc0=>?_
 ·skip;refine aj (mV ?_);exact ak (aV (bq (av:=.v (.bool false)) rfl rfl (by rw [IC hc0])))
 obtain ⟨Cd,V7⟩:=gd hc0;obtain ⟨ZO,my⟩:=gd Cd;have lM:=of_decide_eq_false ZO;have kL:=of_decide_eq_false my;have hno:(decide (p<0)||decide (p≥(a.length:Int))||hasB f p)=false:=hc0;have hpr:0≤p∧p<(a.length:Int):=by simp only [Bool.or_eq_false_iff,decide_eq_false_iff_not] at hno;omega
 refine aR (aj (fG (.pt 51 3) gU gb ?_));refine oO iw ?_;refine mV ?_;refine oG (YZ dP rfl rfl rfl gI jk rfl rfl (fun _=>rfl) rfl om oo ?_);refine oG (qF (.rp (([.i ((a.getD p.toNat dP).node),.i ((a.getD p.toNat dP).stem),.i ((a.getD p.toNat dP).left),.i ((a.getD p.toNat dP).right)]:List AV)++((enc aE a).drop ((p.toNat+1)*4)))) (.rp (([.i ((a.getD p.toNat dP).stem),.i ((a.getD p.toNat dP).left),.i ((a.getD p.toNat dP).right)]:List AV)++((enc aE a).drop ((p.toNat+1)*4)))) mW bC ?_);refine oV Y0 ?_;refine mV ?_;refine rU (yq c d e a p) (Mh a) ?_;refine aB (aj (mV ?_));refine ak (bf (cF (fun k=>⟨(upd (yq c d e a p) 14 (.i (k:Int))),aG⟩) (fun k=>(d.take k).any (mB (a.getD p.toNat dP).stem)=false) (d.length) ?_ (by simp) (fun k dq hinv=>?_)))
 ·skip;exact iN
 refine aB (aj (mV ?_));refine mO ?_;refine oG (qN w_ ?_);refine bB ?_;refine rU (upd (upd (yq c d e a p) 14 (.i (k:Int))) 38 (.b (decide ((k:Int)<(d.length:Int))))) aG ?_;refine cD (fun hc1=>?_) fun hc1=>?_
 ·skip;have kK:=of_decide_eq_true hc1;have hvk:=hv _ (c8 (l:=d) (k:=k) iW om);refine aR (aB (bf (aj (mO ?_))));refine mV ?_;refine oG (qX iW w_ WI ?_);refine oG (qF (.rp (([.i ((d.getD k iW).id),.b ((d.getD k iW).sure),.q eI ((d.getD k iW).span)]:List AV)++((enc eV d).drop ((k+1)*3)))) (.rp (([.q eI ((d.getD k iW).span)]:List AV)++((enc eV d).drop ((k+1)*3)))) S_ i9 ?_);refine oO jE ?_;refine mV ?_;refine oG (qJ (Ap ((d.getD k iW).span) ((a.getD p.toNat dP).stem) oo) B0 ?_);refine rU (upd (upd (yq c d e a p) 14 (.i (k:Int))) 47 (.b (decide (((a.getD p.toNat dP).stem)∈((d.getD k iW).span))))) aG ?_;refine cD (fun hc2=>?_) fun hc2=>?_
  ·skip;refine aj (mV ?_);exact ak (aV (bq (av:=.v (.bool false)) rfl rfl (by rw [ID hno (List.any_eq_true.2 ⟨_,c8 (l:=d) (k:=k) iW om,hc2⟩)])))
  refine aR (bm (mV ?_));refine oG (qB (.int .i64 ((k+1:Nat):Int)) (addN om) ?_);refine mV ?_;refine ak ?_;show _∧_;refine ⟨by omega,(gT iW om hinv hc2),?_⟩;exact iN
 have lN:=of_decide_eq_false hc1;refine cu (aj (mV ?_));refine bB ?_;refine mV ?_;refine dA 5 55 (.b ((decide (((a.getD p.toNat dP).stem)≥0))&&(decide (((a.getD p.toNat dP).stem)<(c.length:Int))))) ?_ ?_
 ·refine (Bool.eq_false_or_eq_true (decide (((a.getD p.toNat dP).stem)≥0))).elim (fun eU=>?_) (fun eU=>?_)
  ·skip;have nS:=of_decide_eq_true eU;refine oY eU (qM (.i ((a.getD p.toNat dP).stem)) ?_);refine oY eU (qM (.q aC c) ?_);refine oY eU (qN cq ?_);refine oY eU (qB (.bool (decide (((a.getD p.toNat dP).stem)<(c.length:Int)))) rfl ?_);refine oG (qP (decide (((a.getD p.toNat dP).stem)≥0)) (.b (decide (((a.getD p.toNat dP).stem)<(c.length:Int)))) eU ?_);exact ak (bS (bR 55 _ _ (by rw [eU]<;>rfl) lO))
  have oU:=of_decide_eq_false eU;refine nG eU ?_;refine nG eU ?_;refine nG eU ?_;refine nG eU ?_;refine oG (qP (decide (((a.getD p.toNat dP).stem)≥0)) (.b false) eU ?_);exact ak (bS (bR 55 _ _ (by rw [eU]<;>rfl) lO))
 refine mV ?_;refine dA 6 62 (.b (((decide (((a.getD p.toNat dP).stem)≥0))&&(decide (((a.getD p.toNat dP).stem)<(c.length:Int))))&&((c.getD ((a.getD p.toNat dP).stem).toNat 0)==0))) ?_ ?_
 ·refine (Bool.eq_false_or_eq_true ((decide (((a.getD p.toNat dP).stem)≥0))&&(decide (((a.getD p.toNat dP).stem)<(c.length:Int))))).elim (fun jZ=>?_) (fun jZ=>?_)
  ·skip;obtain ⟨UA,UB⟩:=fE jZ;have nT:=of_decide_eq_true UA;have oW:=of_decide_eq_true UB;refine oY jZ (qM (.q aC c) ?_);refine oY jZ (qM (.i ((a.getD p.toNat dP).stem)) ?_);refine oY jZ (YZ 0 rfl rfl rfl cq cR rfl rfl (fun _=>rfl) rfl om oo ?_);refine oY jZ (qL (.v (.int .u8 (c.getD ((a.getD p.toNat dP).stem).toNat 0))) dB ?_);refine oY jZ (qB (.bool ((c.getD ((a.getD p.toNat dP).stem).toNat 0)==0)) rfl ?_);refine oG (qP ((decide (((a.getD p.toNat dP).stem)≥0))&&(decide (((a.getD p.toNat dP).stem)<(c.length:Int)))) (.b ((c.getD ((a.getD p.toNat dP).stem).toNat 0)==0)) jZ ?_);exact ak (bS (bR 62 _ _ (by rw [jZ]<;>rfl) lO))
  refine nG jZ ?_;refine nG jZ ?_;refine nG jZ ?_;refine nG jZ ?_;refine nG jZ ?_;refine oG (qP ((decide (((a.getD p.toNat dP).stem)≥0))&&(decide (((a.getD p.toNat dP).stem)<(c.length:Int)))) (.b false) jZ ?_);exact ak (bS (bR 62 _ _ (by rw [jZ]<;>rfl) lO))
 refine mV ?_;refine dA 5 68 (.b ((((decide (((a.getD p.toNat dP).stem)≥0))&&(decide (((a.getD p.toNat dP).stem)<(c.length:Int))))&&((c.getD ((a.getD p.toNat dP).stem).toNat 0)==0))&&(!(hasB e ((a.getD p.toNat dP).stem))))) ?_ ?_
 ·refine (Bool.eq_false_or_eq_true (((decide (((a.getD p.toNat dP).stem)≥0))&&(decide (((a.getD p.toNat dP).stem)<(c.length:Int))))&&((c.getD ((a.getD p.toNat dP).stem).toNat 0)==0))).elim (fun kO=>?_) (fun kO=>?_)
  ·skip;obtain ⟨UC,UD⟩:=fE kO;obtain ⟨BN,BO⟩:=fE UC;have tS:=of_decide_eq_true BN;have Ce:=of_decide_eq_true BO;have VH:=(beq_iff_eq).1 UD;refine oY kO (qM (.q eB e) ?_);refine oY kO (qM (.i ((a.getD p.toNat dP).stem)) ?_);refine oY kO (qJ (vi e ((a.getD p.toNat dP).stem) oo) wR ?_);refine oY kO (er rfl rfl rfl rfl ?_);refine oG (qP (((decide (((a.getD p.toNat dP).stem)≥0))&&(decide (((a.getD p.toNat dP).stem)<(c.length:Int))))&&((c.getD ((a.getD p.toNat dP).stem).toNat 0)==0)) (.b (!(hasB e ((a.getD p.toNat dP).stem)))) kO ?_);exact ak (bS (bR 68 _ _ (by rw [kO]<;>rfl) lO))
  refine nG kO ?_;refine nG kO ?_;refine nG kO ?_;refine nG kO ?_;refine oG (qP (((decide (((a.getD p.toNat dP).stem)≥0))&&(decide (((a.getD p.toNat dP).stem)<(c.length:Int))))&&((c.getD ((a.getD p.toNat dP).stem).toNat 0)==0)) (.b false) kO ?_);exact ak (bS (bR 68 _ _ (by rw [kO]<;>rfl) lO))
 refine mV ?_;refine ak (rT (upd none_ 12 (.b ((((decide (((a.getD p.toNat dP).stem)≥0))&&(decide (((a.getD p.toNat dP).stem)<(c.length:Int))))&&((c.getD ((a.getD p.toNat dP).stem).toNat 0)==0))&&(!(hasB e ((a.getD p.toNat dP).stem)))))) aG ?_);exact aV (bq (av:=.v (.bool ((((decide (((a.getD p.toNat dP).stem)≥0))&&(decide (((a.getD p.toNat dP).stem)<(c.length:Int))))&&((c.getD ((a.getD p.toNat dP).stem).toNat 0)==0))&&(!(hasB e ((a.getD p.toNat dP).stem)))))) rfl rfl (by rw [HP hno (by rw [List.take_of_length_le om] at hinv;exact hinv)]))
abbrev ED (k:Nat):List AV:=(enc aC (List.replicate k (1:Int)))
abbrev sj (a:List (List Int)) (r:Int):List AV:=(enc eI (a.getD r.toNat []))
abbrev sk (c:List ax) (e:List aH) (a:List (List Int)) (r:Int) (d:List Bool):List AV:=(enc eN (b6 (bz c e (a.getD r.toNat [])) d))
abbrev sn (a:List (List Int)) (r:Int) (k:Nat):List AV:=[.i ((a.getD r.toNat []).getD (k+1) 0)]
abbrev uR (c:List ax) (e:List aH) (a:List (List Int)) (r:Int) (d:List Bool):AV:=(.q eN (b6 (bz c e (a.getD r.toNat [])) d))
abbrev yr (ls:List Lk) (d:List Bool):List AV:=[.q aQ ls,.q eB d,.v (.int .i64 9)]
abbrev qQ (a:List (List Int)) (r:Int):AV:=(.q eI (a.getD r.toNat []))
abbrev yt (c:List ax) (e:List aH) (a:List (List Int)) (r:Int) (d:List Bool) (q:Nat):List AV:=[.i (((b6 (bz c e (a.getD r.toNat [])) d).getD q dN).point),.b (((b6 (bz c e (a.getD r.toNat [])) d).getD q dN).right)]
abbrev pg (a:List (List Int)) (r:Int):AV:=(.q aC (List.replicate ((a.getD r.toNat []).length-1) (1:Int)))
abbrev qR (r tr:Int) (a:List (List Int)):Lk:=(⟨r,tr, -1,List.replicate ((a.getD r.toNat []).length-1) (1:Int)⟩:Lk)
abbrev pi (ls:List Lk) (r tr:Int) (g:List Int) (j:List View) (d:List Bool):Nat→AV:=(upd (upd (upd (upd (upd (upd none_ 1 (.q aQ ls)) 2 (.i r)) 3 (.i tr)) 4 (.q aC g)) 5 (.q eV j)) 6 (.q eB d))
abbrev jw (c:List ax) (e:List aH) (a:List (List Int)):List AV:=[.one,.q aI c,.one,.q aE e,.q YO a,.one,.one,.one,.one,.one]
abbrev uS (c:List ax) (e:List aH) (a:List (List Int)):Nat→aK:=(ah aG 51 (.live ⟨(jw c e a),35,1⟩))
abbrev pj (c:List ax) (e:List aH) (a:List (List Int)):Nat→aK:=(ah aG 2 (.live ⟨(jw c e a),35,1⟩))
abbrev EE (ls:List Lk) (r tr:Int) (g:List Int) (j:List View) (d:List Bool) (a:List (List Int)) (k:Nat):Nat→AV:=(upd (upd (upd (upd (upd (upd (upd (pi ls r tr g j d) 7 (.pt 2 0)) 14 (.q aQ ls)) 15 (.q eB d)) 16 (.i 9)) 17 (qQ a r)) 18 (.sl 1 0 ((List.replicate k (1:Int)).length))) 19 (.i ((k+1:Nat):Int)))
abbrev ol (ls:List Lk) (r tr:Int) (g:List Int) (j:List View) (d:List Bool):Nat→AV:=(upd (upd (upd (upd (pi ls r tr g j d) 7 (.pt 2 0)) 14 vN) 15 vN) 16 (.i 0))
abbrev sq (k:Nat) (c:List ax) (e:List aH) (a:List (List Int)):Nat→aK:=(ah (ah aG 1 (.live ⟨(ED k),5,1⟩)) 2 (.live ⟨(jw c e a),35,1⟩))
theorem HX (c:List ax) (e:List aH) (a:List (List Int)) (ls:List Lk) (r tr:Int) (g:List Int) (j:List View) (d:List Bool) (hs:c.length≤65536) (hp:e.length≤65536) (hro:a.length≤65536) (hll:ls.length≤65536) (m:∀x,x∈ls→kj a x) (hrl:∀x,x∈a→1≤x.length∧x.length≤65536) (p:∀x,x∈a→∀s,s∈x→0≤s∧s<(c.length:Int)) (hst:g.length≤65536) (hn:j.length≤65536) (hv:∀v,v∈j→v.span.length≤65536) (hr:d.length≤65536):Fn Tryz.prog 28 [.agg [.one,.q aI c,.one,.q aE e,.q YO a,.one,.one,.one,.one,.one],.q aQ ls,.v (.int .i64 r),.v (.int .i64 tr),.q aC g,.q eV j,.q eB d] (.bw [.q aQ (ke c e a ls r tr g j d),.q eB (iG c e a ls r g j d),.v (.int .i64 (dV c e a ls r g j d))]):=by
 have hin:∀x,x∈ls→∀s,s∈(a.getD x.route.toNat [])→0≤s∧s<(c.length:Int):=fun x hx s hs_=>p _ (c8 (l:=a) (k:=x.route.toNat) [] (by have:=(m x hx).r;omega)) s hs_;refine cf (N:=128) Tryz.func28 rfl rfl (Tc rfl) (by simp) (fun w0 X bJ=>?_);refine aj (oG (qW 51 ?_));refine mV ?_;refine mV ?_;refine mV ?_;refine rU (upd (upd (upd (upd (pi ls r tr g j d) 7 (.pt 51 0)) 14 vN) 15 vN) 16 (.i 0)) (uS c e a) ?_;refine aB (aj (mV ?_));refine bB ?_;refine mV ?_;refine dA 6 32 (.b ((decide (r<0))||(decide (r≥(a.length:Int))))) ?_ ?_
 ·refine (Bool.eq_false_or_eq_true (decide (r<0))).elim (fun hg1=>?_) (fun hg1=>?_)
  ·skip;have hf2:=of_decide_eq_true hg1;refine nG hg1 ?_;refine nG hg1 ?_;refine nG hg1 ?_;refine nG hg1 ?_;refine nG hg1 ?_;refine oG (qP (decide (r<0)) (.b true) hg1 ?_);exact ak (bS (bR 32 _ _ (by rw [hg1]<;>rfl) lO))
  have hf3:=of_decide_eq_false hg1;refine oY hg1 (qM (.i r) ?_);refine oY hg1 (qF (.pt 51 0) (.pt 51 4) ib eG ?_);refine oY hg1 (qL (.q YO a) fQ ?_);refine oY hg1 (qN e4 ?_);refine oY hg1 (qB (.bool (decide (r≥(a.length:Int)))) rfl ?_);refine oG (qP (decide (r<0)) (.b (decide (r≥(a.length:Int)))) hg1 ?_);exact ak (bS (bR 32 _ _ (by rw [hg1]<;>rfl) lO))
 refine ak (cD (fun hc0=>?_) fun hc0=>?_)
 ·skip;refine aj (mO ?_);refine mO ?_;refine mO ?_;refine mO ?_;refine mV ?_;refine rU (upd (upd (upd (upd (pi ls r tr g j d) 7 (.pt 51 0)) 14 (.q aQ ls)) 15 (.q eB d)) 16 (.i 7)) (uS c e a) ?_;refine aV ?_;have eR:=UE (secs:=c) (pts:=e) (routes:=a) (ls:=ls) (r:=r) (states:=g) (views:=j) (right:=d) hc0;obtain ⟨fq,fT⟩:=mX (tr:=tr) (by decide) eR;exact bq (av:=.bw [.q aQ ls,.q eB d,.v (.int .i64 7)]) rfl rfl (by rw [eR,fq,fT])
 obtain ⟨mz,mA⟩:=gd hc0;have g0:=of_decide_eq_false mz;have fB:=of_decide_eq_false mA;have hrr:=IE hc0;obtain ⟨hp1,hp2⟩:=hrl _ (c8 (l:=a) (k:=r.toNat) [] om);have hps:=p _ (c8 (l:=a) (k:=r.toNat) [] om);have hpa:=nF (secs:=c) (pts:=e) (path:=(a.getD r.toNat []));have hmv:=re (bz c e (a.getD r.toNat [])) d;have hsl:=Hn (routes:=a) (ls:=ls) (n:=c.length);have L6:=Qg (secs:=c) (pts:=e) (routes:=a) (ls:=ls);refine aR (aB (aj (mO ?_)));refine mV ?_;refine oG (qJ (Hj ls r oo) Kf ?_);refine bB ?_;refine rU (upd (upd (upd (upd (upd (pi ls r tr g j d) 7 (.pt 51 0)) 14 vN) 15 vN) 16 (.i 0)) 38 (.b (decide ((d2 ls r)≥0)))) (uS c e a) ?_;refine cD (fun hc1=>?_) fun hc1=>?_
 ·skip;have gl:=of_decide_eq_true hc1;refine aj (mO ?_);refine mO ?_;refine mO ?_;refine mO ?_;refine mV ?_;refine rU (upd (upd (upd (upd (pi ls r tr g j d) 7 (.pt 51 0)) 14 (.q aQ ls)) 15 (.q eB d)) 16 (.i 8)) (uS c e a) ?_;refine aV ?_;have eR:=Jp (secs:=c) (pts:=e) (routes:=a) (ls:=ls) (r:=r) (states:=g) (views:=j) (right:=d) hrr (of_decide_eq_true hc1);obtain ⟨fq,fT⟩:=mX (tr:=tr) (by decide) eR;exact bq (av:=.bw [.q aQ ls,.q eB d,.v (.int .i64 8)]) rfl rfl (by rw [eR,fq,fT])
 have il:=of_decide_eq_false hc1;refine aR (aj (fG (.pt 51 4) ib eG ?_));refine oO fQ ?_;refine mV ?_;refine oG (YZ [] rfl rfl rfl e4 i9 rfl rfl (fun _=>rfl) rfl om oo ?_);refine oO jE ?_;refine mO ?_;refine rU (upd (upd (upd (upd (upd (pi ls r tr g j d) 7 (.pt 51 0)) 14 vN) 15 vN) 16 (.i 0)) 17 (qQ a r)) (uS c e a) ?_;refine aj (mV ?_);refine ak (aB (aj (mV ?_)));refine ak (bf (cF (fun k=>⟨(upd (upd (upd (ol ls r tr g j d) 17 (qQ a r)) 18 (.sl 1 0 ((List.replicate k (1:Int)).length))) 19 (.i ((k+1:Nat):Int))),(sq k c e a)⟩) (fun k=>ll a ls g (a.getD r.toNat []) k=false) (((a.getD r.toNat []).length-1)) ?_ rfl (fun k dq hinv=>?_)))
 ·skip;refine (iz 18 52 5 1 rfl rfl).trans ?_;exact iL [(52,1),(51,2)] [((52,1),.live _),((51,2),.live _)] ⟨aP (o:=⟨[],5,1⟩) rfl rfl,aP rfl rfl,trivial⟩
 have hkl:(List.replicate k (1:Int)).length=k:=List.length_replicate;refine aB (aj (mV ?_));refine mO ?_;refine oG (qN cG ?_);refine bB ?_;refine rU (upd (upd (upd (upd (ol ls r tr g j d) 17 (qQ a r)) 18 (.sl 1 0 ((List.replicate k (1:Int)).length))) 19 (.i ((k+1:Nat):Int))) 49 (.b (decide (((k+1:Nat):Int)<((a.getD r.toNat []).length:Int))))) (sq k c e a) ?_;refine cD (fun hc2=>?_) fun hc2=>?_
 ·skip;have lz:=of_decide_eq_true hc2;have hs1:=hps _ (c8 (l:=(a.getD r.toNat [])) (k:=k+1) 0 om);refine aR (aB (bf (aB (aB ((Bool.eq_false_or_eq_true (decide (((a.getD r.toNat []).getD (k+1) 0)≥(g.length:Int)))).elim (fun hq0=>?_) (fun hq0=>?_))))))
  ·skip;have kL:=of_decide_eq_true hq0;have hbz:kI a ls g (a.getD r.toNat []) k=true:=by first|exact HY hq0|exact HZ hq1
   refine aD 27 [(78,.b true),(77,.v undef),(76,.v undef),(75,.v undef),(74,.v undef),(73,.v undef),(72,.v undef),(71,.v undef),(70,.v undef),(69,.b true),(68,.b true),(67,.v undef),(66,.v undef),(65,.v undef),(64,.v undef),(63,.v undef),(62,.v undef),(61,.v undef),(60,.v undef),(59,.b (decide (((a.getD r.toNat []).getD (k+1) 0)≥(g.length:Int)))),(58,.b (decide (((a.getD r.toNat []).getD (k+1) 0)≥(g.length:Int)))),(57,.i (g.length:Int)),(56,.q aC g),(55,.i ((a.getD r.toNat []).getD (k+1) 0)),(54,.rp (((sn a r k):List AV)++((sj a r).drop (((k+1)+1)*1)))),(53,.i ((k+1:Nat):Int)),(52,.q eI (a.getD r.toNat []))] mixed ?_ ?_
   ·iterate 27 (refine ⟨?_,?_⟩;rotate_left)
    trivial
    ·exact aM
    ·exact aM
    ·exact (d4 (0:Int) cG bC)
    ·exact (cN Y0)
    ·exact aM
    ·exact dW 57 fun st ap hE=>d_ rfl rfl rfl rfl cq (lJ (hE 56 rfl)) (by rw [ap];rfl)
    ·exact sB (.bool (decide (((a.getD r.toNat []).getD (k+1) 0)≥(g.length:Int)))) rfl
    ·exact aM
    ·exact dr hq0
    ·exact dr hq0
    ·exact dr hq0
    ·exact dr hq0
    ·exact dr hq0
    ·exact dr hq0
    ·exact dr hq0
    ·exact dr hq0
    ·exact mH (decide (((a.getD r.toNat []).getD (k+1) 0)≥(g.length:Int))) (.b true) hq0
    ·exact aM
    ·exact dr rfl
    ·exact dr rfl
    ·exact dr rfl
    ·exact dr rfl
    ·exact dr rfl
    ·exact dr rfl
    ·exact dr rfl
    ·exact dr rfl
    exact dW 78 fun st ap hE=>fJ (b:=true) (av:=.b true) rfl rfl rfl (hE 69 rfl) rfl (by rw [ap];rfl)
   refine ak (eh true rfl rfl (fun _=>?_) (fun h=>by cases h));refine aj (mO ?_);refine mO ?_;refine mO ?_;refine mO ?_;refine mV ?_;refine rU (EE ls r tr g j d a k) (sq k c e a) ?_;refine aV ?_;have eR:=wE (secs:=c) (pts:=e) (routes:=a) (ls:=ls) (r:=r) (states:=g) (views:=j) (right:=d) hrr (of_decide_eq_false hc1) (AG (k:=k) om (by first|exact hbz|exact AH hc3));obtain ⟨fq,fT⟩:=mX (tr:=tr) (by decide) eR;exact bq (av:=.bw (yr ls d)) rfl rfl (by rw [eR,fq,fT])
  have kK:=of_decide_eq_false hq0;refine (Bool.eq_false_or_eq_true ((g.getD ((a.getD r.toNat []).getD (k+1) 0).toNat 0) != 0)).elim (fun hq1=>?_) (fun hq1=>?_)
  ·skip;have lP:=(bne_iff_ne).1 hq1;have hbz:kI a ls g (a.getD r.toNat []) k=true:=by first|exact HY hq0|exact HZ hq1
   refine aD 27 [(78,.b true),(77,.v undef),(76,.v undef),(75,.v undef),(74,.v undef),(73,.v undef),(72,.v undef),(71,.v undef),(70,.v undef),(69,.b ((g.getD ((a.getD r.toNat []).getD (k+1) 0).toNat 0) != 0)),(68,.b ((g.getD ((a.getD r.toNat []).getD (k+1) 0).toNat 0) != 0)),(67,.b ((g.getD ((a.getD r.toNat []).getD (k+1) 0).toNat 0) != 0)),(66,.v (.int .u8 (g.getD ((a.getD r.toNat []).getD (k+1) 0).toNat 0))),(65,.rp (([.v (.int .u8 (g.getD ((a.getD r.toNat []).getD (k+1) 0).toNat 0))]:List AV)++((enc aC g).drop ((((a.getD r.toNat []).getD (k+1) 0).toNat+1)*1)))),(64,.i ((a.getD r.toNat []).getD (k+1) 0)),(63,.rp (((sn a r k):List AV)++((sj a r).drop (((k+1)+1)*1)))),(62,.i ((k+1:Nat):Int)),(61,.q eI (a.getD r.toNat [])),(60,.q aC g),(59,.b (decide (((a.getD r.toNat []).getD (k+1) 0)≥(g.length:Int)))),(58,.b (decide (((a.getD r.toNat []).getD (k+1) 0)≥(g.length:Int)))),(57,.i (g.length:Int)),(56,.q aC g),(55,.i ((a.getD r.toNat []).getD (k+1) 0)),(54,.rp (((sn a r k):List AV)++((sj a r).drop (((k+1)+1)*1)))),(53,.i ((k+1:Nat):Int)),(52,.q eI (a.getD r.toNat []))] mixed ?_ ?_
   ·iterate 27 (refine ⟨?_,?_⟩;rotate_left)
    trivial
    ·exact aM
    ·exact aM
    ·exact (d4 (0:Int) cG bC)
    ·exact (cN Y0)
    ·exact aM
    ·exact dW 57 fun st ap hE=>d_ rfl rfl rfl rfl cq (lJ (hE 56 rfl)) (by rw [ap];rfl)
    ·exact sB (.bool (decide (((a.getD r.toNat []).getD (k+1) 0)≥(g.length:Int)))) rfl
    ·exact aM
    ·exact bP hq0 aM
    ·exact bP hq0 aM
    ·exact bP hq0 aM
    ·exact bP hq0 (d4 (0:Int) cG bC)
    ·exact bP hq0 (cN Y0)
    ·exact bP hq0 (dW 65 fun st ap hE=>YZ 0 rfl rfl rfl cq cR (hE 60 rfl) (hE 64 rfl) (fun _=>rfl) rfl om oo (by rw [ap];rfl))
    ·exact bP hq0 (cN dB)
    ·exact bP hq0 (sB (.bool ((g.getD ((a.getD r.toNat []).getD (k+1) 0).toNat 0) != 0)) rfl)
    ·exact dW 68 fun st ap hE=>fJ (b:=(decide (((a.getD r.toNat []).getD (k+1) 0)≥(g.length:Int)))) (av:=.b ((g.getD ((a.getD r.toNat []).getD (k+1) 0).toNat 0) != 0)) rfl rfl rfl (hE 59 rfl) (by rw [hq0];exact hE 67 rfl) (by rw [ap];rfl)
    ·exact aM
    ·exact dr hq1
    ·exact dr hq1
    ·exact dr hq1
    ·exact dr hq1
    ·exact dr hq1
    ·exact dr hq1
    ·exact dr hq1
    ·exact dr hq1
    exact mH ((g.getD ((a.getD r.toNat []).getD (k+1) 0).toNat 0) != 0) (.b true) hq1
   refine ak (eh true rfl rfl (fun _=>?_) (fun h=>by cases h));refine aj (mO ?_);refine mO ?_;refine mO ?_;refine mO ?_;refine mV ?_;refine rU (EE ls r tr g j d a k) (sq k c e a) ?_;refine aV ?_;have eR:=wE (secs:=c) (pts:=e) (routes:=a) (ls:=ls) (r:=r) (states:=g) (views:=j) (right:=d) hrr (of_decide_eq_false hc1) (AG (k:=k) om (by first|exact hbz|exact AH hc3));obtain ⟨fq,fT⟩:=mX (tr:=tr) (by decide) eR;exact bq (av:=.bw (yr ls d)) rfl rfl (by rw [eR,fq,fT])
  have nS:=(bne_eq_false_iff_eq).1 hq1;refine aD 27 [(78,.b (decide ((fw a ls ((a.getD r.toNat []).getD (k+1) 0))≥0))),(77,.b (decide ((fw a ls ((a.getD r.toNat []).getD (k+1) 0))≥0))),(76,.i (fw a ls ((a.getD r.toNat []).getD (k+1) 0))),(75,.i ((a.getD r.toNat []).getD (k+1) 0)),(74,.rp (((sn a r k):List AV)++((sj a r).drop (((k+1)+1)*1)))),(73,.i ((k+1:Nat):Int)),(72,.q eI (a.getD r.toNat [])),(71,.q aQ ls),(70,.agg (jw c e a)),(69,.b ((g.getD ((a.getD r.toNat []).getD (k+1) 0).toNat 0) != 0)),(68,.b ((g.getD ((a.getD r.toNat []).getD (k+1) 0).toNat 0) != 0)),(67,.b ((g.getD ((a.getD r.toNat []).getD (k+1) 0).toNat 0) != 0)),(66,.v (.int .u8 (g.getD ((a.getD r.toNat []).getD (k+1) 0).toNat 0))),(65,.rp (([.v (.int .u8 (g.getD ((a.getD r.toNat []).getD (k+1) 0).toNat 0))]:List AV)++((enc aC g).drop ((((a.getD r.toNat []).getD (k+1) 0).toNat+1)*1)))),(64,.i ((a.getD r.toNat []).getD (k+1) 0)),(63,.rp (((sn a r k):List AV)++((sj a r).drop (((k+1)+1)*1)))),(62,.i ((k+1:Nat):Int)),(61,.q eI (a.getD r.toNat [])),(60,.q aC g),(59,.b (decide (((a.getD r.toNat []).getD (k+1) 0)≥(g.length:Int)))),(58,.b (decide (((a.getD r.toNat []).getD (k+1) 0)≥(g.length:Int)))),(57,.i (g.length:Int)),(56,.q aC g),(55,.i ((a.getD r.toNat []).getD (k+1) 0)),(54,.rp (((sn a r k):List AV)++((sj a r).drop (((k+1)+1)*1)))),(53,.i ((k+1:Nat):Int)),(52,.q eI (a.getD r.toNat []))] mixed ?_ ?_
  ·iterate 27 (refine ⟨?_,?_⟩;rotate_left)
   trivial
   ·exact aM
   ·exact aM
   ·exact (d4 (0:Int) cG bC)
   ·exact (cN Y0)
   ·exact aM
   ·exact dW 57 fun st ap hE=>d_ rfl rfl rfl rfl cq (lJ (hE 56 rfl)) (by rw [ap];rfl)
   ·exact sB (.bool (decide (((a.getD r.toNat []).getD (k+1) 0)≥(g.length:Int)))) rfl
   ·exact aM
   ·exact bP hq0 aM
   ·exact bP hq0 aM
   ·exact bP hq0 aM
   ·exact bP hq0 (d4 (0:Int) cG bC)
   ·exact bP hq0 (cN Y0)
   ·exact bP hq0 (dW 65 fun st ap hE=>YZ 0 rfl rfl rfl cq cR (hE 60 rfl) (hE 64 rfl) (fun _=>rfl) rfl om oo (by rw [ap];rfl))
   ·exact bP hq0 (cN dB)
   ·exact bP hq0 (sB (.bool ((g.getD ((a.getD r.toNat []).getD (k+1) 0).toNat 0) != 0)) rfl)
   ·exact dW 68 fun st ap hE=>fJ (b:=(decide (((a.getD r.toNat []).getD (k+1) 0)≥(g.length:Int)))) (av:=.b ((g.getD ((a.getD r.toNat []).getD (k+1) 0).toNat 0) != 0)) rfl rfl rfl (hE 59 rfl) (by rw [hq0];exact hE 67 rfl) (by rw [ap];rfl)
   ·exact aM
   ·exact bP hq1 (ed (jw c e a) du cC)
   ·exact bP hq1 aM
   ·exact bP hq1 aM
   ·exact bP hq1 aM
   ·exact bP hq1 (d4 (0:Int) cG bC)
   ·exact bP hq1 (cN Y0)
   ·exact bP hq1 (sC (zW a ls ((a.getD r.toNat []).getD (k+1) 0) oo oo oo) Cl)
   ·exact bP hq1 (sB (.bool (decide ((fw a ls ((a.getD r.toNat []).getD (k+1) 0))≥0))) rfl)
   exact dW 78 fun st ap hE=>fJ (b:=((g.getD ((a.getD r.toNat []).getD (k+1) 0).toNat 0) != 0)) (av:=.b (decide ((fw a ls ((a.getD r.toNat []).getD (k+1) 0))≥0))) rfl rfl rfl (hE 69 rfl) (by rw [hq1];exact hE 77 rfl) (by rw [ap];rfl)
  refine ak (cD (fun hc3=>?_) fun hc3=>?_)
  ·skip;have oU:=of_decide_eq_true hc3;refine aj (mO ?_);refine mO ?_;refine mO ?_;refine mO ?_;refine mV ?_;refine rU (EE ls r tr g j d a k) (sq k c e a) ?_;refine aV ?_;have eR:=wE (secs:=c) (pts:=e) (routes:=a) (ls:=ls) (r:=r) (states:=g) (views:=j) (right:=d) hrr (of_decide_eq_false hc1) (AG (k:=k) om (by first|exact hbz|exact AH hc3));obtain ⟨fq,fT⟩:=mX (tr:=tr) (by decide) eR;exact bq (av:=.bw (yr ls d)) rfl rfl (by rw [eR,fq,fT])
  have ZW:=of_decide_eq_false hc3;refine aR (bm (mS ?_));refine oG (Y8 rfl rfl rfl cq od (by decide) (by decide) rfl rfl ?_);refine oG (hS (f:=aC) (l:=List.replicate k (1:Int)) 53 (1:Int) rfl rfl rfl rfl cq Y3 rfl (by decide) rfl rfl rfl rfl rfl rfl (fun _=>rfl) rfl rfl oo oo rfl ?_);refine mS ?_;refine ak (rT (upd (upd (upd (ol ls r tr g j d) 17 (qQ a r)) 18 (.sl 53 0 (((List.replicate k (1:Int))++[(1:Int)]).length))) 19 (.i ((k+1:Nat):Int))) (ah (ah (sq k c e a) 1 .dead) 53 (.live ⟨(enc aC ((List.replicate k (1:Int))++[(1:Int)])),5,1⟩)) ?_);refine bm (mV ?_);refine oG (qB (.int .i64 ((k+1+1:Nat):Int)) (addN om) ?_);refine mV ?_;refine ak ?_;show _∧_;have hs_:List.replicate (k+1) (1:Int)=List.replicate k 1++[1]:=List.replicate_succ';refine ⟨by omega,(O_ hinv (Td hq0 hq1 hc3)),?_⟩;exact iL [(53,1),(2,2)] [((53,1),.live _),((2,2),.live _)] ⟨aP rfl (by exact congrArg (fun l_=>ay.mk (enc aC l_) 5 1) hs_),aP rfl rfl,trivial⟩ (he:=(sS (by exact congrArg (fun n_:Int=>AV.v (.int .i64 n_)) om) (sM (by exact congrArg (AV.sl 1 0) (congrArg List.length hs_.symm)) (sS rfl (sS rfl (sS rfl (sS rfl (sM rfl (sS rfl (sS rfl (sS rfl (sS rfl (sS rfl (sS rfl bQ))))))))))))))
 have mx:=of_decide_eq_false hc2;have hke:k=(a.getD r.toNat []).length-1:=by omega
 have hbk:=hinv;rw [hke] at hbk;refine cu (cy ⟨(upd (upd (upd (upd (ol ls r tr g j d) 17 (qQ a r)) 18 (pg a r)) 19 (.i ((k+1:Nat):Int))) 49 (.b (decide (((k+1:Nat):Int)<((a.getD r.toNat []).length:Int))))),(pj c e a)⟩ ?_ ?_)
 ·skip;refine (kN [2] [(2,⟨(jw c e a),35,1⟩)] rfl (fun _ h=>h) ⟨gQ (cs:=(jw c e a)) (by simp) rfl rfl hZ,trivial⟩ (cH 49 (.b (decide (((k+1:Nat):Int)<((a.getD r.toNat []).length:Int)))) rfl (cH 19 (.i ((k+1:Nat):Int)) rfl (vQ 18 (.q aC (List.replicate k (1:Int))) (fv (id:=1) (n:=(List.replicate k (1:Int)).length) (o:=⟨(ED k),5,1⟩) rfl (YW (fun _=>rfl) (by first|rfl|(simp;done)))) (cH 17 (qQ a r) rfl (cH 16 (.i 0) rfl (cH 15 vN rfl (cH 14 vN rfl (cH 7 (.pt 2 0) rfl (cH 6 (.q eB d) rfl (cH 5 (.q eV j) rfl (cH 4 (.q aC g) rfl (cH 3 (.i tr) rfl (cH 2 (.i r) rfl (cH 1 (.q aQ ls) rfl jP))))))))))))))).trans ?_;exact iI 2 2 (o:=⟨(jw c e a),35,1⟩) rfl (he:=(sS rfl (sS rfl (sS (by show AV.ro (List.replicate k (1:Int)).length (ED k)=_;rw [hke]) (sS rfl (sS rfl (sS rfl (sS rfl (sM rfl (sS rfl (sS rfl (sS rfl (sS rfl (sS rfl (sS rfl bQ)))))))))))))))
 refine aj (oG (ZI (jw c e a) du cC ?_));refine mO ?_;refine oG (qC (Hc c e (a.getD r.toNat []) oo oo oo) Kg ?_);refine mG (.bw [.q eN (bz c e (a.getD r.toNat [])),.b (gC c e (a.getD r.toNat []))]) ?_;refine oG (qE ?_);refine oG (qE ?_);refine mO ?_;refine mV ?_;refine rU (upd (upd (ol ls r tr g j d) 18 (pg a r)) 20 (.q eN (bz c e (a.getD r.toNat [])))) (pj c e a) ?_;refine aj (mO ?_);refine mO ?_;refine oG (jS 54 (O8 (bz c e (a.getD r.toNat [])) d oo oo) rfl rfl rfl rfl rfl WB lS (.sl _ _ _ trivial) (jV jW) (iP rfl) rfl rfl ?_);refine mS ?_;refine rU (upd (upd (ol ls r tr g j d) 18 (pg a r)) 22 (.sl 54 0 ((b6 (bz c e (a.getD r.toNat [])) d).length))) (ah (pj c e a) 54 (.live ⟨(sk c e a r d),135,2⟩)) ?_;refine aB (cy ⟨(upd (upd (ol ls r tr g j d) 18 (pg a r)) 22 (uR c e a r d)),(pj c e a)⟩ ?_ ?_)
 ·skip;refine (kN [2] [(2,⟨(jw c e a),35,1⟩)] rfl (fun _ h=>h) ⟨gQ (cs:=(jw c e a)) (by simp) rfl rfl hZ,trivial⟩ (vQ 22 (uR c e a r d) (fv (id:=54) (n:=(b6 (bz c e (a.getD r.toNat [])) d).length) (o:=⟨(sk c e a r d),135,2⟩) rfl (YW (fun _=>rfl) (by first|rfl|(simp;done)))) (cH 18 (pg a r) rfl (cH 16 (.i 0) rfl (cH 15 vN rfl (cH 14 vN rfl (cH 7 (.pt 2 0) rfl (cH 6 (.q eB d) rfl (cH 5 (.q eV j) rfl (cH 4 (.q aC g) rfl (cH 3 (.i tr) rfl (cH 2 (.i r) rfl (cH 1 (.q aQ ls) rfl jP))))))))))))).trans ?_;exact iI 2 2 (o:=⟨(jw c e a),35,1⟩) rfl
 refine aj (mV ?_);refine ak (bf (cF (fun q=>⟨(upd (upd (upd (ol ls r tr g j d) 18 (pg a r)) 22 (uR c e a r d)) 23 (.i (q:Int))),(pj c e a)⟩) (fun q=>((b6 (bz c e (a.getD r.toNat [])) d).take q).any (m7 c e a ls g j)=false) ((b6 (bz c e (a.getD r.toNat [])) d).length) ?_ rfl (fun q Yl hinv=>?_)))
 ·skip;exact iI 2 2 rfl
 refine aB (aj (mV ?_));refine mO ?_;refine oG (qN ig ?_);refine bB ?_;refine rU (upd (upd (upd (upd (ol ls r tr g j d) 18 (pg a r)) 22 (uR c e a r d)) 23 (.i (q:Int))) 96 (.b (decide ((q:Int)<((b6 (bz c e (a.getD r.toNat [])) d).length:Int))))) (pj c e a) ?_;refine cD (fun hc4=>?_) fun hc4=>?_
 ·skip;have nT:=of_decide_eq_true hc4;refine aR (aB (bf (aB (aD 16 [(114,.b (!(jX e g j (Y7 a ls c.length) (gW c e a ls) (((b6 (bz c e (a.getD r.toNat [])) d).getD q dN).point)))),(113,.b (jX e g j (Y7 a ls c.length) (gW c e a ls) (((b6 (bz c e (a.getD r.toNat [])) d).getD q dN).point))),(112,.i (((b6 (bz c e (a.getD r.toNat [])) d).getD q dN).point)),(111,.rp (((yt c e a r d q):List AV)++((sk c e a r d).drop ((q+1)*2)))),(110,.rp (((yt c e a r d q):List AV)++((sk c e a r d).drop ((q+1)*2)))),(109,.i (q:Int)),(108,.q eN (b6 (bz c e (a.getD r.toNat [])) d)),(107,.q eB (gW c e a ls)),(106,.q aQ ls),(105,.agg (jw c e a)),(104,.q eB (Y7 a ls c.length)),(103,.q aQ ls),(102,.agg (jw c e a)),(101,.q eV j),(100,.q aC g),(99,.agg (jw c e a))] mixed ?_ ?_))))
  ·iterate 16 (refine ⟨?_,?_⟩;rotate_left)
   trivial
   ·exact ed (jw c e a) du cC
   ·exact aM
   ·exact aM
   ·exact ed (jw c e a) du cC
   ·exact aM
   ·exact sC (FK c a ls oo oo oo oo) Kd
   ·exact ed (jw c e a) du cC
   ·exact aM
   ·exact dW 107 fun st ap hE=>call_ (Ho c e a ls oo oo oo oo oo oo) rfl rfl rfl rfl rfl Ke (by show [st.env 105,st.env 106]++_=_;rw [hE 105 rfl,hE 106 rfl];rfl) (by rw [ap];rfl)
   ·exact aM
   ·exact aM
   ·exact (d4 dN ig lK)
   ·exact sF (.rp (((yt c e a r d q):List AV)++((sk c e a r d).drop ((q+1)*2)))) (.rp (((yt c e a r d q):List AV)++((sk c e a r d).drop ((q+1)*2)))) pG bC
   ·exact (cN Y0)
   ·exact sC (RN e g j (Y7 a ls c.length) (gW c e a ls) (((b6 (bz c e (a.getD r.toNat [])) d).getD q dN).point) oo oo oo oo oo oo) WC
   exact dW 114 fun st ap hE=>er rfl rfl rfl (hE 113 rfl) (by rw [ap];rfl)
  refine ak (cD (fun f7=>?_) fun f7=>?_)
  ·skip;have oW:=gF f7;refine aj (mO ?_);refine mO ?_;refine mO ?_;refine mO ?_;refine mV ?_;refine rU (upd (upd (upd (upd (upd (upd (upd (pi ls r tr g j d) 7 (.pt 2 0)) 14 (.q aQ ls)) 15 (.q eB d)) 16 (.i 9)) 18 (pg a r)) 22 (uR c e a r d)) 23 (.i (q:Int))) (pj c e a) ?_;refine aV ?_;have eR:=IG (secs:=c) (pts:=e) (routes:=a) (ls:=ls) (r:=r) (states:=g) (views:=j) (right:=d) hrr (of_decide_eq_false hc1) hbk (List.any_eq_true.2 ⟨_,c8 (l:=(b6 (bz c e (a.getD r.toNat [])) d)) (k:=q) dN om,by simpa [m7] using f7⟩);obtain ⟨fq,fT⟩:=mX (tr:=tr) (by decide) eR;exact bq (av:=.bw (yr ls d)) rfl rfl (by rw [eR,fq,fT])
  have rR:=gG f7;refine aR (bm (mV ?_));refine oG (qB (.int .i64 ((q+1:Nat):Int)) (addN om) ?_);refine mV ?_;refine ak ?_;show _∧_;refine ⟨by omega,(gT dN om hinv (by simpa [m7] using f7)),?_⟩;exact iI 2 2 rfl
 have tQ:=of_decide_eq_false hc4;refine cu (aj (mO ?_));refine oG (wd 55 (F_ ls hll (fun x hx=>by have h9:=m x hx;have:=h9.ps;have:=h9.ln;omega)) rfl rfl rfl rfl rfl Cm (fun _=>lS) wh (iP rfl) rfl rfl ?_);refine mV ?_;refine mV ?_;refine mO ?_;refine oG (qD WH ?_);refine oG (Y8 rfl rfl rfl fA w9 (by decide) (by decide) rfl rfl ?_);refine oG (hS (f:=aQ) (l:=ls) 56 (qR r tr a) rfl rfl rfl rfl fA w8 rfl (by decide) rfl rfl rfl rfl rfl rfl (fun _=>rfl) rfl rfl oo oo rfl ?_);refine mO ?_;refine mO ?_;refine oG (jS 57 (PO d (b6 (bz c e (a.getD r.toNat [])) d) oo oo) rfl rfl rfl rfl rfl WE lS (.sl _ _ _ trivial) (jV jW) (iP rfl) rfl rfl ?_);refine mS ?_;refine mS ?_;refine mV ?_;refine rU (upd (upd (upd none_ 14 (.sl 56 0 ((ls++[(qR r tr a)]).length))) 15 (.sl 57 0 ((dh d (b6 (bz c e (a.getD r.toNat [])) d)).length))) 16 (.i 0)) (ah (ah (ah (ah (pj c e a) 55 (.live ⟨(enc aQ ls),61,4⟩)) 55 .dead) 56 (.live ⟨(enc aQ (ls++[(qR r tr a)])),61,4⟩)) 57 (.live ⟨(enc eB (dh d (b6 (bz c e (a.getD r.toNat [])) d))),4,1⟩)) ?_;have eR:=Jq (secs:=c) (pts:=e) (routes:=a) (ls:=ls) (r:=r) (states:=g) (views:=j) (right:=d) hrr (of_decide_eq_false hc1) hbk (by rw [List.take_of_length_le om] at hinv;exact hinv);obtain ⟨fq,fT⟩:=s6 (tr:=tr) eR;refine cy _ (d8 rfl (fun _ h=>h) (dy 16 (.i 0) (cj (av:=.i 0)) (dy 15 (.q eB (dh d (b6 (bz c e (a.getD r.toNat [])) d))) (fv (id:=57) (n:=(dh d (b6 (bz c e (a.getD r.toNat [])) d)).length) (o:=⟨(enc eB (dh d (b6 (bz c e (a.getD r.toNat [])) d))),4,1⟩) rfl (YW (fun _=>rfl) (by first|rfl|(simp;done)))) (dy 14 (.q aQ (ls++[(qR r tr a)])) (fv (id:=56) (n:=(ls++[(qR r tr a)]).length) (o:=⟨(enc aQ (ls++[(qR r tr a)])),61,4⟩) rfl (YW (fun _=>rfl) (by first|rfl|(simp;done)))) d9)))) ?_;exact aV (bq (av:=.bw [.q aQ (ls++[(qR r tr a)]),.q eB (dh d (b6 (bz c e (a.getD r.toNat [])) d)),.v (.int .i64 0)]) rfl rfl (by rw [eR,fq,fT]))
end Go.Lo